/-
  No cell of these rows narrows 'for every input' (looked for: loops, veiled, ifaces, maps, wideKeys, modest, calm, conditions, laid).
  DERIVED. THE GIVEN ROWS OF THIS SEAT. 13 by the template 'for every input the law returns true; each argument reads behind the call as it read before'; 0 by the template 'total and deterministic' (their statements: YtnlpkgamglhnbaaTotals.lean).
  GIVEN WITH THE SEED: the statements are not yours to turn. If you find one false, say at which input.
  Laid BY PROGRAM, IN A SANDBOX (cutbox-rows.mjs): the forced cells as the released guide's own fill.sh prints them over the translation 36c0264f249422dc… (all of the seat's roots in one cut). By AI agents, Wed Nov 11 2026. No macro, syntax, notation, axiom, sorry.
-/
import Derived.Test.YtnlpkgamglhnbaaChecked
import GoSem.Claim
import GoSem.ClaimJoined
import GoSem.ClaimMapViews
import Derived.JoinedTies
import Derived.KernelRfl
namespace Go.Proofs.Ytnlpkgamglhnbaa
/- THE CELL 'sum', in the pinned program and in every row, IS THE sha256 OF THE DUMP (.gsa) THAT YtnlpkgamglhnbaaProg.lean LOADS. Nothing in Lean hashes anything: it is a label: what it is worth is what the hold of that sum in a sandbox is worth. -/
noncomputable def Try.pinned : Pinned := { name := "ytnlpkgamglhnbaa", sum := "36c0264f249422dc75981b65f3b752b60384b72a351bc443f8e329ed943b5b30", checked := Try.checked }
namespace Rows
def none {H : Type} : Left H := { results := [], args := [] }

/-- 'pagemendlaw35.QuarantineExact': WHATEVER THE INPUT: true; the input reads as it did. -/
def quarantineExactSpec : ChangeSpec := { name := "quarantineExact", fn := fun _ => fun
  | [d1, d2, d3, d4] => { results := [.lit (.bool true)], args := [d1, d2, d3, d4] }
  | _ => none }
def quarantineExactRow : OpenClaim := { program := "ytnlpkgamglhnbaa", sum := "36c0264f249422dc75981b65f3b752b60384b72a351bc443f8e329ed943b5b30", func := "pagemend/pagemendlaw35.QuarantineExact", spec := "quarantineExact", inPlace := ["slices.overlaps[int]", "slices.overlaps[pagemend/api.Place]"], unfollowed := true, recurses := true, apart := false }
def QuarantineExactSaid : Prop := quarantineExactRow.holds Try.pinned (OpenSpec.ofChange quarantineExactSpec)

/-- ITS FALSE NEIGHBOUR: 'it returns false'. Refute it at one input. -/
def quarantineExactWrong : ChangeSpec := { name := "quarantineExact", fn := fun _ => fun
  | [d1, d2, d3, d4] => { results := [.lit (.bool false)], args := [d1, d2, d3, d4] }
  | _ => none }
def QuarantineExactWrongFalsely : Prop := quarantineExactRow.holds Try.pinned (OpenSpec.ofChange quarantineExactWrong)

/-- 'pagemendlaw35.QuarantinePlaces': WHATEVER THE INPUT: true; the input reads as it did. -/
def quarantinePlacesSpec : ChangeSpec := { name := "quarantinePlaces", fn := fun _ => fun
  | [d1, d2, d3] => { results := [.lit (.bool true)], args := [d1, d2, d3] }
  | _ => none }
def quarantinePlacesRow : OpenClaim := { program := "ytnlpkgamglhnbaa", sum := "36c0264f249422dc75981b65f3b752b60384b72a351bc443f8e329ed943b5b30", func := "pagemend/pagemendlaw35.QuarantinePlaces", spec := "quarantinePlaces", inPlace := ["slices.overlaps[int]", "slices.overlaps[pagemend/api.Place]"], unfollowed := true, recurses := true, apart := false }
def QuarantinePlacesSaid : Prop := quarantinePlacesRow.holds Try.pinned (OpenSpec.ofChange quarantinePlacesSpec)

/-- ITS FALSE NEIGHBOUR: 'it returns false'. Refute it at one input. -/
def quarantinePlacesWrong : ChangeSpec := { name := "quarantinePlaces", fn := fun _ => fun
  | [d1, d2, d3] => { results := [.lit (.bool false)], args := [d1, d2, d3] }
  | _ => none }
def QuarantinePlacesWrongFalsely : Prop := quarantinePlacesRow.holds Try.pinned (OpenSpec.ofChange quarantinePlacesWrong)

/-- 'pagemendlaw35.QuarantineSpares': WHATEVER THE INPUT: true; the input reads as it did. -/
def quarantineSparesSpec : ChangeSpec := { name := "quarantineSpares", fn := fun _ => fun
  | [d1, d2] => { results := [.lit (.bool true)], args := [d1, d2] }
  | _ => none }
def quarantineSparesRow : OpenClaim := { program := "ytnlpkgamglhnbaa", sum := "36c0264f249422dc75981b65f3b752b60384b72a351bc443f8e329ed943b5b30", func := "pagemend/pagemendlaw35.QuarantineSpares", spec := "quarantineSpares", inPlace := ["slices.overlaps[int]", "slices.overlaps[pagemend/api.Place]"], unfollowed := true, recurses := true, apart := false }
def QuarantineSparesSaid : Prop := quarantineSparesRow.holds Try.pinned (OpenSpec.ofChange quarantineSparesSpec)

/-- ITS FALSE NEIGHBOUR: 'it returns false'. Refute it at one input. -/
def quarantineSparesWrong : ChangeSpec := { name := "quarantineSpares", fn := fun _ => fun
  | [d1, d2] => { results := [.lit (.bool false)], args := [d1, d2] }
  | _ => none }
def QuarantineSparesWrongFalsely : Prop := quarantineSparesRow.holds Try.pinned (OpenSpec.ofChange quarantineSparesWrong)

/-- 'pagemendlaw35.QuarantineAgain': WHATEVER THE INPUT: true; the input reads as it did. -/
def quarantineAgainSpec : ChangeSpec := { name := "quarantineAgain", fn := fun _ => fun
  | [d1, d2] => { results := [.lit (.bool true)], args := [d1, d2] }
  | _ => none }
def quarantineAgainRow : OpenClaim := { program := "ytnlpkgamglhnbaa", sum := "36c0264f249422dc75981b65f3b752b60384b72a351bc443f8e329ed943b5b30", func := "pagemend/pagemendlaw35.QuarantineAgain", spec := "quarantineAgain", inPlace := ["slices.overlaps[int]", "slices.overlaps[pagemend/api.Place]"], unfollowed := true, recurses := true, apart := false }
def QuarantineAgainSaid : Prop := quarantineAgainRow.holds Try.pinned (OpenSpec.ofChange quarantineAgainSpec)

/-- ITS FALSE NEIGHBOUR: 'it returns false'. Refute it at one input. -/
def quarantineAgainWrong : ChangeSpec := { name := "quarantineAgain", fn := fun _ => fun
  | [d1, d2] => { results := [.lit (.bool false)], args := [d1, d2] }
  | _ => none }
def QuarantineAgainWrongFalsely : Prop := quarantineAgainRow.holds Try.pinned (OpenSpec.ofChange quarantineAgainWrong)

/-- 'pagemendlaw35.QuarantineNotes': WHATEVER THE INPUT: true; the input reads as it did. -/
def quarantineNotesSpec : ChangeSpec := { name := "quarantineNotes", fn := fun _ => fun
  | [d1, d2] => { results := [.lit (.bool true)], args := [d1, d2] }
  | _ => none }
def quarantineNotesRow : OpenClaim := { program := "ytnlpkgamglhnbaa", sum := "36c0264f249422dc75981b65f3b752b60384b72a351bc443f8e329ed943b5b30", func := "pagemend/pagemendlaw35.QuarantineNotes", spec := "quarantineNotes", inPlace := ["slices.overlaps[int]", "slices.overlaps[pagemend/api.Place]", "internal/abi.NoEscape"], unfollowed := true, recurses := true, apart := false }
def QuarantineNotesSaid : Prop := quarantineNotesRow.holds Try.pinned (OpenSpec.ofChange quarantineNotesSpec)

/-- ITS FALSE NEIGHBOUR: 'it returns false'. Refute it at one input. -/
def quarantineNotesWrong : ChangeSpec := { name := "quarantineNotes", fn := fun _ => fun
  | [d1, d2] => { results := [.lit (.bool false)], args := [d1, d2] }
  | _ => none }
def QuarantineNotesWrongFalsely : Prop := quarantineNotesRow.holds Try.pinned (OpenSpec.ofChange quarantineNotesWrong)

/-- 'pagemendlaw08.LocksOrder': WHATEVER THE INPUT: true; the input reads as it did. -/
def locksOrderSpec : ChangeSpec := { name := "locksOrder", fn := fun _ => fun
  | [d] => { results := [.lit (.bool true)], args := [d] }
  | _ => none }
def locksOrderRow : OpenClaim := { program := "ytnlpkgamglhnbaa", sum := "36c0264f249422dc75981b65f3b752b60384b72a351bc443f8e329ed943b5b30", func := "pagemend/pagemendlaw08.LocksOrder", spec := "locksOrder", inPlace := ["slices.overlaps[pagemend/api.Grant]"], unfollowed := true, recurses := true, apart := false }
def LocksOrderSaid : Prop := locksOrderRow.holds Try.pinned (OpenSpec.ofChange locksOrderSpec)

/-- ITS FALSE NEIGHBOUR: 'it returns false'. Refute it at one input. -/
def locksOrderWrong : ChangeSpec := { name := "locksOrder", fn := fun _ => fun
  | [d] => { results := [.lit (.bool false)], args := [d] }
  | _ => none }
def LocksOrderWrongFalsely : Prop := locksOrderRow.holds Try.pinned (OpenSpec.ofChange locksOrderWrong)

/-- 'pagemendlaw08.LocksLimits': WHATEVER THE INPUT: true; the input reads as it did. -/
def locksLimitsSpec : ChangeSpec := { name := "locksLimits", fn := fun _ => fun
  | [d1, d2] => { results := [.lit (.bool true)], args := [d1, d2] }
  | _ => none }
def locksLimitsRow : OpenClaim := { program := "ytnlpkgamglhnbaa", sum := "36c0264f249422dc75981b65f3b752b60384b72a351bc443f8e329ed943b5b30", func := "pagemend/pagemendlaw08.LocksLimits", spec := "locksLimits", inPlace := ["slices.overlaps[pagemend/api.Grant]"], unfollowed := true, recurses := true, apart := false }
def LocksLimitsSaid : Prop := locksLimitsRow.holds Try.pinned (OpenSpec.ofChange locksLimitsSpec)

/-- ITS FALSE NEIGHBOUR: 'it returns false'. Refute it at one input. -/
def locksLimitsWrong : ChangeSpec := { name := "locksLimits", fn := fun _ => fun
  | [d1, d2] => { results := [.lit (.bool false)], args := [d1, d2] }
  | _ => none }
def LocksLimitsWrongFalsely : Prop := locksLimitsRow.holds Try.pinned (OpenSpec.ofChange locksLimitsWrong)

/-- 'pagemendlaw08.LocksExact': WHATEVER THE INPUT: true; the input reads as it did. -/
def locksExactSpec : ChangeSpec := { name := "locksExact", fn := fun _ => fun
  | [d1, d2, d3, d4] => { results := [.lit (.bool true)], args := [d1, d2, d3, d4] }
  | _ => none }
def locksExactRow : OpenClaim := { program := "ytnlpkgamglhnbaa", sum := "36c0264f249422dc75981b65f3b752b60384b72a351bc443f8e329ed943b5b30", func := "pagemend/pagemendlaw08.LocksExact", spec := "locksExact", inPlace := ["slices.overlaps[pagemend/api.Grant]"], unfollowed := true, recurses := true, apart := false }
def LocksExactSaid : Prop := locksExactRow.holds Try.pinned (OpenSpec.ofChange locksExactSpec)

/-- ITS FALSE NEIGHBOUR: 'it returns false'. Refute it at one input. -/
def locksExactWrong : ChangeSpec := { name := "locksExact", fn := fun _ => fun
  | [d1, d2, d3, d4] => { results := [.lit (.bool false)], args := [d1, d2, d3, d4] }
  | _ => none }
def LocksExactWrongFalsely : Prop := locksExactRow.holds Try.pinned (OpenSpec.ofChange locksExactWrong)

/-- 'pagemendlaw08.LocksPlays': WHATEVER THE INPUT: true; the input reads as it did. -/
def locksPlaysSpec : ChangeSpec := { name := "locksPlays", fn := fun _ => fun
  | [d] => { results := [.lit (.bool true)], args := [d] }
  | _ => none }
def locksPlaysRow : OpenClaim := { program := "ytnlpkgamglhnbaa", sum := "36c0264f249422dc75981b65f3b752b60384b72a351bc443f8e329ed943b5b30", func := "pagemend/pagemendlaw08.LocksPlays", spec := "locksPlays", inPlace := ["slices.overlaps[pagemend/api.Grant]"], unfollowed := true, recurses := true, apart := false }
def LocksPlaysSaid : Prop := locksPlaysRow.holds Try.pinned (OpenSpec.ofChange locksPlaysSpec)

/-- ITS FALSE NEIGHBOUR: 'it returns false'. Refute it at one input. -/
def locksPlaysWrong : ChangeSpec := { name := "locksPlays", fn := fun _ => fun
  | [d] => { results := [.lit (.bool false)], args := [d] }
  | _ => none }
def LocksPlaysWrongFalsely : Prop := locksPlaysRow.holds Try.pinned (OpenSpec.ofChange locksPlaysWrong)

/-- 'pagemendlaw08.LocksRepeat': WHATEVER THE INPUT: true; the input reads as it did. -/
def locksRepeatSpec : ChangeSpec := { name := "locksRepeat", fn := fun _ => fun
  | [d] => { results := [.lit (.bool true)], args := [d] }
  | _ => none }
def locksRepeatRow : OpenClaim := { program := "ytnlpkgamglhnbaa", sum := "36c0264f249422dc75981b65f3b752b60384b72a351bc443f8e329ed943b5b30", func := "pagemend/pagemendlaw08.LocksRepeat", spec := "locksRepeat", inPlace := ["slices.overlaps[pagemend/api.Grant]"], unfollowed := true, recurses := true, apart := false }
def LocksRepeatSaid : Prop := locksRepeatRow.holds Try.pinned (OpenSpec.ofChange locksRepeatSpec)

/-- ITS FALSE NEIGHBOUR: 'it returns false'. Refute it at one input. -/
def locksRepeatWrong : ChangeSpec := { name := "locksRepeat", fn := fun _ => fun
  | [d] => { results := [.lit (.bool false)], args := [d] }
  | _ => none }
def LocksRepeatWrongFalsely : Prop := locksRepeatRow.holds Try.pinned (OpenSpec.ofChange locksRepeatWrong)

/-- 'pagemendlaw12.TransactionsExact': WHATEVER THE INPUT: true; the input reads as it did. -/
def transactionsExactSpec : ChangeSpec := { name := "transactionsExact", fn := fun _ => fun
  | [d1, d2, d3, d4] => { results := [.lit (.bool true)], args := [d1, d2, d3, d4] }
  | _ => none }
def transactionsExactRow : OpenClaim := { program := "ytnlpkgamglhnbaa", sum := "36c0264f249422dc75981b65f3b752b60384b72a351bc443f8e329ed943b5b30", func := "pagemend/pagemendlaw12.TransactionsExact", spec := "transactionsExact", inPlace := ["slices.overlaps[pagemend/api.Tx]"], unfollowed := true, recurses := true, apart := false }
def TransactionsExactSaid : Prop := transactionsExactRow.holds Try.pinned (OpenSpec.ofChange transactionsExactSpec)

/-- ITS FALSE NEIGHBOUR: 'it returns false'. Refute it at one input. -/
def transactionsExactWrong : ChangeSpec := { name := "transactionsExact", fn := fun _ => fun
  | [d1, d2, d3, d4] => { results := [.lit (.bool false)], args := [d1, d2, d3, d4] }
  | _ => none }
def TransactionsExactWrongFalsely : Prop := transactionsExactRow.holds Try.pinned (OpenSpec.ofChange transactionsExactWrong)

/-- 'pagemendlaw12.TransactionsLimits': WHATEVER THE INPUT: true; the input reads as it did. -/
def transactionsLimitsSpec : ChangeSpec := { name := "transactionsLimits", fn := fun _ => fun
  | [d1, d2] => { results := [.lit (.bool true)], args := [d1, d2] }
  | _ => none }
def transactionsLimitsRow : OpenClaim := { program := "ytnlpkgamglhnbaa", sum := "36c0264f249422dc75981b65f3b752b60384b72a351bc443f8e329ed943b5b30", func := "pagemend/pagemendlaw12.TransactionsLimits", spec := "transactionsLimits", inPlace := ["slices.overlaps[pagemend/api.Tx]"], unfollowed := true, recurses := true, apart := false }
def TransactionsLimitsSaid : Prop := transactionsLimitsRow.holds Try.pinned (OpenSpec.ofChange transactionsLimitsSpec)

/-- ITS FALSE NEIGHBOUR: 'it returns false'. Refute it at one input. -/
def transactionsLimitsWrong : ChangeSpec := { name := "transactionsLimits", fn := fun _ => fun
  | [d1, d2] => { results := [.lit (.bool false)], args := [d1, d2] }
  | _ => none }
def TransactionsLimitsWrongFalsely : Prop := transactionsLimitsRow.holds Try.pinned (OpenSpec.ofChange transactionsLimitsWrong)

/-- 'pagemendlaw12.TransactionsBytes': WHATEVER THE INPUT: true; the input reads as it did. -/
def transactionsBytesSpec : ChangeSpec := { name := "transactionsBytes", fn := fun _ => fun
  | [d1, d2, d3] => { results := [.lit (.bool true)], args := [d1, d2, d3] }
  | _ => none }
def transactionsBytesRow : OpenClaim := { program := "ytnlpkgamglhnbaa", sum := "36c0264f249422dc75981b65f3b752b60384b72a351bc443f8e329ed943b5b30", func := "pagemend/pagemendlaw12.TransactionsBytes", spec := "transactionsBytes", inPlace := ["slices.overlaps[pagemend/api.Tx]", "internal/abi.NoEscape"], unfollowed := true, recurses := true, apart := false }
def TransactionsBytesSaid : Prop := transactionsBytesRow.holds Try.pinned (OpenSpec.ofChange transactionsBytesSpec)

/-- ITS FALSE NEIGHBOUR: 'it returns false'. Refute it at one input. -/
def transactionsBytesWrong : ChangeSpec := { name := "transactionsBytes", fn := fun _ => fun
  | [d1, d2, d3] => { results := [.lit (.bool false)], args := [d1, d2, d3] }
  | _ => none }
def TransactionsBytesWrongFalsely : Prop := transactionsBytesRow.holds Try.pinned (OpenSpec.ofChange transactionsBytesWrong)

/- THE SECOND FORM. 'bulk': how many values and letters a reading holds, each counted each time it is reached (what is shared counts as often as it is met; a slice's spare places count too). A statement '..UptoSaid' is the law's where the arguments, and the package variables that the reading takes, are together of bulk at most 1048576: NARROWER than '..Said'. Prove '..Said' where nothing that the law and all that it calls make is longer than what came in: it says more and counts as full. Else prove '..UptoSaid'. A law counts once. -/
mutual
def uptoBulk {H : Type} : DataW H → Nat
  | .lit (.string bytes) => bytes.length + 1
  | .lit _ => 1
  | .nil => 1
  | .ptr d => uptoBulk d + 1
  | .slice elems spare => uptoBulkAll elems + uptoBulkAll spare + 1
  | .agg parts => uptoBulkAll parts + 1
  | .iface _ d => uptoBulk d + 1
  | .map entries => uptoBulkEntries entries + 1
  | .held _ => 1
def uptoBulkAll {H : Type} : List (DataW H) → Nat
  | [] => 0
  | d :: r => uptoBulk d + uptoBulkAll r
def uptoBulkEntries {H : Type} : List (Lit × DataW H) → Nat
  | [] => 0
  | x :: r => uptoBulkEntry x + uptoBulkEntries r
def uptoBulkEntry {H : Type} : Lit × DataW H → Nat
  | (.string bytes, d) => bytes.length + uptoBulk d + 1
  | (_, d) => uptoBulk d + 1
 end
def uptoSmall : (H : Type) → List (DataW H) → Bool := fun _ ds => decide (uptoBulkAll ds ≤ 1048576)
def OpenSpec.upto (s : _root_.Go.ChangeSpec) : _root_.Go.OpenSpec := { _root_.Go.OpenSpec.ofChange s with cond := some uptoSmall }

/-- 'pagemendlaw35.QuarantineExact', WHERE WHAT IT READS IS OF BULK AT MOST 1048576: true; the input reads as it did. -/
def quarantineExactUptoRow : OpenClaim := { program := "ytnlpkgamglhnbaa", sum := "36c0264f249422dc75981b65f3b752b60384b72a351bc443f8e329ed943b5b30", func := "pagemend/pagemendlaw35.QuarantineExact", spec := "quarantineExact", inPlace := ["slices.overlaps[int]", "slices.overlaps[pagemend/api.Place]"], unfollowed := true, recurses := true, apart := false, narrowed := true }
def QuarantineExactUptoSaid : Prop := quarantineExactUptoRow.holds Try.pinned (OpenSpec.upto quarantineExactSpec)

/-- 'pagemendlaw35.QuarantinePlaces', WHERE WHAT IT READS IS OF BULK AT MOST 1048576: true; the input reads as it did. -/
def quarantinePlacesUptoRow : OpenClaim := { program := "ytnlpkgamglhnbaa", sum := "36c0264f249422dc75981b65f3b752b60384b72a351bc443f8e329ed943b5b30", func := "pagemend/pagemendlaw35.QuarantinePlaces", spec := "quarantinePlaces", inPlace := ["slices.overlaps[int]", "slices.overlaps[pagemend/api.Place]"], unfollowed := true, recurses := true, apart := false, narrowed := true }
def QuarantinePlacesUptoSaid : Prop := quarantinePlacesUptoRow.holds Try.pinned (OpenSpec.upto quarantinePlacesSpec)

/-- 'pagemendlaw35.QuarantineSpares', WHERE WHAT IT READS IS OF BULK AT MOST 1048576: true; the input reads as it did. -/
def quarantineSparesUptoRow : OpenClaim := { program := "ytnlpkgamglhnbaa", sum := "36c0264f249422dc75981b65f3b752b60384b72a351bc443f8e329ed943b5b30", func := "pagemend/pagemendlaw35.QuarantineSpares", spec := "quarantineSpares", inPlace := ["slices.overlaps[int]", "slices.overlaps[pagemend/api.Place]"], unfollowed := true, recurses := true, apart := false, narrowed := true }
def QuarantineSparesUptoSaid : Prop := quarantineSparesUptoRow.holds Try.pinned (OpenSpec.upto quarantineSparesSpec)

/-- 'pagemendlaw35.QuarantineAgain', WHERE WHAT IT READS IS OF BULK AT MOST 1048576: true; the input reads as it did. -/
def quarantineAgainUptoRow : OpenClaim := { program := "ytnlpkgamglhnbaa", sum := "36c0264f249422dc75981b65f3b752b60384b72a351bc443f8e329ed943b5b30", func := "pagemend/pagemendlaw35.QuarantineAgain", spec := "quarantineAgain", inPlace := ["slices.overlaps[int]", "slices.overlaps[pagemend/api.Place]"], unfollowed := true, recurses := true, apart := false, narrowed := true }
def QuarantineAgainUptoSaid : Prop := quarantineAgainUptoRow.holds Try.pinned (OpenSpec.upto quarantineAgainSpec)

/-- 'pagemendlaw35.QuarantineNotes', WHERE WHAT IT READS IS OF BULK AT MOST 1048576: true; the input reads as it did. -/
def quarantineNotesUptoRow : OpenClaim := { program := "ytnlpkgamglhnbaa", sum := "36c0264f249422dc75981b65f3b752b60384b72a351bc443f8e329ed943b5b30", func := "pagemend/pagemendlaw35.QuarantineNotes", spec := "quarantineNotes", inPlace := ["slices.overlaps[int]", "slices.overlaps[pagemend/api.Place]", "internal/abi.NoEscape"], unfollowed := true, recurses := true, apart := false, narrowed := true }
def QuarantineNotesUptoSaid : Prop := quarantineNotesUptoRow.holds Try.pinned (OpenSpec.upto quarantineNotesSpec)

/-- 'pagemendlaw08.LocksOrder', WHERE WHAT IT READS IS OF BULK AT MOST 1048576: true; the input reads as it did. -/
def locksOrderUptoRow : OpenClaim := { program := "ytnlpkgamglhnbaa", sum := "36c0264f249422dc75981b65f3b752b60384b72a351bc443f8e329ed943b5b30", func := "pagemend/pagemendlaw08.LocksOrder", spec := "locksOrder", inPlace := ["slices.overlaps[pagemend/api.Grant]"], unfollowed := true, recurses := true, apart := false, narrowed := true }
def LocksOrderUptoSaid : Prop := locksOrderUptoRow.holds Try.pinned (OpenSpec.upto locksOrderSpec)

/-- 'pagemendlaw08.LocksLimits', WHERE WHAT IT READS IS OF BULK AT MOST 1048576: true; the input reads as it did. -/
def locksLimitsUptoRow : OpenClaim := { program := "ytnlpkgamglhnbaa", sum := "36c0264f249422dc75981b65f3b752b60384b72a351bc443f8e329ed943b5b30", func := "pagemend/pagemendlaw08.LocksLimits", spec := "locksLimits", inPlace := ["slices.overlaps[pagemend/api.Grant]"], unfollowed := true, recurses := true, apart := false, narrowed := true }
def LocksLimitsUptoSaid : Prop := locksLimitsUptoRow.holds Try.pinned (OpenSpec.upto locksLimitsSpec)

/-- 'pagemendlaw08.LocksExact', WHERE WHAT IT READS IS OF BULK AT MOST 1048576: true; the input reads as it did. -/
def locksExactUptoRow : OpenClaim := { program := "ytnlpkgamglhnbaa", sum := "36c0264f249422dc75981b65f3b752b60384b72a351bc443f8e329ed943b5b30", func := "pagemend/pagemendlaw08.LocksExact", spec := "locksExact", inPlace := ["slices.overlaps[pagemend/api.Grant]"], unfollowed := true, recurses := true, apart := false, narrowed := true }
def LocksExactUptoSaid : Prop := locksExactUptoRow.holds Try.pinned (OpenSpec.upto locksExactSpec)

/-- 'pagemendlaw08.LocksPlays', WHERE WHAT IT READS IS OF BULK AT MOST 1048576: true; the input reads as it did. -/
def locksPlaysUptoRow : OpenClaim := { program := "ytnlpkgamglhnbaa", sum := "36c0264f249422dc75981b65f3b752b60384b72a351bc443f8e329ed943b5b30", func := "pagemend/pagemendlaw08.LocksPlays", spec := "locksPlays", inPlace := ["slices.overlaps[pagemend/api.Grant]"], unfollowed := true, recurses := true, apart := false, narrowed := true }
def LocksPlaysUptoSaid : Prop := locksPlaysUptoRow.holds Try.pinned (OpenSpec.upto locksPlaysSpec)

/-- 'pagemendlaw08.LocksRepeat', WHERE WHAT IT READS IS OF BULK AT MOST 1048576: true; the input reads as it did. -/
def locksRepeatUptoRow : OpenClaim := { program := "ytnlpkgamglhnbaa", sum := "36c0264f249422dc75981b65f3b752b60384b72a351bc443f8e329ed943b5b30", func := "pagemend/pagemendlaw08.LocksRepeat", spec := "locksRepeat", inPlace := ["slices.overlaps[pagemend/api.Grant]"], unfollowed := true, recurses := true, apart := false, narrowed := true }
def LocksRepeatUptoSaid : Prop := locksRepeatUptoRow.holds Try.pinned (OpenSpec.upto locksRepeatSpec)

/-- 'pagemendlaw12.TransactionsExact', WHERE WHAT IT READS IS OF BULK AT MOST 1048576: true; the input reads as it did. -/
def transactionsExactUptoRow : OpenClaim := { program := "ytnlpkgamglhnbaa", sum := "36c0264f249422dc75981b65f3b752b60384b72a351bc443f8e329ed943b5b30", func := "pagemend/pagemendlaw12.TransactionsExact", spec := "transactionsExact", inPlace := ["slices.overlaps[pagemend/api.Tx]"], unfollowed := true, recurses := true, apart := false, narrowed := true }
def TransactionsExactUptoSaid : Prop := transactionsExactUptoRow.holds Try.pinned (OpenSpec.upto transactionsExactSpec)

/-- 'pagemendlaw12.TransactionsLimits', WHERE WHAT IT READS IS OF BULK AT MOST 1048576: true; the input reads as it did. -/
def transactionsLimitsUptoRow : OpenClaim := { program := "ytnlpkgamglhnbaa", sum := "36c0264f249422dc75981b65f3b752b60384b72a351bc443f8e329ed943b5b30", func := "pagemend/pagemendlaw12.TransactionsLimits", spec := "transactionsLimits", inPlace := ["slices.overlaps[pagemend/api.Tx]"], unfollowed := true, recurses := true, apart := false, narrowed := true }
def TransactionsLimitsUptoSaid : Prop := transactionsLimitsUptoRow.holds Try.pinned (OpenSpec.upto transactionsLimitsSpec)

/-- 'pagemendlaw12.TransactionsBytes', WHERE WHAT IT READS IS OF BULK AT MOST 1048576: true; the input reads as it did. -/
def transactionsBytesUptoRow : OpenClaim := { program := "ytnlpkgamglhnbaa", sum := "36c0264f249422dc75981b65f3b752b60384b72a351bc443f8e329ed943b5b30", func := "pagemend/pagemendlaw12.TransactionsBytes", spec := "transactionsBytes", inPlace := ["slices.overlaps[pagemend/api.Tx]", "internal/abi.NoEscape"], unfollowed := true, recurses := true, apart := false, narrowed := true }
def TransactionsBytesUptoSaid : Prop := transactionsBytesUptoRow.holds Try.pinned (OpenSpec.upto transactionsBytesSpec)

end Rows
end Go.Proofs.Ytnlpkgamglhnbaa
