import Derived.Test.YtnlpkgamglhnbaaProg
import Derived.Test.YtnlpkgamglhnbaaRvVal
import Derived.KernelRfl
set_option linter.unusedVariables false
set_option linter.unusedSimpArgs false
namespace Rv
open Go Go.RowKit Go.Proofs
structure BoundsError where
  x_ : Int
  y_ : Int
  signed : Bool
  code : Int
deriving DecidableEq
instance : Inhabited BoundsError := ⟨⟨0, 0, false, 0⟩⟩
abbrev BoundsError.cs (x : BoundsError) : List Cell := [I (x.x_), I (x.y_), Bo (x.signed), .v (.int .u8 (x.code))]
structure ErrorAddressString where
  msg : ByteArray
  addr : Int
deriving DecidableEq
instance : Inhabited ErrorAddressString := ⟨⟨⟨#[]⟩, 0⟩⟩
abbrev ErrorAddressString.cs (x : ErrorAddressString) : List Cell := [.v (.string (x.msg)), .v (.int .u64 (x.addr))]
structure Place where
  page : Int
  address : Int
deriving DecidableEq
instance : Inhabited Place := ⟨⟨0, 0⟩⟩
abbrev Place.cs (x : Place) : List Cell := [I (x.page), I (x.address)]
structure Remap where
  pages : Int
  spares : Int
  places : (List Place)
  bad : (List Int)
deriving DecidableEq
instance : Inhabited Remap := ⟨⟨0, 0, [], []⟩⟩
abbrev Remap.cs (x : Remap) : List Cell := [I (x.pages), I (x.spares), .L 2 ((x.places).map Place.cs), .L 1 ((x.bad).map cI)]
structure ACell where
  set_ : Bool
  data : ByteArray
deriving DecidableEq
instance : Inhabited ACell := ⟨⟨false, ⟨#[]⟩⟩⟩
abbrev ACell.cs (x : ACell) : List Cell := [Bo (x.set_), .v (.string (x.data))]
structure Change where
  page : Int
  slot : Int
  before : ACell
  after : ACell
deriving DecidableEq
instance : Inhabited Change := ⟨⟨0, 0, default, default⟩⟩
abbrev Change.cs (x : Change) : List Cell := [I (x.page), I (x.slot), Bo (x.before.set_), .v (.string (x.before.data)), Bo (x.after.set_), .v (.string (x.after.data))]
structure AEntry where
  lsn : Int
  kind_ : Int
  tx : Int
  prevTx : Int
  prevPage : Int
  ref : Int
  change : Change
  blob : ByteArray
deriving DecidableEq
instance : Inhabited AEntry := ⟨⟨0, 0, 0, 0, 0, 0, default, ⟨#[]⟩⟩⟩
abbrev AEntry.cs (x : AEntry) : List Cell := [I (x.lsn), I (x.kind_), I (x.tx), I (x.prevTx), I (x.prevPage), I (x.ref), I (x.change.page), I (x.change.slot), Bo (x.change.before.set_), .v (.string (x.change.before.data)), Bo (x.change.after.set_), .v (.string (x.change.after.data)), .v (.string (x.blob))]
structure ALog where
  first_ : Int
  entries : (List AEntry)
  durable : Int
deriving DecidableEq
instance : Inhabited ALog := ⟨⟨0, [], 0⟩⟩
abbrev ALog.cs (x : ALog) : List Cell := [I (x.first_), .L 13 ((x.entries).map AEntry.cs), I (x.durable)]
structure Lock where
  page : Int
  slot : Int
deriving DecidableEq
instance : Inhabited Lock := ⟨⟨0, 0⟩⟩
abbrev Lock.cs (x : Lock) : List Cell := [I (x.page), I (x.slot)]
structure Grant where
  tx : Int
  lock : Lock
  mode : Int
deriving DecidableEq
instance : Inhabited Grant := ⟨⟨0, default, 0⟩⟩
abbrev Grant.cs (x : Grant) : List Cell := [I (x.tx), I (x.lock.page), I (x.lock.slot), I (x.mode)]
structure Locks where
  held : (List Grant)
  waiting : (List Grant)
deriving DecidableEq
instance : Inhabited Locks := ⟨⟨[], []⟩⟩
abbrev Locks.cs (x : Locks) : List Cell := [.L 4 ((x.held).map Grant.cs), .L 4 ((x.waiting).map Grant.cs)]
structure Tx where
  id_ : Int
  state : Int
  last : Int
  until_ : Int
  pending : (List Int)
  saves : (List Int)
deriving DecidableEq
instance : Inhabited Tx := ⟨⟨0, 0, 0, 0, [], []⟩⟩
abbrev Tx.cs (x : Tx) : List Cell := [I (x.id_), I (x.state), I (x.last), I (x.until_), .L 1 ((x.pending).map cI), .L 1 ((x.saves).map cI)]
structure Codes where
  l_ : (List Int)
  at_ : Int
deriving DecidableEq
instance : Inhabited Codes := ⟨⟨[], 0⟩⟩
abbrev Codes.cs (x : Codes) : List Cell := [.L 1 ((x.l_).map c_u8), I (x.at_)]
structure Reader where
  s_ : ByteArray
  at_ : Int
  short : Bool
deriving DecidableEq
instance : Inhabited Reader := ⟨⟨⟨#[]⟩, 0, false⟩⟩
abbrev Reader.cs (x : Reader) : List Cell := [.v (.string (x.s_)), I (x.at_), Bo (x.short)]
structure Cursor where
  s_ : ByteArray
  at_ : Int
  short : Bool
deriving DecidableEq
instance : Inhabited Cursor := ⟨⟨⟨#[]⟩, 0, false⟩⟩
abbrev Cursor.cs (x : Cursor) : List Cell := [.v (.string (x.s_)), I (x.at_), Bo (x.short)]
structure QuarantineCursor where
  s_ : ByteArray
  short : Bool
deriving DecidableEq
instance : Inhabited QuarantineCursor := ⟨⟨⟨#[]⟩, false⟩⟩
abbrev QuarantineCursor.cs (x : QuarantineCursor) : List Cell := [.v (.string (x.s_)), Bo (x.short)]
end Rv
