/- Chapter 35: the statements' functions, as plain functions. -/
import Derived.Test.YtnlpkgamglhnbaaRvR35s
set_option linter.unusedVariables false
set_option linter.unusedSimpArgs false
namespace Rv
open Go Go.RowKit Go.Proofs
theorem pl16 : plainFn Try.prog 16 = true := by decide +kernel
theorem pl17 : plainFn Try.prog 17 = true := by decide +kernel
theorem pl20 : plainFn Try.prog 20 = true := by decide +kernel
theorem pl24 : plainFn Try.prog 24 = true := by decide +kernel
/- pagemend/pagemendlaw35.QuarantineAgain -/
def law35_QuarantineAgain.l1 (spares : Int) : Nat → Int → Codes → Remap → Option (Sum Remap Bool)
  | 0, _, _, _ => none
  | kk10 + 1, i7, bx8, bx9 => (if i7 < (w64 (1 + (Int.tmod (w64 spares) 8))) then ((Codes_Next 2 bx8).bind fun (x12 : (Int × Codes)) => (if x12.1 = 0 then law35_QuarantineAgain.l1 spares kk10 (w64 (i7 + 1)) x12.2 bx9 else ((quarantine_Mark bx9 (w64 (4 + i7))).bind fun (x15 : (Remap × Int × Int)) => ((quarantine_Mark x15.1 (w64 (4 + i7))).bind fun (x16 : (Remap × Int × Int)) => (if x15.2.2 ≠ 0 then some (Sum.inr false) else (if x16.2.2 ≠ 0 then some (Sum.inr false) else (if x15.2.1 ≠ (-1) then some (Sum.inr false) else (if x16.2.1 ≠ (-1) then some (Sum.inr false) else ((ref35_Same x15.1 x16.1).bind fun (x25 : Bool) => (if (!x25) = true then some (Sum.inr false) else law35_QuarantineAgain.l1 spares kk10 (w64 (i7 + 1)) x12.2 x15.1)))))))))) else some (Sum.inl bx9))
theorem law35_QuarantineAgain.l1_s (spares : Int) (kk10 : Nat) (i7 : Int) (bx8 : Codes) (bx9 : Remap) : law35_QuarantineAgain.l1 spares (kk10 + 1) i7 bx8 bx9 = (if i7 < (w64 (1 + (Int.tmod (w64 spares) 8))) then ((Codes_Next 2 bx8).bind fun (x12 : (Int × Codes)) => (if x12.1 = 0 then law35_QuarantineAgain.l1 spares kk10 (w64 (i7 + 1)) x12.2 bx9 else ((quarantine_Mark bx9 (w64 (4 + i7))).bind fun (x15 : (Remap × Int × Int)) => ((quarantine_Mark x15.1 (w64 (4 + i7))).bind fun (x16 : (Remap × Int × Int)) => (if x15.2.2 ≠ 0 then some (Sum.inr false) else (if x16.2.2 ≠ 0 then some (Sum.inr false) else (if x15.2.1 ≠ (-1) then some (Sum.inr false) else (if x16.2.1 ≠ (-1) then some (Sum.inr false) else ((ref35_Same x15.1 x16.1).bind fun (x25 : Bool) => (if (!x25) = true then some (Sum.inr false) else law35_QuarantineAgain.l1 spares kk10 (w64 (i7 + 1)) x12.2 x15.1)))))))))) else some (Sum.inl bx9)) := rfl
def law35_QuarantineAgain.l3 (bx6 : Remap) (i31 : Int) : Nat → Bool → Int → Option Bool
  | 0, _, _ => none
  | kk38 + 1, bad36, k37 => (if k37 < (bx6.bad.length : Int) then (if bad36 = true then law35_QuarantineAgain.l3 bx6 i31 kk38 true (w64 (k37 + 1)) else (if (0 : Int) ≤ k37 ∧ k37 < (bx6.bad.length : Int) then (if (gd bx6.bad k37) = (w64 (4 + i31)) then law35_QuarantineAgain.l3 bx6 i31 kk38 true (w64 (k37 + 1)) else law35_QuarantineAgain.l3 bx6 i31 kk38 false (w64 (k37 + 1))) else none)) else some bad36)
theorem law35_QuarantineAgain.l3_s (bx6 : Remap) (i31 : Int) (kk38 : Nat) (bad36 : Bool) (k37 : Int) : law35_QuarantineAgain.l3 bx6 i31 (kk38 + 1) bad36 k37 = (if k37 < (bx6.bad.length : Int) then (if bad36 = true then law35_QuarantineAgain.l3 bx6 i31 kk38 true (w64 (k37 + 1)) else (if (0 : Int) ≤ k37 ∧ k37 < (bx6.bad.length : Int) then (if (gd bx6.bad k37) = (w64 (4 + i31)) then law35_QuarantineAgain.l3 bx6 i31 kk38 true (w64 (k37 + 1)) else law35_QuarantineAgain.l3 bx6 i31 kk38 false (w64 (k37 + 1))) else none)) else some bad36) := rfl
def law35_QuarantineAgain.l2 (bx6 : Remap) : Nat → Int → Remap → Option Remap
  | 0, _, _ => none
  | kk33 + 1, i31, bx32 => (if 0 ≤ i31 then ((law35_QuarantineAgain.l3 bx6 i31 FU false 0).bind fun (s46 : Bool) => (if s46 = true then ((quarantine_Mark bx32 (w64 (4 + i31))).bind fun (x48 : (Remap × Int × Int)) => law35_QuarantineAgain.l2 bx6 kk33 (w64 (i31 - 1)) x48.1) else law35_QuarantineAgain.l2 bx6 kk33 (w64 (i31 - 1)) bx32)) else some bx32)
theorem law35_QuarantineAgain.l2_s (bx6 : Remap) (kk33 : Nat) (i31 : Int) (bx32 : Remap) : law35_QuarantineAgain.l2 bx6 (kk33 + 1) i31 bx32 = (if 0 ≤ i31 then ((law35_QuarantineAgain.l3 bx6 i31 FU false 0).bind fun (s46 : Bool) => (if s46 = true then ((quarantine_Mark bx32 (w64 (4 + i31))).bind fun (x48 : (Remap × Int × Int)) => law35_QuarantineAgain.l2 bx6 kk33 (w64 (i31 - 1)) x48.1) else law35_QuarantineAgain.l2 bx6 kk33 (w64 (i31 - 1)) bx32)) else some bx32) := rfl
def law35_QuarantineAgain (codes : (List Int)) (spares : Int) : Option Bool := ((law35_awake ).bind fun (x1 : Bool) => (if (!x1) = true then some false else ((New codes 200).bind fun (x4 : Codes) => ((quarantine_New 4 (w64 (1 + (Int.tmod (w64 spares) 8)))).bind fun (x5 : (Remap × Int)) => ((law35_QuarantineAgain.l1 spares FU 0 x4 x5.1).bind fun (z : Sum Remap Bool) => match z with | .inl (s29 : Remap) => ((law35_QuarantineAgain.l2 s29 FU (w64 ((w64 (1 + (Int.tmod (w64 spares) 8))) - 1)) x5.1).bind fun (s51 : Remap) => (if x5.2 = 0 then ((ref35_Same s29 s51).bind fun (x53 : Bool) => (if x53 = true then ((quarantine_Left s29).bind fun (x54 : Int) => some (decide (x54 = (w64 ((w64 (1 + (Int.tmod (w64 spares) 8))) - (s29.bad.length : Int)))))) else some false)) else some false)) | .inr r => some r)))))
theorem law35_QuarantineAgain.eq (codes : (List Int)) (spares : Int) : law35_QuarantineAgain codes spares = ((law35_awake ).bind fun (x1 : Bool) => (if (!x1) = true then some false else ((New codes 200).bind fun (x4 : Codes) => ((quarantine_New 4 (w64 (1 + (Int.tmod (w64 spares) 8)))).bind fun (x5 : (Remap × Int)) => ((law35_QuarantineAgain.l1 spares FU 0 x4 x5.1).bind fun (z : Sum Remap Bool) => match z with | .inl (s29 : Remap) => ((law35_QuarantineAgain.l2 s29 FU (w64 ((w64 (1 + (Int.tmod (w64 spares) 8))) - 1)) x5.1).bind fun (s51 : Remap) => (if x5.2 = 0 then ((ref35_Same s29 s51).bind fun (x53 : Bool) => (if x53 = true then ((quarantine_Left s29).bind fun (x54 : Int) => some (decide (x54 = (w64 ((w64 (1 + (Int.tmod (w64 spares) 8))) - (s29.bad.length : Int)))))) else some false)) else some false)) | .inr r => some r))))) := rfl
theorem law35_QuarantineAgain_ok {h : Heap} {codes : (List Int)} {spares : Int}  {r : Bool} (hm : law35_QuarantineAgain codes spares = some r) : FnOK Try.prog 6 [.o (.c (.L 1 (codes.map c_u8))), .o (.c (.v (.int .u8 (spares))))] h (fun v h' => v = VB (r) ∧ h' = h) := by
  refine FnOK.fin ?_
  refine FnOK.bodyC (N := 131) Try.func6 rfl rfl rfl (fun hC => ?_)
  replace hm := Ev.of hm
  rw [law35_QuarantineAgain.eq] at hm
  show CdOK _ _ _ (look _ [(0, .o (.c (.L 1 (codes.map c_u8)))), (1, .o (.c (.v (.int .u8 (spares)))))]) (h ++ ([] : Heap)) _
  refine CdOK.seq ?_
  refine CdOK.region ?_
  refine RgOK.s (v := VB (false)) rfl rfl rfl (e_as rfl) ?_
  refine RgOK.nil ?_
  show CdOK _ _ _ _ _ _
  refine CdOK.seq ?_
  refine CdOK.seq ?_
  refine CdOK.region ?_
  obtain ⟨x1, e1, hm⟩ := hm.call
  refine RgOK.cl rfl rfl rfl rfl pl16 (R2.wk _) (law35_awake_ok   e1) ?_
  rintro _ _ ⟨rfl, rfl⟩
  refine RgOK.s (v := VB ((!x1))) rfl rfl rfl (e_un (ev_t rfl) rfl) ?_
  refine RgOK.nil ?_
  show CdOK _ _ _ _ _ _
  refine CdOK.condB (ev_t rfl) ?_ ?_
  · intro c2; replace hm := hm.ifp c2
    refine CdOK.seq ?_
    refine CdOK.region ?_
    refine RgOK.s (v := VB (false)) rfl rfl rfl (e_as rfl) ?_
    refine RgOK.nil ?_
    show CdOK _ _ _ _ _ _
    refine CdOK.ret ?_
    refine ⟨.inr rfl, _, rfl, h, [], _, rfl, rfl, hC, ((renFlV rfl) : RenV _ _ _ _ (VB (false))), ?_⟩
    have hr := hm.ret
    subst hr
    exact ⟨rfl, rfl⟩
  · intro c3; replace hm := hm.ifn c3
    refine CdOK.skip ?_
    show CdOK _ _ _ _ _ _
    refine CdOK.seq ?_
    refine CdOK.region ?_
    refine RgOK.s (v := .o (.c (.L 1 (codes.map c_u8)))) rfl rfl rfl (e_mv (ev_t rfl)) ?_
    obtain ⟨x4, e4, hm⟩ := hm.call
    refine RgOK.cl rfl rfl rfl rfl pl17 (R2.wk _) (New_ok   e4) ?_
    rintro _ _ ⟨rfl, rfl⟩
    rw [show (h ++ ([] : Heap)) ++ [⟨[.L 1 (x4.l_.map c_u8), I (x4.at_)], true, true⟩] = h ++ ([⟨[.L 1 (x4.l_.map c_u8), I (x4.at_)], true, true⟩] : Heap) from apnd rfl, show (h ++ ([] : Heap) : Heap).length = h.length + 0 from lenN rfl rfl]
    refine RgOK.s (v := .o (.c (.ptr (h.length + 0) 0))) rfl rfl rfl (e_as (ev_t rfl)) ?_
    refine RgOK.nil ?_
    show CdOK _ _ _ _ _ _
    refine CdOK.seq ?_
    refine CdOK.region ?_
    refine RgOK.s (v := .o (.c (.v (.int .u8 (spares))))) rfl rfl rfl (e_mv (ev_t rfl)) ?_
    refine RgOK.s (v := VI ((w64 spares))) rfl rfl rfl (e_cvw cv5_3 (ev_t rfl)) ?_
    refine RgOK.s (v := VI ((Int.tmod (w64 spares) 8))) rfl rfl rfl (e_remK (ev_t rfl) rfl (by decide)) ?_
    refine RgOK.s (v := VI ((w64 (1 + (Int.tmod (w64 spares) 8))))) rfl rfl rfl (e_bin rfl (ev_t rfl) rfl rfl) ?_
    refine RgOK.s (v := VI ((w64 (1 + (Int.tmod (w64 spares) 8))))) rfl rfl rfl (e_as (ev_t rfl)) ?_
    refine RgOK.nil ?_
    show CdOK _ _ _ _ _ _
    refine CdOK.seq ?_
    refine CdOK.region ?_
    refine RgOK.s (v := VI ((w64 (1 + (Int.tmod (w64 spares) 8))))) rfl rfl rfl (e_mv (ev_t rfl)) ?_
    obtain ⟨x5, e5, hm⟩ := hm.call
    refine RgOK.cl rfl rfl rfl rfl pl18 (R2.wk _) (quarantine_New_ok   e5) ?_
    rintro _ _ ⟨rfl, rfl⟩
    refine RgOK.s (v := .tup [.agg [I (x5.1.pages), I (x5.1.spares), .L 2 (x5.1.places.map Place.cs), .L 1 (x5.1.bad.map cI)], .c (I (x5.2))]) rfl rfl rfl (e_mv (ev_t rfl)) ?_
    refine RgOK.s (v := .o (.agg [I (x5.1.pages), I (x5.1.spares), .L 2 (x5.1.places.map Place.cs), .L 1 (x5.1.bad.map cI)])) rfl rfl rfl (e_ext (ev_t rfl) rfl) ?_
    refine RgOK.s (v := VI (x5.2)) rfl rfl rfl (e_ext (ev_t rfl) rfl) ?_
    refine RgOK.s (v := .o (.c (.ptr (h.length + 1) 0))) rfl rfl rfl (e_allocN (L' := [⟨[.L 1 (x4.l_.map c_u8), I (x4.at_)], true, true⟩, ⟨[I (0), I (0), .v (.slice none 0 0), .v (.slice none 0 0)], true, true⟩]) rfl zo29 rfl rfl) ?_
    refine RgOK.s0 rfl rfl (e_stN (L' := [⟨[.L 1 (x4.l_.map c_u8), I (x4.at_)], true, true⟩, ⟨[I (x5.1.pages), I (x5.1.spares), .L 2 (x5.1.places.map Place.cs), .L 1 (x5.1.bad.map cI)], true, true⟩]) rfl (ev_t rfl) (ev_t rfl) ty29 rfl rfl rfl rfl rfl) ?_
    refine RgOK.s (v := VI (x5.2)) rfl rfl rfl (e_as (ev_t rfl)) ?_
    refine RgOK.nil ?_
    show CdOK _ _ _ _ _ _
    refine CdOK.seq ?_
    refine CdOK.draw2 (ord := [0, 1, 2, 3, 4, 5]) (chain := [2, 3, 4, 5]) fol (by decide +kernel) (by decide +kernel) ?_
    refine Dr2.f (v := .o (.agg [I (x5.1.pages), I (x5.1.spares), .L 2 (x5.1.places.map Place.cs), .L 1 (x5.1.bad.map cI)])) rfl rfl rfl rfl rfl rfl (e_ldbA (ev_t rfl) ty29 (bx rfl rfl) rfl rfl) ?_
    refine Dr2.f (v := .o (.agg [I (x5.1.pages), I (x5.1.spares), .L 2 (x5.1.places.map Place.cs), .L 1 (x5.1.bad.map cI)])) rfl rfl rfl rfl rfl rfl (e_ldbA (ev_t rfl) ty29 (bx rfl rfl) rfl rfl) ?_
    refine Dr2.c (v := .o (.c (.ptr (h.length + 2) 0))) rfl rfl rfl rfl rfl (e_allocN (L' := [⟨[.L 1 (x4.l_.map c_u8), I (x4.at_)], true, true⟩, ⟨[I (x5.1.pages), I (x5.1.spares), .L 2 (x5.1.places.map Place.cs), .L 1 (x5.1.bad.map cI)], true, true⟩, ⟨[I (0), I (0), .v (.slice none 0 0), .v (.slice none 0 0)], true, true⟩]) rfl zo29 rfl rfl) (.e rfl rfl (e_ldbA (ev_t rfl) ty29 (bx rfl rfl) rfl rfl) (.e rfl rfl (e_ldbA (ev_t rfl) ty29 (bx rfl rfl) rfl rfl) .nil)) ?_
    refine Dr2.c (v := .o (.c (.ptr (h.length + 3) 0))) rfl rfl rfl rfl rfl (e_allocN (L' := [⟨[.L 1 (x4.l_.map c_u8), I (x4.at_)], true, true⟩, ⟨[I (x5.1.pages), I (x5.1.spares), .L 2 (x5.1.places.map Place.cs), .L 1 (x5.1.bad.map cI)], true, true⟩, ⟨[I (0), I (0), .v (.slice none 0 0), .v (.slice none 0 0)], true, true⟩, ⟨[I (0), I (0), .v (.slice none 0 0), .v (.slice none 0 0)], true, true⟩]) rfl zo29 rfl rfl) (.e rfl rfl (e_ldbA (ev_t rfl) ty29 (bx rfl rfl) rfl rfl) (.e rfl rfl (e_ldbA (ev_t rfl) ty29 (bx rfl rfl) rfl rfl) .nil)) ?_
    refine Dr2.c0 rfl rfl rfl rfl (e_stN (L' := [⟨[.L 1 (x4.l_.map c_u8), I (x4.at_)], true, true⟩, ⟨[I (x5.1.pages), I (x5.1.spares), .L 2 (x5.1.places.map Place.cs), .L 1 (x5.1.bad.map cI)], true, true⟩, ⟨[I (x5.1.pages), I (x5.1.spares), .L 2 (x5.1.places.map Place.cs), .L 1 (x5.1.bad.map cI)], true, true⟩, ⟨[I (0), I (0), .v (.slice none 0 0), .v (.slice none 0 0)], true, true⟩]) rfl (ev_t rfl) (ev_t rfl) ty29 rfl rfl rfl rfl rfl) (.e rfl rfl (e_ldbA (ev_t rfl) ty29 (bx rfl rfl) rfl rfl) (.m (by decide +kernel) .nil)) ?_
    refine Dr2.c0 rfl rfl rfl rfl (e_stN (L' := [⟨[.L 1 (x4.l_.map c_u8), I (x4.at_)], true, true⟩, ⟨[I (x5.1.pages), I (x5.1.spares), .L 2 (x5.1.places.map Place.cs), .L 1 (x5.1.bad.map cI)], true, true⟩, ⟨[I (x5.1.pages), I (x5.1.spares), .L 2 (x5.1.places.map Place.cs), .L 1 (x5.1.bad.map cI)], true, true⟩, ⟨[I (x5.1.pages), I (x5.1.spares), .L 2 (x5.1.places.map Place.cs), .L 1 (x5.1.bad.map cI)], true, true⟩]) rfl (ev_t rfl) (ev_t rfl) ty29 rfl rfl rfl rfl rfl) (.m (by decide +kernel) (.m (by decide +kernel) .nil)) ?_
    refine Dr2.nil ?_
    show CdOK _ _ _ _ _ _
    refine CdOK.seq ?_
    refine CdOK.seq ?_
    refine CdOK.region ?_
    refine RgOK.s (v := VI (0)) rfl rfl rfl (e_as rfl) ?_
    refine RgOK.nil ?_
    show CdOK _ _ _ _ _ _
    replace hm := hm.bnd
    refine CdOK.joinT (σ := Remap) (fun s => Sum.inl s) hm (fun s => [(6, VI ((w64 (1 + (Int.tmod (w64 spares) 8))))), (8, VI (x5.2)), (9, .o (.c (.ptr (h.length + 0) 0))), (10, .o (.c (.ptr (h.length + 1) 0)))]) (fun s => h ++ ([⟨[I (s.pages), I (s.spares), .L 2 (s.places.map Place.cs), .L 1 (s.bad.map cI)], true, true⟩, ⟨[I (x5.1.pages), I (x5.1.spares), .L 2 (x5.1.places.map Place.cs), .L 1 (x5.1.bad.map cI)], true, true⟩] : Heap)) ?_ ?_
    · intro hm
      refine CdOK.block ?_
      refine CdOK.re (σ := [0, 2, 3]) (X := [(5, .o (.c (.ptr (h.length + 0) 0))), (6, VI ((w64 (1 + (Int.tmod (w64 spares) 8))))), (8, VI (x5.2)), (9, .o (.c (.ptr (h.length + 1) 0))), (10, .o (.c (.ptr (h.length + 2) 0))), (11, VI (0))]) (L' := [⟨[.L 1 (x4.l_.map c_u8), I (x4.at_)], true, true⟩, ⟨[I (x5.1.pages), I (x5.1.spares), .L 2 (x5.1.places.map Place.cs), .L 1 (x5.1.bad.map cI)], true, true⟩, ⟨[I (x5.1.pages), I (x5.1.spares), .L 2 (x5.1.places.map Place.cs), .L 1 (x5.1.bad.map cI)], true, true⟩]) rfl rfl hC (by decide) (.obj 0 rfl (renFl rfl) (.obj 2 rfl (renFl rfl) (.obj 3 rfl (renFl rfl) .nil))) (.cons (.o (.c (.ptr 0 0 _ rfl))) (.cons (renFlV rfl) (.cons (renFlV rfl) (.cons (.o (.c (.ptr 2 1 _ rfl))) (.cons (.o (.c (.ptr 3 2 _ rfl))) (.cons (renFlV rfl) .nil)))))) ?_
      refine CdOK.loopE (σ := (Int × Codes × Remap)) (fun k s => Ev (law35_QuarantineAgain.l1 spares k s.1 s.2.1 s.2.2) _) (fun s => [(5, .o (.c (.ptr (h.length + 0) 0))), (6, VI ((w64 (1 + (Int.tmod (w64 spares) 8))))), (8, VI (x5.2)), (9, .o (.c (.ptr (h.length + 1) 0))), (10, .o (.c (.ptr (h.length + 2) 0))), (11, VI (s.1))]) (fun s => h ++ ([⟨[.L 1 (s.2.1.l_.map c_u8), I (s.2.1.at_)], true, true⟩, ⟨[I (s.2.2.pages), I (s.2.2.spares), .L 2 (s.2.2.places.map Place.cs), .L 1 (s.2.2.bad.map cI)], true, true⟩, ⟨[I (x5.1.pages), I (x5.1.spares), .L 2 (x5.1.places.map Place.cs), .L 1 (x5.1.bad.map cI)], true, true⟩] : Heap)) FU (0, x4, x5.1) hm (.cons rfl (.cons rfl (.cons rfl (.cons rfl (.cons rfl (.cons rfl .nil)))))) rfl ?_
      rintro kk10 ⟨i7, bx8, bx9⟩ T0 hm
      replace hm : Ev (law35_QuarantineAgain.l1 spares kk10 i7 bx8 bx9) _ := hm
      cases kk10 with
      | zero => exact (Ev.non hm).elim
      | succ kk10 =>
      rw [law35_QuarantineAgain.l1_s] at hm
      show CdOK _ _ _ (look T0 [(5, .o (.c (.ptr (h.length + 0) 0))), (6, VI ((w64 (1 + (Int.tmod (w64 spares) 8))))), (8, VI (x5.2)), (9, .o (.c (.ptr (h.length + 1) 0))), (10, .o (.c (.ptr (h.length + 2) 0))), (11, VI (i7))]) (h ++ ([⟨[.L 1 (bx8.l_.map c_u8), I (bx8.at_)], true, true⟩, ⟨[I (bx9.pages), I (bx9.spares), .L 2 (bx9.places.map Place.cs), .L 1 (bx9.bad.map cI)], true, true⟩, ⟨[I (x5.1.pages), I (x5.1.spares), .L 2 (x5.1.places.map Place.cs), .L 1 (x5.1.bad.map cI)], true, true⟩] : Heap)) _
      refine CdOK.seq ?_
      refine CdOK.seq ?_
      refine CdOK.region ?_
      refine RgOK.s (v := VI (i7)) rfl rfl rfl (e_mv (ev_t rfl)) ?_
      refine RgOK.s (v := VI ((w64 (1 + (Int.tmod (w64 spares) 8))))) rfl rfl rfl (e_mv (ev_t rfl)) ?_
      refine RgOK.s (v := VB (decide (i7 < (w64 (1 + (Int.tmod (w64 spares) 8)))))) rfl rfl rfl (e_bin (ev_t rfl) (ev_t rfl) rfl rfl) ?_
      refine RgOK.nil ?_
      show CdOK _ _ _ _ _ _
      refine CdOK.condD (ev_t rfl) ?_ ?_
      · intro c11; replace hm := hm.ifp c11
        refine CdOK.skip ?_
        show CdOK _ _ _ _ _ _
        refine CdOK.seq ?_
        refine CdOK.block ?_
        refine CdOK.seq ?_
        refine CdOK.seq ?_
        refine CdOK.region ?_
        refine RgOK.s (v := .o (.c (.ptr (h.length + 0) 0))) rfl rfl rfl (e_mv (ev_t rfl)) ?_
        obtain ⟨x12, e12, hm⟩ := hm.call
        refine RgOK.cl rfl rfl rfl rfl pl32 (R2.wk _) (Codes_Next_ok (b_c_ := (h.length + 0)) (bx rfl rfl) e12) ?_
        rintro _ _ ⟨rfl, rfl⟩
        rw [show _ = h ++ ([⟨[.L 1 (x12.2.l_.map c_u8), I (x12.2.at_)], true, true⟩, ⟨[I (bx9.pages), I (bx9.spares), .L 2 (bx9.places.map Place.cs), .L 1 (bx9.bad.map cI)], true, true⟩, ⟨[I (x5.1.pages), I (x5.1.spares), .L 2 (x5.1.places.map Place.cs), .L 1 (x5.1.bad.map cI)], true, true⟩] : Heap) from (bset rfl rfl)]
        refine RgOK.s (v := VB (decide (x12.1 = 0))) rfl rfl rfl (e_eqK (ev_t rfl) rfl) ?_
        refine RgOK.nil ?_
        show CdOK _ _ _ _ _ _
        refine CdOK.condD (ev_t rfl) ?_ ?_
        · intro c13; replace hm := hm.ifp c13
          refine CdOK.exit ?_
          show CdOK _ _ _ _ _ _
          refine CdOK.region ?_
          refine RgOK.s (v := VI (i7)) rfl rfl rfl (e_mv (ev_t rfl)) ?_
          refine RgOK.s (v := VI ((w64 (i7 + 1)))) rfl rfl rfl (e_bin (ev_t rfl) rfl rfl rfl) ?_
          refine RgOK.s (v := VI ((w64 (i7 + 1)))) rfl rfl rfl (e_as (ev_t rfl)) ?_
          refine RgOK.nil ?_
          refine Told.id ?_
          exact ⟨_, ((w64 (i7 + 1)), x12.2, bx9), Nat.lt_succ_self _, hm, (.cons rfl (.cons rfl (.cons rfl (.cons rfl (.cons rfl (.cons rfl .nil)))))), rfl⟩
        · intro c14; replace hm := hm.ifn c14
          refine CdOK.skip ?_
          show CdOK _ _ _ _ _ _
          refine CdOK.seq ?_
          refine CdOK.region ?_
          refine RgOK.s (v := .o (.agg [I (bx9.pages), I (bx9.spares), .L 2 (bx9.places.map Place.cs), .L 1 (bx9.bad.map cI)])) rfl rfl rfl (e_ldbA (ev_t rfl) ty29 (bx rfl rfl) rfl rfl) ?_
          refine RgOK.s (v := VI (i7)) rfl rfl rfl (e_mv (ev_t rfl)) ?_
          refine RgOK.s (v := VI ((w64 (4 + i7)))) rfl rfl rfl (e_bin rfl (ev_t rfl) rfl rfl) ?_
          obtain ⟨x15, e15, hm⟩ := hm.call
          refine RgOK.cl rfl rfl rfl rfl pl30 (R2.wk _) (quarantine_Mark_ok   e15) ?_
          rintro _ _ ⟨rfl, rfl⟩
          refine RgOK.s (v := .tup [.agg [I (x15.1.pages), I (x15.1.spares), .L 2 (x15.1.places.map Place.cs), .L 1 (x15.1.bad.map cI)], .c (I (x15.2.1)), .c (I (x15.2.2))]) rfl rfl rfl (e_mv (ev_t rfl)) ?_
          refine RgOK.s (v := .o (.agg [I (x15.1.pages), I (x15.1.spares), .L 2 (x15.1.places.map Place.cs), .L 1 (x15.1.bad.map cI)])) rfl rfl rfl (e_ext (ev_t rfl) rfl) ?_
          refine RgOK.s (v := VI (x15.2.1)) rfl rfl rfl (e_ext (ev_t rfl) rfl) ?_
          refine RgOK.s (v := VI (x15.2.2)) rfl rfl rfl (e_ext (ev_t rfl) rfl) ?_
          refine RgOK.s (v := .o (.c (.ptr (h.length + 3) 0))) rfl rfl rfl (e_allocN (L' := [⟨[.L 1 (x12.2.l_.map c_u8), I (x12.2.at_)], true, true⟩, ⟨[I (bx9.pages), I (bx9.spares), .L 2 (bx9.places.map Place.cs), .L 1 (bx9.bad.map cI)], true, true⟩, ⟨[I (x5.1.pages), I (x5.1.spares), .L 2 (x5.1.places.map Place.cs), .L 1 (x5.1.bad.map cI)], true, true⟩, ⟨[I (0), I (0), .v (.slice none 0 0), .v (.slice none 0 0)], true, true⟩]) rfl zo29 rfl rfl) ?_
          refine RgOK.s0 rfl rfl (e_stN (L' := [⟨[.L 1 (x12.2.l_.map c_u8), I (x12.2.at_)], true, true⟩, ⟨[I (bx9.pages), I (bx9.spares), .L 2 (bx9.places.map Place.cs), .L 1 (bx9.bad.map cI)], true, true⟩, ⟨[I (x5.1.pages), I (x5.1.spares), .L 2 (x5.1.places.map Place.cs), .L 1 (x5.1.bad.map cI)], true, true⟩, ⟨[I (x15.1.pages), I (x15.1.spares), .L 2 (x15.1.places.map Place.cs), .L 1 (x15.1.bad.map cI)], true, true⟩]) rfl (ev_t rfl) (ev_t rfl) ty29 rfl rfl rfl rfl rfl) ?_
          refine RgOK.s (v := VI (x15.2.1)) rfl rfl rfl (e_as (ev_t rfl)) ?_
          refine RgOK.s (v := VI (x15.2.2)) rfl rfl rfl (e_as (ev_t rfl)) ?_
          refine RgOK.nil ?_
          show CdOK _ _ _ _ _ _
          refine CdOK.seq ?_
          refine CdOK.region ?_
          refine RgOK.s (v := .o (.agg [I (x15.1.pages), I (x15.1.spares), .L 2 (x15.1.places.map Place.cs), .L 1 (x15.1.bad.map cI)])) rfl rfl rfl (e_ldbA (ev_t rfl) ty29 (bx rfl rfl) rfl rfl) ?_
          refine RgOK.s (v := VI (i7)) rfl rfl rfl (e_mv (ev_t rfl)) ?_
          refine RgOK.s (v := VI ((w64 (4 + i7)))) rfl rfl rfl (e_bin rfl (ev_t rfl) rfl rfl) ?_
          obtain ⟨x16, e16, hm⟩ := hm.call
          refine RgOK.cl rfl rfl rfl rfl pl30 (R2.wk _) (quarantine_Mark_ok   e16) ?_
          rintro _ _ ⟨rfl, rfl⟩
          refine RgOK.s (v := .tup [.agg [I (x16.1.pages), I (x16.1.spares), .L 2 (x16.1.places.map Place.cs), .L 1 (x16.1.bad.map cI)], .c (I (x16.2.1)), .c (I (x16.2.2))]) rfl rfl rfl (e_mv (ev_t rfl)) ?_
          refine RgOK.s (v := .o (.agg [I (x16.1.pages), I (x16.1.spares), .L 2 (x16.1.places.map Place.cs), .L 1 (x16.1.bad.map cI)])) rfl rfl rfl (e_ext (ev_t rfl) rfl) ?_
          refine RgOK.s (v := VI (x16.2.1)) rfl rfl rfl (e_ext (ev_t rfl) rfl) ?_
          refine RgOK.s (v := VI (x16.2.2)) rfl rfl rfl (e_ext (ev_t rfl) rfl) ?_
          refine RgOK.s (v := .o (.c (.ptr (h.length + 4) 0))) rfl rfl rfl (e_allocN (L' := [⟨[.L 1 (x12.2.l_.map c_u8), I (x12.2.at_)], true, true⟩, ⟨[I (bx9.pages), I (bx9.spares), .L 2 (bx9.places.map Place.cs), .L 1 (bx9.bad.map cI)], true, true⟩, ⟨[I (x5.1.pages), I (x5.1.spares), .L 2 (x5.1.places.map Place.cs), .L 1 (x5.1.bad.map cI)], true, true⟩, ⟨[I (x15.1.pages), I (x15.1.spares), .L 2 (x15.1.places.map Place.cs), .L 1 (x15.1.bad.map cI)], true, true⟩, ⟨[I (0), I (0), .v (.slice none 0 0), .v (.slice none 0 0)], true, true⟩]) rfl zo29 rfl rfl) ?_
          refine RgOK.s0 rfl rfl (e_stN (L' := [⟨[.L 1 (x12.2.l_.map c_u8), I (x12.2.at_)], true, true⟩, ⟨[I (bx9.pages), I (bx9.spares), .L 2 (bx9.places.map Place.cs), .L 1 (bx9.bad.map cI)], true, true⟩, ⟨[I (x5.1.pages), I (x5.1.spares), .L 2 (x5.1.places.map Place.cs), .L 1 (x5.1.bad.map cI)], true, true⟩, ⟨[I (x15.1.pages), I (x15.1.spares), .L 2 (x15.1.places.map Place.cs), .L 1 (x15.1.bad.map cI)], true, true⟩, ⟨[I (x16.1.pages), I (x16.1.spares), .L 2 (x16.1.places.map Place.cs), .L 1 (x16.1.bad.map cI)], true, true⟩]) rfl (ev_t rfl) (ev_t rfl) ty29 rfl rfl rfl rfl rfl) ?_
          refine RgOK.s (v := VI (x16.2.1)) rfl rfl rfl (e_as (ev_t rfl)) ?_
          refine RgOK.s (v := VI (x16.2.2)) rfl rfl rfl (e_as (ev_t rfl)) ?_
          refine RgOK.nil ?_
          show CdOK _ _ _ _ _ _
          refine CdOK.seq ?_
          refine CdOK.seq ?_
          refine CdOK.region ?_
          refine RgOK.s (v := VI (x15.2.2)) rfl rfl rfl (e_mv (ev_t rfl)) ?_
          refine RgOK.sd rfl rfl rfl (e_neK (ev_t rfl) rfl) ?_ ?_
          · intro c17; replace hm := hm.ifp c17
            refine RgOK.s (v := VB (true)) rfl rfl rfl (e_mv (ev_t rfl)) ?_
            refine RgOK.sk rfl rfl rfl ?_
            refine RgOK.sk rfl rfl rfl ?_
            refine RgOK.s (v := VB (true)) rfl rfl rfl (e_pick (t := true) (ev_t rfl) rfl) ?_
            refine RgOK.s (v := VB (true)) rfl rfl rfl (e_mv (ev_t rfl)) ?_
            refine RgOK.sk rfl rfl rfl ?_
            refine RgOK.sk rfl rfl rfl ?_
            refine RgOK.s (v := VB (true)) rfl rfl rfl (e_pick (t := true) (ev_t rfl) rfl) ?_
            refine RgOK.s (v := VB (true)) rfl rfl rfl (e_mv (ev_t rfl)) ?_
            refine RgOK.sk rfl rfl rfl ?_
            refine RgOK.sk rfl rfl rfl ?_
            refine RgOK.s (v := VB (true)) rfl rfl rfl (e_pick (t := true) (ev_t rfl) rfl) ?_
            refine RgOK.s (v := VB (true)) rfl rfl rfl (e_mv (ev_t rfl)) ?_
            refine RgOK.sk rfl rfl rfl ?_
            refine RgOK.sk rfl rfl rfl ?_
            refine RgOK.sk rfl rfl rfl ?_
            refine RgOK.sk rfl rfl rfl ?_
            refine RgOK.s (v := VB (true)) rfl rfl rfl (e_pick (t := true) (ev_t rfl) rfl) ?_
            refine RgOK.nil ?_
            show CdOK _ _ _ _ _ _
            refine CdOK.cond_true rfl ?_
            refine CdOK.seq ?_
            refine CdOK.region ?_
            refine RgOK.s (v := VB (false)) rfl rfl rfl (e_as rfl) ?_
            refine RgOK.nil ?_
            show CdOK _ _ _ _ _ _
            refine CdOK.ret ?_
            refine ⟨.inr rfl, _, rfl, h, [⟨[.L 1 (x12.2.l_.map c_u8), I (x12.2.at_)], true, true⟩, ⟨[I (bx9.pages), I (bx9.spares), .L 2 (bx9.places.map Place.cs), .L 1 (bx9.bad.map cI)], true, true⟩, ⟨[I (x5.1.pages), I (x5.1.spares), .L 2 (x5.1.places.map Place.cs), .L 1 (x5.1.bad.map cI)], true, true⟩, ⟨[I (x15.1.pages), I (x15.1.spares), .L 2 (x15.1.places.map Place.cs), .L 1 (x15.1.bad.map cI)], true, true⟩, ⟨[I (x16.1.pages), I (x16.1.spares), .L 2 (x16.1.places.map Place.cs), .L 1 (x16.1.bad.map cI)], true, true⟩], _, rfl, rfl, hC, ((renFlV rfl) : RenV _ _ _ _ (VB (false))), ?_⟩
            have hr := hm.ret
            replace hr := Ev.ret hr
            subst hr
            exact ⟨rfl, rfl⟩
          · intro c18; replace hm := hm.ifn c18
            refine RgOK.s (v := VB (false)) rfl rfl rfl (e_mv (ev_t rfl)) ?_
            refine RgOK.s (v := VI (x16.2.2)) rfl rfl rfl (e_mv (ev_t rfl)) ?_
            refine RgOK.sd rfl rfl rfl (e_neK (ev_t rfl) rfl) ?_ ?_
            · intro c19; replace hm := hm.ifp c19
              refine RgOK.s (v := VB (true)) rfl rfl rfl (e_pick (t := false) (ev_t rfl) (ev_t rfl)) ?_
              refine RgOK.s (v := VB (true)) rfl rfl rfl (e_mv (ev_t rfl)) ?_
              refine RgOK.sk rfl rfl rfl ?_
              refine RgOK.sk rfl rfl rfl ?_
              refine RgOK.s (v := VB (true)) rfl rfl rfl (e_pick (t := true) (ev_t rfl) rfl) ?_
              refine RgOK.s (v := VB (true)) rfl rfl rfl (e_mv (ev_t rfl)) ?_
              refine RgOK.sk rfl rfl rfl ?_
              refine RgOK.sk rfl rfl rfl ?_
              refine RgOK.s (v := VB (true)) rfl rfl rfl (e_pick (t := true) (ev_t rfl) rfl) ?_
              refine RgOK.s (v := VB (true)) rfl rfl rfl (e_mv (ev_t rfl)) ?_
              refine RgOK.sk rfl rfl rfl ?_
              refine RgOK.sk rfl rfl rfl ?_
              refine RgOK.sk rfl rfl rfl ?_
              refine RgOK.sk rfl rfl rfl ?_
              refine RgOK.s (v := VB (true)) rfl rfl rfl (e_pick (t := true) (ev_t rfl) rfl) ?_
              refine RgOK.nil ?_
              show CdOK _ _ _ _ _ _
              refine CdOK.cond_true rfl ?_
              refine CdOK.seq ?_
              refine CdOK.region ?_
              refine RgOK.s (v := VB (false)) rfl rfl rfl (e_as rfl) ?_
              refine RgOK.nil ?_
              show CdOK _ _ _ _ _ _
              refine CdOK.ret ?_
              refine ⟨.inr rfl, _, rfl, h, [⟨[.L 1 (x12.2.l_.map c_u8), I (x12.2.at_)], true, true⟩, ⟨[I (bx9.pages), I (bx9.spares), .L 2 (bx9.places.map Place.cs), .L 1 (bx9.bad.map cI)], true, true⟩, ⟨[I (x5.1.pages), I (x5.1.spares), .L 2 (x5.1.places.map Place.cs), .L 1 (x5.1.bad.map cI)], true, true⟩, ⟨[I (x15.1.pages), I (x15.1.spares), .L 2 (x15.1.places.map Place.cs), .L 1 (x15.1.bad.map cI)], true, true⟩, ⟨[I (x16.1.pages), I (x16.1.spares), .L 2 (x16.1.places.map Place.cs), .L 1 (x16.1.bad.map cI)], true, true⟩], _, rfl, rfl, hC, ((renFlV rfl) : RenV _ _ _ _ (VB (false))), ?_⟩
              have hr := hm.ret
              replace hr := Ev.ret hr
              subst hr
              exact ⟨rfl, rfl⟩
            · intro c20; replace hm := hm.ifn c20
              refine RgOK.s (v := VB (false)) rfl rfl rfl (e_pick (t := false) (ev_t rfl) (ev_t rfl)) ?_
              refine RgOK.s (v := VB (false)) rfl rfl rfl (e_mv (ev_t rfl)) ?_
              refine RgOK.s (v := VI (x15.2.1)) rfl rfl rfl (e_mv (ev_t rfl)) ?_
              refine RgOK.sd rfl rfl rfl (e_neK (ev_t rfl) rfl) ?_ ?_
              · intro c21; replace hm := hm.ifp c21
                refine RgOK.s (v := VB (true)) rfl rfl rfl (e_pick (t := false) (ev_t rfl) (ev_t rfl)) ?_
                refine RgOK.s (v := VB (true)) rfl rfl rfl (e_mv (ev_t rfl)) ?_
                refine RgOK.sk rfl rfl rfl ?_
                refine RgOK.sk rfl rfl rfl ?_
                refine RgOK.s (v := VB (true)) rfl rfl rfl (e_pick (t := true) (ev_t rfl) rfl) ?_
                refine RgOK.s (v := VB (true)) rfl rfl rfl (e_mv (ev_t rfl)) ?_
                refine RgOK.sk rfl rfl rfl ?_
                refine RgOK.sk rfl rfl rfl ?_
                refine RgOK.sk rfl rfl rfl ?_
                refine RgOK.sk rfl rfl rfl ?_
                refine RgOK.s (v := VB (true)) rfl rfl rfl (e_pick (t := true) (ev_t rfl) rfl) ?_
                refine RgOK.nil ?_
                show CdOK _ _ _ _ _ _
                refine CdOK.cond_true rfl ?_
                refine CdOK.seq ?_
                refine CdOK.region ?_
                refine RgOK.s (v := VB (false)) rfl rfl rfl (e_as rfl) ?_
                refine RgOK.nil ?_
                show CdOK _ _ _ _ _ _
                refine CdOK.ret ?_
                refine ⟨.inr rfl, _, rfl, h, [⟨[.L 1 (x12.2.l_.map c_u8), I (x12.2.at_)], true, true⟩, ⟨[I (bx9.pages), I (bx9.spares), .L 2 (bx9.places.map Place.cs), .L 1 (bx9.bad.map cI)], true, true⟩, ⟨[I (x5.1.pages), I (x5.1.spares), .L 2 (x5.1.places.map Place.cs), .L 1 (x5.1.bad.map cI)], true, true⟩, ⟨[I (x15.1.pages), I (x15.1.spares), .L 2 (x15.1.places.map Place.cs), .L 1 (x15.1.bad.map cI)], true, true⟩, ⟨[I (x16.1.pages), I (x16.1.spares), .L 2 (x16.1.places.map Place.cs), .L 1 (x16.1.bad.map cI)], true, true⟩], _, rfl, rfl, hC, ((renFlV rfl) : RenV _ _ _ _ (VB (false))), ?_⟩
                have hr := hm.ret
                replace hr := Ev.ret hr
                subst hr
                exact ⟨rfl, rfl⟩
              · intro c22; replace hm := hm.ifn c22
                refine RgOK.s (v := VB (false)) rfl rfl rfl (e_pick (t := false) (ev_t rfl) (ev_t rfl)) ?_
                refine RgOK.s (v := VB (false)) rfl rfl rfl (e_mv (ev_t rfl)) ?_
                refine RgOK.s (v := VI (x16.2.1)) rfl rfl rfl (e_mv (ev_t rfl)) ?_
                refine RgOK.sd rfl rfl rfl (e_neK (ev_t rfl) rfl) ?_ ?_
                · intro c23; replace hm := hm.ifp c23
                  refine RgOK.s (v := VB (true)) rfl rfl rfl (e_pick (t := false) (ev_t rfl) (ev_t rfl)) ?_
                  refine RgOK.s (v := VB (true)) rfl rfl rfl (e_mv (ev_t rfl)) ?_
                  refine RgOK.sk rfl rfl rfl ?_
                  refine RgOK.sk rfl rfl rfl ?_
                  refine RgOK.sk rfl rfl rfl ?_
                  refine RgOK.sk rfl rfl rfl ?_
                  refine RgOK.s (v := VB (true)) rfl rfl rfl (e_pick (t := true) (ev_t rfl) rfl) ?_
                  refine RgOK.nil ?_
                  show CdOK _ _ _ _ _ _
                  refine CdOK.cond_true rfl ?_
                  refine CdOK.seq ?_
                  refine CdOK.region ?_
                  refine RgOK.s (v := VB (false)) rfl rfl rfl (e_as rfl) ?_
                  refine RgOK.nil ?_
                  show CdOK _ _ _ _ _ _
                  refine CdOK.ret ?_
                  refine ⟨.inr rfl, _, rfl, h, [⟨[.L 1 (x12.2.l_.map c_u8), I (x12.2.at_)], true, true⟩, ⟨[I (bx9.pages), I (bx9.spares), .L 2 (bx9.places.map Place.cs), .L 1 (bx9.bad.map cI)], true, true⟩, ⟨[I (x5.1.pages), I (x5.1.spares), .L 2 (x5.1.places.map Place.cs), .L 1 (x5.1.bad.map cI)], true, true⟩, ⟨[I (x15.1.pages), I (x15.1.spares), .L 2 (x15.1.places.map Place.cs), .L 1 (x15.1.bad.map cI)], true, true⟩, ⟨[I (x16.1.pages), I (x16.1.spares), .L 2 (x16.1.places.map Place.cs), .L 1 (x16.1.bad.map cI)], true, true⟩], _, rfl, rfl, hC, ((renFlV rfl) : RenV _ _ _ _ (VB (false))), ?_⟩
                  have hr := hm.ret
                  replace hr := Ev.ret hr
                  subst hr
                  exact ⟨rfl, rfl⟩
                · intro c24; replace hm := hm.ifn c24
                  refine RgOK.s (v := VB (false)) rfl rfl rfl (e_pick (t := false) (ev_t rfl) (ev_t rfl)) ?_
                  refine RgOK.s (v := VB (false)) rfl rfl rfl (e_mv (ev_t rfl)) ?_
                  refine RgOK.s (v := .o (.agg [I (x15.1.pages), I (x15.1.spares), .L 2 (x15.1.places.map Place.cs), .L 1 (x15.1.bad.map cI)])) rfl rfl rfl (e_ldbA (ev_t rfl) ty29 (bx rfl rfl) rfl rfl) ?_
                  refine RgOK.s (v := .o (.agg [I (x16.1.pages), I (x16.1.spares), .L 2 (x16.1.places.map Place.cs), .L 1 (x16.1.bad.map cI)])) rfl rfl rfl (e_ldbA (ev_t rfl) ty29 (bx rfl rfl) rfl rfl) ?_
                  obtain ⟨x25, e25, hm⟩ := hm.call
                  refine RgOK.cl rfl rfl rfl rfl pl20 (R2.wk _) (ref35_Same_ok   e25) ?_
                  rintro _ _ ⟨rfl, rfl⟩
                  refine RgOK.s (v := VB ((!x25))) rfl rfl rfl (e_un (ev_t rfl) rfl) ?_
                  refine RgOK.s (v := VB ((!x25))) rfl rfl rfl (e_pick (t := false) (ev_t rfl) (ev_t rfl)) ?_
                  refine RgOK.nil ?_
                  show CdOK _ _ _ _ _ _
                  refine CdOK.condB (ev_t rfl) ?_ ?_
                  · intro c26; replace hm := hm.ifp c26
                    refine CdOK.seq ?_
                    refine CdOK.region ?_
                    refine RgOK.s (v := VB (false)) rfl rfl rfl (e_as rfl) ?_
                    refine RgOK.nil ?_
                    show CdOK _ _ _ _ _ _
                    refine CdOK.ret ?_
                    refine ⟨.inr rfl, _, rfl, h, [⟨[.L 1 (x12.2.l_.map c_u8), I (x12.2.at_)], true, true⟩, ⟨[I (bx9.pages), I (bx9.spares), .L 2 (bx9.places.map Place.cs), .L 1 (bx9.bad.map cI)], true, true⟩, ⟨[I (x5.1.pages), I (x5.1.spares), .L 2 (x5.1.places.map Place.cs), .L 1 (x5.1.bad.map cI)], true, true⟩, ⟨[I (x15.1.pages), I (x15.1.spares), .L 2 (x15.1.places.map Place.cs), .L 1 (x15.1.bad.map cI)], true, true⟩, ⟨[I (x16.1.pages), I (x16.1.spares), .L 2 (x16.1.places.map Place.cs), .L 1 (x16.1.bad.map cI)], true, true⟩], _, rfl, rfl, hC, ((renFlV rfl) : RenV _ _ _ _ (VB (false))), ?_⟩
                    have hr := hm.ret
                    replace hr := Ev.ret hr
                    subst hr
                    exact ⟨rfl, rfl⟩
                  · intro c27; replace hm := hm.ifn c27
                    refine CdOK.skip ?_
                    show CdOK _ _ _ _ _ _
                    refine CdOK.region ?_
                    refine RgOK.s (v := .o (.agg [I (x15.1.pages), I (x15.1.spares), .L 2 (x15.1.places.map Place.cs), .L 1 (x15.1.bad.map cI)])) rfl rfl rfl (e_ldbA (ev_t rfl) ty29 (bx rfl rfl) rfl rfl) ?_
                    refine RgOK.s0 rfl rfl (e_stN (L' := [⟨[.L 1 (x12.2.l_.map c_u8), I (x12.2.at_)], true, true⟩, ⟨[I (x15.1.pages), I (x15.1.spares), .L 2 (x15.1.places.map Place.cs), .L 1 (x15.1.bad.map cI)], true, true⟩, ⟨[I (x5.1.pages), I (x5.1.spares), .L 2 (x5.1.places.map Place.cs), .L 1 (x5.1.bad.map cI)], true, true⟩, ⟨[I (x15.1.pages), I (x15.1.spares), .L 2 (x15.1.places.map Place.cs), .L 1 (x15.1.bad.map cI)], true, true⟩, ⟨[I (x16.1.pages), I (x16.1.spares), .L 2 (x16.1.places.map Place.cs), .L 1 (x16.1.bad.map cI)], true, true⟩]) rfl (ev_t rfl) (ev_t rfl) ty29 rfl rfl rfl rfl rfl) ?_
                    refine RgOK.nil ?_
                    show CdOK _ _ _ _ _ _
                    refine CdOK.region ?_
                    refine RgOK.s (v := VI (i7)) rfl rfl rfl (e_mv (ev_t rfl)) ?_
                    refine RgOK.s (v := VI ((w64 (i7 + 1)))) rfl rfl rfl (e_bin (ev_t rfl) rfl rfl rfl) ?_
                    refine RgOK.s (v := VI ((w64 (i7 + 1)))) rfl rfl rfl (e_as (ev_t rfl)) ?_
                    refine RgOK.nil ?_
                    refine Told.re (σ := [0, 1, 2]) (X := [(5, .o (.c (.ptr (h.length + 0) 0))), (6, VI ((w64 (1 + (Int.tmod (w64 spares) 8))))), (8, VI (x5.2)), (9, .o (.c (.ptr (h.length + 1) 0))), (10, .o (.c (.ptr (h.length + 2) 0))), (11, VI ((w64 (i7 + 1))))]) (L' := [⟨[.L 1 (x12.2.l_.map c_u8), I (x12.2.at_)], true, true⟩, ⟨[I (x15.1.pages), I (x15.1.spares), .L 2 (x15.1.places.map Place.cs), .L 1 (x15.1.bad.map cI)], true, true⟩, ⟨[I (x5.1.pages), I (x5.1.spares), .L 2 (x5.1.places.map Place.cs), .L 1 (x5.1.bad.map cI)], true, true⟩]) rfl rfl hC (by decide) (.obj 0 rfl (renFl rfl) (.obj 1 rfl (renFl rfl) (.obj 2 rfl (renFl rfl) .nil))) (.cons (.o (.c (.ptr 0 0 _ rfl))) (.cons (renFlV rfl) (.cons (renFlV rfl) (.cons (.o (.c (.ptr 1 1 _ rfl))) (.cons (.o (.c (.ptr 2 2 _ rfl))) (.cons (renFlV rfl) .nil)))))) ?_
                    exact ⟨_, ((w64 (i7 + 1)), x12.2, x15.1), Nat.lt_succ_self _, hm, (.cons rfl (.cons rfl (.cons rfl (.cons rfl (.cons rfl (.cons rfl .nil)))))), rfl⟩
      · intro c28; replace hm := hm.ifn c28
        refine CdOK.exit ?_
        refine Told.re (σ := [1, 2]) (X := [(6, VI ((w64 (1 + (Int.tmod (w64 spares) 8))))), (8, VI (x5.2)), (9, .o (.c (.ptr (h.length + 0) 0))), (10, .o (.c (.ptr (h.length + 1) 0)))]) (L' := [⟨[I (bx9.pages), I (bx9.spares), .L 2 (bx9.places.map Place.cs), .L 1 (bx9.bad.map cI)], true, true⟩, ⟨[I (x5.1.pages), I (x5.1.spares), .L 2 (x5.1.places.map Place.cs), .L 1 (x5.1.bad.map cI)], true, true⟩]) rfl rfl hC (by decide) (.obj 1 rfl (renFl rfl) (.obj 2 rfl (renFl rfl) .nil)) (.cons (renFlV rfl) (.cons (renFlV rfl) (.cons (.o (.c (.ptr 1 0 _ rfl))) (.cons (.o (.c (.ptr 2 1 _ rfl))) .nil)))) ?_
        exact ⟨bx9, hm.ret, (.cons rfl (.cons rfl (.cons rfl (.cons rfl .nil)))), rfl⟩
    · rintro bx6 T0 hm
      show CdOK _ _ _ _ _ _
      refine CdOK.seq ?_
      refine CdOK.seq ?_
      refine CdOK.region ?_
      refine RgOK.s (v := VI ((w64 (1 + (Int.tmod (w64 spares) 8))))) rfl rfl rfl (e_mv (ev_t rfl)) ?_
      refine RgOK.s (v := VI ((w64 ((w64 (1 + (Int.tmod (w64 spares) 8))) - 1)))) rfl rfl rfl (e_bin (ev_t rfl) rfl rfl rfl) ?_
      refine RgOK.s (v := VI ((w64 ((w64 (1 + (Int.tmod (w64 spares) 8))) - 1)))) rfl rfl rfl (e_as (ev_t rfl)) ?_
      refine RgOK.nil ?_
      show CdOK _ _ _ _ _ _
      replace hm := hm.bnd
      refine CdOK.joinT (σ := Remap) (fun s => s) hm (fun s => [(6, VI ((w64 (1 + (Int.tmod (w64 spares) 8))))), (8, VI (x5.2)), (9, .o (.c (.ptr (h.length + 0) 0))), (10, .o (.c (.ptr (h.length + 1) 0)))]) (fun s => h ++ ([⟨[I (bx6.pages), I (bx6.spares), .L 2 (bx6.places.map Place.cs), .L 1 (bx6.bad.map cI)], true, true⟩, ⟨[I (s.pages), I (s.spares), .L 2 (s.places.map Place.cs), .L 1 (s.bad.map cI)], true, true⟩] : Heap)) ?_ ?_
      · intro hm
        refine CdOK.block ?_
        refine CdOK.loopE (σ := (Int × Remap)) (fun k s => Ev (law35_QuarantineAgain.l2 bx6 k s.1 s.2) _) (fun s => [(6, VI ((w64 (1 + (Int.tmod (w64 spares) 8))))), (8, VI (x5.2)), (9, .o (.c (.ptr (h.length + 0) 0))), (10, .o (.c (.ptr (h.length + 1) 0))), (18, VI (s.1))]) (fun s => h ++ ([⟨[I (bx6.pages), I (bx6.spares), .L 2 (bx6.places.map Place.cs), .L 1 (bx6.bad.map cI)], true, true⟩, ⟨[I (s.2.pages), I (s.2.spares), .L 2 (s.2.places.map Place.cs), .L 1 (s.2.bad.map cI)], true, true⟩] : Heap)) FU ((w64 ((w64 (1 + (Int.tmod (w64 spares) 8))) - 1)), x5.1) hm (.cons rfl (.cons rfl (.cons rfl (.cons rfl (.cons rfl .nil))))) rfl ?_
        rintro kk33 ⟨i31, bx32⟩ T0 hm
        replace hm : Ev (law35_QuarantineAgain.l2 bx6 kk33 i31 bx32) _ := hm
        cases kk33 with
        | zero => exact (Ev.non hm).elim
        | succ kk33 =>
        rw [law35_QuarantineAgain.l2_s] at hm
        show CdOK _ _ _ (look T0 [(6, VI ((w64 (1 + (Int.tmod (w64 spares) 8))))), (8, VI (x5.2)), (9, .o (.c (.ptr (h.length + 0) 0))), (10, .o (.c (.ptr (h.length + 1) 0))), (18, VI (i31))]) (h ++ ([⟨[I (bx6.pages), I (bx6.spares), .L 2 (bx6.places.map Place.cs), .L 1 (bx6.bad.map cI)], true, true⟩, ⟨[I (bx32.pages), I (bx32.spares), .L 2 (bx32.places.map Place.cs), .L 1 (bx32.bad.map cI)], true, true⟩] : Heap)) _
        refine CdOK.seq ?_
        refine CdOK.seq ?_
        refine CdOK.region ?_
        refine RgOK.s (v := VI (i31)) rfl rfl rfl (e_mv (ev_t rfl)) ?_
        refine RgOK.s (v := VB (decide (0 ≤ i31))) rfl rfl rfl (e_bin (ev_t rfl) rfl rfl rfl) ?_
        refine RgOK.nil ?_
        show CdOK _ _ _ _ _ _
        refine CdOK.condD (ev_t rfl) ?_ ?_
        · intro c34; replace hm := hm.ifp c34
          refine CdOK.skip ?_
          show CdOK _ _ _ _ _ _
          refine CdOK.seq ?_
          refine CdOK.block ?_
          refine CdOK.seq ?_
          refine CdOK.region ?_
          refine RgOK.s (v := VB (false)) rfl rfl rfl (e_as rfl) ?_
          refine RgOK.nil ?_
          show CdOK _ _ _ _ _ _
          refine CdOK.seq ?_
          refine CdOK.seq ?_
          refine CdOK.region ?_
          refine RgOK.s (v := VI (0)) rfl rfl rfl (e_as rfl) ?_
          refine RgOK.nil ?_
          show CdOK _ _ _ _ _ _
          replace hm := hm.bnd
          refine CdOK.joinT (σ := Bool) (fun s => s) hm (fun s => [(6, VI ((w64 (1 + (Int.tmod (w64 spares) 8))))), (8, VI (x5.2)), (9, .o (.c (.ptr (h.length + 0) 0))), (10, .o (.c (.ptr (h.length + 1) 0))), (18, VI (i31)), (19, VB (s))]) (fun s => h ++ ([⟨[I (bx6.pages), I (bx6.spares), .L 2 (bx6.places.map Place.cs), .L 1 (bx6.bad.map cI)], true, true⟩, ⟨[I (bx32.pages), I (bx32.spares), .L 2 (bx32.places.map Place.cs), .L 1 (bx32.bad.map cI)], true, true⟩] : Heap)) ?_ ?_
          · intro hm
            refine CdOK.block ?_
            refine CdOK.loopE (σ := (Bool × Int)) (fun k s => Ev (law35_QuarantineAgain.l3 bx6 i31 k s.1 s.2) _) (fun s => [(6, VI ((w64 (1 + (Int.tmod (w64 spares) 8))))), (8, VI (x5.2)), (9, .o (.c (.ptr (h.length + 0) 0))), (10, .o (.c (.ptr (h.length + 1) 0))), (18, VI (i31)), (19, VB (s.1)), (20, VI (s.2))]) (fun s => h ++ ([⟨[I (bx6.pages), I (bx6.spares), .L 2 (bx6.places.map Place.cs), .L 1 (bx6.bad.map cI)], true, true⟩, ⟨[I (bx32.pages), I (bx32.spares), .L 2 (bx32.places.map Place.cs), .L 1 (bx32.bad.map cI)], true, true⟩] : Heap)) FU (false, 0) hm (.cons rfl (.cons rfl (.cons rfl (.cons rfl (.cons rfl (.cons rfl (.cons rfl .nil))))))) rfl ?_
            rintro kk38 ⟨bad36, k37⟩ T0 hm
            replace hm : Ev (law35_QuarantineAgain.l3 bx6 i31 kk38 bad36 k37) _ := hm
            cases kk38 with
            | zero => exact (Ev.non hm).elim
            | succ kk38 =>
            rw [law35_QuarantineAgain.l3_s] at hm
            show CdOK _ _ _ (look T0 [(6, VI ((w64 (1 + (Int.tmod (w64 spares) 8))))), (8, VI (x5.2)), (9, .o (.c (.ptr (h.length + 0) 0))), (10, .o (.c (.ptr (h.length + 1) 0))), (18, VI (i31)), (19, VB (bad36)), (20, VI (k37))]) (h ++ ([⟨[I (bx6.pages), I (bx6.spares), .L 2 (bx6.places.map Place.cs), .L 1 (bx6.bad.map cI)], true, true⟩, ⟨[I (bx32.pages), I (bx32.spares), .L 2 (bx32.places.map Place.cs), .L 1 (bx32.bad.map cI)], true, true⟩] : Heap)) _
            refine CdOK.seq ?_
            refine CdOK.seq ?_
            refine CdOK.region ?_
            refine RgOK.s (v := VI (k37)) rfl rfl rfl (e_mv (ev_t rfl)) ?_
            refine RgOK.s (v := .o (.c (.ptr (h.length + 0) 3))) rfl rfl rfl (e_fa' fa29_3 (ev_t rfl)) ?_
            refine RgOK.s (v := .o (.c (.L 1 (bx6.bad.map cI)))) rfl rfl rfl (e_ldb1 (ev_t rfl) ty27 (bx rfl rfl) rfl) ?_
            refine RgOK.s (v := VI ((bx6.bad.length : Int))) rfl rfl rfl (e_lenM (ev_t rfl) is27) ?_
            refine RgOK.s (v := VB (decide (k37 < (bx6.bad.length : Int)))) rfl rfl rfl (e_bin (ev_t rfl) (ev_t rfl) rfl rfl) ?_
            refine RgOK.nil ?_
            show CdOK _ _ _ _ _ _
            refine CdOK.condD (ev_t rfl) ?_ ?_
            · intro c39; replace hm := hm.ifp c39
              refine CdOK.skip ?_
              show CdOK _ _ _ _ _ _
              refine CdOK.seq ?_
              refine CdOK.block ?_
              refine CdOK.region ?_
              refine RgOK.sb rfl rfl rfl (e_mv (ev_t rfl)) ?_ ?_
              · intro c40; replace hm := hm.ifp c40
                refine RgOK.s (v := VB (true)) rfl rfl rfl (e_mv (ev_t rfl)) ?_
                refine RgOK.sk rfl rfl rfl ?_
                refine RgOK.sk rfl rfl rfl ?_
                refine RgOK.sk rfl rfl rfl ?_
                refine RgOK.sk rfl rfl rfl ?_
                refine RgOK.sk rfl rfl rfl ?_
                refine RgOK.sk rfl rfl rfl ?_
                refine RgOK.sk rfl rfl rfl ?_
                refine RgOK.sk rfl rfl rfl ?_
                refine RgOK.s (v := VB (true)) rfl rfl rfl (e_pick (t := true) (ev_t rfl) rfl) ?_
                refine RgOK.s (v := VB (true)) rfl rfl rfl (e_as (ev_t rfl)) ?_
                refine RgOK.nil ?_
                show CdOK _ _ _ _ _ _
                refine CdOK.region ?_
                refine RgOK.s (v := VI (k37)) rfl rfl rfl (e_mv (ev_t rfl)) ?_
                refine RgOK.s (v := VI ((w64 (k37 + 1)))) rfl rfl rfl (e_bin (ev_t rfl) rfl rfl rfl) ?_
                refine RgOK.s (v := VI ((w64 (k37 + 1)))) rfl rfl rfl (e_as (ev_t rfl)) ?_
                refine RgOK.nil ?_
                refine Told.id ?_
                exact ⟨_, (true, (w64 (k37 + 1))), Nat.lt_succ_self _, hm, (.cons rfl (.cons rfl (.cons rfl (.cons rfl (.cons rfl (.cons rfl (.cons rfl .nil))))))), rfl⟩
              · intro c41; replace hm := hm.ifn (by rw [c41]; exact Bool.false_ne_true)
                refine RgOK.s (v := VB (false)) rfl rfl rfl (e_mv (ev_t rfl)) ?_
                refine RgOK.s (v := .o (.c (.ptr (h.length + 0) 3))) rfl rfl rfl (e_fa' fa29_3 (ev_t rfl)) ?_
                refine RgOK.s (v := .o (.c (.L 1 (bx6.bad.map cI)))) rfl rfl rfl (e_ldb1 (ev_t rfl) ty27 (bx rfl rfl) rfl) ?_
                refine RgOK.s (v := VI (k37)) rfl rfl rfl (e_mv (ev_t rfl)) ?_
                obtain ⟨c42, hm⟩ := hm.ifs
                refine RgOK.s (v := .o (.c (.rp [I ((gd bx6.bad k37))]))) rfl rfl rfl (e_ixM (f := cI) (l := bx6.bad) (i := k37) (ev_t rfl) (ev_t rfl) el27 c42) ?_
                refine RgOK.s (v := VI ((gd bx6.bad k37))) rfl rfl rfl (e_ldR1 (ev_t rfl) ty3 rfl) ?_
                refine RgOK.s (v := VI (i31)) rfl rfl rfl (e_mv (ev_t rfl)) ?_
                refine RgOK.s (v := VI ((w64 (4 + i31)))) rfl rfl rfl (e_bin rfl (ev_t rfl) rfl rfl) ?_
                refine RgOK.sd rfl rfl rfl (e_eqK (ev_t rfl) (ev_t rfl)) ?_ ?_
                · intro c43; replace hm := hm.ifp c43
                  refine RgOK.s (v := VB (true)) rfl rfl rfl (e_pick (t := false) (ev_t rfl) (ev_t rfl)) ?_
                  refine RgOK.s (v := VB (true)) rfl rfl rfl (e_as (ev_t rfl)) ?_
                  refine RgOK.nil ?_
                  show CdOK _ _ _ _ _ _
                  refine CdOK.region ?_
                  refine RgOK.s (v := VI (k37)) rfl rfl rfl (e_mv (ev_t rfl)) ?_
                  refine RgOK.s (v := VI ((w64 (k37 + 1)))) rfl rfl rfl (e_bin (ev_t rfl) rfl rfl rfl) ?_
                  refine RgOK.s (v := VI ((w64 (k37 + 1)))) rfl rfl rfl (e_as (ev_t rfl)) ?_
                  refine RgOK.nil ?_
                  refine Told.id ?_
                  exact ⟨_, (true, (w64 (k37 + 1))), Nat.lt_succ_self _, hm, (.cons rfl (.cons rfl (.cons rfl (.cons rfl (.cons rfl (.cons rfl (.cons rfl .nil))))))), rfl⟩
                · intro c44; replace hm := hm.ifn c44
                  refine RgOK.s (v := VB (false)) rfl rfl rfl (e_pick (t := false) (ev_t rfl) (ev_t rfl)) ?_
                  refine RgOK.s (v := VB (false)) rfl rfl rfl (e_as (ev_t rfl)) ?_
                  refine RgOK.nil ?_
                  show CdOK _ _ _ _ _ _
                  refine CdOK.region ?_
                  refine RgOK.s (v := VI (k37)) rfl rfl rfl (e_mv (ev_t rfl)) ?_
                  refine RgOK.s (v := VI ((w64 (k37 + 1)))) rfl rfl rfl (e_bin (ev_t rfl) rfl rfl rfl) ?_
                  refine RgOK.s (v := VI ((w64 (k37 + 1)))) rfl rfl rfl (e_as (ev_t rfl)) ?_
                  refine RgOK.nil ?_
                  refine Told.id ?_
                  exact ⟨_, (false, (w64 (k37 + 1))), Nat.lt_succ_self _, hm, (.cons rfl (.cons rfl (.cons rfl (.cons rfl (.cons rfl (.cons rfl (.cons rfl .nil))))))), rfl⟩
            · intro c45; replace hm := hm.ifn c45
              refine CdOK.exit ?_
              refine Told.id ?_
              exact ⟨bad36, hm.ret, (.cons rfl (.cons rfl (.cons rfl (.cons rfl (.cons rfl (.cons rfl .nil)))))), rfl⟩
          · rintro bad35 T0 hm
            show CdOK _ _ _ _ _ _
            refine CdOK.seq ?_
            refine CdOK.region ?_
            refine RgOK.s (v := VB (bad35)) rfl rfl rfl (e_mv (ev_t rfl)) ?_
            refine RgOK.nil ?_
            show CdOK _ _ _ _ _ _
            refine CdOK.condB (ev_t rfl) ?_ ?_
            · intro c47; replace hm := hm.ifp c47
              refine CdOK.region ?_
              refine RgOK.s (v := .o (.agg [I (bx32.pages), I (bx32.spares), .L 2 (bx32.places.map Place.cs), .L 1 (bx32.bad.map cI)])) rfl rfl rfl (e_ldbA (ev_t rfl) ty29 (bx rfl rfl) rfl rfl) ?_
              refine RgOK.s (v := VI (i31)) rfl rfl rfl (e_mv (ev_t rfl)) ?_
              refine RgOK.s (v := VI ((w64 (4 + i31)))) rfl rfl rfl (e_bin rfl (ev_t rfl) rfl rfl) ?_
              obtain ⟨x48, e48, hm⟩ := hm.call
              refine RgOK.cl rfl rfl rfl rfl pl30 (R2.wk _) (quarantine_Mark_ok   e48) ?_
              rintro _ _ ⟨rfl, rfl⟩
              refine RgOK.s (v := .tup [.agg [I (x48.1.pages), I (x48.1.spares), .L 2 (x48.1.places.map Place.cs), .L 1 (x48.1.bad.map cI)], .c (I (x48.2.1)), .c (I (x48.2.2))]) rfl rfl rfl (e_mv (ev_t rfl)) ?_
              refine RgOK.s (v := .o (.agg [I (x48.1.pages), I (x48.1.spares), .L 2 (x48.1.places.map Place.cs), .L 1 (x48.1.bad.map cI)])) rfl rfl rfl (e_ext (ev_t rfl) rfl) ?_
              refine RgOK.s (v := VI (x48.2.1)) rfl rfl rfl (e_ext (ev_t rfl) rfl) ?_
              refine RgOK.s (v := VI (x48.2.2)) rfl rfl rfl (e_ext (ev_t rfl) rfl) ?_
              refine RgOK.s0 rfl rfl (e_stN (L' := [⟨[I (bx6.pages), I (bx6.spares), .L 2 (bx6.places.map Place.cs), .L 1 (bx6.bad.map cI)], true, true⟩, ⟨[I (x48.1.pages), I (x48.1.spares), .L 2 (x48.1.places.map Place.cs), .L 1 (x48.1.bad.map cI)], true, true⟩]) rfl (ev_t rfl) (ev_t rfl) ty29 rfl rfl rfl rfl rfl) ?_
              refine RgOK.nil ?_
              show CdOK _ _ _ _ _ _
              refine CdOK.region ?_
              refine RgOK.s (v := VI (i31)) rfl rfl rfl (e_mv (ev_t rfl)) ?_
              refine RgOK.s (v := VI ((w64 (i31 - 1)))) rfl rfl rfl (e_bin (ev_t rfl) rfl rfl rfl) ?_
              refine RgOK.s (v := VI ((w64 (i31 - 1)))) rfl rfl rfl (e_as (ev_t rfl)) ?_
              refine RgOK.nil ?_
              refine Told.id ?_
              exact ⟨_, ((w64 (i31 - 1)), x48.1), Nat.lt_succ_self _, hm, (.cons rfl (.cons rfl (.cons rfl (.cons rfl (.cons rfl .nil))))), rfl⟩
            · intro c49; replace hm := hm.ifn c49
              refine CdOK.skip ?_
              show CdOK _ _ _ _ _ _
              refine CdOK.region ?_
              refine RgOK.s (v := VI (i31)) rfl rfl rfl (e_mv (ev_t rfl)) ?_
              refine RgOK.s (v := VI ((w64 (i31 - 1)))) rfl rfl rfl (e_bin (ev_t rfl) rfl rfl rfl) ?_
              refine RgOK.s (v := VI ((w64 (i31 - 1)))) rfl rfl rfl (e_as (ev_t rfl)) ?_
              refine RgOK.nil ?_
              refine Told.id ?_
              exact ⟨_, ((w64 (i31 - 1)), bx32), Nat.lt_succ_self _, hm, (.cons rfl (.cons rfl (.cons rfl (.cons rfl (.cons rfl .nil))))), rfl⟩
        · intro c50; replace hm := hm.ifn c50
          refine CdOK.exit ?_
          refine Told.id ?_
          exact ⟨bx32, hm.ret, (.cons rfl (.cons rfl (.cons rfl (.cons rfl .nil)))), rfl⟩
      · rintro bx30 T0 hm
        show CdOK _ _ _ _ _ _
        refine CdOK.seq ?_
        refine CdOK.draw fol (by decide +kernel) ?_
        refine DrOK.s (v := VI (x5.2)) rfl rfl rfl (e_mv (ev_t rfl)) ?_
        refine DrOK.sd rfl rfl rfl (e_eqK (ev_t rfl) rfl) ?_ ?_
        · intro c52; replace hm := hm.ifp c52
          refine DrOK.s (v := VB (true)) rfl rfl rfl (e_mv (ev_t rfl)) ?_
          refine DrOK.s (v := .o (.agg [I (bx6.pages), I (bx6.spares), .L 2 (bx6.places.map Place.cs), .L 1 (bx6.bad.map cI)])) rfl rfl rfl (e_ldbA (ev_t rfl) ty29 (bx rfl rfl) rfl rfl) ?_
          refine DrOK.s (v := .o (.agg [I (bx30.pages), I (bx30.spares), .L 2 (bx30.places.map Place.cs), .L 1 (bx30.bad.map cI)])) rfl rfl rfl (e_ldbA (ev_t rfl) ty29 (bx rfl rfl) rfl rfl) ?_
          obtain ⟨x53, e53, hm⟩ := hm.call
          cases x53 with
          | true =>
            replace hm := hm.ifp rfl
            refine DrOK.cl rfl rfl rfl rfl pl20 (R2.wk _) (ref35_Same_ok   e53) ?_
            refine DrOK.s (v := VB (true)) rfl rfl rfl (e_pick (t := true) (ev_t rfl) (ev_t rfl)) ?_
            refine DrOK.s (v := VB (true)) rfl rfl rfl (e_mv (ev_t rfl)) ?_
            refine DrOK.s (v := .o (.agg [I (bx6.pages), I (bx6.spares), .L 2 (bx6.places.map Place.cs), .L 1 (bx6.bad.map cI)])) rfl rfl rfl (e_ldbA (ev_t rfl) ty29 (bx rfl rfl) rfl rfl) ?_
            obtain ⟨x54, e54, hm⟩ := hm.call
            refine DrOK.cl rfl rfl rfl rfl pl24 (R2.wk _) (quarantine_Left_ok   e54) ?_
            refine DrOK.s (v := VI ((w64 (1 + (Int.tmod (w64 spares) 8))))) rfl rfl rfl (e_mv (ev_t rfl)) ?_
            refine DrOK.s (v := .o (.c (.ptr (h.length + 0) 3))) rfl rfl rfl (e_fa' fa29_3 (ev_t rfl)) ?_
            refine DrOK.s (v := .o (.c (.L 1 (bx6.bad.map cI)))) rfl rfl rfl (e_ldb1 (ev_t rfl) ty27 (bx rfl rfl) rfl) ?_
            refine DrOK.s (v := VI ((bx6.bad.length : Int))) rfl rfl rfl (e_lenM (ev_t rfl) is27) ?_
            refine DrOK.s (v := VI ((w64 ((w64 (1 + (Int.tmod (w64 spares) 8))) - (bx6.bad.length : Int))))) rfl rfl rfl (e_bin (ev_t rfl) (ev_t rfl) rfl rfl) ?_
            refine DrOK.s (v := VB (decide (x54 = (w64 ((w64 (1 + (Int.tmod (w64 spares) 8))) - (bx6.bad.length : Int)))))) rfl rfl rfl (e_eqK (ev_t rfl) (ev_t rfl)) ?_
            refine DrOK.s (v := VB (decide (x54 = (w64 ((w64 (1 + (Int.tmod (w64 spares) 8))) - (bx6.bad.length : Int)))))) rfl rfl rfl (e_pick (t := true) (ev_t rfl) (ev_t rfl)) ?_
            refine DrOK.s (v := VB (decide (x54 = (w64 ((w64 (1 + (Int.tmod (w64 spares) 8))) - (bx6.bad.length : Int)))))) rfl rfl rfl (e_as (ev_t rfl)) ?_
            refine DrOK.nil ?_
            show CdOK _ _ _ _ _ _
            refine CdOK.ret ?_
            refine ⟨.inr rfl, _, rfl, h, [⟨[I (bx6.pages), I (bx6.spares), .L 2 (bx6.places.map Place.cs), .L 1 (bx6.bad.map cI)], true, true⟩, ⟨[I (bx30.pages), I (bx30.spares), .L 2 (bx30.places.map Place.cs), .L 1 (bx30.bad.map cI)], true, true⟩], _, rfl, rfl, hC, ((renFlV rfl) : RenV _ _ _ _ (VB (decide (x54 = (w64 ((w64 (1 + (Int.tmod (w64 spares) 8))) - (bx6.bad.length : Int))))))), ?_⟩
            have hr := hm.ret
            subst hr
            exact ⟨rfl, rfl⟩
          | false =>
            replace hm := hm.ifn Bool.false_ne_true
            refine DrOK.cl rfl rfl rfl rfl pl20 (R2.wk _) (ref35_Same_ok   e53) ?_
            refine DrOK.s (v := VB (false)) rfl rfl rfl (e_pick (t := true) (ev_t rfl) (ev_t rfl)) ?_
            refine DrOK.s (v := VB (false)) rfl rfl rfl (e_mv (ev_t rfl)) ?_
            refine DrOK.sk rfl rfl rfl ?_
            refine DrOK.sk rfl rfl rfl ?_
            refine DrOK.sk rfl rfl rfl ?_
            refine DrOK.sk rfl rfl rfl ?_
            refine DrOK.sk rfl rfl rfl ?_
            refine DrOK.sk rfl rfl rfl ?_
            refine DrOK.sk rfl rfl rfl ?_
            refine DrOK.sk rfl rfl rfl ?_
            refine DrOK.s (v := VB (false)) rfl rfl rfl (e_pick (t := false) (ev_t rfl) rfl) ?_
            refine DrOK.s (v := VB (false)) rfl rfl rfl (e_as (ev_t rfl)) ?_
            refine DrOK.nil ?_
            show CdOK _ _ _ _ _ _
            refine CdOK.ret ?_
            refine ⟨.inr rfl, _, rfl, h, [⟨[I (bx6.pages), I (bx6.spares), .L 2 (bx6.places.map Place.cs), .L 1 (bx6.bad.map cI)], true, true⟩, ⟨[I (bx30.pages), I (bx30.spares), .L 2 (bx30.places.map Place.cs), .L 1 (bx30.bad.map cI)], true, true⟩], _, rfl, rfl, hC, ((renFlV rfl) : RenV _ _ _ _ (VB (false))), ?_⟩
            have hr := hm.ret
            subst hr
            exact ⟨rfl, rfl⟩
        · intro c55; replace hm := hm.ifn c55
          refine DrOK.s (v := VB (false)) rfl rfl rfl (e_mv (ev_t rfl)) ?_
          refine DrOK.sk rfl rfl rfl ?_
          refine DrOK.sk rfl rfl rfl ?_
          refine DrOK.sk rfl rfl rfl ?_
          refine DrOK.s (v := VB (false)) rfl rfl rfl (e_pick (t := false) (ev_t rfl) rfl) ?_
          refine DrOK.s (v := VB (false)) rfl rfl rfl (e_mv (ev_t rfl)) ?_
          refine DrOK.sk rfl rfl rfl ?_
          refine DrOK.sk rfl rfl rfl ?_
          refine DrOK.sk rfl rfl rfl ?_
          refine DrOK.sk rfl rfl rfl ?_
          refine DrOK.sk rfl rfl rfl ?_
          refine DrOK.sk rfl rfl rfl ?_
          refine DrOK.sk rfl rfl rfl ?_
          refine DrOK.sk rfl rfl rfl ?_
          refine DrOK.s (v := VB (false)) rfl rfl rfl (e_pick (t := false) (ev_t rfl) rfl) ?_
          refine DrOK.s (v := VB (false)) rfl rfl rfl (e_as (ev_t rfl)) ?_
          refine DrOK.nil ?_
          show CdOK _ _ _ _ _ _
          refine CdOK.ret ?_
          refine ⟨.inr rfl, _, rfl, h, [⟨[I (bx6.pages), I (bx6.spares), .L 2 (bx6.places.map Place.cs), .L 1 (bx6.bad.map cI)], true, true⟩, ⟨[I (bx30.pages), I (bx30.spares), .L 2 (bx30.places.map Place.cs), .L 1 (bx30.bad.map cI)], true, true⟩], _, rfl, rfl, hC, ((renFlV rfl) : RenV _ _ _ _ (VB (false))), ?_⟩
          have hr := hm.ret
          subst hr
          exact ⟨rfl, rfl⟩
end Rv
