/- Chapter 35: the statements' functions, as plain functions. -/
import Derived.Test.YtnlpkgamglhnbaaRvR35
set_option linter.unusedVariables false
set_option linter.unusedSimpArgs false
namespace Rv
open Go Go.RowKit Go.Proofs
theorem bo4 : boT Try.prog 4 = true := by decide +kernel
theorem el35 : ElF Try.prog 35 4 := .of (by decide +kernel)
theorem is35 : isSliceT Try.prog 35 = true := by decide +kernel
theorem pl16 : plainFn Try.prog 16 = true := by decide +kernel
theorem pl17 : plainFn Try.prog 17 = true := by decide +kernel
theorem pl19 : plainFn Try.prog 19 = true := by decide +kernel
theorem pl20 : plainFn Try.prog 20 = true := by decide +kernel
theorem pl21 : plainFn Try.prog 21 = true := by decide +kernel
theorem pl24 : plainFn Try.prog 24 = true := by decide +kernel
theorem pl25 : plainFn Try.prog 25 = true := by decide +kernel
theorem pl31 : plainFn Try.prog 31 = true := by decide +kernel
theorem pl49 : plainFn Try.prog 49 = true := by decide +kernel
theorem slt35 : SlT Try.prog 35 4 ([.v (.int .i64 0)] ++ [.v (.int .i64 0)] ++ [.v (.slice none 0 0)] ++ [.v (.slice none 0 0)]) 64 := .of (e := 29) (by decide +kernel) (by kernel_rfl) rfl
/- pagemend/pagemendlaw35.draw -/
def law35_draw.l1  : Nat → Int → Remap → Codes → Option (Remap × Codes)
  | 0, _, _, _ => none
  | kk10 + 1, k7, bx8, bx9 => (if 0 < k7 then ((Codes_Next (w64 (bx8.pages + bx8.spares)) bx9).bind fun (x12 : (Int × Codes)) => ((ref35_Mark bx8 x12.1).bind fun (x13 : (Remap × Int × Int)) => (if x13.2.2 = 0 then law35_draw.l1 kk10 (w64 (k7 - 1)) x13.1 x12.2 else law35_draw.l1 kk10 (w64 (k7 - 1)) bx8 x12.2))) else some (bx8, bx9))
theorem law35_draw.l1_s  (kk10 : Nat) (k7 : Int) (bx8 : Remap) (bx9 : Codes) : law35_draw.l1 (kk10 + 1) k7 bx8 bx9 = (if 0 < k7 then ((Codes_Next (w64 (bx8.pages + bx8.spares)) bx9).bind fun (x12 : (Int × Codes)) => ((ref35_Mark bx8 x12.1).bind fun (x13 : (Remap × Int × Int)) => (if x13.2.2 = 0 then law35_draw.l1 kk10 (w64 (k7 - 1)) x13.1 x12.2 else law35_draw.l1 kk10 (w64 (k7 - 1)) bx8 x12.2))) else some (bx8, bx9)) := rfl
def law35_draw (c_ : Codes) : Option (Remap × Codes) := ((Codes_Next 6 c_).bind fun (x1 : (Int × Codes)) => ((Codes_Next 5 x1.2).bind fun (x2 : (Int × Codes)) => ((ref35_New (w64 (1 + x1.1)) x2.1).bind fun (x3 : (Remap × Int)) => ((Codes_Next 6 x2.2).bind fun (x4 : (Int × Codes)) => ((law35_draw.l1 FU x4.1 x3.1 x4.2).bind fun (s17 : (Remap × Codes)) => ((Codes_Next 10 s17.2).bind fun (x18 : (Int × Codes)) => (if x18.1 = 6 then ((Codes_Next 8 x18.2).bind fun (x20 : (Int × Codes)) => some ((⟨x20.1, s17.1.spares, s17.1.places, s17.1.bad⟩ : Remap), x20.2)) else (if x18.1 = 7 then (if s17.1.bad.length ≤ 17592186044416 then ((Codes_Next 12 x18.2).bind fun (x24 : (Int × Codes)) => (if (s17.1.bad).length + ([x24.1] : List Int).length ≤ 17592186044416 then some ((⟨s17.1.pages, s17.1.spares, s17.1.places, (s17.1.bad ++ ([x24.1] : List Int))⟩ : Remap), x24.2) else none)) else none) else (if x18.1 = 8 then (if s17.1.places.length ≤ 8796093022208 then ((Codes_Next 6 x18.2).bind fun (x29 : (Int × Codes)) => ((Codes_Next 12 x29.2).bind fun (x30 : (Int × Codes)) => (if (s17.1.places).length + ([(⟨x29.1, x30.1⟩ : Place)] : List Place).length ≤ 8796093022208 then some ((⟨s17.1.pages, s17.1.spares, (s17.1.places ++ ([(⟨x29.1, x30.1⟩ : Place)] : List Place)), s17.1.bad⟩ : Remap), x30.2) else none))) else none) else (if x18.1 = 9 then ((Codes_Int x18.2).bind fun (x34 : (Int × Codes)) => some ((⟨s17.1.pages, x34.1, s17.1.places, s17.1.bad⟩ : Remap), x34.2)) else some (s17.1, x18.2)))))))))))
theorem law35_draw.eq (c_ : Codes) : law35_draw c_ = ((Codes_Next 6 c_).bind fun (x1 : (Int × Codes)) => ((Codes_Next 5 x1.2).bind fun (x2 : (Int × Codes)) => ((ref35_New (w64 (1 + x1.1)) x2.1).bind fun (x3 : (Remap × Int)) => ((Codes_Next 6 x2.2).bind fun (x4 : (Int × Codes)) => ((law35_draw.l1 FU x4.1 x3.1 x4.2).bind fun (s17 : (Remap × Codes)) => ((Codes_Next 10 s17.2).bind fun (x18 : (Int × Codes)) => (if x18.1 = 6 then ((Codes_Next 8 x18.2).bind fun (x20 : (Int × Codes)) => some ((⟨x20.1, s17.1.spares, s17.1.places, s17.1.bad⟩ : Remap), x20.2)) else (if x18.1 = 7 then (if s17.1.bad.length ≤ 17592186044416 then ((Codes_Next 12 x18.2).bind fun (x24 : (Int × Codes)) => (if (s17.1.bad).length + ([x24.1] : List Int).length ≤ 17592186044416 then some ((⟨s17.1.pages, s17.1.spares, s17.1.places, (s17.1.bad ++ ([x24.1] : List Int))⟩ : Remap), x24.2) else none)) else none) else (if x18.1 = 8 then (if s17.1.places.length ≤ 8796093022208 then ((Codes_Next 6 x18.2).bind fun (x29 : (Int × Codes)) => ((Codes_Next 12 x29.2).bind fun (x30 : (Int × Codes)) => (if (s17.1.places).length + ([(⟨x29.1, x30.1⟩ : Place)] : List Place).length ≤ 8796093022208 then some ((⟨s17.1.pages, s17.1.spares, (s17.1.places ++ ([(⟨x29.1, x30.1⟩ : Place)] : List Place)), s17.1.bad⟩ : Remap), x30.2) else none))) else none) else (if x18.1 = 9 then ((Codes_Int x18.2).bind fun (x34 : (Int × Codes)) => some ((⟨s17.1.pages, x34.1, s17.1.places, s17.1.bad⟩ : Remap), x34.2)) else some (s17.1, x18.2))))))))))) := rfl
theorem law35_draw_ok {h : Heap} {c_ : Codes} {b_c_ : Nat} (hb_c_ : h[b_c_]? = some ⟨[.L 1 (c_.l_.map c_u8), I (c_.at_)], true, true⟩) {r : (Remap × Codes)} (hm : law35_draw c_ = some r) : FnOK Try.prog 21 [.o (.c (.ptr b_c_ 0))] h (fun v h' => v = .o (.agg [I (r.1.pages), I (r.1.spares), .L 2 (r.1.places.map Place.cs), .L 1 (r.1.bad.map cI)]) ∧ h' = h.set b_c_ ⟨[.L 1 (r.2.l_.map c_u8), I (r.2.at_)], true, true⟩) := by
  refine FnOK.fin ?_
  refine FnOK.bodyC (N := 76) Try.func21 rfl rfl rfl (fun hC => ?_)
  have hl_c_ := lt_of_get hb_c_
  rw [show h ++ [] = (h.set b_c_ ⟨[.L 1 (c_.l_.map c_u8), I (c_.at_)], true, true⟩) ++ ([] : Heap) from by rw [set_same hb_c_]]
  replace hm := Ev.of hm
  rw [law35_draw.eq] at hm
  show CdOK _ _ _ (look _ [(0, .o (.c (.ptr b_c_ 0)))]) ((h.set b_c_ ⟨[.L 1 (c_.l_.map c_u8), I (c_.at_)], true, true⟩) ++ ([] : Heap)) _
  refine CdOK.seq ?_
  refine CdOK.region ?_
  refine RgOK.s (v := .o (.c (.ptr (h.length + 0) 0))) rfl rfl rfl (e_allocN (L' := [⟨[I (0), I (0), .v (.slice none 0 0), .v (.slice none 0 0)], true, true⟩]) (List.length_set ..) zo29 rfl rfl) ?_
  refine RgOK.nil ?_
  show CdOK _ _ _ _ _ _
  refine CdOK.seq ?_
  refine CdOK.region ?_
  refine RgOK.s (v := .o (.c (.ptr b_c_ 0))) rfl rfl rfl (e_mv (ev_t rfl)) ?_
  obtain ⟨x1, e1, hm⟩ := hm.call
  refine RgOK.cl rfl rfl rfl rfl pl32 (R2.wk _) (Codes_Next_ok (b_c_ := b_c_) (pset hl_c_) e1) ?_
  rintro _ _ ⟨rfl, rfl⟩
  rw [show _ = (h.set b_c_ ⟨[.L 1 (x1.2.l_.map c_u8), I (x1.2.at_)], true, true⟩) ++ ([⟨[I (0), I (0), .v (.slice none 0 0), .v (.slice none 0 0)], true, true⟩] : Heap) from (pset2 hl_c_)]
  refine RgOK.s (v := VI ((w64 (1 + x1.1)))) rfl rfl rfl (e_bin rfl (ev_t rfl) rfl rfl) ?_
  refine RgOK.s (v := .o (.c (.ptr b_c_ 0))) rfl rfl rfl (e_mv (ev_t rfl)) ?_
  obtain ⟨x2, e2, hm⟩ := hm.call
  refine RgOK.cl rfl rfl rfl rfl pl32 (R2.wk _) (Codes_Next_ok (b_c_ := b_c_) (pset hl_c_) e2) ?_
  rintro _ _ ⟨rfl, rfl⟩
  rw [show _ = (h.set b_c_ ⟨[.L 1 (x2.2.l_.map c_u8), I (x2.2.at_)], true, true⟩) ++ ([⟨[I (0), I (0), .v (.slice none 0 0), .v (.slice none 0 0)], true, true⟩] : Heap) from (pset2 hl_c_)]
  obtain ⟨x3, e3, hm⟩ := hm.call
  refine RgOK.cl rfl rfl rfl rfl pl19 (R2.wk _) (ref35_New_ok   e3) ?_
  rintro _ _ ⟨rfl, rfl⟩
  refine RgOK.s (v := .tup [.agg [I (x3.1.pages), I (x3.1.spares), .L 2 (x3.1.places.map Place.cs), .L 1 (x3.1.bad.map cI)], .c (I (x3.2))]) rfl rfl rfl (e_mv (ev_t rfl)) ?_
  refine RgOK.s (v := .o (.agg [I (x3.1.pages), I (x3.1.spares), .L 2 (x3.1.places.map Place.cs), .L 1 (x3.1.bad.map cI)])) rfl rfl rfl (e_ext (ev_t rfl) rfl) ?_
  refine RgOK.s (v := VI (x3.2)) rfl rfl rfl (e_ext (ev_t rfl) rfl) ?_
  refine RgOK.s (v := .o (.c (.ptr (h.length + 1) 0))) rfl rfl rfl (e_allocN (L' := [⟨[I (0), I (0), .v (.slice none 0 0), .v (.slice none 0 0)], true, true⟩, ⟨[I (0), I (0), .v (.slice none 0 0), .v (.slice none 0 0)], true, true⟩]) (List.length_set ..) zo29 rfl rfl) ?_
  refine RgOK.s0 rfl rfl (e_stN (L' := [⟨[I (0), I (0), .v (.slice none 0 0), .v (.slice none 0 0)], true, true⟩, ⟨[I (x3.1.pages), I (x3.1.spares), .L 2 (x3.1.places.map Place.cs), .L 1 (x3.1.bad.map cI)], true, true⟩]) (List.length_set ..) (ev_t rfl) (ev_t rfl) ty29 rfl rfl rfl rfl rfl) ?_
  refine RgOK.s (v := VI (x3.2)) rfl rfl rfl (e_as (ev_t rfl)) ?_
  refine RgOK.nil ?_
  show CdOK _ _ _ _ _ _
  refine CdOK.seq ?_
  refine CdOK.seq ?_
  refine CdOK.region ?_
  refine RgOK.s (v := .o (.c (.ptr b_c_ 0))) rfl rfl rfl (e_mv (ev_t rfl)) ?_
  obtain ⟨x4, e4, hm⟩ := hm.call
  refine RgOK.cl rfl rfl rfl rfl pl32 (R2.wk _) (Codes_Next_ok (b_c_ := b_c_) (pset hl_c_) e4) ?_
  rintro _ _ ⟨rfl, rfl⟩
  rw [show _ = (h.set b_c_ ⟨[.L 1 (x4.2.l_.map c_u8), I (x4.2.at_)], true, true⟩) ++ ([⟨[I (0), I (0), .v (.slice none 0 0), .v (.slice none 0 0)], true, true⟩, ⟨[I (x3.1.pages), I (x3.1.spares), .L 2 (x3.1.places.map Place.cs), .L 1 (x3.1.bad.map cI)], true, true⟩] : Heap) from (pset2 hl_c_)]
  refine RgOK.s (v := VI (x4.1)) rfl rfl rfl (e_as (ev_t rfl)) ?_
  refine RgOK.nil ?_
  show CdOK _ _ _ _ _ _
  replace hm := hm.bnd
  refine CdOK.joinT (σ := (Remap × Codes)) (fun s => (s.1, s.2)) hm (fun s => [(0, .o (.c (.ptr b_c_ 0))), (2, .o (.c (.ptr (h.length + 0) 0))), (3, .o (.c (.ptr (h.length + 1) 0)))]) (fun s => (h.set b_c_ ⟨[.L 1 (s.2.l_.map c_u8), I (s.2.at_)], true, true⟩) ++ ([⟨[I (0), I (0), .v (.slice none 0 0), .v (.slice none 0 0)], true, true⟩, ⟨[I (s.1.pages), I (s.1.spares), .L 2 (s.1.places.map Place.cs), .L 1 (s.1.bad.map cI)], true, true⟩] : Heap)) ?_ ?_
  · intro hm
    refine CdOK.block ?_
    refine CdOK.loopE (σ := (Int × Remap × Codes)) (fun k s => Ev (law35_draw.l1 k s.1 s.2.1 s.2.2) _) (fun s => [(0, .o (.c (.ptr b_c_ 0))), (2, .o (.c (.ptr (h.length + 0) 0))), (3, .o (.c (.ptr (h.length + 1) 0))), (5, VI (s.1))]) (fun s => (h.set b_c_ ⟨[.L 1 (s.2.2.l_.map c_u8), I (s.2.2.at_)], true, true⟩) ++ ([⟨[I (0), I (0), .v (.slice none 0 0), .v (.slice none 0 0)], true, true⟩, ⟨[I (s.2.1.pages), I (s.2.1.spares), .L 2 (s.2.1.places.map Place.cs), .L 1 (s.2.1.bad.map cI)], true, true⟩] : Heap)) FU (x4.1, x3.1, x4.2) hm (.cons rfl (.cons rfl (.cons rfl (.cons rfl .nil)))) rfl ?_
    rintro kk10 ⟨k7, bx8, bx9⟩ T0 hm
    replace hm : Ev (law35_draw.l1 kk10 k7 bx8 bx9) _ := hm
    cases kk10 with
    | zero => exact (Ev.non hm).elim
    | succ kk10 =>
    rw [law35_draw.l1_s] at hm
    show CdOK _ _ _ (look T0 [(0, .o (.c (.ptr b_c_ 0))), (2, .o (.c (.ptr (h.length + 0) 0))), (3, .o (.c (.ptr (h.length + 1) 0))), (5, VI (k7))]) ((h.set b_c_ ⟨[.L 1 (bx9.l_.map c_u8), I (bx9.at_)], true, true⟩) ++ ([⟨[I (0), I (0), .v (.slice none 0 0), .v (.slice none 0 0)], true, true⟩, ⟨[I (bx8.pages), I (bx8.spares), .L 2 (bx8.places.map Place.cs), .L 1 (bx8.bad.map cI)], true, true⟩] : Heap)) _
    refine CdOK.seq ?_
    refine CdOK.seq ?_
    refine CdOK.region ?_
    refine RgOK.s (v := VI (k7)) rfl rfl rfl (e_mv (ev_t rfl)) ?_
    refine RgOK.s (v := VB (decide (0 < k7))) rfl rfl rfl (e_bin (ev_t rfl) rfl rfl rfl) ?_
    refine RgOK.nil ?_
    show CdOK _ _ _ _ _ _
    refine CdOK.condD (ev_t rfl) ?_ ?_
    · intro c11; replace hm := hm.ifp c11
      refine CdOK.skip ?_
      show CdOK _ _ _ _ _ _
      refine CdOK.seq ?_
      refine CdOK.block ?_
      refine CdOK.seq ?_
      refine CdOK.draw2 (ord := [0, 1, 2, 3, 4, 5, 6, 7, 8, 9, 10, 11, 12, 13, 14, 15, 16]) (chain := [7, 13, 14]) fol (by decide +kernel) (by decide +kernel) ?_
      refine Dr2.f (v := .o (.agg [I (bx8.pages), I (bx8.spares), .L 2 (bx8.places.map Place.cs), .L 1 (bx8.bad.map cI)])) rfl rfl rfl rfl rfl rfl (e_ldbA (ev_t rfl) ty29 (bx (List.length_set ..) rfl) rfl rfl) ?_
      refine Dr2.s (v := .o (.c (.ptr b_c_ 0))) rfl rfl rfl rfl rfl rfl (e_mv (ev_t rfl)) ?_
      refine Dr2.s (v := .o (.c (.ptr (h.length + 1) 0))) rfl rfl rfl rfl rfl rfl (e_fa' fa29_0 (ev_t rfl)) ?_
      refine Dr2.f (v := VI (bx8.pages)) rfl rfl rfl rfl rfl rfl (e_ldb1 (ev_t rfl) ty3 (bx (List.length_set ..) rfl) rfl) ?_
      refine Dr2.s (v := .o (.c (.ptr (h.length + 1) 1))) rfl rfl rfl rfl rfl rfl (e_fa' fa29_1 (ev_t rfl)) ?_
      refine Dr2.f (v := VI (bx8.spares)) rfl rfl rfl rfl rfl rfl (e_ldb1 (ev_t rfl) ty3 (bx (List.length_set ..) rfl) rfl) ?_
      refine Dr2.s (v := VI ((w64 (bx8.pages + bx8.spares)))) rfl rfl rfl rfl rfl rfl (e_bin (ev_t rfl) (ev_t rfl) rfl rfl) ?_
      obtain ⟨x12, e12, hm⟩ := hm.call
      refine Dr2.cl rfl rfl rfl rfl rfl rfl pl32 (R2.wk _) (Codes_Next_ok (b_c_ := b_c_) (pset hl_c_) e12) ?_
      rintro _ _ ⟨rfl, rfl⟩
      rw [show _ = (h.set b_c_ ⟨[.L 1 (x12.2.l_.map c_u8), I (x12.2.at_)], true, true⟩) ++ ([⟨[I (0), I (0), .v (.slice none 0 0), .v (.slice none 0 0)], true, true⟩, ⟨[I (bx8.pages), I (bx8.spares), .L 2 (bx8.places.map Place.cs), .L 1 (bx8.bad.map cI)], true, true⟩] : Heap) from (pset2 hl_c_)]
      refine ⟨(.m (by decide +kernel) (.m (by decide +kernel) (.e rfl rfl (e_ldbA (ev_t rfl) ty29 (bx (List.length_set ..) rfl) rfl rfl) .nil))), ?_⟩
      obtain ⟨x13, e13, hm⟩ := hm.call
      refine Dr2.fc (v := .tup [.agg [I (x13.1.pages), I (x13.1.spares), .L 2 (x13.1.places.map Place.cs), .L 1 (x13.1.bad.map cI)], .c (I (x13.2.1)), .c (I (x13.2.2))]) rfl rfl rfl rfl rfl rfl rfl pl31 (R2.wk _) (ref35_Mark_ok   e13) ?_
      refine Dr2.s (v := .tup [.agg [I (x13.1.pages), I (x13.1.spares), .L 2 (x13.1.places.map Place.cs), .L 1 (x13.1.bad.map cI)], .c (I (x13.2.1)), .c (I (x13.2.2))]) rfl rfl rfl rfl rfl rfl (e_mv (ev_t rfl)) ?_
      refine Dr2.s (v := .o (.agg [I (x13.1.pages), I (x13.1.spares), .L 2 (x13.1.places.map Place.cs), .L 1 (x13.1.bad.map cI)])) rfl rfl rfl rfl rfl rfl (e_ext (ev_t rfl) rfl) ?_
      refine Dr2.s (v := VI (x13.2.1)) rfl rfl rfl rfl rfl rfl (e_ext (ev_t rfl) rfl) ?_
      refine Dr2.s (v := VI (x13.2.2)) rfl rfl rfl rfl rfl rfl (e_ext (ev_t rfl) rfl) ?_
      refine Dr2.c (v := .o (.c (.ptr (h.length + 2) 0))) rfl rfl rfl rfl rfl (e_allocN (L' := [⟨[I (0), I (0), .v (.slice none 0 0), .v (.slice none 0 0)], true, true⟩, ⟨[I (bx8.pages), I (bx8.spares), .L 2 (bx8.places.map Place.cs), .L 1 (bx8.bad.map cI)], true, true⟩, ⟨[I (0), I (0), .v (.slice none 0 0), .v (.slice none 0 0)], true, true⟩]) (List.length_set ..) zo29 rfl rfl) (.c rfl rfl rfl pl31 (R2.wk _) (ref35_Mark_ok   e13) (.e rfl rfl (e_ldb1 (ev_t rfl) ty3 (bx (List.length_set ..) rfl) rfl) (.e rfl rfl (e_ldb1 (ev_t rfl) ty3 (bx (List.length_set ..) rfl) rfl) (.e rfl rfl (e_ldbA (ev_t rfl) ty29 (bx (List.length_set ..) rfl) rfl rfl) .nil)))) ?_
      refine Dr2.c0 rfl rfl rfl rfl (e_stN (L' := [⟨[I (0), I (0), .v (.slice none 0 0), .v (.slice none 0 0)], true, true⟩, ⟨[I (bx8.pages), I (bx8.spares), .L 2 (bx8.places.map Place.cs), .L 1 (bx8.bad.map cI)], true, true⟩, ⟨[I (x13.1.pages), I (x13.1.spares), .L 2 (x13.1.places.map Place.cs), .L 1 (x13.1.bad.map cI)], true, true⟩]) (List.length_set ..) (ev_t rfl) (ev_t rfl) ty29 rfl rfl rfl rfl rfl) (.m (by decide +kernel) (.m (by decide +kernel) (.m (by decide +kernel) (.m (by decide +kernel) .nil)))) ?_
      refine Dr2.s (v := VI (x13.2.1)) rfl rfl rfl rfl rfl rfl (e_as (ev_t rfl)) ?_
      refine Dr2.s (v := VI (x13.2.2)) rfl rfl rfl rfl rfl rfl (e_as (ev_t rfl)) ?_
      refine Dr2.nil ?_
      show CdOK _ _ _ _ _ _
      refine CdOK.seq ?_
      refine CdOK.region ?_
      refine RgOK.s (v := VI (x13.2.2)) rfl rfl rfl (e_mv (ev_t rfl)) ?_
      refine RgOK.s (v := VB (decide (x13.2.2 = 0))) rfl rfl rfl (e_eqK (ev_t rfl) rfl) ?_
      refine RgOK.nil ?_
      show CdOK _ _ _ _ _ _
      refine CdOK.condD (ev_t rfl) ?_ ?_
      · intro c14; replace hm := hm.ifp c14
        refine CdOK.region ?_
        refine RgOK.s (v := .o (.agg [I (x13.1.pages), I (x13.1.spares), .L 2 (x13.1.places.map Place.cs), .L 1 (x13.1.bad.map cI)])) rfl rfl rfl (e_ldbA (ev_t rfl) ty29 (bx (List.length_set ..) rfl) rfl rfl) ?_
        refine RgOK.s0 rfl rfl (e_stN (L' := [⟨[I (0), I (0), .v (.slice none 0 0), .v (.slice none 0 0)], true, true⟩, ⟨[I (x13.1.pages), I (x13.1.spares), .L 2 (x13.1.places.map Place.cs), .L 1 (x13.1.bad.map cI)], true, true⟩, ⟨[I (x13.1.pages), I (x13.1.spares), .L 2 (x13.1.places.map Place.cs), .L 1 (x13.1.bad.map cI)], true, true⟩]) (List.length_set ..) (ev_t rfl) (ev_t rfl) ty29 rfl rfl rfl rfl rfl) ?_
        refine RgOK.nil ?_
        show CdOK _ _ _ _ _ _
        refine CdOK.region ?_
        refine RgOK.s (v := VI (k7)) rfl rfl rfl (e_mv (ev_t rfl)) ?_
        refine RgOK.s (v := VI ((w64 (k7 - 1)))) rfl rfl rfl (e_bin (ev_t rfl) rfl rfl rfl) ?_
        refine RgOK.s (v := VI ((w64 (k7 - 1)))) rfl rfl rfl (e_as (ev_t rfl)) ?_
        refine RgOK.nil ?_
        refine Told.re (σ := [0, 1]) (X := [(0, .o (.c (.ptr b_c_ 0))), (2, .o (.c (.ptr (h.length + 0) 0))), (3, .o (.c (.ptr (h.length + 1) 0))), (5, VI ((w64 (k7 - 1))))]) (L' := [⟨[I (0), I (0), .v (.slice none 0 0), .v (.slice none 0 0)], true, true⟩, ⟨[I (x13.1.pages), I (x13.1.spares), .L 2 (x13.1.places.map Place.cs), .L 1 (x13.1.bad.map cI)], true, true⟩]) (List.length_set ..) rfl (hC.set rfl) (by decide) (.obj 0 rfl (renFl rfl) (.obj 1 rfl (renFl rfl) .nil)) (.cons (.o (.c (.lo _ hl_c_))) (.cons (.o (.c (.ptr 0 0 _ rfl))) (.cons (.o (.c (.ptr 1 1 _ rfl))) (.cons (renFlV rfl) .nil)))) ?_
        exact ⟨_, ((w64 (k7 - 1)), x13.1, x12.2), Nat.lt_succ_self _, hm, (.cons rfl (.cons rfl (.cons rfl (.cons rfl .nil)))), rfl⟩
      · intro c15; replace hm := hm.ifn c15
        refine CdOK.skip ?_
        show CdOK _ _ _ _ _ _
        refine CdOK.region ?_
        refine RgOK.s (v := VI (k7)) rfl rfl rfl (e_mv (ev_t rfl)) ?_
        refine RgOK.s (v := VI ((w64 (k7 - 1)))) rfl rfl rfl (e_bin (ev_t rfl) rfl rfl rfl) ?_
        refine RgOK.s (v := VI ((w64 (k7 - 1)))) rfl rfl rfl (e_as (ev_t rfl)) ?_
        refine RgOK.nil ?_
        refine Told.re (σ := [0, 1]) (X := [(0, .o (.c (.ptr b_c_ 0))), (2, .o (.c (.ptr (h.length + 0) 0))), (3, .o (.c (.ptr (h.length + 1) 0))), (5, VI ((w64 (k7 - 1))))]) (L' := [⟨[I (0), I (0), .v (.slice none 0 0), .v (.slice none 0 0)], true, true⟩, ⟨[I (bx8.pages), I (bx8.spares), .L 2 (bx8.places.map Place.cs), .L 1 (bx8.bad.map cI)], true, true⟩]) (List.length_set ..) rfl (hC.set rfl) (by decide) (.obj 0 rfl (renFl rfl) (.obj 1 rfl (renFl rfl) .nil)) (.cons (.o (.c (.lo _ hl_c_))) (.cons (.o (.c (.ptr 0 0 _ rfl))) (.cons (.o (.c (.ptr 1 1 _ rfl))) (.cons (renFlV rfl) .nil)))) ?_
        exact ⟨_, ((w64 (k7 - 1)), bx8, x12.2), Nat.lt_succ_self _, hm, (.cons rfl (.cons rfl (.cons rfl (.cons rfl .nil)))), rfl⟩
    · intro c16; replace hm := hm.ifn c16
      refine CdOK.exit ?_
      refine Told.id ?_
      exact ⟨(bx8, bx9), hm.ret, (.cons rfl (.cons rfl (.cons rfl .nil))), rfl⟩
  · rintro ⟨bx5, bx6⟩ T0 hm
    show CdOK _ _ _ _ _ _
    refine CdOK.seq ?_
    refine CdOK.seq ?_
    refine CdOK.region ?_
    refine RgOK.s (v := .o (.c (.ptr b_c_ 0))) rfl rfl rfl (e_mv (ev_t rfl)) ?_
    obtain ⟨x18, e18, hm⟩ := hm.call
    refine RgOK.cl rfl rfl rfl rfl pl32 (R2.wk _) (Codes_Next_ok (b_c_ := b_c_) (pset hl_c_) e18) ?_
    rintro _ _ ⟨rfl, rfl⟩
    rw [show _ = (h.set b_c_ ⟨[.L 1 (x18.2.l_.map c_u8), I (x18.2.at_)], true, true⟩) ++ ([⟨[I (0), I (0), .v (.slice none 0 0), .v (.slice none 0 0)], true, true⟩, ⟨[I (bx5.pages), I (bx5.spares), .L 2 (bx5.places.map Place.cs), .L 1 (bx5.bad.map cI)], true, true⟩] : Heap) from (pset2 hl_c_)]
    refine RgOK.nil ?_
    show CdOK _ _ _ _ _ _
    refine CdOK.block ?_
    refine CdOK.seq ?_
    refine CdOK.region ?_
    refine RgOK.s (v := VB (decide (x18.1 = 6))) rfl rfl rfl (e_eqK (ev_t rfl) rfl) ?_
    refine RgOK.s (v := VB (decide (x18.1 = 6))) rfl rfl rfl (e_as (ev_t rfl)) ?_
    refine RgOK.nil ?_
    show CdOK _ _ _ _ _ _
    refine CdOK.condD (ev_t rfl) ?_ ?_
    · intro c19; replace hm := hm.ifp c19
      refine CdOK.region ?_
      refine RgOK.s (v := .o (.c (.ptr b_c_ 0))) rfl rfl rfl (e_mv (ev_t rfl)) ?_
      obtain ⟨x20, e20, hm⟩ := hm.call
      refine RgOK.cl rfl rfl rfl rfl pl32 (R2.wk _) (Codes_Next_ok (b_c_ := b_c_) (pset hl_c_) e20) ?_
      rintro _ _ ⟨rfl, rfl⟩
      rw [show _ = (h.set b_c_ ⟨[.L 1 (x20.2.l_.map c_u8), I (x20.2.at_)], true, true⟩) ++ ([⟨[I (0), I (0), .v (.slice none 0 0), .v (.slice none 0 0)], true, true⟩, ⟨[I (bx5.pages), I (bx5.spares), .L 2 (bx5.places.map Place.cs), .L 1 (bx5.bad.map cI)], true, true⟩] : Heap) from (pset2 hl_c_)]
      refine RgOK.s (v := .o (.c (.ptr (h.length + 1) 0))) rfl rfl rfl (e_fa' fa29_0 (ev_t rfl)) ?_
      refine RgOK.s0 rfl rfl (e_stN (L' := [⟨[I (0), I (0), .v (.slice none 0 0), .v (.slice none 0 0)], true, true⟩, ⟨[I (x20.1), I (bx5.spares), .L 2 (bx5.places.map Place.cs), .L 1 (bx5.bad.map cI)], true, true⟩]) (List.length_set ..) (ev_t rfl) (ev_t rfl) ty3 rfl rfl rfl rfl rfl) ?_
      refine RgOK.nil ?_
      show CdOK _ _ _ _ _ _
      refine CdOK.seq ?_
      refine CdOK.region ?_
      refine RgOK.s (v := .o (.agg [I (x20.1), I (bx5.spares), .L 2 (bx5.places.map Place.cs), .L 1 (bx5.bad.map cI)])) rfl rfl rfl (e_ldbA (ev_t rfl) ty29 (bx (List.length_set ..) rfl) rfl rfl) ?_
      refine RgOK.s0 rfl rfl (e_stN (L' := [⟨[I (x20.1), I (bx5.spares), .L 2 (bx5.places.map Place.cs), .L 1 (bx5.bad.map cI)], true, true⟩, ⟨[I (x20.1), I (bx5.spares), .L 2 (bx5.places.map Place.cs), .L 1 (bx5.bad.map cI)], true, true⟩]) (List.length_set ..) (ev_t rfl) (ev_t rfl) ty29 rfl rfl rfl rfl rfl) ?_
      refine RgOK.nil ?_
      show CdOK _ _ _ _ _ _
      refine CdOK.ret ?_
      refine ⟨.inr rfl, _, (resA_c (look_find rfl) (eLoad_A ty29 (bx (List.length_set ..) rfl) rfl rfl rfl) resA_n), (h.set b_c_ ⟨[.L 1 (x20.2.l_.map c_u8), I (x20.2.at_)], true, true⟩), [⟨[I (x20.1), I (bx5.spares), .L 2 (bx5.places.map Place.cs), .L 1 (bx5.bad.map cI)], true, true⟩, ⟨[I (x20.1), I (bx5.spares), .L 2 (bx5.places.map Place.cs), .L 1 (bx5.bad.map cI)], true, true⟩], _, rfl, (List.length_set ..), (hC.set rfl), ((renFlV rfl) : RenV _ _ _ _ (.o (.agg [I (x20.1), I (bx5.spares), .L 2 (bx5.places.map Place.cs), .L 1 (bx5.bad.map cI)]))), ?_⟩
      have hr := hm.ret
      subst hr
      exact ⟨rfl, rfl⟩
    · intro c21; replace hm := hm.ifn c21
      refine CdOK.seq ?_
      refine CdOK.region ?_
      refine RgOK.s (v := VB (decide (x18.1 = 7))) rfl rfl rfl (e_eqK (ev_t rfl) rfl) ?_
      refine RgOK.s (v := VB (decide (x18.1 = 7))) rfl rfl rfl (e_as (ev_t rfl)) ?_
      refine RgOK.nil ?_
      show CdOK _ _ _ _ _ _
      refine CdOK.condD (ev_t rfl) ?_ ?_
      · intro c22; replace hm := hm.ifp c22
        refine CdOK.region ?_
        refine RgOK.s (v := .o (.c (.ptr (h.length + 1) 3))) rfl rfl rfl (e_fa' fa29_3 (ev_t rfl)) ?_
        refine RgOK.s (v := .o (.c (.L 1 (bx5.bad.map cI)))) rfl rfl rfl (e_ldb1 (ev_t rfl) ty27 (bx (List.length_set ..) rfl) rfl) ?_
        obtain ⟨c23, hm⟩ := hm.ifs
        refine RgOK.s (v := .o (.c (.g (h.length + 2) ((bx5.bad).length) 1 (decide (0 < bx5.bad.length))))) rfl rfl rfl (e_apN (k := 1) (q := 17592186044416) (m := bx5.bad.length) (lv := (decide (0 < bx5.bad.length))) (f := cI) (xs := bx5.bad) (L' := [⟨[I (0), I (0), .v (.slice none 0 0), .v (.slice none 0 0)], true, true⟩, ⟨[I (bx5.pages), I (bx5.spares), .L 2 (bx5.places.map Place.cs), .L 1 (bx5.bad.map cI)], true, true⟩, ⟨(bx5.bad.map cI).flatten, true, (decide (0 < bx5.bad.length))⟩]) slt27 (List.length_set ..) rfl (ev_t rfl) src_L c23 rfl rfl rfl rfl) ?_
        refine RgOK.s (v := .o (.c (.ptr b_c_ 0))) rfl rfl rfl (e_mv (ev_t rfl)) ?_
        obtain ⟨x24, e24, hm⟩ := hm.call
        refine RgOK.cl rfl rfl rfl rfl pl32 (R2.wk _) (Codes_Next_ok (b_c_ := b_c_) (pset hl_c_) e24) ?_
        rintro _ _ ⟨rfl, rfl⟩
        rw [show _ = (h.set b_c_ ⟨[.L 1 (x24.2.l_.map c_u8), I (x24.2.at_)], true, true⟩) ++ ([⟨[I (0), I (0), .v (.slice none 0 0), .v (.slice none 0 0)], true, true⟩, ⟨[I (bx5.pages), I (bx5.spares), .L 2 (bx5.places.map Place.cs), .L 1 (bx5.bad.map cI)], true, true⟩, ⟨(bx5.bad.map cI).flatten, true, (decide (0 < bx5.bad.length))⟩] : Heap) from (pset2 hl_c_)]
        refine RgOK.s (v := .o (.c (.LC 1 (([x24.1] : List Int).map cI)))) rfl rfl rfl (e_lit (cs := [I (x24.1)]) (xs := ([x24.1]).map cI) slt27 rfl rfl rfl rfl rfl) ?_
        obtain ⟨c25, hm⟩ := hm.ifs
        refine RgOK.s (v := .o (.c (.g (h.length + 3) (((bx5.bad ++ ([x24.1] : List Int))).length) 1 ((decide (0 < bx5.bad.length)) || decide (0 < ([x24.1] : List Int).length))))) rfl rfl rfl (e_apG (k := 1) (q := 17592186044416) (m := ([x24.1] : List Int).length) (j := 2) (f := cI) (xs := bx5.bad) (ys := ([x24.1] : List Int)) (L' := [⟨[I (0), I (0), .v (.slice none 0 0), .v (.slice none 0 0)], true, true⟩, ⟨[I (bx5.pages), I (bx5.spares), .L 2 (bx5.places.map Place.cs), .L 1 (bx5.bad.map cI)], true, true⟩, ⟨(bx5.bad.map cI).flatten, true, false⟩, ⟨((bx5.bad ++ ([x24.1] : List Int)).map cI).flatten, true, ((decide (0 < bx5.bad.length)) || decide (0 < ([x24.1] : List Int).length))⟩]) slt27 (List.length_set ..) (ev_t rfl) (ev_t rfl) (bx (List.length_set ..) rfl) (by intro x; rfl) src_LC rfl c25 rfl (by first | rfl | simp) rfl rfl) ?_
        refine RgOK.s (v := .o (.c (.ptr (h.length + 1) 3))) rfl rfl rfl (e_fa' fa29_3 (ev_t rfl)) ?_
        refine RgOK.s0 rfl rfl (e_stN (L' := [⟨[I (0), I (0), .v (.slice none 0 0), .v (.slice none 0 0)], true, true⟩, ⟨[I (bx5.pages), I (bx5.spares), .L 2 (bx5.places.map Place.cs), .g (h.length + 3) (((bx5.bad ++ ([x24.1] : List Int))).length) 1 ((decide (0 < bx5.bad.length)) || decide (0 < ([x24.1] : List Int).length))], true, true⟩, ⟨(bx5.bad.map cI).flatten, true, false⟩, ⟨((bx5.bad ++ ([x24.1] : List Int)).map cI).flatten, true, ((decide (0 < bx5.bad.length)) || decide (0 < ([x24.1] : List Int).length))⟩]) (List.length_set ..) (ev_t rfl) (ev_t rfl) ty27 rfl rfl rfl rfl rfl) ?_
        refine RgOK.nil ?_
        show CdOK _ _ _ _ _ _
        refine CdOK.seq ?_
        refine CdOK.region ?_
        refine RgOK.s (v := .o (.agg [I (bx5.pages), I (bx5.spares), .L 2 (bx5.places.map Place.cs), .g (h.length + 3) (((bx5.bad ++ ([x24.1] : List Int))).length) 1 ((decide (0 < bx5.bad.length)) || decide (0 < ([x24.1] : List Int).length))])) rfl rfl rfl (e_ldbA (ev_t rfl) ty29 (bx (List.length_set ..) rfl) rfl rfl) ?_
        refine RgOK.s0 rfl rfl (e_stN (L' := [⟨[I (bx5.pages), I (bx5.spares), .L 2 (bx5.places.map Place.cs), .g (h.length + 3) (((bx5.bad ++ ([x24.1] : List Int))).length) 1 ((decide (0 < bx5.bad.length)) || decide (0 < ([x24.1] : List Int).length))], true, true⟩, ⟨[I (bx5.pages), I (bx5.spares), .L 2 (bx5.places.map Place.cs), .g (h.length + 3) (((bx5.bad ++ ([x24.1] : List Int))).length) 1 ((decide (0 < bx5.bad.length)) || decide (0 < ([x24.1] : List Int).length))], true, true⟩, ⟨(bx5.bad.map cI).flatten, true, false⟩, ⟨((bx5.bad ++ ([x24.1] : List Int)).map cI).flatten, true, ((decide (0 < bx5.bad.length)) || decide (0 < ([x24.1] : List Int).length))⟩]) (List.length_set ..) (ev_t rfl) (ev_t rfl) ty29 rfl rfl rfl rfl rfl) ?_
        refine RgOK.nil ?_
        show CdOK _ _ _ _ _ _
        refine CdOK.ret ?_
        refine ⟨.inr rfl, _, (resA_c (look_find rfl) (eLoad_A ty29 (bx (List.length_set ..) rfl) rfl rfl rfl) resA_n), (h.set b_c_ ⟨[.L 1 (x24.2.l_.map c_u8), I (x24.2.at_)], true, true⟩), [⟨[I (bx5.pages), I (bx5.spares), .L 2 (bx5.places.map Place.cs), .g (h.length + 3) (((bx5.bad ++ ([x24.1] : List Int))).length) 1 ((decide (0 < bx5.bad.length)) || decide (0 < ([x24.1] : List Int).length))], true, true⟩, ⟨[I (bx5.pages), I (bx5.spares), .L 2 (bx5.places.map Place.cs), .g (h.length + 3) (((bx5.bad ++ ([x24.1] : List Int))).length) 1 ((decide (0 < bx5.bad.length)) || decide (0 < ([x24.1] : List Int).length))], true, true⟩, ⟨(bx5.bad.map cI).flatten, true, false⟩, ⟨((bx5.bad ++ ([x24.1] : List Int)).map cI).flatten, true, ((decide (0 < bx5.bad.length)) || decide (0 < ([x24.1] : List Int).length))⟩], _, rfl, (List.length_set ..), (hC.set rfl), ((.o (.agg (R2.of (.fl _ rfl) (R2.of (.fl _ rfl) (R2.of (.fl _ rfl) (R2.of (.fzg 3 _ 1 _ ((bx5.bad ++ ([x24.1] : List Int)).map cI) rfl (by decide) (by first | exact List.length_map .. | simp) (lens_all (by intro x; rfl)) (vl_all (by intro x; rfl))) (R2.nil _))))))) : RenV _ _ _ _ (.o (.agg [I (bx5.pages), I (bx5.spares), .L 2 (bx5.places.map Place.cs), .L 1 ((bx5.bad ++ ([x24.1] : List Int)).map cI)]))), ?_⟩
        have hr := hm.ret
        subst hr
        exact ⟨rfl, rfl⟩
      · intro c26; replace hm := hm.ifn c26
        refine CdOK.seq ?_
        refine CdOK.region ?_
        refine RgOK.s (v := VB (decide (x18.1 = 8))) rfl rfl rfl (e_eqK (ev_t rfl) rfl) ?_
        refine RgOK.s (v := VB (decide (x18.1 = 8))) rfl rfl rfl (e_as (ev_t rfl)) ?_
        refine RgOK.nil ?_
        show CdOK _ _ _ _ _ _
        refine CdOK.condD (ev_t rfl) ?_ ?_
        · intro c27; replace hm := hm.ifp c27
          refine CdOK.region ?_
          refine RgOK.s (v := .o (.c (.ptr (h.length + 1) 2))) rfl rfl rfl (e_fa' fa29_2 (ev_t rfl)) ?_
          refine RgOK.s (v := .o (.c (.L 2 (bx5.places.map Place.cs)))) rfl rfl rfl (e_ldb1 (ev_t rfl) ty26 (bx (List.length_set ..) rfl) rfl) ?_
          obtain ⟨c28, hm⟩ := hm.ifs
          refine RgOK.s (v := .o (.c (.g (h.length + 2) ((bx5.places).length) 2 (decide (0 < bx5.places.length))))) rfl rfl rfl (e_apN (k := 2) (q := 8796093022208) (m := bx5.places.length) (lv := (decide (0 < bx5.places.length))) (f := Place.cs) (xs := bx5.places) (L' := [⟨[I (0), I (0), .v (.slice none 0 0), .v (.slice none 0 0)], true, true⟩, ⟨[I (bx5.pages), I (bx5.spares), .L 2 (bx5.places.map Place.cs), .L 1 (bx5.bad.map cI)], true, true⟩, ⟨(bx5.places.map Place.cs).flatten, true, (decide (0 < bx5.places.length))⟩]) slt26 (List.length_set ..) rfl (ev_t rfl) src_L c28 rfl rfl rfl rfl) ?_
          refine RgOK.s (v := .o (.c (.ptr b_c_ 0))) rfl rfl rfl (e_mv (ev_t rfl)) ?_
          obtain ⟨x29, e29, hm⟩ := hm.call
          refine RgOK.cl rfl rfl rfl rfl pl32 (R2.wk _) (Codes_Next_ok (b_c_ := b_c_) (pset hl_c_) e29) ?_
          rintro _ _ ⟨rfl, rfl⟩
          rw [show _ = (h.set b_c_ ⟨[.L 1 (x29.2.l_.map c_u8), I (x29.2.at_)], true, true⟩) ++ ([⟨[I (0), I (0), .v (.slice none 0 0), .v (.slice none 0 0)], true, true⟩, ⟨[I (bx5.pages), I (bx5.spares), .L 2 (bx5.places.map Place.cs), .L 1 (bx5.bad.map cI)], true, true⟩, ⟨(bx5.places.map Place.cs).flatten, true, (decide (0 < bx5.places.length))⟩] : Heap) from (pset2 hl_c_)]
          refine RgOK.s (v := .o (.c (.ptr b_c_ 0))) rfl rfl rfl (e_mv (ev_t rfl)) ?_
          obtain ⟨x30, e30, hm⟩ := hm.call
          refine RgOK.cl rfl rfl rfl rfl pl32 (R2.wk _) (Codes_Next_ok (b_c_ := b_c_) (pset hl_c_) e30) ?_
          rintro _ _ ⟨rfl, rfl⟩
          rw [show _ = (h.set b_c_ ⟨[.L 1 (x30.2.l_.map c_u8), I (x30.2.at_)], true, true⟩) ++ ([⟨[I (0), I (0), .v (.slice none 0 0), .v (.slice none 0 0)], true, true⟩, ⟨[I (bx5.pages), I (bx5.spares), .L 2 (bx5.places.map Place.cs), .L 1 (bx5.bad.map cI)], true, true⟩, ⟨(bx5.places.map Place.cs).flatten, true, (decide (0 < bx5.places.length))⟩] : Heap) from (pset2 hl_c_)]
          refine RgOK.s (v := .o (.agg [I (x29.1), I (x30.1)])) rfl rfl rfl (e_bld (cs := [I (x29.1), I (x30.1)]) zo117 bl117 rfl rfl) ?_
          refine RgOK.s (v := .o (.c (.LC 2 (([(⟨x29.1, x30.1⟩ : Place)] : List Place).map Place.cs)))) rfl rfl rfl (e_lit (cs := [I (x29.1), I (x30.1)]) (xs := ([(⟨x29.1, x30.1⟩ : Place)]).map Place.cs) slt26 rfl rfl rfl rfl rfl) ?_
          obtain ⟨c31, hm⟩ := hm.ifs
          refine RgOK.s (v := .o (.c (.g (h.length + 3) (((bx5.places ++ ([(⟨x29.1, x30.1⟩ : Place)] : List Place))).length) 2 ((decide (0 < bx5.places.length)) || decide (0 < ([(⟨x29.1, x30.1⟩ : Place)] : List Place).length))))) rfl rfl rfl (e_apG (k := 2) (q := 8796093022208) (m := ([(⟨x29.1, x30.1⟩ : Place)] : List Place).length) (j := 2) (f := Place.cs) (xs := bx5.places) (ys := ([(⟨x29.1, x30.1⟩ : Place)] : List Place)) (L' := [⟨[I (0), I (0), .v (.slice none 0 0), .v (.slice none 0 0)], true, true⟩, ⟨[I (bx5.pages), I (bx5.spares), .L 2 (bx5.places.map Place.cs), .L 1 (bx5.bad.map cI)], true, true⟩, ⟨(bx5.places.map Place.cs).flatten, true, false⟩, ⟨((bx5.places ++ ([(⟨x29.1, x30.1⟩ : Place)] : List Place)).map Place.cs).flatten, true, ((decide (0 < bx5.places.length)) || decide (0 < ([(⟨x29.1, x30.1⟩ : Place)] : List Place).length))⟩]) slt26 (List.length_set ..) (ev_t rfl) (ev_t rfl) (bx (List.length_set ..) rfl) (by intro x; rfl) src_LC rfl c31 rfl (by first | rfl | simp) rfl rfl) ?_
          refine RgOK.s (v := .o (.c (.ptr (h.length + 1) 2))) rfl rfl rfl (e_fa' fa29_2 (ev_t rfl)) ?_
          refine RgOK.s0 rfl rfl (e_stN (L' := [⟨[I (0), I (0), .v (.slice none 0 0), .v (.slice none 0 0)], true, true⟩, ⟨[I (bx5.pages), I (bx5.spares), .g (h.length + 3) (((bx5.places ++ ([(⟨x29.1, x30.1⟩ : Place)] : List Place))).length) 2 ((decide (0 < bx5.places.length)) || decide (0 < ([(⟨x29.1, x30.1⟩ : Place)] : List Place).length)), .L 1 (bx5.bad.map cI)], true, true⟩, ⟨(bx5.places.map Place.cs).flatten, true, false⟩, ⟨((bx5.places ++ ([(⟨x29.1, x30.1⟩ : Place)] : List Place)).map Place.cs).flatten, true, ((decide (0 < bx5.places.length)) || decide (0 < ([(⟨x29.1, x30.1⟩ : Place)] : List Place).length))⟩]) (List.length_set ..) (ev_t rfl) (ev_t rfl) ty26 rfl rfl rfl rfl rfl) ?_
          refine RgOK.nil ?_
          show CdOK _ _ _ _ _ _
          refine CdOK.seq ?_
          refine CdOK.region ?_
          refine RgOK.s (v := .o (.agg [I (bx5.pages), I (bx5.spares), .g (h.length + 3) (((bx5.places ++ ([(⟨x29.1, x30.1⟩ : Place)] : List Place))).length) 2 ((decide (0 < bx5.places.length)) || decide (0 < ([(⟨x29.1, x30.1⟩ : Place)] : List Place).length)), .L 1 (bx5.bad.map cI)])) rfl rfl rfl (e_ldbA (ev_t rfl) ty29 (bx (List.length_set ..) rfl) rfl rfl) ?_
          refine RgOK.s0 rfl rfl (e_stN (L' := [⟨[I (bx5.pages), I (bx5.spares), .g (h.length + 3) (((bx5.places ++ ([(⟨x29.1, x30.1⟩ : Place)] : List Place))).length) 2 ((decide (0 < bx5.places.length)) || decide (0 < ([(⟨x29.1, x30.1⟩ : Place)] : List Place).length)), .L 1 (bx5.bad.map cI)], true, true⟩, ⟨[I (bx5.pages), I (bx5.spares), .g (h.length + 3) (((bx5.places ++ ([(⟨x29.1, x30.1⟩ : Place)] : List Place))).length) 2 ((decide (0 < bx5.places.length)) || decide (0 < ([(⟨x29.1, x30.1⟩ : Place)] : List Place).length)), .L 1 (bx5.bad.map cI)], true, true⟩, ⟨(bx5.places.map Place.cs).flatten, true, false⟩, ⟨((bx5.places ++ ([(⟨x29.1, x30.1⟩ : Place)] : List Place)).map Place.cs).flatten, true, ((decide (0 < bx5.places.length)) || decide (0 < ([(⟨x29.1, x30.1⟩ : Place)] : List Place).length))⟩]) (List.length_set ..) (ev_t rfl) (ev_t rfl) ty29 rfl rfl rfl rfl rfl) ?_
          refine RgOK.nil ?_
          show CdOK _ _ _ _ _ _
          refine CdOK.ret ?_
          refine ⟨.inr rfl, _, (resA_c (look_find rfl) (eLoad_A ty29 (bx (List.length_set ..) rfl) rfl rfl rfl) resA_n), (h.set b_c_ ⟨[.L 1 (x30.2.l_.map c_u8), I (x30.2.at_)], true, true⟩), [⟨[I (bx5.pages), I (bx5.spares), .g (h.length + 3) (((bx5.places ++ ([(⟨x29.1, x30.1⟩ : Place)] : List Place))).length) 2 ((decide (0 < bx5.places.length)) || decide (0 < ([(⟨x29.1, x30.1⟩ : Place)] : List Place).length)), .L 1 (bx5.bad.map cI)], true, true⟩, ⟨[I (bx5.pages), I (bx5.spares), .g (h.length + 3) (((bx5.places ++ ([(⟨x29.1, x30.1⟩ : Place)] : List Place))).length) 2 ((decide (0 < bx5.places.length)) || decide (0 < ([(⟨x29.1, x30.1⟩ : Place)] : List Place).length)), .L 1 (bx5.bad.map cI)], true, true⟩, ⟨(bx5.places.map Place.cs).flatten, true, false⟩, ⟨((bx5.places ++ ([(⟨x29.1, x30.1⟩ : Place)] : List Place)).map Place.cs).flatten, true, ((decide (0 < bx5.places.length)) || decide (0 < ([(⟨x29.1, x30.1⟩ : Place)] : List Place).length))⟩], _, rfl, (List.length_set ..), (hC.set rfl), ((.o (.agg (R2.of (.fl _ rfl) (R2.of (.fl _ rfl) (R2.of (.fzg 3 _ 2 _ ((bx5.places ++ ([(⟨x29.1, x30.1⟩ : Place)] : List Place)).map Place.cs) rfl (by decide) (by first | exact List.length_map .. | simp) (lens_all (by intro x; rfl)) (vl_all (by intro x; rfl))) (R2.of (.fl _ rfl) (R2.nil _))))))) : RenV _ _ _ _ (.o (.agg [I (bx5.pages), I (bx5.spares), .L 2 ((bx5.places ++ ([(⟨x29.1, x30.1⟩ : Place)] : List Place)).map Place.cs), .L 1 (bx5.bad.map cI)]))), ?_⟩
          have hr := hm.ret
          subst hr
          exact ⟨rfl, rfl⟩
        · intro c32; replace hm := hm.ifn c32
          refine CdOK.seq ?_
          refine CdOK.region ?_
          refine RgOK.s (v := VB (decide (x18.1 = 9))) rfl rfl rfl (e_eqK (ev_t rfl) rfl) ?_
          refine RgOK.s (v := VB (decide (x18.1 = 9))) rfl rfl rfl (e_as (ev_t rfl)) ?_
          refine RgOK.nil ?_
          show CdOK _ _ _ _ _ _
          refine CdOK.condD (ev_t rfl) ?_ ?_
          · intro c33; replace hm := hm.ifp c33
            refine CdOK.region ?_
            refine RgOK.s (v := .o (.c (.ptr b_c_ 0))) rfl rfl rfl (e_mv (ev_t rfl)) ?_
            obtain ⟨x34, e34, hm⟩ := hm.call
            refine RgOK.cl rfl rfl rfl rfl pl49 (R2.wk _) (Codes_Int_ok (b_c_ := b_c_) (pset hl_c_) e34) ?_
            rintro _ _ ⟨rfl, rfl⟩
            rw [show _ = (h.set b_c_ ⟨[.L 1 (x34.2.l_.map c_u8), I (x34.2.at_)], true, true⟩) ++ ([⟨[I (0), I (0), .v (.slice none 0 0), .v (.slice none 0 0)], true, true⟩, ⟨[I (bx5.pages), I (bx5.spares), .L 2 (bx5.places.map Place.cs), .L 1 (bx5.bad.map cI)], true, true⟩] : Heap) from (pset2 hl_c_)]
            refine RgOK.s (v := .o (.c (.ptr (h.length + 1) 1))) rfl rfl rfl (e_fa' fa29_1 (ev_t rfl)) ?_
            refine RgOK.s0 rfl rfl (e_stN (L' := [⟨[I (0), I (0), .v (.slice none 0 0), .v (.slice none 0 0)], true, true⟩, ⟨[I (bx5.pages), I (x34.1), .L 2 (bx5.places.map Place.cs), .L 1 (bx5.bad.map cI)], true, true⟩]) (List.length_set ..) (ev_t rfl) (ev_t rfl) ty3 rfl rfl rfl rfl rfl) ?_
            refine RgOK.nil ?_
            show CdOK _ _ _ _ _ _
            refine CdOK.seq ?_
            refine CdOK.region ?_
            refine RgOK.s (v := .o (.agg [I (bx5.pages), I (x34.1), .L 2 (bx5.places.map Place.cs), .L 1 (bx5.bad.map cI)])) rfl rfl rfl (e_ldbA (ev_t rfl) ty29 (bx (List.length_set ..) rfl) rfl rfl) ?_
            refine RgOK.s0 rfl rfl (e_stN (L' := [⟨[I (bx5.pages), I (x34.1), .L 2 (bx5.places.map Place.cs), .L 1 (bx5.bad.map cI)], true, true⟩, ⟨[I (bx5.pages), I (x34.1), .L 2 (bx5.places.map Place.cs), .L 1 (bx5.bad.map cI)], true, true⟩]) (List.length_set ..) (ev_t rfl) (ev_t rfl) ty29 rfl rfl rfl rfl rfl) ?_
            refine RgOK.nil ?_
            show CdOK _ _ _ _ _ _
            refine CdOK.ret ?_
            refine ⟨.inr rfl, _, (resA_c (look_find rfl) (eLoad_A ty29 (bx (List.length_set ..) rfl) rfl rfl rfl) resA_n), (h.set b_c_ ⟨[.L 1 (x34.2.l_.map c_u8), I (x34.2.at_)], true, true⟩), [⟨[I (bx5.pages), I (x34.1), .L 2 (bx5.places.map Place.cs), .L 1 (bx5.bad.map cI)], true, true⟩, ⟨[I (bx5.pages), I (x34.1), .L 2 (bx5.places.map Place.cs), .L 1 (bx5.bad.map cI)], true, true⟩], _, rfl, (List.length_set ..), (hC.set rfl), ((renFlV rfl) : RenV _ _ _ _ (.o (.agg [I (bx5.pages), I (x34.1), .L 2 (bx5.places.map Place.cs), .L 1 (bx5.bad.map cI)]))), ?_⟩
            have hr := hm.ret
            subst hr
            exact ⟨rfl, rfl⟩
          · intro c35; replace hm := hm.ifn c35
            refine CdOK.skip ?_
            show CdOK _ _ _ _ _ _
            refine CdOK.seq ?_
            refine CdOK.region ?_
            refine RgOK.s (v := .o (.agg [I (bx5.pages), I (bx5.spares), .L 2 (bx5.places.map Place.cs), .L 1 (bx5.bad.map cI)])) rfl rfl rfl (e_ldbA (ev_t rfl) ty29 (bx (List.length_set ..) rfl) rfl rfl) ?_
            refine RgOK.s0 rfl rfl (e_stN (L' := [⟨[I (bx5.pages), I (bx5.spares), .L 2 (bx5.places.map Place.cs), .L 1 (bx5.bad.map cI)], true, true⟩, ⟨[I (bx5.pages), I (bx5.spares), .L 2 (bx5.places.map Place.cs), .L 1 (bx5.bad.map cI)], true, true⟩]) (List.length_set ..) (ev_t rfl) (ev_t rfl) ty29 rfl rfl rfl rfl rfl) ?_
            refine RgOK.nil ?_
            show CdOK _ _ _ _ _ _
            refine CdOK.ret ?_
            refine ⟨.inr rfl, _, (resA_c (look_find rfl) (eLoad_A ty29 (bx (List.length_set ..) rfl) rfl rfl rfl) resA_n), (h.set b_c_ ⟨[.L 1 (x18.2.l_.map c_u8), I (x18.2.at_)], true, true⟩), [⟨[I (bx5.pages), I (bx5.spares), .L 2 (bx5.places.map Place.cs), .L 1 (bx5.bad.map cI)], true, true⟩, ⟨[I (bx5.pages), I (bx5.spares), .L 2 (bx5.places.map Place.cs), .L 1 (bx5.bad.map cI)], true, true⟩], _, rfl, (List.length_set ..), (hC.set rfl), ((renFlV rfl) : RenV _ _ _ _ (.o (.agg [I (bx5.pages), I (bx5.spares), .L 2 (bx5.places.map Place.cs), .L 1 (bx5.bad.map cI)]))), ?_⟩
            have hr := hm.ret
            subst hr
            exact ⟨rfl, rfl⟩
/- pagemend/pagemendlaw35.QuarantineExact -/
def law35_QuarantineExact.l2 (n_ : Int) (x6 : (Remap × Int)) (x12 : (Remap × Codes)) (x13 : (Remap × Codes)) (t6414 : Int) : Nat → Int → Option (Sum Unit Bool)
  | 0, _ => none
  | kk27 + 1, k26 => (if k26 < 13 then (((if k26 = 12 then some n_ else some k26)).bind fun (s32 : Int) => ((quarantine_Where (⟨(gd ([x12.1, x13.1, x6.1] : List Remap) t6414).pages, (gd ([x12.1, x13.1, x6.1] : List Remap) t6414).spares, (gd ([x12.1, x13.1, x6.1] : List Remap) t6414).places, (gd ([x12.1, x13.1, x6.1] : List Remap) t6414).bad⟩ : Remap) s32).bind fun (x33 : (Int × Int)) => ((ref35_Where (⟨(gd ([x12.1, x13.1, x6.1] : List Remap) t6414).pages, (gd ([x12.1, x13.1, x6.1] : List Remap) t6414).spares, (gd ([x12.1, x13.1, x6.1] : List Remap) t6414).places, (gd ([x12.1, x13.1, x6.1] : List Remap) t6414).bad⟩ : Remap) s32).bind fun (x34 : (Int × Int)) => ((quarantine_Owner (⟨(gd ([x12.1, x13.1, x6.1] : List Remap) t6414).pages, (gd ([x12.1, x13.1, x6.1] : List Remap) t6414).spares, (gd ([x12.1, x13.1, x6.1] : List Remap) t6414).places, (gd ([x12.1, x13.1, x6.1] : List Remap) t6414).bad⟩ : Remap) s32).bind fun (x35 : (Int × Bool)) => ((ref35_Owner (⟨(gd ([x12.1, x13.1, x6.1] : List Remap) t6414).pages, (gd ([x12.1, x13.1, x6.1] : List Remap) t6414).spares, (gd ([x12.1, x13.1, x6.1] : List Remap) t6414).places, (gd ([x12.1, x13.1, x6.1] : List Remap) t6414).bad⟩ : Remap) s32).bind fun (x36 : (Int × Bool)) => ((quarantine_Mark (⟨(gd ([x12.1, x13.1, x6.1] : List Remap) t6414).pages, (gd ([x12.1, x13.1, x6.1] : List Remap) t6414).spares, (gd ([x12.1, x13.1, x6.1] : List Remap) t6414).places, (gd ([x12.1, x13.1, x6.1] : List Remap) t6414).bad⟩ : Remap) s32).bind fun (x37 : (Remap × Int × Int)) => ((ref35_Mark (⟨(gd ([x12.1, x13.1, x6.1] : List Remap) t6414).pages, (gd ([x12.1, x13.1, x6.1] : List Remap) t6414).spares, (gd ([x12.1, x13.1, x6.1] : List Remap) t6414).places, (gd ([x12.1, x13.1, x6.1] : List Remap) t6414).bad⟩ : Remap) s32).bind fun (x38 : (Remap × Int × Int)) => (if x33.1 ≠ x34.1 then some (Sum.inr false) else (if x33.2 ≠ x34.2 then some (Sum.inr false) else (if x35.1 ≠ x36.1 then some (Sum.inr false) else (if (!(x35.2 == x36.2)) = true then some (Sum.inr false) else (if x37.2.1 ≠ x38.2.1 then some (Sum.inr false) else (if x37.2.2 ≠ x38.2.2 then some (Sum.inr false) else ((ref35_Same x37.1 x38.1).bind fun (x51 : Bool) => (if (!x51) = true then some (Sum.inr false) else law35_QuarantineExact.l2 n_ x6 x12 x13 t6414 kk27 (w64 (k26 + 1))))))))))))))))) else some (Sum.inl ()))
theorem law35_QuarantineExact.l2_s (n_ : Int) (x6 : (Remap × Int)) (x12 : (Remap × Codes)) (x13 : (Remap × Codes)) (t6414 : Int) (kk27 : Nat) (k26 : Int) : law35_QuarantineExact.l2 n_ x6 x12 x13 t6414 (kk27 + 1) k26 = (if k26 < 13 then (((if k26 = 12 then some n_ else some k26)).bind fun (s32 : Int) => ((quarantine_Where (⟨(gd ([x12.1, x13.1, x6.1] : List Remap) t6414).pages, (gd ([x12.1, x13.1, x6.1] : List Remap) t6414).spares, (gd ([x12.1, x13.1, x6.1] : List Remap) t6414).places, (gd ([x12.1, x13.1, x6.1] : List Remap) t6414).bad⟩ : Remap) s32).bind fun (x33 : (Int × Int)) => ((ref35_Where (⟨(gd ([x12.1, x13.1, x6.1] : List Remap) t6414).pages, (gd ([x12.1, x13.1, x6.1] : List Remap) t6414).spares, (gd ([x12.1, x13.1, x6.1] : List Remap) t6414).places, (gd ([x12.1, x13.1, x6.1] : List Remap) t6414).bad⟩ : Remap) s32).bind fun (x34 : (Int × Int)) => ((quarantine_Owner (⟨(gd ([x12.1, x13.1, x6.1] : List Remap) t6414).pages, (gd ([x12.1, x13.1, x6.1] : List Remap) t6414).spares, (gd ([x12.1, x13.1, x6.1] : List Remap) t6414).places, (gd ([x12.1, x13.1, x6.1] : List Remap) t6414).bad⟩ : Remap) s32).bind fun (x35 : (Int × Bool)) => ((ref35_Owner (⟨(gd ([x12.1, x13.1, x6.1] : List Remap) t6414).pages, (gd ([x12.1, x13.1, x6.1] : List Remap) t6414).spares, (gd ([x12.1, x13.1, x6.1] : List Remap) t6414).places, (gd ([x12.1, x13.1, x6.1] : List Remap) t6414).bad⟩ : Remap) s32).bind fun (x36 : (Int × Bool)) => ((quarantine_Mark (⟨(gd ([x12.1, x13.1, x6.1] : List Remap) t6414).pages, (gd ([x12.1, x13.1, x6.1] : List Remap) t6414).spares, (gd ([x12.1, x13.1, x6.1] : List Remap) t6414).places, (gd ([x12.1, x13.1, x6.1] : List Remap) t6414).bad⟩ : Remap) s32).bind fun (x37 : (Remap × Int × Int)) => ((ref35_Mark (⟨(gd ([x12.1, x13.1, x6.1] : List Remap) t6414).pages, (gd ([x12.1, x13.1, x6.1] : List Remap) t6414).spares, (gd ([x12.1, x13.1, x6.1] : List Remap) t6414).places, (gd ([x12.1, x13.1, x6.1] : List Remap) t6414).bad⟩ : Remap) s32).bind fun (x38 : (Remap × Int × Int)) => (if x33.1 ≠ x34.1 then some (Sum.inr false) else (if x33.2 ≠ x34.2 then some (Sum.inr false) else (if x35.1 ≠ x36.1 then some (Sum.inr false) else (if (!(x35.2 == x36.2)) = true then some (Sum.inr false) else (if x37.2.1 ≠ x38.2.1 then some (Sum.inr false) else (if x37.2.2 ≠ x38.2.2 then some (Sum.inr false) else ((ref35_Same x37.1 x38.1).bind fun (x51 : Bool) => (if (!x51) = true then some (Sum.inr false) else law35_QuarantineExact.l2 n_ x6 x12 x13 t6414 kk27 (w64 (k26 + 1))))))))))))))))) else some (Sum.inl ())) := rfl
def law35_QuarantineExact.l1 (n_ : Int) (x6 : (Remap × Int)) (x12 : (Remap × Codes)) (x13 : (Remap × Codes)) : Nat → Int → Option (Sum Unit Bool)
  | 0, _ => none
  | kk15 + 1, t6414 => (if t6414 < (([x12.1, x13.1, x6.1] : List Remap).length : Int) then (if (0 : Int) ≤ t6414 ∧ t6414 < (([x12.1, x13.1, x6.1] : List Remap).length : Int) then ((quarantine_Valid (⟨(gd ([x12.1, x13.1, x6.1] : List Remap) t6414).pages, (gd ([x12.1, x13.1, x6.1] : List Remap) t6414).spares, (gd ([x12.1, x13.1, x6.1] : List Remap) t6414).places, (gd ([x12.1, x13.1, x6.1] : List Remap) t6414).bad⟩ : Remap)).bind fun (x18 : Bool) => ((ref35_Valid (⟨(gd ([x12.1, x13.1, x6.1] : List Remap) t6414).pages, (gd ([x12.1, x13.1, x6.1] : List Remap) t6414).spares, (gd ([x12.1, x13.1, x6.1] : List Remap) t6414).places, (gd ([x12.1, x13.1, x6.1] : List Remap) t6414).bad⟩ : Remap)).bind fun (x19 : Bool) => (if (!(x18 == x19)) = true then some (Sum.inr false) else ((quarantine_Left (⟨(gd ([x12.1, x13.1, x6.1] : List Remap) t6414).pages, (gd ([x12.1, x13.1, x6.1] : List Remap) t6414).spares, (gd ([x12.1, x13.1, x6.1] : List Remap) t6414).places, (gd ([x12.1, x13.1, x6.1] : List Remap) t6414).bad⟩ : Remap)).bind fun (x22 : Int) => ((ref35_Left (⟨(gd ([x12.1, x13.1, x6.1] : List Remap) t6414).pages, (gd ([x12.1, x13.1, x6.1] : List Remap) t6414).spares, (gd ([x12.1, x13.1, x6.1] : List Remap) t6414).places, (gd ([x12.1, x13.1, x6.1] : List Remap) t6414).bad⟩ : Remap)).bind fun (x23 : Int) => (if x22 ≠ x23 then some (Sum.inr false) else ((law35_QuarantineExact.l2 n_ x6 x12 x13 t6414 FU (-1)).bind fun (z : Sum Unit Bool) => match z with | .inl (s55 : Unit) => law35_QuarantineExact.l1 n_ x6 x12 x13 kk15 (w64 (t6414 + 1)) | .inr r => some (Sum.inr r)))))))) else none) else some (Sum.inl ()))
theorem law35_QuarantineExact.l1_s (n_ : Int) (x6 : (Remap × Int)) (x12 : (Remap × Codes)) (x13 : (Remap × Codes)) (kk15 : Nat) (t6414 : Int) : law35_QuarantineExact.l1 n_ x6 x12 x13 (kk15 + 1) t6414 = (if t6414 < (([x12.1, x13.1, x6.1] : List Remap).length : Int) then (if (0 : Int) ≤ t6414 ∧ t6414 < (([x12.1, x13.1, x6.1] : List Remap).length : Int) then ((quarantine_Valid (⟨(gd ([x12.1, x13.1, x6.1] : List Remap) t6414).pages, (gd ([x12.1, x13.1, x6.1] : List Remap) t6414).spares, (gd ([x12.1, x13.1, x6.1] : List Remap) t6414).places, (gd ([x12.1, x13.1, x6.1] : List Remap) t6414).bad⟩ : Remap)).bind fun (x18 : Bool) => ((ref35_Valid (⟨(gd ([x12.1, x13.1, x6.1] : List Remap) t6414).pages, (gd ([x12.1, x13.1, x6.1] : List Remap) t6414).spares, (gd ([x12.1, x13.1, x6.1] : List Remap) t6414).places, (gd ([x12.1, x13.1, x6.1] : List Remap) t6414).bad⟩ : Remap)).bind fun (x19 : Bool) => (if (!(x18 == x19)) = true then some (Sum.inr false) else ((quarantine_Left (⟨(gd ([x12.1, x13.1, x6.1] : List Remap) t6414).pages, (gd ([x12.1, x13.1, x6.1] : List Remap) t6414).spares, (gd ([x12.1, x13.1, x6.1] : List Remap) t6414).places, (gd ([x12.1, x13.1, x6.1] : List Remap) t6414).bad⟩ : Remap)).bind fun (x22 : Int) => ((ref35_Left (⟨(gd ([x12.1, x13.1, x6.1] : List Remap) t6414).pages, (gd ([x12.1, x13.1, x6.1] : List Remap) t6414).spares, (gd ([x12.1, x13.1, x6.1] : List Remap) t6414).places, (gd ([x12.1, x13.1, x6.1] : List Remap) t6414).bad⟩ : Remap)).bind fun (x23 : Int) => (if x22 ≠ x23 then some (Sum.inr false) else ((law35_QuarantineExact.l2 n_ x6 x12 x13 t6414 FU (-1)).bind fun (z : Sum Unit Bool) => match z with | .inl (s55 : Unit) => law35_QuarantineExact.l1 n_ x6 x12 x13 kk15 (w64 (t6414 + 1)) | .inr r => some (Sum.inr r)))))))) else none) else some (Sum.inl ())) := rfl
def law35_QuarantineExact (codes : (List Int)) (pages : Int) (spares : Int) (n_ : Int) : Option Bool := ((law35_awake ).bind fun (x1 : Bool) => (if (!x1) = true then some false else ((New codes 200).bind fun (x4 : Codes) => ((quarantine_New pages spares).bind fun (x5 : (Remap × Int)) => ((ref35_New pages spares).bind fun (x6 : (Remap × Int)) => (if x5.2 ≠ x6.2 then some false else ((ref35_Same x5.1 x6.1).bind fun (x9 : Bool) => (if (!x9) = true then some false else ((law35_draw x4).bind fun (x12 : (Remap × Codes)) => ((law35_draw x12.2).bind fun (x13 : (Remap × Codes)) => ((law35_QuarantineExact.l1 n_ x6 x12 x13 FU 0).bind fun (z : Sum Unit Bool) => match z with | .inl (s57 : Unit) => some true | .inr r => some r)))))))))))
theorem law35_QuarantineExact.eq (codes : (List Int)) (pages : Int) (spares : Int) (n_ : Int) : law35_QuarantineExact codes pages spares n_ = ((law35_awake ).bind fun (x1 : Bool) => (if (!x1) = true then some false else ((New codes 200).bind fun (x4 : Codes) => ((quarantine_New pages spares).bind fun (x5 : (Remap × Int)) => ((ref35_New pages spares).bind fun (x6 : (Remap × Int)) => (if x5.2 ≠ x6.2 then some false else ((ref35_Same x5.1 x6.1).bind fun (x9 : Bool) => (if (!x9) = true then some false else ((law35_draw x4).bind fun (x12 : (Remap × Codes)) => ((law35_draw x12.2).bind fun (x13 : (Remap × Codes)) => ((law35_QuarantineExact.l1 n_ x6 x12 x13 FU 0).bind fun (z : Sum Unit Bool) => match z with | .inl (s57 : Unit) => some true | .inr r => some r))))))))))) := rfl
theorem law35_QuarantineExact_ok {h : Heap} {codes : (List Int)} {pages : Int} {spares : Int} {n_ : Int}  {r : Bool} (hm : law35_QuarantineExact codes pages spares n_ = some r) : FnOK Try.prog 3 [.o (.c (.L 1 (codes.map c_u8))), VI (pages), VI (spares), VI (n_)] h (fun v h' => v = VB (r) ∧ h' = h) := by
  refine FnOK.fin ?_
  refine FnOK.bodyC (N := 161) Try.func3 rfl rfl rfl (fun hC => ?_)
  replace hm := Ev.of hm
  rw [law35_QuarantineExact.eq] at hm
  show CdOK _ _ _ (look _ [(0, .o (.c (.L 1 (codes.map c_u8)))), (1, VI (pages)), (2, VI (spares)), (3, VI (n_))]) (h ++ ([] : Heap)) _
  refine CdOK.seq ?_
  refine CdOK.region ?_
  refine RgOK.s (v := VB (false)) rfl rfl rfl (e_as rfl) ?_
  refine RgOK.nil ?_
  show CdOK _ _ _ _ _ _
  refine CdOK.seq ?_
  refine CdOK.seq ?_
  refine CdOK.region ?_
  obtain ⟨x1, e1, hm⟩ := hm.call
  refine RgOK.cl rfl rfl rfl rfl pl16 (R2.wk _) (law35_awake_ok   e1) ?_
  rintro _ _ ⟨rfl, rfl⟩
  refine RgOK.s (v := VB ((!x1))) rfl rfl rfl (e_un (ev_t rfl) rfl) ?_
  refine RgOK.nil ?_
  show CdOK _ _ _ _ _ _
  refine CdOK.condB (ev_t rfl) ?_ ?_
  · intro c2; replace hm := hm.ifp c2
    refine CdOK.seq ?_
    refine CdOK.region ?_
    refine RgOK.s (v := VB (false)) rfl rfl rfl (e_as rfl) ?_
    refine RgOK.nil ?_
    show CdOK _ _ _ _ _ _
    refine CdOK.ret ?_
    refine ⟨.inr rfl, _, rfl, h, [], _, rfl, rfl, hC, ((renFlV rfl) : RenV _ _ _ _ (VB (false))), ?_⟩
    have hr := hm.ret
    subst hr
    exact ⟨rfl, rfl⟩
  · intro c3; replace hm := hm.ifn c3
    refine CdOK.skip ?_
    show CdOK _ _ _ _ _ _
    refine CdOK.seq ?_
    refine CdOK.region ?_
    refine RgOK.s (v := .o (.c (.L 1 (codes.map c_u8)))) rfl rfl rfl (e_mv (ev_t rfl)) ?_
    obtain ⟨x4, e4, hm⟩ := hm.call
    refine RgOK.cl rfl rfl rfl rfl pl17 (R2.wk _) (New_ok   e4) ?_
    rintro _ _ ⟨rfl, rfl⟩
    rw [show (h ++ ([] : Heap)) ++ [⟨[.L 1 (x4.l_.map c_u8), I (x4.at_)], true, true⟩] = h ++ ([⟨[.L 1 (x4.l_.map c_u8), I (x4.at_)], true, true⟩] : Heap) from apnd rfl, show (h ++ ([] : Heap) : Heap).length = h.length + 0 from lenN rfl rfl]
    refine RgOK.s (v := .o (.c (.ptr (h.length + 0) 0))) rfl rfl rfl (e_as (ev_t rfl)) ?_
    refine RgOK.nil ?_
    show CdOK _ _ _ _ _ _
    refine CdOK.seq ?_
    refine CdOK.region ?_
    refine RgOK.s (v := VI (pages)) rfl rfl rfl (e_mv (ev_t rfl)) ?_
    refine RgOK.s (v := VI (spares)) rfl rfl rfl (e_mv (ev_t rfl)) ?_
    obtain ⟨x5, e5, hm⟩ := hm.call
    refine RgOK.cl rfl rfl rfl rfl pl18 (R2.wk _) (quarantine_New_ok   e5) ?_
    rintro _ _ ⟨rfl, rfl⟩
    refine RgOK.s (v := .tup [.agg [I (x5.1.pages), I (x5.1.spares), .L 2 (x5.1.places.map Place.cs), .L 1 (x5.1.bad.map cI)], .c (I (x5.2))]) rfl rfl rfl (e_mv (ev_t rfl)) ?_
    refine RgOK.s (v := .o (.agg [I (x5.1.pages), I (x5.1.spares), .L 2 (x5.1.places.map Place.cs), .L 1 (x5.1.bad.map cI)])) rfl rfl rfl (e_ext (ev_t rfl) rfl) ?_
    refine RgOK.s (v := VI (x5.2)) rfl rfl rfl (e_ext (ev_t rfl) rfl) ?_
    refine RgOK.s (v := .o (.c (.ptr (h.length + 1) 0))) rfl rfl rfl (e_allocN (L' := [⟨[.L 1 (x4.l_.map c_u8), I (x4.at_)], true, true⟩, ⟨[I (0), I (0), .v (.slice none 0 0), .v (.slice none 0 0)], true, true⟩]) rfl zo29 rfl rfl) ?_
    refine RgOK.s0 rfl rfl (e_stN (L' := [⟨[.L 1 (x4.l_.map c_u8), I (x4.at_)], true, true⟩, ⟨[I (x5.1.pages), I (x5.1.spares), .L 2 (x5.1.places.map Place.cs), .L 1 (x5.1.bad.map cI)], true, true⟩]) rfl (ev_t rfl) (ev_t rfl) ty29 rfl rfl rfl rfl rfl) ?_
    refine RgOK.s (v := VI (x5.2)) rfl rfl rfl (e_as (ev_t rfl)) ?_
    refine RgOK.nil ?_
    show CdOK _ _ _ _ _ _
    refine CdOK.seq ?_
    refine CdOK.region ?_
    refine RgOK.s (v := VI (pages)) rfl rfl rfl (e_mv (ev_t rfl)) ?_
    refine RgOK.s (v := VI (spares)) rfl rfl rfl (e_mv (ev_t rfl)) ?_
    obtain ⟨x6, e6, hm⟩ := hm.call
    refine RgOK.cl rfl rfl rfl rfl pl19 (R2.wk _) (ref35_New_ok   e6) ?_
    rintro _ _ ⟨rfl, rfl⟩
    refine RgOK.s (v := .tup [.agg [I (x6.1.pages), I (x6.1.spares), .L 2 (x6.1.places.map Place.cs), .L 1 (x6.1.bad.map cI)], .c (I (x6.2))]) rfl rfl rfl (e_mv (ev_t rfl)) ?_
    refine RgOK.s (v := .o (.agg [I (x6.1.pages), I (x6.1.spares), .L 2 (x6.1.places.map Place.cs), .L 1 (x6.1.bad.map cI)])) rfl rfl rfl (e_ext (ev_t rfl) rfl) ?_
    refine RgOK.s (v := VI (x6.2)) rfl rfl rfl (e_ext (ev_t rfl) rfl) ?_
    refine RgOK.s (v := .o (.c (.ptr (h.length + 2) 0))) rfl rfl rfl (e_allocN (L' := [⟨[.L 1 (x4.l_.map c_u8), I (x4.at_)], true, true⟩, ⟨[I (x5.1.pages), I (x5.1.spares), .L 2 (x5.1.places.map Place.cs), .L 1 (x5.1.bad.map cI)], true, true⟩, ⟨[I (0), I (0), .v (.slice none 0 0), .v (.slice none 0 0)], true, true⟩]) rfl zo29 rfl rfl) ?_
    refine RgOK.s0 rfl rfl (e_stN (L' := [⟨[.L 1 (x4.l_.map c_u8), I (x4.at_)], true, true⟩, ⟨[I (x5.1.pages), I (x5.1.spares), .L 2 (x5.1.places.map Place.cs), .L 1 (x5.1.bad.map cI)], true, true⟩, ⟨[I (x6.1.pages), I (x6.1.spares), .L 2 (x6.1.places.map Place.cs), .L 1 (x6.1.bad.map cI)], true, true⟩]) rfl (ev_t rfl) (ev_t rfl) ty29 rfl rfl rfl rfl rfl) ?_
    refine RgOK.s (v := VI (x6.2)) rfl rfl rfl (e_as (ev_t rfl)) ?_
    refine RgOK.nil ?_
    show CdOK _ _ _ _ _ _
    refine CdOK.seq ?_
    refine CdOK.seq ?_
    refine CdOK.region ?_
    refine RgOK.s (v := VI (x5.2)) rfl rfl rfl (e_mv (ev_t rfl)) ?_
    refine RgOK.s (v := VI (x6.2)) rfl rfl rfl (e_mv (ev_t rfl)) ?_
    refine RgOK.sd rfl rfl rfl (e_neK (ev_t rfl) (ev_t rfl)) ?_ ?_
    · intro c7; replace hm := hm.ifp c7
      refine RgOK.s (v := VB (true)) rfl rfl rfl (e_mv (ev_t rfl)) ?_
      refine RgOK.sk rfl rfl rfl ?_
      refine RgOK.sk rfl rfl rfl ?_
      refine RgOK.sk rfl rfl rfl ?_
      refine RgOK.sk rfl rfl rfl ?_
      refine RgOK.s (v := VB (true)) rfl rfl rfl (e_pick (t := true) (ev_t rfl) rfl) ?_
      refine RgOK.nil ?_
      show CdOK _ _ _ _ _ _
      refine CdOK.cond_true rfl ?_
      refine CdOK.seq ?_
      refine CdOK.region ?_
      refine RgOK.s (v := VB (false)) rfl rfl rfl (e_as rfl) ?_
      refine RgOK.nil ?_
      show CdOK _ _ _ _ _ _
      refine CdOK.ret ?_
      refine ⟨.inr rfl, _, rfl, h, [⟨[.L 1 (x4.l_.map c_u8), I (x4.at_)], true, true⟩, ⟨[I (x5.1.pages), I (x5.1.spares), .L 2 (x5.1.places.map Place.cs), .L 1 (x5.1.bad.map cI)], true, true⟩, ⟨[I (x6.1.pages), I (x6.1.spares), .L 2 (x6.1.places.map Place.cs), .L 1 (x6.1.bad.map cI)], true, true⟩], _, rfl, rfl, hC, ((renFlV rfl) : RenV _ _ _ _ (VB (false))), ?_⟩
      have hr := hm.ret
      subst hr
      exact ⟨rfl, rfl⟩
    · intro c8; replace hm := hm.ifn c8
      refine RgOK.s (v := VB (false)) rfl rfl rfl (e_mv (ev_t rfl)) ?_
      refine RgOK.s (v := .o (.agg [I (x5.1.pages), I (x5.1.spares), .L 2 (x5.1.places.map Place.cs), .L 1 (x5.1.bad.map cI)])) rfl rfl rfl (e_ldbA (ev_t rfl) ty29 (bx rfl rfl) rfl rfl) ?_
      refine RgOK.s (v := .o (.agg [I (x6.1.pages), I (x6.1.spares), .L 2 (x6.1.places.map Place.cs), .L 1 (x6.1.bad.map cI)])) rfl rfl rfl (e_ldbA (ev_t rfl) ty29 (bx rfl rfl) rfl rfl) ?_
      obtain ⟨x9, e9, hm⟩ := hm.call
      refine RgOK.cl rfl rfl rfl rfl pl20 (R2.wk _) (ref35_Same_ok   e9) ?_
      rintro _ _ ⟨rfl, rfl⟩
      refine RgOK.s (v := VB ((!x9))) rfl rfl rfl (e_un (ev_t rfl) rfl) ?_
      refine RgOK.s (v := VB ((!x9))) rfl rfl rfl (e_pick (t := false) (ev_t rfl) (ev_t rfl)) ?_
      refine RgOK.nil ?_
      show CdOK _ _ _ _ _ _
      refine CdOK.condB (ev_t rfl) ?_ ?_
      · intro c10; replace hm := hm.ifp c10
        refine CdOK.seq ?_
        refine CdOK.region ?_
        refine RgOK.s (v := VB (false)) rfl rfl rfl (e_as rfl) ?_
        refine RgOK.nil ?_
        show CdOK _ _ _ _ _ _
        refine CdOK.ret ?_
        refine ⟨.inr rfl, _, rfl, h, [⟨[.L 1 (x4.l_.map c_u8), I (x4.at_)], true, true⟩, ⟨[I (x5.1.pages), I (x5.1.spares), .L 2 (x5.1.places.map Place.cs), .L 1 (x5.1.bad.map cI)], true, true⟩, ⟨[I (x6.1.pages), I (x6.1.spares), .L 2 (x6.1.places.map Place.cs), .L 1 (x6.1.bad.map cI)], true, true⟩], _, rfl, rfl, hC, ((renFlV rfl) : RenV _ _ _ _ (VB (false))), ?_⟩
        have hr := hm.ret
        subst hr
        exact ⟨rfl, rfl⟩
      · intro c11; replace hm := hm.ifn c11
        refine CdOK.skip ?_
        show CdOK _ _ _ _ _ _
        refine CdOK.seq ?_
        refine CdOK.seq ?_
        refine CdOK.draw2 (ord := [0, 2, 4, 7, 1, 3, 5, 6]) (chain := [1, 3]) fol (by decide +kernel) (by decide +kernel) ?_
        refine Dr2.s (v := .o (.c (.ptr (h.length + 0) 0))) rfl rfl rfl rfl rfl rfl (e_mv (ev_t rfl)) ?_
        refine Dr2.s (v := .o (.c (.ptr (h.length + 0) 0))) rfl rfl rfl rfl rfl rfl (e_mv (ev_t rfl)) ?_
        refine Dr2.f (v := .o (.agg [I (x6.1.pages), I (x6.1.spares), .L 2 (x6.1.places.map Place.cs), .L 1 (x6.1.bad.map cI)])) rfl rfl rfl rfl rfl rfl (e_ldbA (ev_t rfl) ty29 (bx rfl rfl) rfl rfl) ?_
        refine Dr2.s (v := VI (0)) rfl rfl rfl rfl rfl rfl (e_mv rfl) ?_
        obtain ⟨x12, e12, hm⟩ := hm.call
        refine Dr2.cl rfl rfl rfl rfl rfl rfl pl21 (R2.wk _) (law35_draw_ok (b_c_ := (h.length + 0)) (bx rfl rfl) e12) ?_
        rintro _ _ ⟨rfl, rfl⟩
        rw [show _ = h ++ ([⟨[.L 1 (x12.2.l_.map c_u8), I (x12.2.at_)], true, true⟩, ⟨[I (x5.1.pages), I (x5.1.spares), .L 2 (x5.1.places.map Place.cs), .L 1 (x5.1.bad.map cI)], true, true⟩, ⟨[I (x6.1.pages), I (x6.1.spares), .L 2 (x6.1.places.map Place.cs), .L 1 (x6.1.bad.map cI)], true, true⟩] : Heap) from (bset rfl rfl)]
        refine ⟨(.e rfl rfl (e_ldbA (ev_t rfl) ty29 (bx rfl rfl) rfl rfl) .nil), ?_⟩
        obtain ⟨x13, e13, hm⟩ := hm.call
        refine Dr2.cl rfl rfl rfl rfl rfl rfl pl21 (R2.wk _) (law35_draw_ok (b_c_ := (h.length + 0)) (bx rfl rfl) e13) ?_
        rintro _ _ ⟨rfl, rfl⟩
        rw [show _ = h ++ ([⟨[.L 1 (x13.2.l_.map c_u8), I (x13.2.at_)], true, true⟩, ⟨[I (x5.1.pages), I (x5.1.spares), .L 2 (x5.1.places.map Place.cs), .L 1 (x5.1.bad.map cI)], true, true⟩, ⟨[I (x6.1.pages), I (x6.1.spares), .L 2 (x6.1.places.map Place.cs), .L 1 (x6.1.bad.map cI)], true, true⟩] : Heap) from (bset rfl rfl)]
        refine ⟨(.e rfl rfl (e_ldbA (ev_t rfl) ty29 (bx rfl rfl) rfl rfl) .nil), ?_⟩
        refine Dr2.s (v := .o (.c (.LC 4 (([x12.1, x13.1, x6.1] : List Remap).map Remap.cs)))) rfl rfl rfl rfl rfl rfl (e_lit (cs := [I (x12.1.pages), I (x12.1.spares), .L 2 (x12.1.places.map Place.cs), .L 1 (x12.1.bad.map cI), I (x13.1.pages), I (x13.1.spares), .L 2 (x13.1.places.map Place.cs), .L 1 (x13.1.bad.map cI), I (x6.1.pages), I (x6.1.spares), .L 2 (x6.1.places.map Place.cs), .L 1 (x6.1.bad.map cI)]) (xs := ([x12.1, x13.1, x6.1]).map Remap.cs) slt35 rfl rfl rfl rfl rfl) ?_
        refine Dr2.s (v := VI ((([x12.1, x13.1, x6.1] : List Remap).length : Int))) rfl rfl rfl rfl rfl rfl (e_lenMC (ev_t rfl) is35) ?_
        refine Dr2.nil ?_
        show CdOK _ _ _ _ _ _
        replace hm := hm.bnd
        refine CdOK.joinT (σ := Unit) (fun s => Sum.inl ()) hm (fun s => []) (fun s => h ++ ([] : Heap)) ?_ ?_
        · intro hm
          refine CdOK.block ?_
          refine CdOK.re (σ := []) (X := [(3, VI (n_)), (62, .o (.c (.LC 4 (([x12.1, x13.1, x6.1] : List Remap).map Remap.cs)))), (63, VI ((([x12.1, x13.1, x6.1] : List Remap).length : Int))), (64, VI (0))]) (L' := []) rfl rfl hC (by decide) .nil (.cons (renFlV rfl) (.cons (.o (.c (.fl _ rfl))) (.cons (renFlV rfl) (.cons (renFlV rfl) .nil)))) ?_
          refine CdOK.loopE (σ := Int) (fun k s => Ev (law35_QuarantineExact.l1 n_ x6 x12 x13 k s) _) (fun s => [(3, VI (n_)), (62, .o (.c (.LC 4 (([x12.1, x13.1, x6.1] : List Remap).map Remap.cs)))), (63, VI ((([x12.1, x13.1, x6.1] : List Remap).length : Int))), (64, VI (s))]) (fun s => h ++ ([] : Heap)) FU 0 hm (.cons rfl (.cons rfl (.cons rfl (.cons rfl .nil)))) rfl ?_
          rintro kk15 t6414 T0 hm
          replace hm : Ev (law35_QuarantineExact.l1 n_ x6 x12 x13 kk15 t6414) _ := hm
          cases kk15 with
          | zero => exact (Ev.non hm).elim
          | succ kk15 =>
          rw [law35_QuarantineExact.l1_s] at hm
          show CdOK _ _ _ (look T0 [(3, VI (n_)), (62, .o (.c (.LC 4 (([x12.1, x13.1, x6.1] : List Remap).map Remap.cs)))), (63, VI ((([x12.1, x13.1, x6.1] : List Remap).length : Int))), (64, VI (t6414))]) (h ++ ([] : Heap)) _
          refine CdOK.seq ?_
          refine CdOK.region ?_
          refine RgOK.s (v := VB (decide (t6414 < (([x12.1, x13.1, x6.1] : List Remap).length : Int)))) rfl rfl rfl (e_bin (ev_t rfl) (ev_t rfl) rfl rfl) ?_
          refine RgOK.nil ?_
          show CdOK _ _ _ _ _ _
          refine CdOK.seq ?_
          refine CdOK.condD (ev_t rfl) ?_ ?_
          · intro c16; replace hm := hm.ifp c16
            refine CdOK.skip ?_
            show CdOK _ _ _ _ _ _
            refine CdOK.seq ?_
            refine CdOK.block ?_
            refine CdOK.seq ?_
            refine CdOK.region ?_
            obtain ⟨c17, hm⟩ := hm.ifs
            refine RgOK.s (v := .o (.c (.rp [I ((gd ([x12.1, x13.1, x6.1] : List Remap) t6414).pages), I ((gd ([x12.1, x13.1, x6.1] : List Remap) t6414).spares), .L 2 (((gd ([x12.1, x13.1, x6.1] : List Remap) t6414).places).map Place.cs), .L 1 (((gd ([x12.1, x13.1, x6.1] : List Remap) t6414).bad).map cI)]))) rfl rfl rfl (e_ixMC (f := Remap.cs) (l := ([x12.1, x13.1, x6.1] : List Remap)) (i := t6414) (ev_t rfl) (ev_t rfl) el35 c17) ?_
            refine RgOK.s (v := .o (.agg [I ((gd ([x12.1, x13.1, x6.1] : List Remap) t6414).pages), I ((gd ([x12.1, x13.1, x6.1] : List Remap) t6414).spares), .L 2 (((gd ([x12.1, x13.1, x6.1] : List Remap) t6414).places).map Place.cs), .L 1 (((gd ([x12.1, x13.1, x6.1] : List Remap) t6414).bad).map cI)])) rfl rfl rfl (e_ldRA (ev_t rfl) ty29 rfl rfl) ?_
            refine RgOK.s (v := .o (.c (.ptr (h.length + 0) 0))) rfl rfl rfl (e_allocN (L' := [⟨[I (0), I (0), .v (.slice none 0 0), .v (.slice none 0 0)], true, true⟩]) rfl zo29 rfl rfl) ?_
            refine RgOK.s0 rfl rfl (e_stN (L' := [⟨[I ((gd ([x12.1, x13.1, x6.1] : List Remap) t6414).pages), I ((gd ([x12.1, x13.1, x6.1] : List Remap) t6414).spares), .L 2 (((gd ([x12.1, x13.1, x6.1] : List Remap) t6414).places).map Place.cs), .L 1 (((gd ([x12.1, x13.1, x6.1] : List Remap) t6414).bad).map cI)], true, true⟩]) rfl (ev_t rfl) (ev_t rfl) ty29 rfl rfl rfl rfl rfl) ?_
            refine RgOK.nil ?_
            show CdOK _ _ _ _ _ _
            refine CdOK.seq ?_
            refine CdOK.seq ?_
            refine CdOK.draw fol (by decide +kernel) ?_
            refine DrOK.s (v := .o (.agg [I ((gd ([x12.1, x13.1, x6.1] : List Remap) t6414).pages), I ((gd ([x12.1, x13.1, x6.1] : List Remap) t6414).spares), .L 2 (((gd ([x12.1, x13.1, x6.1] : List Remap) t6414).places).map Place.cs), .L 1 (((gd ([x12.1, x13.1, x6.1] : List Remap) t6414).bad).map cI)])) rfl rfl rfl (e_ldbA (ev_t rfl) ty29 (bx rfl rfl) rfl rfl) ?_
            obtain ⟨x18, e18, hm⟩ := hm.call
            refine DrOK.cl rfl rfl rfl rfl pl22 (R2.wk _) (quarantine_Valid_ok   e18) ?_
            refine DrOK.s (v := .o (.agg [I ((gd ([x12.1, x13.1, x6.1] : List Remap) t6414).pages), I ((gd ([x12.1, x13.1, x6.1] : List Remap) t6414).spares), .L 2 (((gd ([x12.1, x13.1, x6.1] : List Remap) t6414).places).map Place.cs), .L 1 (((gd ([x12.1, x13.1, x6.1] : List Remap) t6414).bad).map cI)])) rfl rfl rfl (e_ldbA (ev_t rfl) ty29 (bx rfl rfl) rfl rfl) ?_
            obtain ⟨x19, e19, hm⟩ := hm.call
            refine DrOK.cl rfl rfl rfl rfl pl23 (R2.wk _) (ref35_Valid_ok   e19) ?_
            refine DrOK.sb rfl rfl rfl (e_neB (ev_t rfl) (ev_t rfl) bo4) ?_ ?_
            · intro c20; replace hm := hm.ifp c20
              refine DrOK.s (v := VB (true)) rfl rfl rfl (e_mv (ev_t rfl)) ?_
              refine DrOK.sk rfl rfl rfl ?_
              refine DrOK.sk rfl rfl rfl ?_
              refine DrOK.sk rfl rfl rfl ?_
              refine DrOK.sk rfl rfl rfl ?_
              refine DrOK.sk rfl rfl rfl ?_
              refine DrOK.s (v := VB (true)) rfl rfl rfl (e_pick (t := true) (ev_t rfl) rfl) ?_
              refine DrOK.nil ?_
              show CdOK _ _ _ _ _ _
              refine CdOK.cond_true rfl ?_
              refine CdOK.seq ?_
              refine CdOK.region ?_
              refine RgOK.s (v := VB (false)) rfl rfl rfl (e_as rfl) ?_
              refine RgOK.nil ?_
              show CdOK _ _ _ _ _ _
              refine CdOK.ret ?_
              refine ⟨.inr rfl, _, rfl, h, [⟨[I ((gd ([x12.1, x13.1, x6.1] : List Remap) t6414).pages), I ((gd ([x12.1, x13.1, x6.1] : List Remap) t6414).spares), .L 2 (((gd ([x12.1, x13.1, x6.1] : List Remap) t6414).places).map Place.cs), .L 1 (((gd ([x12.1, x13.1, x6.1] : List Remap) t6414).bad).map cI)], true, true⟩], _, rfl, rfl, hC, ((renFlV rfl) : RenV _ _ _ _ (VB (false))), ?_⟩
              have hr := hm.ret
              replace hr := Ev.ret hr
              subst hr
              exact ⟨rfl, rfl⟩
            · intro c21; replace hm := hm.ifn (by rw [c21]; exact Bool.false_ne_true)
              refine DrOK.s (v := VB (false)) rfl rfl rfl (e_mv (ev_t rfl)) ?_
              refine DrOK.s (v := .o (.agg [I ((gd ([x12.1, x13.1, x6.1] : List Remap) t6414).pages), I ((gd ([x12.1, x13.1, x6.1] : List Remap) t6414).spares), .L 2 (((gd ([x12.1, x13.1, x6.1] : List Remap) t6414).places).map Place.cs), .L 1 (((gd ([x12.1, x13.1, x6.1] : List Remap) t6414).bad).map cI)])) rfl rfl rfl (e_ldbA (ev_t rfl) ty29 (bx rfl rfl) rfl rfl) ?_
              obtain ⟨x22, e22, hm⟩ := hm.call
              refine DrOK.cl rfl rfl rfl rfl pl24 (R2.wk _) (quarantine_Left_ok   e22) ?_
              refine DrOK.s (v := .o (.agg [I ((gd ([x12.1, x13.1, x6.1] : List Remap) t6414).pages), I ((gd ([x12.1, x13.1, x6.1] : List Remap) t6414).spares), .L 2 (((gd ([x12.1, x13.1, x6.1] : List Remap) t6414).places).map Place.cs), .L 1 (((gd ([x12.1, x13.1, x6.1] : List Remap) t6414).bad).map cI)])) rfl rfl rfl (e_ldbA (ev_t rfl) ty29 (bx rfl rfl) rfl rfl) ?_
              obtain ⟨x23, e23, hm⟩ := hm.call
              refine DrOK.cl rfl rfl rfl rfl pl25 (R2.wk _) (ref35_Left_ok   e23) ?_
              refine DrOK.s (v := VB (decide (x22 ≠ x23))) rfl rfl rfl (e_neK (ev_t rfl) (ev_t rfl)) ?_
              refine DrOK.s (v := VB (decide (x22 ≠ x23))) rfl rfl rfl (e_pick (t := false) (ev_t rfl) (ev_t rfl)) ?_
              refine DrOK.nil ?_
              show CdOK _ _ _ _ _ _
              refine CdOK.condD (ev_t rfl) ?_ ?_
              · intro c24; replace hm := hm.ifp c24
                refine CdOK.seq ?_
                refine CdOK.region ?_
                refine RgOK.s (v := VB (false)) rfl rfl rfl (e_as rfl) ?_
                refine RgOK.nil ?_
                show CdOK _ _ _ _ _ _
                refine CdOK.ret ?_
                refine ⟨.inr rfl, _, rfl, h, [⟨[I ((gd ([x12.1, x13.1, x6.1] : List Remap) t6414).pages), I ((gd ([x12.1, x13.1, x6.1] : List Remap) t6414).spares), .L 2 (((gd ([x12.1, x13.1, x6.1] : List Remap) t6414).places).map Place.cs), .L 1 (((gd ([x12.1, x13.1, x6.1] : List Remap) t6414).bad).map cI)], true, true⟩], _, rfl, rfl, hC, ((renFlV rfl) : RenV _ _ _ _ (VB (false))), ?_⟩
                have hr := hm.ret
                replace hr := Ev.ret hr
                subst hr
                exact ⟨rfl, rfl⟩
              · intro c25; replace hm := hm.ifn c25
                refine CdOK.skip ?_
                show CdOK _ _ _ _ _ _
                refine CdOK.seq ?_
                refine CdOK.region ?_
                refine RgOK.s (v := VI ((-1))) rfl rfl rfl (e_as rfl) ?_
                refine RgOK.nil ?_
                show CdOK _ _ _ _ _ _
                replace hm := hm.bnd
                refine CdOK.joinT (σ := Unit) (fun s => Sum.inl ()) hm (fun s => [(3, VI (n_)), (62, .o (.c (.LC 4 (([x12.1, x13.1, x6.1] : List Remap).map Remap.cs)))), (63, VI ((([x12.1, x13.1, x6.1] : List Remap).length : Int))), (64, VI (t6414))]) (fun s => h ++ ([] : Heap)) ?_ ?_
                · intro hm
                  refine CdOK.block ?_
                  refine CdOK.re (σ := [0]) (X := [(3, VI (n_)), (15, .o (.c (.ptr (h.length + 0) 0))), (16, VI ((-1))), (62, .o (.c (.LC 4 (([x12.1, x13.1, x6.1] : List Remap).map Remap.cs)))), (63, VI ((([x12.1, x13.1, x6.1] : List Remap).length : Int))), (64, VI (t6414))]) (L' := [⟨[I ((gd ([x12.1, x13.1, x6.1] : List Remap) t6414).pages), I ((gd ([x12.1, x13.1, x6.1] : List Remap) t6414).spares), .L 2 (((gd ([x12.1, x13.1, x6.1] : List Remap) t6414).places).map Place.cs), .L 1 (((gd ([x12.1, x13.1, x6.1] : List Remap) t6414).bad).map cI)], true, true⟩]) rfl rfl hC (by decide) (.obj 0 rfl (renFl rfl) .nil) (.cons (renFlV rfl) (.cons (.o (.c (.ptr 0 0 _ rfl))) (.cons (renFlV rfl) (.cons (.o (.c (.fl _ rfl))) (.cons (renFlV rfl) (.cons (renFlV rfl) .nil)))))) ?_
                  refine CdOK.loopE (σ := Int) (fun k s => Ev (law35_QuarantineExact.l2 n_ x6 x12 x13 t6414 k s) _) (fun s => [(3, VI (n_)), (15, .o (.c (.ptr (h.length + 0) 0))), (16, VI (s)), (62, .o (.c (.LC 4 (([x12.1, x13.1, x6.1] : List Remap).map Remap.cs)))), (63, VI ((([x12.1, x13.1, x6.1] : List Remap).length : Int))), (64, VI (t6414))]) (fun s => h ++ ([⟨[I ((gd ([x12.1, x13.1, x6.1] : List Remap) t6414).pages), I ((gd ([x12.1, x13.1, x6.1] : List Remap) t6414).spares), .L 2 (((gd ([x12.1, x13.1, x6.1] : List Remap) t6414).places).map Place.cs), .L 1 (((gd ([x12.1, x13.1, x6.1] : List Remap) t6414).bad).map cI)], true, true⟩] : Heap)) FU (-1) hm (.cons rfl (.cons rfl (.cons rfl (.cons rfl (.cons rfl (.cons rfl .nil)))))) rfl ?_
                  rintro kk27 k26 T0 hm
                  replace hm : Ev (law35_QuarantineExact.l2 n_ x6 x12 x13 t6414 kk27 k26) _ := hm
                  cases kk27 with
                  | zero => exact (Ev.non hm).elim
                  | succ kk27 =>
                  rw [law35_QuarantineExact.l2_s] at hm
                  show CdOK _ _ _ (look T0 [(3, VI (n_)), (15, .o (.c (.ptr (h.length + 0) 0))), (16, VI (k26)), (62, .o (.c (.LC 4 (([x12.1, x13.1, x6.1] : List Remap).map Remap.cs)))), (63, VI ((([x12.1, x13.1, x6.1] : List Remap).length : Int))), (64, VI (t6414))]) (h ++ ([⟨[I ((gd ([x12.1, x13.1, x6.1] : List Remap) t6414).pages), I ((gd ([x12.1, x13.1, x6.1] : List Remap) t6414).spares), .L 2 (((gd ([x12.1, x13.1, x6.1] : List Remap) t6414).places).map Place.cs), .L 1 (((gd ([x12.1, x13.1, x6.1] : List Remap) t6414).bad).map cI)], true, true⟩] : Heap)) _
                  refine CdOK.seq ?_
                  refine CdOK.seq ?_
                  refine CdOK.region ?_
                  refine RgOK.s (v := VI (k26)) rfl rfl rfl (e_mv (ev_t rfl)) ?_
                  refine RgOK.s (v := VB (decide (k26 < 13))) rfl rfl rfl (e_bin (ev_t rfl) rfl rfl rfl) ?_
                  refine RgOK.nil ?_
                  show CdOK _ _ _ _ _ _
                  refine CdOK.condD (ev_t rfl) ?_ ?_
                  · intro c28; replace hm := hm.ifp c28
                    refine CdOK.skip ?_
                    show CdOK _ _ _ _ _ _
                    refine CdOK.seq ?_
                    refine CdOK.block ?_
                    refine CdOK.seq ?_
                    refine CdOK.region ?_
                    refine RgOK.s (v := VI (k26)) rfl rfl rfl (e_mv (ev_t rfl)) ?_
                    refine RgOK.s (v := VI (k26)) rfl rfl rfl (e_as (ev_t rfl)) ?_
                    refine RgOK.nil ?_
                    show CdOK _ _ _ _ _ _
                    replace hm := hm.bnd
                    refine CdOK.joinE (σ := Int) (fun s => s) hm (fun s => [(3, VI (n_)), (15, .o (.c (.ptr (h.length + 0) 0))), (16, VI (k26)), (17, VI (s)), (62, .o (.c (.LC 4 (([x12.1, x13.1, x6.1] : List Remap).map Remap.cs)))), (63, VI ((([x12.1, x13.1, x6.1] : List Remap).length : Int))), (64, VI (t6414))]) (fun s => h ++ ([⟨[I ((gd ([x12.1, x13.1, x6.1] : List Remap) t6414).pages), I ((gd ([x12.1, x13.1, x6.1] : List Remap) t6414).spares), .L 2 (((gd ([x12.1, x13.1, x6.1] : List Remap) t6414).places).map Place.cs), .L 1 (((gd ([x12.1, x13.1, x6.1] : List Remap) t6414).bad).map cI)], true, true⟩] : Heap)) ?_ ?_
                    · intro hm
                      refine CdOK.seq ?_
                      refine CdOK.region ?_
                      refine RgOK.s (v := VI (k26)) rfl rfl rfl (e_mv (ev_t rfl)) ?_
                      refine RgOK.s (v := VB (decide (k26 = 12))) rfl rfl rfl (e_eqK (ev_t rfl) rfl) ?_
                      refine RgOK.nil ?_
                      show CdOK _ _ _ _ _ _
                      refine CdOK.condD (ev_t rfl) ?_ ?_
                      · intro c30; replace hm := hm.ifp c30
                        refine CdOK.region ?_
                        refine RgOK.s (v := VI (n_)) rfl rfl rfl (e_mv (ev_t rfl)) ?_
                        refine RgOK.s (v := VI (n_)) rfl rfl rfl (e_as (ev_t rfl)) ?_
                        refine RgOK.nil ?_
                        refine Told.re (σ := [0]) (X := [(3, VI (n_)), (15, .o (.c (.ptr (h.length + 0) 0))), (16, VI (k26)), (17, VI (n_)), (62, .o (.c (.LC 4 (([x12.1, x13.1, x6.1] : List Remap).map Remap.cs)))), (63, VI ((([x12.1, x13.1, x6.1] : List Remap).length : Int))), (64, VI (t6414))]) (L' := [⟨[I ((gd ([x12.1, x13.1, x6.1] : List Remap) t6414).pages), I ((gd ([x12.1, x13.1, x6.1] : List Remap) t6414).spares), .L 2 (((gd ([x12.1, x13.1, x6.1] : List Remap) t6414).places).map Place.cs), .L 1 (((gd ([x12.1, x13.1, x6.1] : List Remap) t6414).bad).map cI)], true, true⟩]) rfl rfl hC (by decide) (.obj 0 rfl (renFl rfl) .nil) (.cons (renFlV rfl) (.cons (.o (.c (.ptr 0 0 _ rfl))) (.cons (renFlV rfl) (.cons (renFlV rfl) (.cons (.o (.c (.fl _ rfl))) (.cons (renFlV rfl) (.cons (renFlV rfl) .nil))))))) ?_
                        exact ⟨n_, hm.ret, (.cons rfl (.cons rfl (.cons rfl (.cons rfl (.cons rfl (.cons rfl (.cons rfl .nil))))))), rfl⟩
                      · intro c31; replace hm := hm.ifn c31
                        refine CdOK.skip ?_
                        refine Told.re (σ := [0]) (X := [(3, VI (n_)), (15, .o (.c (.ptr (h.length + 0) 0))), (16, VI (k26)), (17, VI (k26)), (62, .o (.c (.LC 4 (([x12.1, x13.1, x6.1] : List Remap).map Remap.cs)))), (63, VI ((([x12.1, x13.1, x6.1] : List Remap).length : Int))), (64, VI (t6414))]) (L' := [⟨[I ((gd ([x12.1, x13.1, x6.1] : List Remap) t6414).pages), I ((gd ([x12.1, x13.1, x6.1] : List Remap) t6414).spares), .L 2 (((gd ([x12.1, x13.1, x6.1] : List Remap) t6414).places).map Place.cs), .L 1 (((gd ([x12.1, x13.1, x6.1] : List Remap) t6414).bad).map cI)], true, true⟩]) rfl rfl hC (by decide) (.obj 0 rfl (renFl rfl) .nil) (.cons (renFlV rfl) (.cons (.o (.c (.ptr 0 0 _ rfl))) (.cons (renFlV rfl) (.cons (renFlV rfl) (.cons (.o (.c (.fl _ rfl))) (.cons (renFlV rfl) (.cons (renFlV rfl) .nil))))))) ?_
                        exact ⟨k26, hm.ret, (.cons rfl (.cons rfl (.cons rfl (.cons rfl (.cons rfl (.cons rfl (.cons rfl .nil))))))), rfl⟩
                    · rintro i29 T0 hm
                      show CdOK _ _ _ (look T0 [(3, VI (n_)), (15, .o (.c (.ptr (h.length + 0) 0))), (16, VI (k26)), (17, VI (i29)), (62, .o (.c (.LC 4 (([x12.1, x13.1, x6.1] : List Remap).map Remap.cs)))), (63, VI ((([x12.1, x13.1, x6.1] : List Remap).length : Int))), (64, VI (t6414))]) (h ++ ([⟨[I ((gd ([x12.1, x13.1, x6.1] : List Remap) t6414).pages), I ((gd ([x12.1, x13.1, x6.1] : List Remap) t6414).spares), .L 2 (((gd ([x12.1, x13.1, x6.1] : List Remap) t6414).places).map Place.cs), .L 1 (((gd ([x12.1, x13.1, x6.1] : List Remap) t6414).bad).map cI)], true, true⟩] : Heap)) _
                      refine CdOK.seq ?_
                      refine CdOK.region ?_
                      refine RgOK.s (v := .o (.agg [I ((gd ([x12.1, x13.1, x6.1] : List Remap) t6414).pages), I ((gd ([x12.1, x13.1, x6.1] : List Remap) t6414).spares), .L 2 (((gd ([x12.1, x13.1, x6.1] : List Remap) t6414).places).map Place.cs), .L 1 (((gd ([x12.1, x13.1, x6.1] : List Remap) t6414).bad).map cI)])) rfl rfl rfl (e_ldbA (ev_t rfl) ty29 (bx rfl rfl) rfl rfl) ?_
                      refine RgOK.s (v := VI (i29)) rfl rfl rfl (e_mv (ev_t rfl)) ?_
                      obtain ⟨x33, e33, hm⟩ := hm.call
                      refine RgOK.cl rfl rfl rfl rfl pl26 (R2.wk _) (quarantine_Where_ok   e33) ?_
                      rintro _ _ ⟨rfl, rfl⟩
                      refine RgOK.s (v := .tup [.c (I (x33.1)), .c (I (x33.2))]) rfl rfl rfl (e_mv (ev_t rfl)) ?_
                      refine RgOK.s (v := VI (x33.1)) rfl rfl rfl (e_ext (ev_t rfl) rfl) ?_
                      refine RgOK.s (v := VI (x33.2)) rfl rfl rfl (e_ext (ev_t rfl) rfl) ?_
                      refine RgOK.s (v := VI (x33.1)) rfl rfl rfl (e_as (ev_t rfl)) ?_
                      refine RgOK.s (v := VI (x33.2)) rfl rfl rfl (e_as (ev_t rfl)) ?_
                      refine RgOK.nil ?_
                      show CdOK _ _ _ _ _ _
                      refine CdOK.seq ?_
                      refine CdOK.region ?_
                      refine RgOK.s (v := .o (.agg [I ((gd ([x12.1, x13.1, x6.1] : List Remap) t6414).pages), I ((gd ([x12.1, x13.1, x6.1] : List Remap) t6414).spares), .L 2 (((gd ([x12.1, x13.1, x6.1] : List Remap) t6414).places).map Place.cs), .L 1 (((gd ([x12.1, x13.1, x6.1] : List Remap) t6414).bad).map cI)])) rfl rfl rfl (e_ldbA (ev_t rfl) ty29 (bx rfl rfl) rfl rfl) ?_
                      refine RgOK.s (v := VI (i29)) rfl rfl rfl (e_mv (ev_t rfl)) ?_
                      obtain ⟨x34, e34, hm⟩ := hm.call
                      refine RgOK.cl rfl rfl rfl rfl pl27 (R2.wk _) (ref35_Where_ok   e34) ?_
                      rintro _ _ ⟨rfl, rfl⟩
                      refine RgOK.s (v := .tup [.c (I (x34.1)), .c (I (x34.2))]) rfl rfl rfl (e_mv (ev_t rfl)) ?_
                      refine RgOK.s (v := VI (x34.1)) rfl rfl rfl (e_ext (ev_t rfl) rfl) ?_
                      refine RgOK.s (v := VI (x34.2)) rfl rfl rfl (e_ext (ev_t rfl) rfl) ?_
                      refine RgOK.s (v := VI (x34.1)) rfl rfl rfl (e_as (ev_t rfl)) ?_
                      refine RgOK.s (v := VI (x34.2)) rfl rfl rfl (e_as (ev_t rfl)) ?_
                      refine RgOK.nil ?_
                      show CdOK _ _ _ _ _ _
                      refine CdOK.seq ?_
                      refine CdOK.region ?_
                      refine RgOK.s (v := .o (.agg [I ((gd ([x12.1, x13.1, x6.1] : List Remap) t6414).pages), I ((gd ([x12.1, x13.1, x6.1] : List Remap) t6414).spares), .L 2 (((gd ([x12.1, x13.1, x6.1] : List Remap) t6414).places).map Place.cs), .L 1 (((gd ([x12.1, x13.1, x6.1] : List Remap) t6414).bad).map cI)])) rfl rfl rfl (e_ldbA (ev_t rfl) ty29 (bx rfl rfl) rfl rfl) ?_
                      refine RgOK.s (v := VI (i29)) rfl rfl rfl (e_mv (ev_t rfl)) ?_
                      obtain ⟨x35, e35, hm⟩ := hm.call
                      refine RgOK.cl rfl rfl rfl rfl pl28 (R2.wk _) (quarantine_Owner_ok   e35) ?_
                      rintro _ _ ⟨rfl, rfl⟩
                      refine RgOK.s (v := .tup [.c (I (x35.1)), .c (Bo (x35.2))]) rfl rfl rfl (e_mv (ev_t rfl)) ?_
                      refine RgOK.s (v := VI (x35.1)) rfl rfl rfl (e_ext (ev_t rfl) rfl) ?_
                      refine RgOK.s (v := VB (x35.2)) rfl rfl rfl (e_ext (ev_t rfl) rfl) ?_
                      refine RgOK.s (v := VI (x35.1)) rfl rfl rfl (e_as (ev_t rfl)) ?_
                      refine RgOK.s (v := VB (x35.2)) rfl rfl rfl (e_as (ev_t rfl)) ?_
                      refine RgOK.nil ?_
                      show CdOK _ _ _ _ _ _
                      refine CdOK.seq ?_
                      refine CdOK.region ?_
                      refine RgOK.s (v := .o (.agg [I ((gd ([x12.1, x13.1, x6.1] : List Remap) t6414).pages), I ((gd ([x12.1, x13.1, x6.1] : List Remap) t6414).spares), .L 2 (((gd ([x12.1, x13.1, x6.1] : List Remap) t6414).places).map Place.cs), .L 1 (((gd ([x12.1, x13.1, x6.1] : List Remap) t6414).bad).map cI)])) rfl rfl rfl (e_ldbA (ev_t rfl) ty29 (bx rfl rfl) rfl rfl) ?_
                      refine RgOK.s (v := VI (i29)) rfl rfl rfl (e_mv (ev_t rfl)) ?_
                      obtain ⟨x36, e36, hm⟩ := hm.call
                      refine RgOK.cl rfl rfl rfl rfl pl29 (R2.wk _) (ref35_Owner_ok   e36) ?_
                      rintro _ _ ⟨rfl, rfl⟩
                      refine RgOK.s (v := .tup [.c (I (x36.1)), .c (Bo (x36.2))]) rfl rfl rfl (e_mv (ev_t rfl)) ?_
                      refine RgOK.s (v := VI (x36.1)) rfl rfl rfl (e_ext (ev_t rfl) rfl) ?_
                      refine RgOK.s (v := VB (x36.2)) rfl rfl rfl (e_ext (ev_t rfl) rfl) ?_
                      refine RgOK.s (v := VI (x36.1)) rfl rfl rfl (e_as (ev_t rfl)) ?_
                      refine RgOK.s (v := VB (x36.2)) rfl rfl rfl (e_as (ev_t rfl)) ?_
                      refine RgOK.nil ?_
                      show CdOK _ _ _ _ _ _
                      refine CdOK.seq ?_
                      refine CdOK.region ?_
                      refine RgOK.s (v := .o (.agg [I ((gd ([x12.1, x13.1, x6.1] : List Remap) t6414).pages), I ((gd ([x12.1, x13.1, x6.1] : List Remap) t6414).spares), .L 2 (((gd ([x12.1, x13.1, x6.1] : List Remap) t6414).places).map Place.cs), .L 1 (((gd ([x12.1, x13.1, x6.1] : List Remap) t6414).bad).map cI)])) rfl rfl rfl (e_ldbA (ev_t rfl) ty29 (bx rfl rfl) rfl rfl) ?_
                      refine RgOK.s (v := VI (i29)) rfl rfl rfl (e_mv (ev_t rfl)) ?_
                      obtain ⟨x37, e37, hm⟩ := hm.call
                      refine RgOK.cl rfl rfl rfl rfl pl30 (R2.wk _) (quarantine_Mark_ok   e37) ?_
                      rintro _ _ ⟨rfl, rfl⟩
                      refine RgOK.s (v := .tup [.agg [I (x37.1.pages), I (x37.1.spares), .L 2 (x37.1.places.map Place.cs), .L 1 (x37.1.bad.map cI)], .c (I (x37.2.1)), .c (I (x37.2.2))]) rfl rfl rfl (e_mv (ev_t rfl)) ?_
                      refine RgOK.s (v := .o (.agg [I (x37.1.pages), I (x37.1.spares), .L 2 (x37.1.places.map Place.cs), .L 1 (x37.1.bad.map cI)])) rfl rfl rfl (e_ext (ev_t rfl) rfl) ?_
                      refine RgOK.s (v := VI (x37.2.1)) rfl rfl rfl (e_ext (ev_t rfl) rfl) ?_
                      refine RgOK.s (v := VI (x37.2.2)) rfl rfl rfl (e_ext (ev_t rfl) rfl) ?_
                      refine RgOK.s (v := .o (.c (.ptr (h.length + 1) 0))) rfl rfl rfl (e_allocN (L' := [⟨[I ((gd ([x12.1, x13.1, x6.1] : List Remap) t6414).pages), I ((gd ([x12.1, x13.1, x6.1] : List Remap) t6414).spares), .L 2 (((gd ([x12.1, x13.1, x6.1] : List Remap) t6414).places).map Place.cs), .L 1 (((gd ([x12.1, x13.1, x6.1] : List Remap) t6414).bad).map cI)], true, true⟩, ⟨[I (0), I (0), .v (.slice none 0 0), .v (.slice none 0 0)], true, true⟩]) rfl zo29 rfl rfl) ?_
                      refine RgOK.s0 rfl rfl (e_stN (L' := [⟨[I ((gd ([x12.1, x13.1, x6.1] : List Remap) t6414).pages), I ((gd ([x12.1, x13.1, x6.1] : List Remap) t6414).spares), .L 2 (((gd ([x12.1, x13.1, x6.1] : List Remap) t6414).places).map Place.cs), .L 1 (((gd ([x12.1, x13.1, x6.1] : List Remap) t6414).bad).map cI)], true, true⟩, ⟨[I (x37.1.pages), I (x37.1.spares), .L 2 (x37.1.places.map Place.cs), .L 1 (x37.1.bad.map cI)], true, true⟩]) rfl (ev_t rfl) (ev_t rfl) ty29 rfl rfl rfl rfl rfl) ?_
                      refine RgOK.s (v := VI (x37.2.1)) rfl rfl rfl (e_as (ev_t rfl)) ?_
                      refine RgOK.s (v := VI (x37.2.2)) rfl rfl rfl (e_as (ev_t rfl)) ?_
                      refine RgOK.nil ?_
                      show CdOK _ _ _ _ _ _
                      refine CdOK.seq ?_
                      refine CdOK.region ?_
                      refine RgOK.s (v := .o (.agg [I ((gd ([x12.1, x13.1, x6.1] : List Remap) t6414).pages), I ((gd ([x12.1, x13.1, x6.1] : List Remap) t6414).spares), .L 2 (((gd ([x12.1, x13.1, x6.1] : List Remap) t6414).places).map Place.cs), .L 1 (((gd ([x12.1, x13.1, x6.1] : List Remap) t6414).bad).map cI)])) rfl rfl rfl (e_ldbA (ev_t rfl) ty29 (bx rfl rfl) rfl rfl) ?_
                      refine RgOK.s (v := VI (i29)) rfl rfl rfl (e_mv (ev_t rfl)) ?_
                      obtain ⟨x38, e38, hm⟩ := hm.call
                      refine RgOK.cl rfl rfl rfl rfl pl31 (R2.wk _) (ref35_Mark_ok   e38) ?_
                      rintro _ _ ⟨rfl, rfl⟩
                      refine RgOK.s (v := .tup [.agg [I (x38.1.pages), I (x38.1.spares), .L 2 (x38.1.places.map Place.cs), .L 1 (x38.1.bad.map cI)], .c (I (x38.2.1)), .c (I (x38.2.2))]) rfl rfl rfl (e_mv (ev_t rfl)) ?_
                      refine RgOK.s (v := .o (.agg [I (x38.1.pages), I (x38.1.spares), .L 2 (x38.1.places.map Place.cs), .L 1 (x38.1.bad.map cI)])) rfl rfl rfl (e_ext (ev_t rfl) rfl) ?_
                      refine RgOK.s (v := VI (x38.2.1)) rfl rfl rfl (e_ext (ev_t rfl) rfl) ?_
                      refine RgOK.s (v := VI (x38.2.2)) rfl rfl rfl (e_ext (ev_t rfl) rfl) ?_
                      refine RgOK.s (v := .o (.c (.ptr (h.length + 2) 0))) rfl rfl rfl (e_allocN (L' := [⟨[I ((gd ([x12.1, x13.1, x6.1] : List Remap) t6414).pages), I ((gd ([x12.1, x13.1, x6.1] : List Remap) t6414).spares), .L 2 (((gd ([x12.1, x13.1, x6.1] : List Remap) t6414).places).map Place.cs), .L 1 (((gd ([x12.1, x13.1, x6.1] : List Remap) t6414).bad).map cI)], true, true⟩, ⟨[I (x37.1.pages), I (x37.1.spares), .L 2 (x37.1.places.map Place.cs), .L 1 (x37.1.bad.map cI)], true, true⟩, ⟨[I (0), I (0), .v (.slice none 0 0), .v (.slice none 0 0)], true, true⟩]) rfl zo29 rfl rfl) ?_
                      refine RgOK.s0 rfl rfl (e_stN (L' := [⟨[I ((gd ([x12.1, x13.1, x6.1] : List Remap) t6414).pages), I ((gd ([x12.1, x13.1, x6.1] : List Remap) t6414).spares), .L 2 (((gd ([x12.1, x13.1, x6.1] : List Remap) t6414).places).map Place.cs), .L 1 (((gd ([x12.1, x13.1, x6.1] : List Remap) t6414).bad).map cI)], true, true⟩, ⟨[I (x37.1.pages), I (x37.1.spares), .L 2 (x37.1.places.map Place.cs), .L 1 (x37.1.bad.map cI)], true, true⟩, ⟨[I (x38.1.pages), I (x38.1.spares), .L 2 (x38.1.places.map Place.cs), .L 1 (x38.1.bad.map cI)], true, true⟩]) rfl (ev_t rfl) (ev_t rfl) ty29 rfl rfl rfl rfl rfl) ?_
                      refine RgOK.s (v := VI (x38.2.1)) rfl rfl rfl (e_as (ev_t rfl)) ?_
                      refine RgOK.s (v := VI (x38.2.2)) rfl rfl rfl (e_as (ev_t rfl)) ?_
                      refine RgOK.nil ?_
                      show CdOK _ _ _ _ _ _
                      refine CdOK.seq ?_
                      refine CdOK.region ?_
                      refine RgOK.s (v := VI (x33.1)) rfl rfl rfl (e_mv (ev_t rfl)) ?_
                      refine RgOK.s (v := VI (x34.1)) rfl rfl rfl (e_mv (ev_t rfl)) ?_
                      refine RgOK.sd rfl rfl rfl (e_neK (ev_t rfl) (ev_t rfl)) ?_ ?_
                      · intro c39; replace hm := hm.ifp c39
                        refine RgOK.s (v := VB (true)) rfl rfl rfl (e_mv (ev_t rfl)) ?_
                        refine RgOK.sk rfl rfl rfl ?_
                        refine RgOK.sk rfl rfl rfl ?_
                        refine RgOK.sk rfl rfl rfl ?_
                        refine RgOK.s (v := VB (true)) rfl rfl rfl (e_pick (t := true) (ev_t rfl) rfl) ?_
                        refine RgOK.s (v := VB (true)) rfl rfl rfl (e_mv (ev_t rfl)) ?_
                        refine RgOK.sk rfl rfl rfl ?_
                        refine RgOK.sk rfl rfl rfl ?_
                        refine RgOK.sk rfl rfl rfl ?_
                        refine RgOK.s (v := VB (true)) rfl rfl rfl (e_pick (t := true) (ev_t rfl) rfl) ?_
                        refine RgOK.s (v := VB (true)) rfl rfl rfl (e_mv (ev_t rfl)) ?_
                        refine RgOK.sk rfl rfl rfl ?_
                        refine RgOK.sk rfl rfl rfl ?_
                        refine RgOK.sk rfl rfl rfl ?_
                        refine RgOK.s (v := VB (true)) rfl rfl rfl (e_pick (t := true) (ev_t rfl) rfl) ?_
                        refine RgOK.s (v := VB (true)) rfl rfl rfl (e_mv (ev_t rfl)) ?_
                        refine RgOK.sk rfl rfl rfl ?_
                        refine RgOK.sk rfl rfl rfl ?_
                        refine RgOK.sk rfl rfl rfl ?_
                        refine RgOK.s (v := VB (true)) rfl rfl rfl (e_pick (t := true) (ev_t rfl) rfl) ?_
                        refine RgOK.s (v := VB (true)) rfl rfl rfl (e_mv (ev_t rfl)) ?_
                        refine RgOK.sk rfl rfl rfl ?_
                        refine RgOK.sk rfl rfl rfl ?_
                        refine RgOK.sk rfl rfl rfl ?_
                        refine RgOK.s (v := VB (true)) rfl rfl rfl (e_pick (t := true) (ev_t rfl) rfl) ?_
                        refine RgOK.s (v := VB (true)) rfl rfl rfl (e_mv (ev_t rfl)) ?_
                        refine RgOK.sk rfl rfl rfl ?_
                        refine RgOK.sk rfl rfl rfl ?_
                        refine RgOK.sk rfl rfl rfl ?_
                        refine RgOK.sk rfl rfl rfl ?_
                        refine RgOK.s (v := VB (true)) rfl rfl rfl (e_pick (t := true) (ev_t rfl) rfl) ?_
                        refine RgOK.nil ?_
                        show CdOK _ _ _ _ _ _
                        refine CdOK.cond_true rfl ?_
                        refine CdOK.seq ?_
                        refine CdOK.region ?_
                        refine RgOK.s (v := VB (false)) rfl rfl rfl (e_as rfl) ?_
                        refine RgOK.nil ?_
                        show CdOK _ _ _ _ _ _
                        refine CdOK.ret ?_
                        refine ⟨.inr rfl, _, rfl, h, [⟨[I ((gd ([x12.1, x13.1, x6.1] : List Remap) t6414).pages), I ((gd ([x12.1, x13.1, x6.1] : List Remap) t6414).spares), .L 2 (((gd ([x12.1, x13.1, x6.1] : List Remap) t6414).places).map Place.cs), .L 1 (((gd ([x12.1, x13.1, x6.1] : List Remap) t6414).bad).map cI)], true, true⟩, ⟨[I (x37.1.pages), I (x37.1.spares), .L 2 (x37.1.places.map Place.cs), .L 1 (x37.1.bad.map cI)], true, true⟩, ⟨[I (x38.1.pages), I (x38.1.spares), .L 2 (x38.1.places.map Place.cs), .L 1 (x38.1.bad.map cI)], true, true⟩], _, rfl, rfl, hC, ((renFlV rfl) : RenV _ _ _ _ (VB (false))), ?_⟩
                        have hr := hm.ret
                        replace hr := Ev.ret hr
                        replace hr := Ev.ret hr
                        subst hr
                        exact ⟨rfl, rfl⟩
                      · intro c40; replace hm := hm.ifn c40
                        refine RgOK.s (v := VB (false)) rfl rfl rfl (e_mv (ev_t rfl)) ?_
                        refine RgOK.s (v := VI (x33.2)) rfl rfl rfl (e_mv (ev_t rfl)) ?_
                        refine RgOK.s (v := VI (x34.2)) rfl rfl rfl (e_mv (ev_t rfl)) ?_
                        refine RgOK.sd rfl rfl rfl (e_neK (ev_t rfl) (ev_t rfl)) ?_ ?_
                        · intro c41; replace hm := hm.ifp c41
                          refine RgOK.s (v := VB (true)) rfl rfl rfl (e_pick (t := false) (ev_t rfl) (ev_t rfl)) ?_
                          refine RgOK.s (v := VB (true)) rfl rfl rfl (e_mv (ev_t rfl)) ?_
                          refine RgOK.sk rfl rfl rfl ?_
                          refine RgOK.sk rfl rfl rfl ?_
                          refine RgOK.sk rfl rfl rfl ?_
                          refine RgOK.s (v := VB (true)) rfl rfl rfl (e_pick (t := true) (ev_t rfl) rfl) ?_
                          refine RgOK.s (v := VB (true)) rfl rfl rfl (e_mv (ev_t rfl)) ?_
                          refine RgOK.sk rfl rfl rfl ?_
                          refine RgOK.sk rfl rfl rfl ?_
                          refine RgOK.sk rfl rfl rfl ?_
                          refine RgOK.s (v := VB (true)) rfl rfl rfl (e_pick (t := true) (ev_t rfl) rfl) ?_
                          refine RgOK.s (v := VB (true)) rfl rfl rfl (e_mv (ev_t rfl)) ?_
                          refine RgOK.sk rfl rfl rfl ?_
                          refine RgOK.sk rfl rfl rfl ?_
                          refine RgOK.sk rfl rfl rfl ?_
                          refine RgOK.s (v := VB (true)) rfl rfl rfl (e_pick (t := true) (ev_t rfl) rfl) ?_
                          refine RgOK.s (v := VB (true)) rfl rfl rfl (e_mv (ev_t rfl)) ?_
                          refine RgOK.sk rfl rfl rfl ?_
                          refine RgOK.sk rfl rfl rfl ?_
                          refine RgOK.sk rfl rfl rfl ?_
                          refine RgOK.s (v := VB (true)) rfl rfl rfl (e_pick (t := true) (ev_t rfl) rfl) ?_
                          refine RgOK.s (v := VB (true)) rfl rfl rfl (e_mv (ev_t rfl)) ?_
                          refine RgOK.sk rfl rfl rfl ?_
                          refine RgOK.sk rfl rfl rfl ?_
                          refine RgOK.sk rfl rfl rfl ?_
                          refine RgOK.sk rfl rfl rfl ?_
                          refine RgOK.s (v := VB (true)) rfl rfl rfl (e_pick (t := true) (ev_t rfl) rfl) ?_
                          refine RgOK.nil ?_
                          show CdOK _ _ _ _ _ _
                          refine CdOK.cond_true rfl ?_
                          refine CdOK.seq ?_
                          refine CdOK.region ?_
                          refine RgOK.s (v := VB (false)) rfl rfl rfl (e_as rfl) ?_
                          refine RgOK.nil ?_
                          show CdOK _ _ _ _ _ _
                          refine CdOK.ret ?_
                          refine ⟨.inr rfl, _, rfl, h, [⟨[I ((gd ([x12.1, x13.1, x6.1] : List Remap) t6414).pages), I ((gd ([x12.1, x13.1, x6.1] : List Remap) t6414).spares), .L 2 (((gd ([x12.1, x13.1, x6.1] : List Remap) t6414).places).map Place.cs), .L 1 (((gd ([x12.1, x13.1, x6.1] : List Remap) t6414).bad).map cI)], true, true⟩, ⟨[I (x37.1.pages), I (x37.1.spares), .L 2 (x37.1.places.map Place.cs), .L 1 (x37.1.bad.map cI)], true, true⟩, ⟨[I (x38.1.pages), I (x38.1.spares), .L 2 (x38.1.places.map Place.cs), .L 1 (x38.1.bad.map cI)], true, true⟩], _, rfl, rfl, hC, ((renFlV rfl) : RenV _ _ _ _ (VB (false))), ?_⟩
                          have hr := hm.ret
                          replace hr := Ev.ret hr
                          replace hr := Ev.ret hr
                          subst hr
                          exact ⟨rfl, rfl⟩
                        · intro c42; replace hm := hm.ifn c42
                          refine RgOK.s (v := VB (false)) rfl rfl rfl (e_pick (t := false) (ev_t rfl) (ev_t rfl)) ?_
                          refine RgOK.s (v := VB (false)) rfl rfl rfl (e_mv (ev_t rfl)) ?_
                          refine RgOK.s (v := VI (x35.1)) rfl rfl rfl (e_mv (ev_t rfl)) ?_
                          refine RgOK.s (v := VI (x36.1)) rfl rfl rfl (e_mv (ev_t rfl)) ?_
                          refine RgOK.sd rfl rfl rfl (e_neK (ev_t rfl) (ev_t rfl)) ?_ ?_
                          · intro c43; replace hm := hm.ifp c43
                            refine RgOK.s (v := VB (true)) rfl rfl rfl (e_pick (t := false) (ev_t rfl) (ev_t rfl)) ?_
                            refine RgOK.s (v := VB (true)) rfl rfl rfl (e_mv (ev_t rfl)) ?_
                            refine RgOK.sk rfl rfl rfl ?_
                            refine RgOK.sk rfl rfl rfl ?_
                            refine RgOK.sk rfl rfl rfl ?_
                            refine RgOK.s (v := VB (true)) rfl rfl rfl (e_pick (t := true) (ev_t rfl) rfl) ?_
                            refine RgOK.s (v := VB (true)) rfl rfl rfl (e_mv (ev_t rfl)) ?_
                            refine RgOK.sk rfl rfl rfl ?_
                            refine RgOK.sk rfl rfl rfl ?_
                            refine RgOK.sk rfl rfl rfl ?_
                            refine RgOK.s (v := VB (true)) rfl rfl rfl (e_pick (t := true) (ev_t rfl) rfl) ?_
                            refine RgOK.s (v := VB (true)) rfl rfl rfl (e_mv (ev_t rfl)) ?_
                            refine RgOK.sk rfl rfl rfl ?_
                            refine RgOK.sk rfl rfl rfl ?_
                            refine RgOK.sk rfl rfl rfl ?_
                            refine RgOK.s (v := VB (true)) rfl rfl rfl (e_pick (t := true) (ev_t rfl) rfl) ?_
                            refine RgOK.s (v := VB (true)) rfl rfl rfl (e_mv (ev_t rfl)) ?_
                            refine RgOK.sk rfl rfl rfl ?_
                            refine RgOK.sk rfl rfl rfl ?_
                            refine RgOK.sk rfl rfl rfl ?_
                            refine RgOK.sk rfl rfl rfl ?_
                            refine RgOK.s (v := VB (true)) rfl rfl rfl (e_pick (t := true) (ev_t rfl) rfl) ?_
                            refine RgOK.nil ?_
                            show CdOK _ _ _ _ _ _
                            refine CdOK.cond_true rfl ?_
                            refine CdOK.seq ?_
                            refine CdOK.region ?_
                            refine RgOK.s (v := VB (false)) rfl rfl rfl (e_as rfl) ?_
                            refine RgOK.nil ?_
                            show CdOK _ _ _ _ _ _
                            refine CdOK.ret ?_
                            refine ⟨.inr rfl, _, rfl, h, [⟨[I ((gd ([x12.1, x13.1, x6.1] : List Remap) t6414).pages), I ((gd ([x12.1, x13.1, x6.1] : List Remap) t6414).spares), .L 2 (((gd ([x12.1, x13.1, x6.1] : List Remap) t6414).places).map Place.cs), .L 1 (((gd ([x12.1, x13.1, x6.1] : List Remap) t6414).bad).map cI)], true, true⟩, ⟨[I (x37.1.pages), I (x37.1.spares), .L 2 (x37.1.places.map Place.cs), .L 1 (x37.1.bad.map cI)], true, true⟩, ⟨[I (x38.1.pages), I (x38.1.spares), .L 2 (x38.1.places.map Place.cs), .L 1 (x38.1.bad.map cI)], true, true⟩], _, rfl, rfl, hC, ((renFlV rfl) : RenV _ _ _ _ (VB (false))), ?_⟩
                            have hr := hm.ret
                            replace hr := Ev.ret hr
                            replace hr := Ev.ret hr
                            subst hr
                            exact ⟨rfl, rfl⟩
                          · intro c44; replace hm := hm.ifn c44
                            refine RgOK.s (v := VB (false)) rfl rfl rfl (e_pick (t := false) (ev_t rfl) (ev_t rfl)) ?_
                            refine RgOK.s (v := VB (false)) rfl rfl rfl (e_mv (ev_t rfl)) ?_
                            refine RgOK.s (v := VB (x35.2)) rfl rfl rfl (e_mv (ev_t rfl)) ?_
                            refine RgOK.s (v := VB (x36.2)) rfl rfl rfl (e_mv (ev_t rfl)) ?_
                            refine RgOK.sb rfl rfl rfl (e_neB (ev_t rfl) (ev_t rfl) bo4) ?_ ?_
                            · intro c45; replace hm := hm.ifp c45
                              refine RgOK.s (v := VB (true)) rfl rfl rfl (e_pick (t := false) (ev_t rfl) (ev_t rfl)) ?_
                              refine RgOK.s (v := VB (true)) rfl rfl rfl (e_mv (ev_t rfl)) ?_
                              refine RgOK.sk rfl rfl rfl ?_
                              refine RgOK.sk rfl rfl rfl ?_
                              refine RgOK.sk rfl rfl rfl ?_
                              refine RgOK.s (v := VB (true)) rfl rfl rfl (e_pick (t := true) (ev_t rfl) rfl) ?_
                              refine RgOK.s (v := VB (true)) rfl rfl rfl (e_mv (ev_t rfl)) ?_
                              refine RgOK.sk rfl rfl rfl ?_
                              refine RgOK.sk rfl rfl rfl ?_
                              refine RgOK.sk rfl rfl rfl ?_
                              refine RgOK.s (v := VB (true)) rfl rfl rfl (e_pick (t := true) (ev_t rfl) rfl) ?_
                              refine RgOK.s (v := VB (true)) rfl rfl rfl (e_mv (ev_t rfl)) ?_
                              refine RgOK.sk rfl rfl rfl ?_
                              refine RgOK.sk rfl rfl rfl ?_
                              refine RgOK.sk rfl rfl rfl ?_
                              refine RgOK.sk rfl rfl rfl ?_
                              refine RgOK.s (v := VB (true)) rfl rfl rfl (e_pick (t := true) (ev_t rfl) rfl) ?_
                              refine RgOK.nil ?_
                              show CdOK _ _ _ _ _ _
                              refine CdOK.cond_true rfl ?_
                              refine CdOK.seq ?_
                              refine CdOK.region ?_
                              refine RgOK.s (v := VB (false)) rfl rfl rfl (e_as rfl) ?_
                              refine RgOK.nil ?_
                              show CdOK _ _ _ _ _ _
                              refine CdOK.ret ?_
                              refine ⟨.inr rfl, _, rfl, h, [⟨[I ((gd ([x12.1, x13.1, x6.1] : List Remap) t6414).pages), I ((gd ([x12.1, x13.1, x6.1] : List Remap) t6414).spares), .L 2 (((gd ([x12.1, x13.1, x6.1] : List Remap) t6414).places).map Place.cs), .L 1 (((gd ([x12.1, x13.1, x6.1] : List Remap) t6414).bad).map cI)], true, true⟩, ⟨[I (x37.1.pages), I (x37.1.spares), .L 2 (x37.1.places.map Place.cs), .L 1 (x37.1.bad.map cI)], true, true⟩, ⟨[I (x38.1.pages), I (x38.1.spares), .L 2 (x38.1.places.map Place.cs), .L 1 (x38.1.bad.map cI)], true, true⟩], _, rfl, rfl, hC, ((renFlV rfl) : RenV _ _ _ _ (VB (false))), ?_⟩
                              have hr := hm.ret
                              replace hr := Ev.ret hr
                              replace hr := Ev.ret hr
                              subst hr
                              exact ⟨rfl, rfl⟩
                            · intro c46; replace hm := hm.ifn (by rw [c46]; exact Bool.false_ne_true)
                              refine RgOK.s (v := VB (false)) rfl rfl rfl (e_pick (t := false) (ev_t rfl) (ev_t rfl)) ?_
                              refine RgOK.s (v := VB (false)) rfl rfl rfl (e_mv (ev_t rfl)) ?_
                              refine RgOK.s (v := VI (x37.2.1)) rfl rfl rfl (e_mv (ev_t rfl)) ?_
                              refine RgOK.s (v := VI (x38.2.1)) rfl rfl rfl (e_mv (ev_t rfl)) ?_
                              refine RgOK.sd rfl rfl rfl (e_neK (ev_t rfl) (ev_t rfl)) ?_ ?_
                              · intro c47; replace hm := hm.ifp c47
                                refine RgOK.s (v := VB (true)) rfl rfl rfl (e_pick (t := false) (ev_t rfl) (ev_t rfl)) ?_
                                refine RgOK.s (v := VB (true)) rfl rfl rfl (e_mv (ev_t rfl)) ?_
                                refine RgOK.sk rfl rfl rfl ?_
                                refine RgOK.sk rfl rfl rfl ?_
                                refine RgOK.sk rfl rfl rfl ?_
                                refine RgOK.s (v := VB (true)) rfl rfl rfl (e_pick (t := true) (ev_t rfl) rfl) ?_
                                refine RgOK.s (v := VB (true)) rfl rfl rfl (e_mv (ev_t rfl)) ?_
                                refine RgOK.sk rfl rfl rfl ?_
                                refine RgOK.sk rfl rfl rfl ?_
                                refine RgOK.sk rfl rfl rfl ?_
                                refine RgOK.sk rfl rfl rfl ?_
                                refine RgOK.s (v := VB (true)) rfl rfl rfl (e_pick (t := true) (ev_t rfl) rfl) ?_
                                refine RgOK.nil ?_
                                show CdOK _ _ _ _ _ _
                                refine CdOK.cond_true rfl ?_
                                refine CdOK.seq ?_
                                refine CdOK.region ?_
                                refine RgOK.s (v := VB (false)) rfl rfl rfl (e_as rfl) ?_
                                refine RgOK.nil ?_
                                show CdOK _ _ _ _ _ _
                                refine CdOK.ret ?_
                                refine ⟨.inr rfl, _, rfl, h, [⟨[I ((gd ([x12.1, x13.1, x6.1] : List Remap) t6414).pages), I ((gd ([x12.1, x13.1, x6.1] : List Remap) t6414).spares), .L 2 (((gd ([x12.1, x13.1, x6.1] : List Remap) t6414).places).map Place.cs), .L 1 (((gd ([x12.1, x13.1, x6.1] : List Remap) t6414).bad).map cI)], true, true⟩, ⟨[I (x37.1.pages), I (x37.1.spares), .L 2 (x37.1.places.map Place.cs), .L 1 (x37.1.bad.map cI)], true, true⟩, ⟨[I (x38.1.pages), I (x38.1.spares), .L 2 (x38.1.places.map Place.cs), .L 1 (x38.1.bad.map cI)], true, true⟩], _, rfl, rfl, hC, ((renFlV rfl) : RenV _ _ _ _ (VB (false))), ?_⟩
                                have hr := hm.ret
                                replace hr := Ev.ret hr
                                replace hr := Ev.ret hr
                                subst hr
                                exact ⟨rfl, rfl⟩
                              · intro c48; replace hm := hm.ifn c48
                                refine RgOK.s (v := VB (false)) rfl rfl rfl (e_pick (t := false) (ev_t rfl) (ev_t rfl)) ?_
                                refine RgOK.s (v := VB (false)) rfl rfl rfl (e_mv (ev_t rfl)) ?_
                                refine RgOK.s (v := VI (x37.2.2)) rfl rfl rfl (e_mv (ev_t rfl)) ?_
                                refine RgOK.s (v := VI (x38.2.2)) rfl rfl rfl (e_mv (ev_t rfl)) ?_
                                refine RgOK.sd rfl rfl rfl (e_neK (ev_t rfl) (ev_t rfl)) ?_ ?_
                                · intro c49; replace hm := hm.ifp c49
                                  refine RgOK.s (v := VB (true)) rfl rfl rfl (e_pick (t := false) (ev_t rfl) (ev_t rfl)) ?_
                                  refine RgOK.s (v := VB (true)) rfl rfl rfl (e_mv (ev_t rfl)) ?_
                                  refine RgOK.sk rfl rfl rfl ?_
                                  refine RgOK.sk rfl rfl rfl ?_
                                  refine RgOK.sk rfl rfl rfl ?_
                                  refine RgOK.sk rfl rfl rfl ?_
                                  refine RgOK.s (v := VB (true)) rfl rfl rfl (e_pick (t := true) (ev_t rfl) rfl) ?_
                                  refine RgOK.nil ?_
                                  show CdOK _ _ _ _ _ _
                                  refine CdOK.cond_true rfl ?_
                                  refine CdOK.seq ?_
                                  refine CdOK.region ?_
                                  refine RgOK.s (v := VB (false)) rfl rfl rfl (e_as rfl) ?_
                                  refine RgOK.nil ?_
                                  show CdOK _ _ _ _ _ _
                                  refine CdOK.ret ?_
                                  refine ⟨.inr rfl, _, rfl, h, [⟨[I ((gd ([x12.1, x13.1, x6.1] : List Remap) t6414).pages), I ((gd ([x12.1, x13.1, x6.1] : List Remap) t6414).spares), .L 2 (((gd ([x12.1, x13.1, x6.1] : List Remap) t6414).places).map Place.cs), .L 1 (((gd ([x12.1, x13.1, x6.1] : List Remap) t6414).bad).map cI)], true, true⟩, ⟨[I (x37.1.pages), I (x37.1.spares), .L 2 (x37.1.places.map Place.cs), .L 1 (x37.1.bad.map cI)], true, true⟩, ⟨[I (x38.1.pages), I (x38.1.spares), .L 2 (x38.1.places.map Place.cs), .L 1 (x38.1.bad.map cI)], true, true⟩], _, rfl, rfl, hC, ((renFlV rfl) : RenV _ _ _ _ (VB (false))), ?_⟩
                                  have hr := hm.ret
                                  replace hr := Ev.ret hr
                                  replace hr := Ev.ret hr
                                  subst hr
                                  exact ⟨rfl, rfl⟩
                                · intro c50; replace hm := hm.ifn c50
                                  refine RgOK.s (v := VB (false)) rfl rfl rfl (e_pick (t := false) (ev_t rfl) (ev_t rfl)) ?_
                                  refine RgOK.s (v := VB (false)) rfl rfl rfl (e_mv (ev_t rfl)) ?_
                                  refine RgOK.s (v := .o (.agg [I (x37.1.pages), I (x37.1.spares), .L 2 (x37.1.places.map Place.cs), .L 1 (x37.1.bad.map cI)])) rfl rfl rfl (e_ldbA (ev_t rfl) ty29 (bx rfl rfl) rfl rfl) ?_
                                  refine RgOK.s (v := .o (.agg [I (x38.1.pages), I (x38.1.spares), .L 2 (x38.1.places.map Place.cs), .L 1 (x38.1.bad.map cI)])) rfl rfl rfl (e_ldbA (ev_t rfl) ty29 (bx rfl rfl) rfl rfl) ?_
                                  obtain ⟨x51, e51, hm⟩ := hm.call
                                  refine RgOK.cl rfl rfl rfl rfl pl20 (R2.wk _) (ref35_Same_ok   e51) ?_
                                  rintro _ _ ⟨rfl, rfl⟩
                                  refine RgOK.s (v := VB ((!x51))) rfl rfl rfl (e_un (ev_t rfl) rfl) ?_
                                  refine RgOK.s (v := VB ((!x51))) rfl rfl rfl (e_pick (t := false) (ev_t rfl) (ev_t rfl)) ?_
                                  refine RgOK.nil ?_
                                  show CdOK _ _ _ _ _ _
                                  refine CdOK.condB (ev_t rfl) ?_ ?_
                                  · intro c52; replace hm := hm.ifp c52
                                    refine CdOK.seq ?_
                                    refine CdOK.region ?_
                                    refine RgOK.s (v := VB (false)) rfl rfl rfl (e_as rfl) ?_
                                    refine RgOK.nil ?_
                                    show CdOK _ _ _ _ _ _
                                    refine CdOK.ret ?_
                                    refine ⟨.inr rfl, _, rfl, h, [⟨[I ((gd ([x12.1, x13.1, x6.1] : List Remap) t6414).pages), I ((gd ([x12.1, x13.1, x6.1] : List Remap) t6414).spares), .L 2 (((gd ([x12.1, x13.1, x6.1] : List Remap) t6414).places).map Place.cs), .L 1 (((gd ([x12.1, x13.1, x6.1] : List Remap) t6414).bad).map cI)], true, true⟩, ⟨[I (x37.1.pages), I (x37.1.spares), .L 2 (x37.1.places.map Place.cs), .L 1 (x37.1.bad.map cI)], true, true⟩, ⟨[I (x38.1.pages), I (x38.1.spares), .L 2 (x38.1.places.map Place.cs), .L 1 (x38.1.bad.map cI)], true, true⟩], _, rfl, rfl, hC, ((renFlV rfl) : RenV _ _ _ _ (VB (false))), ?_⟩
                                    have hr := hm.ret
                                    replace hr := Ev.ret hr
                                    replace hr := Ev.ret hr
                                    subst hr
                                    exact ⟨rfl, rfl⟩
                                  · intro c53; replace hm := hm.ifn c53
                                    refine CdOK.skip ?_
                                    show CdOK _ _ _ _ _ _
                                    refine CdOK.region ?_
                                    refine RgOK.s (v := VI (k26)) rfl rfl rfl (e_mv (ev_t rfl)) ?_
                                    refine RgOK.s (v := VI ((w64 (k26 + 1)))) rfl rfl rfl (e_bin (ev_t rfl) rfl rfl rfl) ?_
                                    refine RgOK.s (v := VI ((w64 (k26 + 1)))) rfl rfl rfl (e_as (ev_t rfl)) ?_
                                    refine RgOK.nil ?_
                                    refine Told.re (σ := [0]) (X := [(3, VI (n_)), (15, .o (.c (.ptr (h.length + 0) 0))), (16, VI ((w64 (k26 + 1)))), (62, .o (.c (.LC 4 (([x12.1, x13.1, x6.1] : List Remap).map Remap.cs)))), (63, VI ((([x12.1, x13.1, x6.1] : List Remap).length : Int))), (64, VI (t6414))]) (L' := [⟨[I ((gd ([x12.1, x13.1, x6.1] : List Remap) t6414).pages), I ((gd ([x12.1, x13.1, x6.1] : List Remap) t6414).spares), .L 2 (((gd ([x12.1, x13.1, x6.1] : List Remap) t6414).places).map Place.cs), .L 1 (((gd ([x12.1, x13.1, x6.1] : List Remap) t6414).bad).map cI)], true, true⟩]) rfl rfl hC (by decide) (.obj 0 rfl (renFl rfl) .nil) (.cons (renFlV rfl) (.cons (.o (.c (.ptr 0 0 _ rfl))) (.cons (renFlV rfl) (.cons (.o (.c (.fl _ rfl))) (.cons (renFlV rfl) (.cons (renFlV rfl) .nil)))))) ?_
                                    exact ⟨_, (w64 (k26 + 1)), Nat.lt_succ_self _, hm, (.cons rfl (.cons rfl (.cons rfl (.cons rfl (.cons rfl (.cons rfl .nil)))))), rfl⟩
                  · intro c54; replace hm := hm.ifn c54
                    refine CdOK.exit ?_
                    refine Told.re (σ := []) (X := [(3, VI (n_)), (62, .o (.c (.LC 4 (([x12.1, x13.1, x6.1] : List Remap).map Remap.cs)))), (63, VI ((([x12.1, x13.1, x6.1] : List Remap).length : Int))), (64, VI (t6414))]) (L' := []) rfl rfl hC (by decide) .nil (.cons (renFlV rfl) (.cons (.o (.c (.fl _ rfl))) (.cons (renFlV rfl) (.cons (renFlV rfl) .nil)))) ?_
                    exact ⟨(), hm.ret, (.cons rfl (.cons rfl (.cons rfl (.cons rfl .nil)))), rfl⟩
                · intro _ T0 hm
                  show CdOK _ _ _ _ _ _
                  refine CdOK.region ?_
                  refine RgOK.s (v := VI ((w64 (t6414 + 1)))) rfl rfl rfl (e_bin (ev_t rfl) rfl rfl rfl) ?_
                  refine RgOK.s (v := VI ((w64 (t6414 + 1)))) rfl rfl rfl (e_mv (ev_t rfl)) ?_
                  refine RgOK.nil ?_
                  refine Told.re (σ := []) (X := [(3, VI (n_)), (62, .o (.c (.LC 4 (([x12.1, x13.1, x6.1] : List Remap).map Remap.cs)))), (63, VI ((([x12.1, x13.1, x6.1] : List Remap).length : Int))), (64, VI ((w64 (t6414 + 1))))]) (L' := []) rfl rfl hC (by decide) .nil (.cons (renFlV rfl) (.cons (.o (.c (.fl _ rfl))) (.cons (renFlV rfl) (.cons (renFlV rfl) .nil)))) ?_
                  exact ⟨_, (w64 (t6414 + 1)), Nat.lt_succ_self _, hm, (.cons rfl (.cons rfl (.cons rfl (.cons rfl .nil)))), rfl⟩
          · intro c56; replace hm := hm.ifn c56
            refine CdOK.exit ?_
            refine Told.id ?_
            exact ⟨(), hm.ret, .nil, rfl⟩
        · intro _ T0 hm
          show CdOK _ _ _ _ _ _
          refine CdOK.seq ?_
          refine CdOK.region ?_
          refine RgOK.s (v := VB (true)) rfl rfl rfl (e_as rfl) ?_
          refine RgOK.nil ?_
          show CdOK _ _ _ _ _ _
          refine CdOK.ret ?_
          refine ⟨.inr rfl, _, rfl, h, [], _, rfl, rfl, hC, ((renFlV rfl) : RenV _ _ _ _ (VB (true))), ?_⟩
          have hr := hm.ret
          subst hr
          exact ⟨rfl, rfl⟩
end Rv
