import Derived.Test.YtnlpkgamglhnbaaRvCmp
set_option linter.unusedVariables false
set_option linter.unusedSimpArgs false
namespace Rv
open Go Go.RowKit Go.Proofs
theorem bl115 : bldf Try.prog 115 [(0, 1), (1, 1)] = true := by decide +kernel
theorem cv5_3 : cvk Try.prog 5 3 .i64 = true := by decide +kernel
theorem el22 : ElF Try.prog 22 1 := .of (by decide +kernel)
theorem el27 : ElF Try.prog 27 1 := .of (by decide +kernel)
theorem fa115_0 : fadr Try.prog 115 0 0 = true := by decide +kernel
theorem fa115_1 : fadr Try.prog 115 1 1 = true := by decide +kernel
theorem is22 : isSliceT Try.prog 22 = true := by decide +kernel
theorem nl27 : nlT Try.prog 27 = [] := by kernel_rfl
theorem pl32 : plainFn Try.prog 32 = true := by decide +kernel
theorem slt27 : SlT Try.prog 27 1 ([.v (.int .i64 0)]) 8 := .of (e := 3) (by decide +kernel) (by kernel_rfl) rfl
theorem ty3 : TyF Try.prog 3 false 1 := .of (by decide +kernel)
theorem ty5 : TyF Try.prog 5 false 1 := .of (by decide +kernel)
theorem ty22 : TyF Try.prog 22 false 1 := .of (by decide +kernel)
theorem zo115 : zeroOf Try.prog 115 = some ([.v (.slice none 0 0)] ++ [.v (.int .i64 0)]) := by kernel_rfl
def New (l_ : (List Int)) (most : Int) : Option Codes := (((if most < (l_.length : Int) then (if (0 : Int) ≤ most ∧ most ≤ (l_.length : Int) then some (l_.take (Int.toNat most)) else none) else some l_)).bind fun (s5 : (List Int)) => some (⟨s5, 0⟩ : Codes))
theorem New_ok {h : Heap} {l_ : (List Int)} {most : Int}   {r : Codes} (hm : New l_ most = some r) : FnOK Try.prog 17 [.o (.c (.L 1 (l_.map c_u8))), VI (most)] h (fun v h' => v = .o (.c (.ptr h.length 0)) ∧ h' = h ++ [⟨[.L 1 (r.l_.map c_u8), I (r.at_)], true, true⟩]) := by
 refine FnOK.bodyC (N := 15) Try.func17 rfl rfl rfl (fun hC => ?_)
 replace hm := Ev.of hm
 rw [New.eq_1] at hm
 show CdOK _ _ _ (look _ [(0, .o (.c (.L 1 (l_.map c_u8)))), (1, VI (most))]) (h ++ ([] : Heap)) _
 refine .seq (.region ?_)
 refine .s rfl rfl rfl (e_as rfl) ?_
 refine .nil ?_
 replace hm := hm.bnd
 refine CdOK.joinE (σ := (List Int)) (fun s => s) hm (fun s => [(0, .o (.c (.L 1 (s.map c_u8))))]) (fun s => h ++ ([] : Heap)) ?_ ?_
 ·intro hm
  refine .seq (.region (.m rfl ?_))
  refine .t (VI ((l_.length : Int))) (e_lenM (ev_t rfl) is22) ?_
  refine .m rfl ?_
  refine .t (VB (decide (most < (l_.length : Int)))) (e_bin (ev_t rfl) (ev_t rfl) rfl rfl) ?_
  refine .nil ?_
  refine CdOK.condD (ev_t rfl) ?_ ?_
  ·intro c2; replace hm := hm.ifp c2
   refine .region ?_
   iterate 2 refine .m rfl ?_
   obtain ⟨c3, hm⟩ := hm.ifs
   refine .t (.o (.c (.L 1 ((l_.take (Int.toNat most)).map c_u8)))) (e_slhM el22 (ev_t rfl) (ev_t rfl) c3) ?_
   refine .a rfl ?_
   refine .nil (.id ?_)
   exact ⟨(l_.take (Int.toNat most)), hm.ret, (.cons rfl .nil), rfl⟩
  intro c4; replace hm := hm.ifn c4
  refine .skip ?_
  refine .id ?_
  exact ⟨l_, hm.ret, (.cons rfl .nil), rfl⟩
 rintro l1 T0 hm
 show CdOK _ _ _ (look T0 [(0, .o (.c (.L 1 (l1.map c_u8))))]) (h ++ ([] : Heap)) _
 refine .seq (.region (.m rfl ?_))
 refine .t (.o (.agg [.L 1 (l1.map c_u8), I (0)])) (e_bld (cs := [.L 1 (l1.map c_u8), I (0)]) zo115 bl115 rfl rfl) ?_
 refine .t (.o (.c (.ptr (h.length + 0) 0))) (e_boxN (L' := [⟨[.L 1 (l1.map c_u8), I (0)], true, true⟩]) rfl (ev_t rfl) rfl rfl) ?_
 refine .a rfl ?_
 refine .nil ?_
 refine CdOK.ret ?_
 have hr := hm.ret
 subst hr
 exact ⟨.inr rfl, _, rfl, rfl, rfl⟩
def Codes_Next.r : Nat → Int → Codes → Option (Int × Codes)
  | 0, _, _ => none
  | kkf + 1, n_, c_ => (if (c_.l_.length : Int) ≤ c_.at_ then some (0, c_) else (if n_ < 1 then some (0, c_) else (if (0 : Int) ≤ c_.at_ ∧ c_.at_ < (c_.l_.length : Int) then (if 256 < n_ then ((Codes_Next.r kkf 256 (⟨c_.l_, (w64 (c_.at_ + 1))⟩ : Codes)).bind fun (x7 : (Int × Codes)) => (if n_ ≠ 0 then some ((Int.tmod (w64 ((w64 (256 * (w64 (gd c_.l_ c_.at_)))) + x7.1)) n_), x7.2) else none)) else (if n_ ≠ 0 then some ((Int.tmod (w64 (gd c_.l_ c_.at_)) n_), (⟨c_.l_, (w64 (c_.at_ + 1))⟩ : Codes)) else none)) else none)))
theorem Codes_Next.r_ok : ∀ (kkf : Nat) {h : Heap} {n_ : Int} {c_ : Codes} {b_c_ : Nat} (hb_c_ : h[b_c_]? = some ⟨[.L 1 (c_.l_.map c_u8), I (c_.at_)], true, true⟩)  {r : (Int × Codes)} (hm : Codes_Next.r kkf n_ c_ = some r), FnOK Try.prog 32 [.o (.c (.ptr b_c_ 0)), VI (n_)] h (fun v h' => v = VI (r.1) ∧ h' = h.set b_c_ ⟨[.L 1 (r.2.l_.map c_u8), I (r.2.at_)], true, true⟩) := by
 intro kkf
 induction kkf with
 | zero => intros; rename_i hm; cases hm
 | succ kkf ih =>
 intro h n_ c_ b_c_ hb_c_ r hm
 refine FnOK.fin ?_
 refine FnOK.bodyC (N := 50) Try.func32 rfl rfl rfl (fun hC => ?_)
 have hl_c_ := lt_of_get hb_c_
 rw [show h ++ [] = (h.set b_c_ ⟨[.L 1 (c_.l_.map c_u8), I (c_.at_)], true, true⟩) ++ ([] : Heap) from by rw [set_same hb_c_]]
 replace hm := Ev.of hm
 rw [Codes_Next.r.eq_2] at hm
 show CdOK _ _ _ (look _ [(0, .o (.c (.ptr b_c_ 0))), (1, VI (n_))]) ((h.set b_c_ ⟨[.L 1 (c_.l_.map c_u8), I (c_.at_)], true, true⟩) ++ ([] : Heap)) _
 refine .seq (.region (.t (VI (0)) (e_as rfl) ?_))
 refine .nil (CdOK.seq (.seq ?_))
 refine .draw fol (by decide +kernel) ?_
 refine .m rfl ?_
 refine .t _ (e_nil (ev_t rfl)) ?_
 refine .t _ (e_fa' fa115_1 (ev_t rfl)) ?_
 refine .t _ (e_ldb1 (ev_t rfl) ty3 (pset hl_c_) rfl) ?_
 refine .m rfl ?_
 refine .t _ (e_nil (ev_t rfl)) ?_
 refine .t _ (e_fa' fa115_0 (ev_t rfl)) ?_
 refine .t _ (e_ldb1 (ev_t rfl) ty22 (pset hl_c_) rfl) ?_
 refine .t (VI ((c_.l_.length : Int))) (e_lenM (ev_t rfl) is22) ?_
 refine .sd rfl rfl rfl (e_bin (ev_t rfl) (ev_t rfl) rfl rfl) ?_ ?_
 ·intro c1; replace hm := hm.ifp c1
  refine .m rfl ?_
  iterate 2 refine .k ?_
  refine .t (VB (true)) (e_pick (t := true) (ev_t rfl) rfl) ?_
  refine .nil ?_
  refine CdOK.cond_true rfl ?_
  refine .seq (.region (.t (VI (0)) (e_as rfl) ?_))
  refine .nil ?_
  refine CdOK.ret ?_
  refine ⟨.inr rfl, _, rfl, (h.set b_c_ ⟨[.L 1 (c_.l_.map c_u8), I (c_.at_)], true, true⟩), _, _, rfl, (List.length_set ..), (hC.set rfl), ((renFlV rfl) : RenV _ _ _ _ (VI (0))), ?_⟩
  cases hm.ret; exact ⟨rfl, rfl⟩
 intro c2; replace hm := hm.ifn c2
 iterate 2 refine .m rfl ?_
 refine .t (VB (decide (n_ < 1))) (e_bin (ev_t rfl) rfl rfl rfl) ?_
 refine .t (VB (decide (n_ < 1))) (e_pick (t := false) (ev_t rfl) (ev_t rfl)) ?_
 refine .nil ?_
 refine CdOK.condD (ev_t rfl) ?_ ?_
 ·intro c3; replace hm := hm.ifp c3
  refine .seq (.region (.t (VI (0)) (e_as rfl) ?_))
  refine .nil ?_
  refine CdOK.ret ?_
  refine ⟨.inr rfl, _, rfl, (h.set b_c_ ⟨[.L 1 (c_.l_.map c_u8), I (c_.at_)], true, true⟩), _, _, rfl, (List.length_set ..), (hC.set rfl), ((renFlV rfl) : RenV _ _ _ _ (VI (0))), ?_⟩
  cases hm.ret; exact ⟨rfl, rfl⟩
 intro c4; replace hm := hm.ifn c4
 refine .skip ?_
 refine CdOK.seq ?_
 refine .draw fol (by decide +kernel) ?_
 refine .m rfl ?_
 refine .t _ (e_nil (ev_t rfl)) ?_
 refine .t _ (e_fa' fa115_0 (ev_t rfl)) ?_
 refine .t _ (e_ldb1 (ev_t rfl) ty22 (pset hl_c_) rfl) ?_
 refine .m rfl ?_
 refine .t _ (e_nil (ev_t rfl)) ?_
 refine .t _ (e_fa' fa115_1 (ev_t rfl)) ?_
 refine .t _ (e_ldb1 (ev_t rfl) ty3 (pset hl_c_) rfl) ?_
 obtain ⟨c5, hm⟩ := hm.ifs
 refine .t (.o (.c (.rp [.v (.int .u8 ((gd c_.l_ c_.at_)))]))) (e_ixM (f := c_u8) (l := c_.l_) (i := c_.at_) (ev_t rfl) (ev_t rfl) el22 c5) ?_
 refine .t _ (e_ldR1 (ev_t rfl) ty5 rfl) ?_
 refine .t (VI ((w64 (gd c_.l_ c_.at_)))) (e_cvw cv5_3 (ev_t rfl)) ?_
 refine .a rfl ?_
 refine .nil (CdOK.seq (.region (.m rfl ?_)))
 refine .t _ (e_nil (ev_t rfl)) ?_
 refine .t _ (e_fa' fa115_1 (ev_t rfl)) ?_
 refine .t _ (e_ldb1 (ev_t rfl) ty3 (pset hl_c_) rfl) ?_
 refine .t (VI ((w64 (c_.at_ + 1)))) (e_bin (ev_t rfl) rfl rfl rfl) ?_
 refine .t _ (e_nil (ev_t rfl)) ?_
 refine .t _ (e_fa' fa115_1 (ev_t rfl)) ?_
 refine .s0 rfl rfl (e_stP (cs' := [.L 1 (c_.l_.map c_u8), I ((w64 (c_.at_ + 1)))]) hl_c_ (ev_t rfl) (ev_t rfl) ty3 rfl rfl rfl) ?_
 refine .nil (CdOK.seq (.seq (.region (.m rfl ?_))))
 refine .t (VB (decide (256 < n_))) (e_bin (ev_t rfl) rfl rfl rfl) ?_
 refine .nil ?_
 refine CdOK.condD (ev_t rfl) ?_ ?_
 ·intro c6; replace hm := hm.ifp c6
  refine .seq (.region (.m rfl ?_))
  refine .t (VI ((w64 (256 * (w64 (gd c_.l_ c_.at_)))))) (e_bin rfl (ev_t rfl) rfl rfl) ?_
  refine .m rfl ?_
  obtain ⟨x7, e7, hm⟩ := hm.call
  refine .cl rfl rfl rfl rfl pl32 (R2.wk _) (ih  (b_c_ := b_c_) (pset hl_c_) e7) ?_
  rintro _ _ ⟨rfl, rfl⟩
  rw [show _ = (h.set b_c_ ⟨[.L 1 (x7.2.l_.map c_u8), I (x7.2.at_)], true, true⟩) ++ ([] : Heap) from (pset2 hl_c_)]
  refine .t (VI ((w64 ((w64 (256 * (w64 (gd c_.l_ c_.at_)))) + x7.1)))) (e_bin (ev_t rfl) (ev_t rfl) rfl rfl) ?_
  refine .m rfl ?_
  obtain ⟨c8, hm⟩ := hm.ifs
  refine .t (VI ((Int.tmod (w64 ((w64 (256 * (w64 (gd c_.l_ c_.at_)))) + x7.1)) n_))) (e_remK (ev_t rfl) (ev_t rfl) c8) ?_
  refine .a rfl ?_
  refine .nil ?_
  refine CdOK.ret ?_
  refine ⟨.inr rfl, _, rfl, (h.set b_c_ ⟨[.L 1 (x7.2.l_.map c_u8), I (x7.2.at_)], true, true⟩), _, _, rfl, (List.length_set ..), (hC.set rfl), ((renFlV rfl) : RenV _ _ _ _ (VI ((Int.tmod (w64 ((w64 (256 * (w64 (gd c_.l_ c_.at_)))) + x7.1)) n_)))), ?_⟩
  cases hm.ret; exact ⟨rfl, rfl⟩
 intro c9; replace hm := hm.ifn c9
 refine .skip ?_
 refine CdOK.seq (.region ?_)
 iterate 2 refine .m rfl ?_
 obtain ⟨c10, hm⟩ := hm.ifs
 refine .t (VI ((Int.tmod (w64 (gd c_.l_ c_.at_)) n_))) (e_remK (ev_t rfl) (ev_t rfl) c10) ?_
 refine .a rfl ?_
 refine .nil ?_
 refine CdOK.ret ?_
 refine ⟨.inr rfl, _, rfl, (h.set b_c_ ⟨[.L 1 (c_.l_.map c_u8), I ((w64 (c_.at_ + 1)))], true, true⟩), _, _, rfl, (List.length_set ..), (hC.set rfl), ((renFlV rfl) : RenV _ _ _ _ (VI ((Int.tmod (w64 (gd c_.l_ c_.at_)) n_)))), ?_⟩
 cases hm.ret; exact ⟨rfl, rfl⟩
def Codes_Next (n_ : Int) (c_ : Codes) : Option (Int × Codes) := Codes_Next.r FU n_ c_
theorem Codes_Next_ok {h : Heap} {n_ : Int} {c_ : Codes} {b_c_ : Nat} (hb_c_ : h[b_c_]? = some ⟨[.L 1 (c_.l_.map c_u8), I (c_.at_)], true, true⟩)  {r : (Int × Codes)} (hm : Codes_Next n_ c_ = some r) : FnOK Try.prog 32 [.o (.c (.ptr b_c_ 0)), VI (n_)] h (fun v h' => v = VI (r.1) ∧ h' = h.set b_c_ ⟨[.L 1 (r.2.l_.map c_u8), I (r.2.at_)], true, true⟩) := Codes_Next.r_ok FU hb_c_ hm
def Codes_Int (c_ : Codes) : Option (Int × Codes) := ((Codes_Next 10 c_).bind fun (x1 : (Int × Codes)) => (if x1.1 = 0 then ((Codes_Next 3 x1.2).bind fun (x3 : (Int × Codes)) => some ((w64 ((-1) - x3.1)), x3.2)) else (if x1.1 = 1 then ((Codes_Next 16 x1.2).bind fun (x6 : (Int × Codes)) => (if (0 : Int) ≤ x6.1 ∧ x6.1 < (([9223372036854775807, (-9223372036854775808), 1099511627776, 1099511627777, 1073741824, 1073741825, 64, 63, 16, 15, 256, 255, 4294967296, 65536, 256, 255] : List Int).length : Int) then some ((gd ([9223372036854775807, (-9223372036854775808), 1099511627776, 1099511627777, 1073741824, 1073741825, 64, 63, 16, 15, 256, 255, 4294967296, 65536, 256, 255] : List Int) x6.1), x6.2) else none)) else ((Codes_Next 20 x1.2).bind fun (x9 : (Int × Codes)) => some (x9.1, x9.2)))))
theorem Codes_Int_ok {h : Heap} {c_ : Codes} {b_c_ : Nat} (hb_c_ : h[b_c_]? = some ⟨[.L 1 (c_.l_.map c_u8), I (c_.at_)], true, true⟩)  {r : (Int × Codes)} (hm : Codes_Int c_ = some r) : FnOK Try.prog 49 [.o (.c (.ptr b_c_ 0))] h (fun v h' => v = VI (r.1) ∧ h' = h.set b_c_ ⟨[.L 1 (r.2.l_.map c_u8), I (r.2.at_)], true, true⟩) := by
 refine FnOK.fin ?_
 refine FnOK.bodyC (N := 19) Try.func49 rfl rfl rfl (fun hC => ?_)
 have hl_c_ := lt_of_get hb_c_
 rw [show h ++ [] = (h.set b_c_ ⟨[.L 1 (c_.l_.map c_u8), I (c_.at_)], true, true⟩) ++ ([] : Heap) from by rw [set_same hb_c_]]
 replace hm := Ev.of hm
 rw [Codes_Int.eq_1] at hm
 show CdOK _ _ _ (look _ [(0, .o (.c (.ptr b_c_ 0)))]) ((h.set b_c_ ⟨[.L 1 (c_.l_.map c_u8), I (c_.at_)], true, true⟩) ++ ([] : Heap)) _
 refine .seq (.region (.t (VI (0)) (e_as rfl) ?_))
 refine .nil (CdOK.seq (.seq (.region (.m rfl ?_))))
 obtain ⟨x1, e1, hm⟩ := hm.call
 refine .cl rfl rfl rfl rfl pl32 (R2.wk _) (Codes_Next_ok  (b_c_ := b_c_) (pset hl_c_) e1) ?_
 rintro _ _ ⟨rfl, rfl⟩
 rw [show _ = (h.set b_c_ ⟨[.L 1 (x1.2.l_.map c_u8), I (x1.2.at_)], true, true⟩) ++ ([] : Heap) from (pset2 hl_c_)]
 refine .nil ?_
 refine CdOK.block ?_
 refine .seq (.region (.t (VB (decide (x1.1 = 0))) (e_eqK (ev_t rfl) rfl) ?_))
 refine .a rfl ?_
 refine .nil ?_
 refine CdOK.condD (ev_t rfl) ?_ ?_
 ·intro c2; replace hm := hm.ifp c2
  refine .seq (.region (.m rfl ?_))
  obtain ⟨x3, e3, hm⟩ := hm.call
  refine .cl rfl rfl rfl rfl pl32 (R2.wk _) (Codes_Next_ok  (b_c_ := b_c_) (pset hl_c_) e3) ?_
  rintro _ _ ⟨rfl, rfl⟩
  rw [show _ = (h.set b_c_ ⟨[.L 1 (x3.2.l_.map c_u8), I (x3.2.at_)], true, true⟩) ++ ([] : Heap) from (pset2 hl_c_)]
  refine .t (VI ((w64 ((-1) - x3.1)))) (e_bin rfl (ev_t rfl) rfl rfl) ?_
  refine .a rfl ?_
  refine .nil ?_
  refine CdOK.ret ?_
  refine ⟨.inr rfl, _, rfl, (h.set b_c_ ⟨[.L 1 (x3.2.l_.map c_u8), I (x3.2.at_)], true, true⟩), _, _, rfl, (List.length_set ..), (hC.set rfl), ((renFlV rfl) : RenV _ _ _ _ (VI ((w64 ((-1) - x3.1))))), ?_⟩
  cases hm.ret; exact ⟨rfl, rfl⟩
 intro c4; replace hm := hm.ifn c4
 refine .seq (.region (.t (VB (decide (x1.1 = 1))) (e_eqK (ev_t rfl) rfl) ?_))
 refine .a rfl ?_
 refine .nil ?_
 refine CdOK.condD (ev_t rfl) ?_ ?_
 ·intro c5; replace hm := hm.ifp c5
  refine .seq (.region (.t (.o (.c (.LC 1 (([9223372036854775807, (-9223372036854775808), 1099511627776, 1099511627777, 1073741824, 1073741825, 64, 63, 16, 15, 256, 255, 4294967296, 65536, 256, 255] : List Int).map cI)))) (e_lit (cs := [I (9223372036854775807), I ((-9223372036854775808)), I (1099511627776), I (1099511627777), I (1073741824), I (1073741825), I (64), I (63), I (16), I (15), I (256), I (255), I (4294967296), I (65536), I (256), I (255)]) (xs := ([9223372036854775807, (-9223372036854775808), 1099511627776, 1099511627777, 1073741824, 1073741825, 64, 63, 16, 15, 256, 255, 4294967296, 65536, 256, 255]).map cI) slt27 nl27 rfl rfl rfl rfl rfl) ?_))
  refine .m rfl ?_
  obtain ⟨x6, e6, hm⟩ := hm.call
  refine .cl rfl rfl rfl rfl pl32 (R2.wk _) (Codes_Next_ok  (b_c_ := b_c_) (pset hl_c_) e6) ?_
  rintro _ _ ⟨rfl, rfl⟩
  rw [show _ = (h.set b_c_ ⟨[.L 1 (x6.2.l_.map c_u8), I (x6.2.at_)], true, true⟩) ++ ([] : Heap) from (pset2 hl_c_)]
  obtain ⟨c7, hm⟩ := hm.ifs
  refine .t (.o (.c (.rp [I ((gd ([9223372036854775807, (-9223372036854775808), 1099511627776, 1099511627777, 1073741824, 1073741825, 64, 63, 16, 15, 256, 255, 4294967296, 65536, 256, 255] : List Int) x6.1))]))) (e_ixMC (f := cI) (l := ([9223372036854775807, (-9223372036854775808), 1099511627776, 1099511627777, 1073741824, 1073741825, 64, 63, 16, 15, 256, 255, 4294967296, 65536, 256, 255] : List Int)) (i := x6.1) (ev_t rfl) (ev_t rfl) el27 c7) ?_
  refine .t _ (e_ldR1 (ev_t rfl) ty3 rfl) ?_
  refine .a rfl ?_
  refine .nil ?_
  refine CdOK.ret ?_
  refine ⟨.inr rfl, _, rfl, (h.set b_c_ ⟨[.L 1 (x6.2.l_.map c_u8), I (x6.2.at_)], true, true⟩), _, _, rfl, (List.length_set ..), (hC.set rfl), ((renFlV rfl) : RenV _ _ _ _ (VI ((gd ([9223372036854775807, (-9223372036854775808), 1099511627776, 1099511627777, 1073741824, 1073741825, 64, 63, 16, 15, 256, 255, 4294967296, 65536, 256, 255] : List Int) x6.1)))), ?_⟩
  cases hm.ret; exact ⟨rfl, rfl⟩
 intro c8; replace hm := hm.ifn c8
 refine .skip ?_
 refine CdOK.seq (.region (.m rfl ?_))
 obtain ⟨x9, e9, hm⟩ := hm.call
 refine .cl rfl rfl rfl rfl pl32 (R2.wk _) (Codes_Next_ok  (b_c_ := b_c_) (pset hl_c_) e9) ?_
 rintro _ _ ⟨rfl, rfl⟩
 rw [show _ = (h.set b_c_ ⟨[.L 1 (x9.2.l_.map c_u8), I (x9.2.at_)], true, true⟩) ++ ([] : Heap) from (pset2 hl_c_)]
 refine .a rfl ?_
 refine .nil ?_
 refine CdOK.ret ?_
 refine ⟨.inr rfl, _, rfl, (h.set b_c_ ⟨[.L 1 (x9.2.l_.map c_u8), I (x9.2.at_)], true, true⟩), _, _, rfl, (List.length_set ..), (hC.set rfl), ((renFlV rfl) : RenV _ _ _ _ (VI (x9.1))), ?_⟩
 cases hm.ret; exact ⟨rfl, rfl⟩
end Rv
