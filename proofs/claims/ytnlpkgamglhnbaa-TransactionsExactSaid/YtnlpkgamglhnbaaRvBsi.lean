import Derived.Test.YtnlpkgamglhnbaaRvCmp
set_option linter.unusedVariables false
set_option linter.unusedSimpArgs false
namespace Rv
open Go Go.RowKit Go.Proofs
theorem cv3_175 : cvk Try.prog 3 175 .u64 = true := by decide +kernel
theorem cv175_3 : cvk Try.prog 175 3 .i64 = true := by decide +kernel
theorem el27 : ElF Try.prog 27 1 := .of (by decide +kernel)
theorem is27 : isSliceT Try.prog 27 = true := by decide +kernel
theorem pl161 : plainFn Try.prog 161 = true := by decide +kernel
theorem pl162 : plainFn Try.prog 162 = true := by decide +kernel
theorem pl195 : plainFn Try.prog 195 = true := by decide +kernel
theorem ty3 : TyF Try.prog 3 false 1 := .of (by decide +kernel)
def cmp_Less (x_ : Int) (y_ : Int) : Option Bool := ((cmp_isNaN x_).bind fun (x1 : Bool) => (if x1 = true then ((cmp_isNaN y_).bind fun (x2 : Bool) => (if x2 = true then some (decide (x_ < y_)) else some true)) else some (decide (x_ < y_))))
theorem cmp_Less_ok {h : Heap} {x_ : Int} {y_ : Int}   {r : Bool} (hm : cmp_Less x_ y_ = some r) : FnOK Try.prog 161 [VI (x_), VI (y_)] h (fun v h' => v = VB (r) ∧ h' = h) := by
 refine FnOK.fin ?_
 refine FnOK.bodyC (N := 17) Try.func161 rfl rfl rfl (fun hC => ?_)
 replace hm := Ev.of hm
 rw [cmp_Less.eq_1] at hm
 show CdOK _ _ _ (look _ [(0, VI (x_)), (1, VI (y_))]) (h ++ ([] : Heap)) _
 refine .seq (.region (.t (VB (false)) (e_as rfl) ?_))
 refine .nil (CdOK.seq (.region (.m rfl ?_)))
 obtain ⟨x1, e1, hm⟩ := hm.call
 cases x1 with
 | true =>
  replace hm := hm.ifp rfl
  refine .cl rfl rfl rfl rfl pl195 (R2.wk _) (cmp_isNaN_ok    e1) ?_
  rintro _ _ ⟨rfl, rfl⟩
  iterate 2 refine .m rfl ?_
  obtain ⟨x2, e2, hm⟩ := hm.call
  cases x2 with
  | true =>
   replace hm := hm.ifp rfl
   refine .cl rfl rfl rfl rfl pl195 (R2.wk _) (cmp_isNaN_ok    e2) ?_
   rintro _ _ ⟨rfl, rfl⟩
   refine .t (VB (false)) (e_un (ev_t rfl) rfl) ?_
   refine .t (VB (false)) (e_pick (t := true) (ev_t rfl) (ev_t rfl)) ?_
   iterate 3 refine .m rfl ?_
   refine .t (VB (decide (x_ < y_))) (e_bin (ev_t rfl) (ev_t rfl) rfl rfl) ?_
   refine .t (VB (decide (x_ < y_))) (e_pick (t := false) (ev_t rfl) (ev_t rfl)) ?_
   refine .a rfl ?_
   refine .nil ?_
   refine CdOK.ret ?_
   refine ⟨.inr rfl, _, rfl, h, _, _, rfl, rfl, hC, ((renFlV rfl) : RenV _ _ _ _ (VB (decide (x_ < y_)))), ?_⟩
   cases hm.ret; exact ⟨rfl, rfl⟩
  | false =>
   replace hm := hm.ifn Bool.false_ne_true
   refine .cl rfl rfl rfl rfl pl195 (R2.wk _) (cmp_isNaN_ok    e2) ?_
   rintro _ _ ⟨rfl, rfl⟩
   refine .t (VB (true)) (e_un (ev_t rfl) rfl) ?_
   refine .t (VB (true)) (e_pick (t := true) (ev_t rfl) (ev_t rfl)) ?_
   refine .m rfl ?_
   iterate 3 refine .k ?_
   refine .t (VB (true)) (e_pick (t := true) (ev_t rfl) rfl) ?_
   refine .a rfl ?_
   refine .nil ?_
   refine CdOK.ret ?_
   refine ⟨.inr rfl, _, rfl, h, _, _, rfl, rfl, hC, ((renFlV rfl) : RenV _ _ _ _ (VB (true))), ?_⟩
   cases hm.ret; exact ⟨rfl, rfl⟩
 | false =>
  replace hm := hm.ifn Bool.false_ne_true
  refine .cl rfl rfl rfl rfl pl195 (R2.wk _) (cmp_isNaN_ok    e1) ?_
  rintro _ _ ⟨rfl, rfl⟩
  refine .m rfl ?_
  iterate 3 refine .k ?_
  refine .t (VB (false)) (e_pick (t := false) (ev_t rfl) rfl) ?_
  iterate 3 refine .m rfl ?_
  refine .t (VB (decide (x_ < y_))) (e_bin (ev_t rfl) (ev_t rfl) rfl rfl) ?_
  refine .t (VB (decide (x_ < y_))) (e_pick (t := false) (ev_t rfl) (ev_t rfl)) ?_
  refine .a rfl ?_
  refine .nil ?_
  refine CdOK.ret ?_
  refine ⟨.inr rfl, _, rfl, h, _, _, rfl, rfl, hC, ((renFlV rfl) : RenV _ _ _ _ (VB (decide (x_ < y_)))), ?_⟩
  cases hm.ret; exact ⟨rfl, rfl⟩
def BinarySearch.l1 (x_ : (List Int)) (target : Int) : Nat → Int → Int → Option Int
  | 0, _, _ => none
  | kk4 + 1, i2, j3 => (if i2 < j3 then (if (0 : Int) ≤ (w64 (Int.fdiv (IntKind.u64.wrap (w64 (i2 + j3))) (2 ^ (min (Int.toNat 1) (IntKind.bits .u64))))) ∧ (w64 (Int.fdiv (IntKind.u64.wrap (w64 (i2 + j3))) (2 ^ (min (Int.toNat 1) (IntKind.bits .u64))))) < (x_.length : Int) then ((cmp_Less (gd x_ (w64 (Int.fdiv (IntKind.u64.wrap (w64 (i2 + j3))) (2 ^ (min (Int.toNat 1) (IntKind.bits .u64)))))) target).bind fun (x7 : Bool) => (if x7 = true then BinarySearch.l1 x_ target kk4 (w64 ((w64 (Int.fdiv (IntKind.u64.wrap (w64 (i2 + j3))) (2 ^ (min (Int.toNat 1) (IntKind.bits .u64))))) + 1)) j3 else BinarySearch.l1 x_ target kk4 i2 (w64 (Int.fdiv (IntKind.u64.wrap (w64 (i2 + j3))) (2 ^ (min (Int.toNat 1) (IntKind.bits .u64))))))) else none) else some i2)
def BinarySearch (x_ : (List Int)) (target : Int) : Option (Int × Bool) := ((BinarySearch.l1 x_ target FU 0 (x_.length : Int)).bind fun (s11 : Int) => (if s11 < (x_.length : Int) then (if (0 : Int) ≤ s11 ∧ s11 < (x_.length : Int) then (if (gd x_ s11) = target then some (s11, true) else (if (0 : Int) ≤ s11 ∧ s11 < (x_.length : Int) then ((slices_isNaN (gd x_ s11)).bind fun (x17 : Bool) => (if x17 = true then ((slices_isNaN target).bind fun (x18 : Bool) => some (s11, x18)) else some (s11, false))) else none)) else none) else some (s11, false)))
theorem BinarySearch_ok {h : Heap} {x_ : (List Int)} {target : Int}   {r : (Int × Bool)} (hm : BinarySearch x_ target = some r) : FnOK Try.prog 91 [.o (.c (.L 1 (x_.map cI))), VI (target)] h (fun v h' => v = .tup [.c (I (r.1)), .c (Bo (r.2))] ∧ h' = h) := by
 refine FnOK.fin ?_
 refine FnOK.bodyC (N := 54) Try.func91 rfl rfl rfl (fun hC => ?_)
 replace hm := Ev.of hm
 rw [BinarySearch.eq_1] at hm
 show CdOK _ _ _ (look _ [(0, .o (.c (.L 1 (x_.map cI)))), (1, VI (target))]) (h ++ ([] : Heap)) _
 refine .seq (.region (.t (VI (0)) (e_as rfl) ?_))
 refine .t (VB (false)) (e_as rfl) ?_
 refine .nil (CdOK.seq (.region (.m rfl ?_)))
 refine .t (VI ((x_.length : Int))) (e_lenM (ev_t rfl) is27) ?_
 refine .a rfl ?_
 refine .nil (CdOK.seq (.region (.m rfl ?_)))
 refine .t (VI (0)) (e_as rfl) ?_
 refine .a rfl ?_
 refine .nil ?_
 replace hm := hm.bnd
 refine CdOK.joinE (σ := Int) (fun s => s) hm (fun s => [(0, .o (.c (.L 1 (x_.map cI)))), (1, VI (target)), (6, VI ((x_.length : Int))), (7, VI (s))]) (fun s => h ++ ([] : Heap)) ?_ ?_
 ·intro hm
  refine .block ?_
  refine .loopE (σ := (Int × Int)) (fun k s => Ev (BinarySearch.l1 x_ target k s.1 s.2) _) (fun s => [(0, .o (.c (.L 1 (x_.map cI)))), (1, VI (target)), (6, VI ((x_.length : Int))), (7, VI (s.1)), (8, VI (s.2))]) (fun s => h ++ ([] : Heap)) FU (0, (x_.length : Int)) hm (.cons rfl (.cons rfl (.cons rfl (.cons rfl (.cons rfl .nil))))) rfl ?_
  rintro kk4 ⟨i2, j3⟩ T0 hm
  replace hm : Ev (BinarySearch.l1 x_ target kk4 i2 j3) _ := hm
  cases kk4 with
  | zero => exact (Ev.non hm).elim
  | succ kk4 =>
  rw [BinarySearch.l1.eq_2] at hm
  show CdOK _ _ _ (look T0 [(0, .o (.c (.L 1 (x_.map cI)))), (1, VI (target)), (6, VI ((x_.length : Int))), (7, VI (i2)), (8, VI (j3))]) (h ++ ([] : Heap)) _
  iterate 2 refine .seq ?_
  refine .region ?_
  iterate 2 refine .m rfl ?_
  refine .t (VB (decide (i2 < j3))) (e_bin (ev_t rfl) (ev_t rfl) rfl rfl) ?_
  refine .nil ?_
  refine CdOK.condD (ev_t rfl) ?_ ?_
  ·intro c5; replace hm := hm.ifp c5
   refine .skip ?_
   refine CdOK.block ?_
   refine .seq (.region ?_)
   iterate 2 refine .m rfl ?_
   refine .t (VI ((w64 (i2 + j3)))) (e_bin (ev_t rfl) (ev_t rfl) rfl rfl) ?_
   refine .t (.o (.c (.v (.int .u64 ((IntKind.u64.wrap (w64 (i2 + j3)))))))) (e_cvw cv3_175 (ev_t rfl)) ?_
   refine .t (.o (.c (.v (.int .u64 ((Int.fdiv (IntKind.u64.wrap (w64 (i2 + j3))) (2 ^ (min (Int.toNat 1) (IntKind.bits .u64))))))))) (e_bin (ev_t rfl) rfl rfl rfl) ?_
   refine .t (VI ((w64 (Int.fdiv (IntKind.u64.wrap (w64 (i2 + j3))) (2 ^ (min (Int.toNat 1) (IntKind.bits .u64))))))) (e_cvw cv175_3 (ev_t rfl)) ?_
   refine .a rfl ?_
   refine .nil (CdOK.seq (.region ?_))
   iterate 2 refine .m rfl ?_
   obtain ⟨c6, hm⟩ := hm.ifs
   refine .t (.o (.c (.rp [I ((gd x_ (w64 (Int.fdiv (IntKind.u64.wrap (w64 (i2 + j3))) (2 ^ (min (Int.toNat 1) (IntKind.bits .u64)))))))]))) (e_ixM (f := cI) (l := x_) (i := (w64 (Int.fdiv (IntKind.u64.wrap (w64 (i2 + j3))) (2 ^ (min (Int.toNat 1) (IntKind.bits .u64)))))) (ev_t rfl) (ev_t rfl) el27 c6) ?_
   refine .t _ (e_ldR1 (ev_t rfl) ty3 rfl) ?_
   refine .m rfl ?_
   obtain ⟨x7, e7, hm⟩ := hm.call
   refine .cl rfl rfl rfl rfl pl161 (R2.wk _) (cmp_Less_ok    e7) ?_
   rintro _ _ ⟨rfl, rfl⟩
   refine .nil ?_
   refine CdOK.condB (ev_t rfl) ?_ ?_
   ·intro c8; replace hm := hm.ifp c8
    refine .region (.m rfl ?_)
    refine .t (VI ((w64 ((w64 (Int.fdiv (IntKind.u64.wrap (w64 (i2 + j3))) (2 ^ (min (Int.toNat 1) (IntKind.bits .u64))))) + 1)))) (e_bin (ev_t rfl) rfl rfl rfl) ?_
    refine .a rfl ?_
    refine .nil (.id ?_)
    exact ⟨_, ((w64 ((w64 (Int.fdiv (IntKind.u64.wrap (w64 (i2 + j3))) (2 ^ (min (Int.toNat 1) (IntKind.bits .u64))))) + 1)), j3), Nat.lt_succ_self _, hm, (.cons rfl (.cons rfl (.cons rfl (.cons rfl (.cons rfl .nil))))), rfl⟩
   intro c9; replace hm := hm.ifn c9
   refine .region (.m rfl ?_)
   refine .a rfl ?_
   refine .nil (.id ?_)
   exact ⟨_, (i2, (w64 (Int.fdiv (IntKind.u64.wrap (w64 (i2 + j3))) (2 ^ (min (Int.toNat 1) (IntKind.bits .u64)))))), Nat.lt_succ_self _, hm, (.cons rfl (.cons rfl (.cons rfl (.cons rfl (.cons rfl .nil))))), rfl⟩
  intro c10; replace hm := hm.ifn c10
  refine .exit ?_
  refine .id ?_
  exact ⟨i2, hm.ret, (.cons rfl (.cons rfl (.cons rfl (.cons rfl .nil)))), rfl⟩
 rintro i1 T0 hm
 show CdOK _ _ _ (look T0 [(0, .o (.c (.L 1 (x_.map cI)))), (1, VI (target)), (6, VI ((x_.length : Int))), (7, VI (i1))]) (h ++ ([] : Heap)) _
 refine .seq (.region ?_)
 iterate 3 refine .m rfl ?_
 refine .sd rfl rfl rfl (e_bin (ev_t rfl) (ev_t rfl) rfl rfl) ?_ ?_
 ·intro c12; replace hm := hm.ifp c12
  iterate 3 refine .m rfl ?_
  obtain ⟨c13, hm⟩ := hm.ifs
  refine .t (.o (.c (.rp [I ((gd x_ i1))]))) (e_ixM (f := cI) (l := x_) (i := i1) (ev_t rfl) (ev_t rfl) el27 c13) ?_
  refine .t _ (e_ldR1 (ev_t rfl) ty3 rfl) ?_
  refine .m rfl ?_
  refine .sd rfl rfl rfl (e_eqK (ev_t rfl) (ev_t rfl)) ?_ ?_
  ·intro c14; replace hm := hm.ifp c14
   refine .m rfl ?_
   iterate 9 refine .k ?_
   refine .t (VB (true)) (e_pick (t := true) (ev_t rfl) rfl) ?_
   refine .t (VB (true)) (e_pick (t := true) (ev_t rfl) (ev_t rfl)) ?_
   iterate 2 refine .a rfl ?_
   refine .nil ?_
   refine CdOK.ret ?_
   refine ⟨.inr rfl, _, rfl, h, _, _, rfl, rfl, hC, ((renFlV rfl) : RenV _ _ _ _ (.tup [.c (I (i1)), .c (Bo true)])), ?_⟩
   cases hm.ret; exact ⟨rfl, rfl⟩
  intro c15; replace hm := hm.ifn c15
  iterate 3 refine .m rfl ?_
  obtain ⟨c16, hm⟩ := hm.ifs
  refine .t (.o (.c (.rp [I ((gd x_ i1))]))) (e_ixM (f := cI) (l := x_) (i := i1) (ev_t rfl) (ev_t rfl) el27 c16) ?_
  refine .t _ (e_ldR1 (ev_t rfl) ty3 rfl) ?_
  obtain ⟨x17, e17, hm⟩ := hm.call
  cases x17 with
  | true =>
   replace hm := hm.ifp rfl
   refine .cl rfl rfl rfl rfl pl162 (R2.wk _) (slices_isNaN_ok    e17) ?_
   rintro _ _ ⟨rfl, rfl⟩
   iterate 2 refine .m rfl ?_
   obtain ⟨x18, e18, hm⟩ := hm.call
   refine .cl rfl rfl rfl rfl pl162 (R2.wk _) (slices_isNaN_ok    e18) ?_
   rintro _ _ ⟨rfl, rfl⟩
   refine .t (VB (x18)) (e_pick (t := true) (ev_t rfl) (ev_t rfl)) ?_
   refine .t (VB (x18)) (e_pick (t := false) (ev_t rfl) (ev_t rfl)) ?_
   refine .t (VB (x18)) (e_pick (t := true) (ev_t rfl) (ev_t rfl)) ?_
   iterate 2 refine .a rfl ?_
   refine .nil ?_
   refine CdOK.ret ?_
   refine ⟨.inr rfl, _, rfl, h, _, _, rfl, rfl, hC, ((renFlV rfl) : RenV _ _ _ _ (.tup [.c (I (i1)), .c (Bo x18)])), ?_⟩
   cases hm.ret; exact ⟨rfl, rfl⟩
  | false =>
   replace hm := hm.ifn Bool.false_ne_true
   refine .cl rfl rfl rfl rfl pl162 (R2.wk _) (slices_isNaN_ok    e17) ?_
   rintro _ _ ⟨rfl, rfl⟩
   refine .m rfl ?_
   iterate 2 refine .k ?_
   refine .t (VB (false)) (e_pick (t := false) (ev_t rfl) rfl) ?_
   refine .t (VB (false)) (e_pick (t := false) (ev_t rfl) (ev_t rfl)) ?_
   refine .t (VB (false)) (e_pick (t := true) (ev_t rfl) (ev_t rfl)) ?_
   iterate 2 refine .a rfl ?_
   refine .nil ?_
   refine CdOK.ret ?_
   refine ⟨.inr rfl, _, rfl, h, _, _, rfl, rfl, hC, ((renFlV rfl) : RenV _ _ _ _ (.tup [.c (I (i1)), .c (Bo false)])), ?_⟩
   cases hm.ret; exact ⟨rfl, rfl⟩
 intro c19; replace hm := hm.ifn c19
 refine .m rfl ?_
 iterate 17 refine .k ?_
 refine .t (VB (false)) (e_pick (t := false) (ev_t rfl) rfl) ?_
 iterate 2 refine .a rfl ?_
 refine .nil ?_
 refine CdOK.ret ?_
 refine ⟨.inr rfl, _, rfl, h, _, _, rfl, rfl, hC, ((renFlV rfl) : RenV _ _ _ _ (.tup [.c (I (i1)), .c (Bo false)])), ?_⟩
 cases hm.ret; exact ⟨rfl, rfl⟩
end Rv
