/- Chapter 8: the program's functions, as plain functions. -/
import Derived.Test.YtnlpkgamglhnbaaRvDrw
import Derived.Test.YtnlpkgamglhnbaaRvDelG
set_option linter.unusedVariables false
set_option linter.unusedSimpArgs false
namespace Rv
open Go Go.RowKit Go.Proofs
theorem bl75 : bldf Try.prog 75 [(0, 1), (1, 2), (3, 1)] = true := by decide +kernel
theorem cv3_175 : cvk Try.prog 3 175 .u64 = true := by decide +kernel
theorem cv175_3 : cvk Try.prog 175 3 .i64 = true := by decide +kernel
theorem eqs71_r (x y : Lock) : (eqF [some (x.page == y.page), some (x.slot == y.slot)]) = some (decide (x = y)) := by
  have h := (show (eqF [some (x.page == y.page), some (x.slot == y.slot)]) = some _ from (eqF_cons (b := _) (eqF_cons (b := _) rfl)))
  rw [h]
  congr 1
  rw [Bool.eq_iff_iff]
  rcases x with ⟨a1, a2⟩
  rcases y with ⟨b1, b2⟩
  simp only [Bool.and_eq_true, beq_iff_eq, decide_eq_true_eq, Lock.mk.injEq, and_true, and_assoc]
theorem eqs71_eql (x y : Lock) : eEqAgg Try.prog .eql 71 [.int .i64 (x.page), .int .i64 (x.slot)].toArray [.int .i64 (y.page), .int .i64 (y.slot)].toArray = some (.bool (decide (x = y))) := by
  have h : eqS Try.prog Op.maxDepth 71 (.agg [.int .i64 (x.page), .int .i64 (x.slot)].toArray) (.agg [.int .i64 (y.page), .int .i64 (y.slot)].toArray) = (eqF [some (x.page == y.page), some (x.slot == y.slot)]) := by kernel_rfl
  unfold eEqAgg
  rw [if_neg (by decide +kernel), h, eqs71_r]
theorem eqs71_neq (x y : Lock) : eEqAgg Try.prog .neq 71 [.int .i64 (x.page), .int .i64 (x.slot)].toArray [.int .i64 (y.page), .int .i64 (y.slot)].toArray = some (.bool (decide (¬ x = y))) := by
  have h : eqS Try.prog Op.maxDepth 71 (.agg [.int .i64 (x.page), .int .i64 (x.slot)].toArray) (.agg [.int .i64 (y.page), .int .i64 (y.slot)].toArray) = (eqF [some (x.page == y.page), some (x.slot == y.slot)]) := by kernel_rfl
  unfold eEqAgg
  rw [if_neg (by decide +kernel), h, eqs71_r]
  by_cases e : x = y <;> simp [e]
theorem fa69_0 : fadr Try.prog 69 0 0 = true := by decide +kernel
theorem fa69_1 : fadr Try.prog 69 1 1 = true := by decide +kernel
theorem fa71_0 : fadr Try.prog 71 0 0 = true := by decide +kernel
theorem fa71_1 : fadr Try.prog 71 1 1 = true := by decide +kernel
theorem fa75_0 : fadr Try.prog 75 0 0 = true := by decide +kernel
theorem fa75_1 : fadr Try.prog 75 1 1 = true := by decide +kernel
theorem fa75_2 : fadr Try.prog 75 2 3 = true := by decide +kernel
theorem is27 : isSliceT Try.prog 27 = true := by decide +kernel
theorem pl44 : plainFn Try.prog 44 = true := by decide +kernel
theorem pl105 : plainFn Try.prog 105 = true := by decide +kernel
theorem pl106 : plainFn Try.prog 106 = true := by decide +kernel
theorem pl113 : plainFn Try.prog 113 = true := by decide +kernel
theorem pl114 : plainFn Try.prog 114 = true := by decide +kernel
theorem pl115 : plainFn Try.prog 115 = true := by decide +kernel
theorem pl116 : plainFn Try.prog 116 = true := by decide +kernel
theorem pl127 : plainFn Try.prog 127 = true := by decide +kernel
theorem pl128 : plainFn Try.prog 128 = true := by decide +kernel
theorem pl175 : plainFn Try.prog 175 = true := by decide +kernel
theorem pl182 : plainFn Try.prog 182 = true := by decide +kernel
theorem pl183 : plainFn Try.prog 183 = true := by decide +kernel
theorem pl195 : plainFn Try.prog 195 = true := by decide +kernel
theorem pl200 : plainFn Try.prog 200 = true := by decide +kernel
theorem ty67 : TyF Try.prog 67 false 1 := .of (by decide +kernel)
theorem ty69 : TyF Try.prog 69 true 2 := .of (by decide +kernel)
theorem ty71 : TyF Try.prog 71 true 2 := .of (by decide +kernel)
theorem ty75 : TyF Try.prog 75 true 4 := .of (by decide +kernel)
theorem zo75 : zeroOf Try.prog 75 = some ([.v (.int .i64 0)] ++ [.v (.int .i64 0)] ++ [.v (.int .i64 0)] ++ [.v (.int .i64 0)]) := by kernel_rfl
/- pagemend/locks.conflict -/
def locks_conflict (a_ : Grant) (b_ : Grant) : Option Bool := (if a_.tx ≠ b_.tx then (if a_.lock = b_.lock then (if a_.mode = 2 then some true else some (decide (b_.mode = 2))) else some false) else some false)
theorem locks_conflict_ok {h : Heap} {a_ : Grant} {b_ : Grant}   {r : Bool} (hm : locks_conflict a_ b_ = some r) : FnOK Try.prog 114 [.o (.agg [I (a_.tx), I (a_.lock.page), I (a_.lock.slot), I (a_.mode)]), .o (.agg [I (b_.tx), I (b_.lock.page), I (b_.lock.slot), I (b_.mode)])] h (fun v h' => v = VB (r) ∧ h' = h) := by
 refine FnOK.fin ?_
 refine FnOK.bodyC (N := 27) Try.func114 rfl rfl rfl (fun hC => ?_)
 replace hm := Ev.of hm
 rw [locks_conflict.eq_1] at hm
 show CdOK _ _ _ (look _ [(0, .o (.agg [I (a_.tx), I (a_.lock.page), I (a_.lock.slot), I (a_.mode)])), (1, .o (.agg [I (b_.tx), I (b_.lock.page), I (b_.lock.slot), I (b_.mode)]))]) (h ++ ([] : Heap)) _
 refine .seq ?_
 refine .region ?_
 refine .t (.o (.c (.ptr (h.length + 0) 0))) (e_boxN (L' := [⟨[I (a_.tx), I (a_.lock.page), I (a_.lock.slot), I (a_.mode)], true, true⟩]) rfl (ev_t rfl) rfl rfl) ?_
 refine .t (.o (.c (.ptr (h.length + 1) 0))) (e_boxN (L' := [⟨[I (a_.tx), I (a_.lock.page), I (a_.lock.slot), I (a_.mode)], true, true⟩, ⟨[I (b_.tx), I (b_.lock.page), I (b_.lock.slot), I (b_.mode)], true, true⟩]) rfl (ev_t rfl) rfl rfl) ?_
 refine .t (VB (false)) (e_as rfl) ?_
 refine .nil ?_
 refine CdOK.seq ?_
 refine .region ?_
 refine .t _ (e_fa' fa75_0 (ev_t rfl)) ?_
 refine .t _ (e_ldb1 (ev_t rfl) ty3 (bx rfl rfl) rfl) ?_
 refine .t _ (e_fa' fa75_0 (ev_t rfl)) ?_
 refine .t _ (e_ldb1 (ev_t rfl) ty3 (bx rfl rfl) rfl) ?_
 refine .sd rfl rfl rfl (e_neK (ev_t rfl) (ev_t rfl)) ?_ ?_
 ·intro c1; replace hm := hm.ifp c1
  refine .m rfl ?_
  refine .t _ (e_fa' fa75_1 (ev_t rfl)) ?_
  refine .t _ (e_ldbA (ev_t rfl) ty71 (bx rfl rfl) rfl rfl) ?_
  refine .t _ (e_fa' fa75_1 (ev_t rfl)) ?_
  refine .t _ (e_ldbA (ev_t rfl) ty71 (bx rfl rfl) rfl rfl) ?_
  refine .sd rfl rfl rfl (e_eqA (ev_t rfl) (ev_t rfl) rfl rfl (eqs71_eql a_.lock b_.lock)) ?_ ?_
  ·intro c2; replace hm := hm.ifp c2
   refine .t (VB (true)) (e_pick (t := true) (ev_t rfl) (ev_t rfl)) ?_
   refine .m rfl ?_
   refine .t _ (e_fa' fa75_2 (ev_t rfl)) ?_
   refine .t _ (e_ldb1 (ev_t rfl) ty3 (bx rfl rfl) rfl) ?_
   refine .sd rfl rfl rfl (e_eqK (ev_t rfl) rfl) ?_ ?_
   ·intro c3; replace hm := hm.ifp c3
    refine .m rfl ?_
    refine .k ?_
    refine .k ?_
    refine .k ?_
    refine .t (VB (true)) (e_pick (t := true) (ev_t rfl) rfl) ?_
    refine .t (VB (true)) (e_pick (t := true) (ev_t rfl) (ev_t rfl)) ?_
    refine .a rfl ?_
    refine .nil ?_
    refine CdOK.ret ?_
    refine ⟨.inr rfl, _, rfl, h, _, _, rfl, rfl, hC, ((renFlV rfl) : RenV _ _ _ _ (VB (true))), ?_⟩
    cases hm.ret; exact ⟨rfl, rfl⟩
   ·intro c4; replace hm := hm.ifn c4
    refine .m rfl ?_
    refine .t _ (e_fa' fa75_2 (ev_t rfl)) ?_
    refine .t _ (e_ldb1 (ev_t rfl) ty3 (bx rfl rfl) rfl) ?_
    refine .t (VB (decide (b_.mode = 2))) (e_eqK (ev_t rfl) rfl) ?_
    refine .t (VB (decide (b_.mode = 2))) (e_pick (t := false) (ev_t rfl) (ev_t rfl)) ?_
    refine .t (VB (decide (b_.mode = 2))) (e_pick (t := true) (ev_t rfl) (ev_t rfl)) ?_
    refine .a rfl ?_
    refine .nil ?_
    refine CdOK.ret ?_
    refine ⟨.inr rfl, _, rfl, h, _, _, rfl, rfl, hC, ((renFlV rfl) : RenV _ _ _ _ (VB (decide (b_.mode = 2)))), ?_⟩
    cases hm.ret; exact ⟨rfl, rfl⟩
  ·intro c5; replace hm := hm.ifn c5
   refine .t (VB (false)) (e_pick (t := true) (ev_t rfl) (ev_t rfl)) ?_
   refine .m rfl ?_
   refine .k ?_
   refine .k ?_
   refine .k ?_
   refine .k ?_
   refine .k ?_
   refine .k ?_
   refine .k ?_
   refine .k ?_
   refine .t (VB (false)) (e_pick (t := false) (ev_t rfl) rfl) ?_
   refine .a rfl ?_
   refine .nil ?_
   refine CdOK.ret ?_
   refine ⟨.inr rfl, _, rfl, h, _, _, rfl, rfl, hC, ((renFlV rfl) : RenV _ _ _ _ (VB (false))), ?_⟩
   cases hm.ret; exact ⟨rfl, rfl⟩
 ·intro c6; replace hm := hm.ifn c6
  refine .m rfl ?_
  refine .k ?_
  refine .k ?_
  refine .k ?_
  refine .k ?_
  refine .k ?_
  refine .t (VB (false)) (e_pick (t := false) (ev_t rfl) rfl) ?_
  refine .m rfl ?_
  refine .k ?_
  refine .k ?_
  refine .k ?_
  refine .k ?_
  refine .k ?_
  refine .k ?_
  refine .k ?_
  refine .k ?_
  refine .t (VB (false)) (e_pick (t := false) (ev_t rfl) rfl) ?_
  refine .a rfl ?_
  refine .nil ?_
  refine CdOK.ret ?_
  refine ⟨.inr rfl, _, rfl, h, _, _, rfl, rfl, hC, ((renFlV rfl) : RenV _ _ _ _ (VB (false))), ?_⟩
  cases hm.ret; exact ⟨rfl, rfl⟩
/- cmp.Compare[int] -/
def cmp_Compare (x_ : Int) (y_ : Int) : Option Int := ((cmp_isNaN x_).bind fun (x1 : Bool) => ((cmp_isNaN y_).bind fun (x2 : Bool) => (if x1 = true then (if x2 = true then some 0 else some (-1)) else (if x2 = true then some 1 else (if x_ < y_ then some (-1) else (if y_ < x_ then some 1 else some 0))))))
theorem cmp_Compare_ok {h : Heap} {x_ : Int} {y_ : Int}   {r : Int} (hm : cmp_Compare x_ y_ = some r) : FnOK Try.prog 183 [VI (x_), VI (y_)] h (fun v h' => v = VI (r) ∧ h' = h) := by
 refine FnOK.fin ?_
 refine FnOK.bodyC (N := 20) Try.func183 rfl rfl rfl (fun hC => ?_)
 replace hm := Ev.of hm
 rw [cmp_Compare.eq_1] at hm
 show CdOK _ _ _ (look _ [(0, VI (x_)), (1, VI (y_))]) (h ++ ([] : Heap)) _
 refine .seq ?_
 refine .region ?_
 refine .t (VI (0)) (e_as rfl) ?_
 refine .nil ?_
 refine CdOK.seq ?_
 refine .region ?_
 refine .m rfl ?_
 obtain ⟨x1, e1, hm⟩ := hm.call
 refine .cl rfl rfl rfl rfl pl195 (R2.wk _) (cmp_isNaN_ok    e1) ?_
 rintro _ _ ⟨rfl, rfl⟩
 refine .a rfl ?_
 refine .nil ?_
 refine CdOK.seq ?_
 refine .region ?_
 refine .m rfl ?_
 obtain ⟨x2, e2, hm⟩ := hm.call
 refine .cl rfl rfl rfl rfl pl195 (R2.wk _) (cmp_isNaN_ok    e2) ?_
 rintro _ _ ⟨rfl, rfl⟩
 refine .a rfl ?_
 refine .nil ?_
 refine CdOK.seq ?_
 refine .seq ?_
 refine .region ?_
 refine .m rfl ?_
 refine .nil ?_
 refine CdOK.condB (ev_t rfl) ?_ ?_
 ·intro c3; replace hm := hm.ifp c3
  refine .seq ?_
  refine .seq ?_
  refine .region ?_
  refine .m rfl ?_
  refine .nil ?_
  refine CdOK.condB (ev_t rfl) ?_ ?_
  ·intro c4; replace hm := hm.ifp c4
   refine .seq ?_
   refine .region ?_
   refine .t (VI (0)) (e_as rfl) ?_
   refine .nil ?_
   refine CdOK.ret ?_
   refine ⟨.inr rfl, _, rfl, h, _, _, rfl, rfl, hC, ((renFlV rfl) : RenV _ _ _ _ (VI (0))), ?_⟩
   cases hm.ret; exact ⟨rfl, rfl⟩
  ·intro c5; replace hm := hm.ifn c5
   refine .skip ?_
   refine CdOK.seq ?_
   refine .region ?_
   refine .t (VI ((-1))) (e_as rfl) ?_
   refine .nil ?_
   refine CdOK.ret ?_
   refine ⟨.inr rfl, _, rfl, h, _, _, rfl, rfl, hC, ((renFlV rfl) : RenV _ _ _ _ (VI ((-1)))), ?_⟩
   cases hm.ret; exact ⟨rfl, rfl⟩
 ·intro c6; replace hm := hm.ifn c6
  refine .skip ?_
  refine CdOK.seq ?_
  refine .seq ?_
  refine .region ?_
  refine .m rfl ?_
  refine .nil ?_
  refine CdOK.condB (ev_t rfl) ?_ ?_
  ·intro c7; replace hm := hm.ifp c7
   refine .seq ?_
   refine .region ?_
   refine .t (VI (1)) (e_as rfl) ?_
   refine .nil ?_
   refine CdOK.ret ?_
   refine ⟨.inr rfl, _, rfl, h, _, _, rfl, rfl, hC, ((renFlV rfl) : RenV _ _ _ _ (VI (1))), ?_⟩
   cases hm.ret; exact ⟨rfl, rfl⟩
  ·intro c8; replace hm := hm.ifn c8
   refine .skip ?_
   refine CdOK.seq ?_
   refine .seq ?_
   refine .region ?_
   refine .m rfl ?_
   refine .m rfl ?_
   refine .t (VB (decide (x_ < y_))) (e_bin (ev_t rfl) (ev_t rfl) rfl rfl) ?_
   refine .nil ?_
   refine CdOK.condD (ev_t rfl) ?_ ?_
   ·intro c9; replace hm := hm.ifp c9
    refine .seq ?_
    refine .region ?_
    refine .t (VI ((-1))) (e_as rfl) ?_
    refine .nil ?_
    refine CdOK.ret ?_
    refine ⟨.inr rfl, _, rfl, h, _, _, rfl, rfl, hC, ((renFlV rfl) : RenV _ _ _ _ (VI ((-1)))), ?_⟩
    cases hm.ret; exact ⟨rfl, rfl⟩
   ·intro c10; replace hm := hm.ifn c10
    refine .skip ?_
    refine CdOK.seq ?_
    refine .seq ?_
    refine .region ?_
    refine .m rfl ?_
    refine .m rfl ?_
    refine .t (VB (decide (y_ < x_))) (e_bin (ev_t rfl) (ev_t rfl) rfl rfl) ?_
    refine .nil ?_
    refine CdOK.condD (ev_t rfl) ?_ ?_
    ·intro c11; replace hm := hm.ifp c11
     refine .seq ?_
     refine .region ?_
     refine .t (VI (1)) (e_as rfl) ?_
     refine .nil ?_
     refine CdOK.ret ?_
     refine ⟨.inr rfl, _, rfl, h, _, _, rfl, rfl, hC, ((renFlV rfl) : RenV _ _ _ _ (VI (1))), ?_⟩
     cases hm.ret; exact ⟨rfl, rfl⟩
    ·intro c12; replace hm := hm.ifn c12
     refine .skip ?_
     refine CdOK.seq ?_
     refine .region ?_
     refine .t (VI (0)) (e_as rfl) ?_
     refine .nil ?_
     refine CdOK.ret ?_
     refine ⟨.inr rfl, _, rfl, h, _, _, rfl, rfl, hC, ((renFlV rfl) : RenV _ _ _ _ (VI (0))), ?_⟩
     cases hm.ret; exact ⟨rfl, rfl⟩
/- cmp.Or[int] -/
def cmp_Or.l1 (vals : (List Int)) : Nat → Int → Option (Sum Unit Int)
  | 0, _ => none
  | kk2 + 1, t81 => (if t81 < (vals.length : Int) then (if (0 : Int) ≤ t81 ∧ t81 < (vals.length : Int) then (if (gd vals t81) ≠ 0 then some (Sum.inr (gd vals t81)) else cmp_Or.l1 vals kk2 (w64 (t81 + 1))) else none) else some (Sum.inl ()))
def cmp_Or (vals : (List Int)) : Option Int := ((cmp_Or.l1 vals FU 0).bind fun (z : Sum Unit Int) => match z with | .inl (s8 : Unit) => some 0 | .inr r => some r)
theorem cmp_Or_ok {h : Heap} {vals : (List Int)}   {r : Int} (hm : cmp_Or vals = some r) : FnOK Try.prog 182 [.o (.c (.L 1 (vals.map cI)))] h (fun v h' => v = VI (r) ∧ h' = h) := by
 refine FnOK.fin ?_
 refine FnOK.bodyC (N := 18) Try.func182 rfl rfl rfl (fun hC => ?_)
 replace hm := Ev.of hm
 rw [cmp_Or.eq_1] at hm
 show CdOK _ _ _ (look _ [(0, .o (.c (.L 1 (vals.map cI))))]) (h ++ ([] : Heap)) _
 refine .seq ?_
 refine .region ?_
 refine .t (VI (0)) (e_as rfl) ?_
 refine .nil ?_
 refine CdOK.seq ?_
 refine .region ?_
 refine .t (VI (0)) (e_as rfl) ?_
 refine .nil ?_
 refine CdOK.seq ?_
 refine .seq ?_
 refine .region ?_
 refine .m rfl ?_
 refine .t (VI ((vals.length : Int))) (e_lenM (ev_t rfl) is27) ?_
 refine .t (VI (0)) (e_mv rfl) ?_
 refine .nil ?_
 replace hm := hm.bnd
 refine CdOK.joinT (σ := Unit) (fun s => Sum.inl ()) hm (fun s => [(3, VI (0))]) (fun s => h ++ ([] : Heap)) ?_ ?_
 ·intro hm
  refine .block ?_
  refine .loopE (σ := Int) (fun k s => Ev (cmp_Or.l1 vals k s) _) (fun s => [(3, VI (0)), (6, .o (.c (.L 1 (vals.map cI)))), (7, VI ((vals.length : Int))), (8, VI (s))]) (fun s => h ++ ([] : Heap)) FU 0 hm (.cons rfl (.cons rfl (.cons rfl (.cons rfl .nil)))) rfl ?_
  rintro kk2 t81 T0 hm
  replace hm : Ev (cmp_Or.l1 vals kk2 t81) _ := hm
  cases kk2 with
  | zero => exact (Ev.non hm).elim
  | succ kk2 =>
  rw [cmp_Or.l1.eq_2] at hm
  show CdOK _ _ _ (look T0 [(3, VI (0)), (6, .o (.c (.L 1 (vals.map cI)))), (7, VI ((vals.length : Int))), (8, VI (t81))]) (h ++ ([] : Heap)) _
  refine .seq ?_
  refine .region ?_
  refine .t (VB (decide (t81 < (vals.length : Int)))) (e_bin (ev_t rfl) (ev_t rfl) rfl rfl) ?_
  refine .nil ?_
  refine CdOK.seq ?_
  refine .condD (ev_t rfl) ?_ ?_
  ·intro c3; replace hm := hm.ifp c3
   refine .skip ?_
   refine CdOK.seq ?_
   refine .block ?_
   refine .seq ?_
   refine .region ?_
   obtain ⟨c4, hm⟩ := hm.ifs
   refine .t (.o (.c (.rp [I ((gd vals t81))]))) (e_ixM (f := cI) (l := vals) (i := t81) (ev_t rfl) (ev_t rfl) el27 c4) ?_
   refine .t _ (e_ldR1 (ev_t rfl) ty3 rfl) ?_
   refine .a rfl ?_
   refine .nil ?_
   refine CdOK.seq ?_
   refine .region ?_
   refine .m rfl ?_
   refine .m rfl ?_
   refine .t (VB (decide ((gd vals t81) ≠ 0))) (e_neK (ev_t rfl) (ev_t rfl)) ?_
   refine .nil ?_
   refine CdOK.condD (ev_t rfl) ?_ ?_
   ·intro c5; replace hm := hm.ifp c5
    refine .seq ?_
    refine .region ?_
    refine .m rfl ?_
    refine .a rfl ?_
    refine .nil ?_
    refine CdOK.ret ?_
    refine ⟨.inr rfl, _, rfl, h, _, _, rfl, rfl, hC, ((renFlV rfl) : RenV _ _ _ _ (VI ((gd vals t81)))), ?_⟩
    have hr := hm.ret; replace hr := Ev.ret hr; cases hr; exact ⟨rfl, rfl⟩
   ·intro c6; replace hm := hm.ifn c6
    refine .skip ?_
    refine CdOK.region ?_
    refine .t (VI ((w64 (t81 + 1)))) (e_bin (ev_t rfl) rfl rfl rfl) ?_
    refine .m rfl ?_
    refine .nil ?_
    refine .id ?_
    exact ⟨_, (w64 (t81 + 1)), Nat.lt_succ_self _, hm, (.cons rfl (.cons rfl (.cons rfl (.cons rfl .nil)))), rfl⟩
  ·intro c7; replace hm := hm.ifn c7
   refine .exit ?_
   refine .id ?_
   exact ⟨(), hm.ret, (.cons rfl .nil), rfl⟩
 ·intro _ T0 hm
  refine CdOK.seq ?_
  refine .region ?_
  refine .m rfl ?_
  refine .a rfl ?_
  refine .nil ?_
  refine CdOK.ret ?_
  refine ⟨.inr rfl, _, rfl, h, _, _, rfl, rfl, hC, ((renFlV rfl) : RenV _ _ _ _ (VI (0))), ?_⟩
  cases hm.ret; exact ⟨rfl, rfl⟩
/- pagemend/locks.order -/
def locks_order (a_ : Grant) (b_ : Grant) : Option Int := ((cmp_Compare a_.lock.page b_.lock.page).bind fun (x1 : Int) => ((cmp_Compare a_.lock.slot b_.lock.slot).bind fun (x2 : Int) => ((cmp_Compare a_.tx b_.tx).bind fun (x3 : Int) => ((cmp_Or ([x1, x2, x3] : List Int)).bind fun (x4 : Int) => some x4))))
theorem locks_order_ok {h : Heap} {a_ : Grant} {b_ : Grant}   {r : Int} (hm : locks_order a_ b_ = some r) : FnOK Try.prog 113 [.o (.agg [I (a_.tx), I (a_.lock.page), I (a_.lock.slot), I (a_.mode)]), .o (.agg [I (b_.tx), I (b_.lock.page), I (b_.lock.slot), I (b_.mode)])] h (fun v h' => v = VI (r) ∧ h' = h) := by
 refine FnOK.fin ?_
 refine FnOK.bodyC (N := 26) Try.func113 rfl rfl rfl (fun hC => ?_)
 replace hm := Ev.of hm
 rw [locks_order.eq_1] at hm
 show CdOK _ _ _ (look _ [(0, .o (.agg [I (a_.tx), I (a_.lock.page), I (a_.lock.slot), I (a_.mode)])), (1, .o (.agg [I (b_.tx), I (b_.lock.page), I (b_.lock.slot), I (b_.mode)]))]) (h ++ ([] : Heap)) _
 refine .seq ?_
 refine .region ?_
 refine .t (.o (.c (.ptr (h.length + 0) 0))) (e_boxN (L' := [⟨[I (a_.tx), I (a_.lock.page), I (a_.lock.slot), I (a_.mode)], true, true⟩]) rfl (ev_t rfl) rfl rfl) ?_
 refine .t (.o (.c (.ptr (h.length + 1) 0))) (e_boxN (L' := [⟨[I (a_.tx), I (a_.lock.page), I (a_.lock.slot), I (a_.mode)], true, true⟩, ⟨[I (b_.tx), I (b_.lock.page), I (b_.lock.slot), I (b_.mode)], true, true⟩]) rfl (ev_t rfl) rfl rfl) ?_
 refine .t (VI (0)) (e_as rfl) ?_
 refine .nil ?_
 refine CdOK.seq ?_
 refine .draw fol (by decide +kernel) ?_
 refine .t _ (e_fa' fa75_1 (ev_t rfl)) ?_
 refine .t _ (e_fa' fa71_0 (ev_t rfl)) ?_
 refine .t _ (e_ldb1 (ev_t rfl) ty3 (bx rfl rfl) rfl) ?_
 refine .t _ (e_fa' fa75_1 (ev_t rfl)) ?_
 refine .t _ (e_fa' fa71_0 (ev_t rfl)) ?_
 refine .t _ (e_ldb1 (ev_t rfl) ty3 (bx rfl rfl) rfl) ?_
 obtain ⟨x1, e1, hm⟩ := hm.call
 refine .cl rfl rfl rfl rfl pl183 (R2.wk _) (cmp_Compare_ok    e1) ?_
 refine .t _ (e_fa' fa75_1 (ev_t rfl)) ?_
 refine .t _ (e_fa' fa71_1 (ev_t rfl)) ?_
 refine .t _ (e_ldb1 (ev_t rfl) ty3 (bx rfl rfl) rfl) ?_
 refine .t _ (e_fa' fa75_1 (ev_t rfl)) ?_
 refine .t _ (e_fa' fa71_1 (ev_t rfl)) ?_
 refine .t _ (e_ldb1 (ev_t rfl) ty3 (bx rfl rfl) rfl) ?_
 obtain ⟨x2, e2, hm⟩ := hm.call
 refine .cl rfl rfl rfl rfl pl183 (R2.wk _) (cmp_Compare_ok    e2) ?_
 refine .t _ (e_fa' fa75_0 (ev_t rfl)) ?_
 refine .t _ (e_ldb1 (ev_t rfl) ty3 (bx rfl rfl) rfl) ?_
 refine .t _ (e_fa' fa75_0 (ev_t rfl)) ?_
 refine .t _ (e_ldb1 (ev_t rfl) ty3 (bx rfl rfl) rfl) ?_
 obtain ⟨x3, e3, hm⟩ := hm.call
 refine .cl rfl rfl rfl rfl pl183 (R2.wk _) (cmp_Compare_ok    e3) ?_
 refine .t (.o (.c (.LC 1 (([x1, x2, x3] : List Int).map cI)))) (e_lit (cs := [I (x1), I (x2), I (x3)]) (xs := ([x1, x2, x3]).map cI) slt27 rfl rfl rfl rfl rfl) ?_
 obtain ⟨x4, e4, hm⟩ := hm.call
 refine .cl rfl rfl rfl rfl pl182 (R2.of (.c (.LC _ _)) (R2.nil _)) (cmp_Or_ok    e4) ?_
 refine .a rfl ?_
 refine .nil ?_
 refine CdOK.ret ?_
 refine ⟨.inr rfl, _, rfl, h, _, _, rfl, rfl, hC, ((renFlV rfl) : RenV _ _ _ _ (VI (x4))), ?_⟩
 cases hm.ret; exact ⟨rfl, rfl⟩
/- pagemend/locks.valid -/
def locks_valid1 (g_ : Grant) : Option Bool := (if 1 ≤ g_.tx then (if g_.tx ≤ 1073741824 then (if 0 ≤ g_.lock.page then (if g_.lock.page < 64 then (if 0 ≤ g_.lock.slot then (if g_.lock.slot < 16 then (if g_.mode = 1 then some true else some (decide (g_.mode = 2))) else some false) else some false) else some false) else some false) else some false) else some false)
theorem locks_valid1_ok {h : Heap} {g_ : Grant}   {r : Bool} (hm : locks_valid1 g_ = some r) : FnOK Try.prog 105 [.o (.agg [I (g_.tx), I (g_.lock.page), I (g_.lock.slot), I (g_.mode)])] h (fun v h' => v = VB (r) ∧ h' = h) := by
 refine FnOK.fin ?_
 refine FnOK.bodyC (N := 45) Try.func105 rfl rfl rfl (fun hC => ?_)
 replace hm := Ev.of hm
 rw [locks_valid1.eq_1] at hm
 show CdOK _ _ _ (look _ [(0, .o (.agg [I (g_.tx), I (g_.lock.page), I (g_.lock.slot), I (g_.mode)]))]) (h ++ ([] : Heap)) _
 refine .seq ?_
 refine .region ?_
 refine .t (.o (.c (.ptr (h.length + 0) 0))) (e_boxN (L' := [⟨[I (g_.tx), I (g_.lock.page), I (g_.lock.slot), I (g_.mode)], true, true⟩]) rfl (ev_t rfl) rfl rfl) ?_
 refine .t (VB (false)) (e_as rfl) ?_
 refine .nil ?_
 refine CdOK.seq ?_
 refine .region ?_
 refine .t _ (e_fa' fa75_0 (ev_t rfl)) ?_
 refine .t _ (e_ldb1 (ev_t rfl) ty3 (bx rfl rfl) rfl) ?_
 refine .sd rfl rfl rfl (e_bin (ev_t rfl) rfl rfl rfl) ?_ ?_
 ·intro c1; replace hm := hm.ifp c1
  refine .m rfl ?_
  refine .t _ (e_fa' fa75_0 (ev_t rfl)) ?_
  refine .t _ (e_ldb1 (ev_t rfl) ty3 (bx rfl rfl) rfl) ?_
  refine .sd rfl rfl rfl (e_bin (ev_t rfl) rfl rfl rfl) ?_ ?_
  ·intro c2; replace hm := hm.ifp c2
   refine .t (VB (true)) (e_pick (t := true) (ev_t rfl) (ev_t rfl)) ?_
   refine .m rfl ?_
   refine .t _ (e_fa' fa75_1 (ev_t rfl)) ?_
   refine .t _ (e_fa' fa71_0 (ev_t rfl)) ?_
   refine .t _ (e_ldb1 (ev_t rfl) ty3 (bx rfl rfl) rfl) ?_
   refine .sd rfl rfl rfl (e_bin (ev_t rfl) rfl rfl rfl) ?_ ?_
   ·intro c3; replace hm := hm.ifp c3
    refine .t (VB (true)) (e_pick (t := true) (ev_t rfl) (ev_t rfl)) ?_
    refine .m rfl ?_
    refine .t _ (e_fa' fa75_1 (ev_t rfl)) ?_
    refine .t _ (e_fa' fa71_0 (ev_t rfl)) ?_
    refine .t _ (e_ldb1 (ev_t rfl) ty3 (bx rfl rfl) rfl) ?_
    refine .sd rfl rfl rfl (e_bin (ev_t rfl) rfl rfl rfl) ?_ ?_
    ·intro c4; replace hm := hm.ifp c4
     refine .t (VB (true)) (e_pick (t := true) (ev_t rfl) (ev_t rfl)) ?_
     refine .m rfl ?_
     refine .t _ (e_fa' fa75_1 (ev_t rfl)) ?_
     refine .t _ (e_fa' fa71_1 (ev_t rfl)) ?_
     refine .t _ (e_ldb1 (ev_t rfl) ty3 (bx rfl rfl) rfl) ?_
     refine .sd rfl rfl rfl (e_bin (ev_t rfl) rfl rfl rfl) ?_ ?_
     ·intro c5; replace hm := hm.ifp c5
      refine .t (VB (true)) (e_pick (t := true) (ev_t rfl) (ev_t rfl)) ?_
      refine .m rfl ?_
      refine .t _ (e_fa' fa75_1 (ev_t rfl)) ?_
      refine .t _ (e_fa' fa71_1 (ev_t rfl)) ?_
      refine .t _ (e_ldb1 (ev_t rfl) ty3 (bx rfl rfl) rfl) ?_
      refine .sd rfl rfl rfl (e_bin (ev_t rfl) rfl rfl rfl) ?_ ?_
      ·intro c6; replace hm := hm.ifp c6
       refine .t (VB (true)) (e_pick (t := true) (ev_t rfl) (ev_t rfl)) ?_
       refine .m rfl ?_
       refine .t _ (e_fa' fa75_2 (ev_t rfl)) ?_
       refine .t _ (e_ldb1 (ev_t rfl) ty3 (bx rfl rfl) rfl) ?_
       refine .sd rfl rfl rfl (e_eqK (ev_t rfl) rfl) ?_ ?_
       ·intro c7; replace hm := hm.ifp c7
        refine .m rfl ?_
        refine .k ?_
        refine .k ?_
        refine .k ?_
        refine .t (VB (true)) (e_pick (t := true) (ev_t rfl) rfl) ?_
        refine .t (VB (true)) (e_pick (t := true) (ev_t rfl) (ev_t rfl)) ?_
        refine .a rfl ?_
        refine .nil ?_
        refine CdOK.ret ?_
        refine ⟨.inr rfl, _, rfl, h, _, _, rfl, rfl, hC, ((renFlV rfl) : RenV _ _ _ _ (VB (true))), ?_⟩
        cases hm.ret; exact ⟨rfl, rfl⟩
       ·intro c8; replace hm := hm.ifn c8
        refine .m rfl ?_
        refine .t _ (e_fa' fa75_2 (ev_t rfl)) ?_
        refine .t _ (e_ldb1 (ev_t rfl) ty3 (bx rfl rfl) rfl) ?_
        refine .t (VB (decide (g_.mode = 2))) (e_eqK (ev_t rfl) rfl) ?_
        refine .t (VB (decide (g_.mode = 2))) (e_pick (t := false) (ev_t rfl) (ev_t rfl)) ?_
        refine .t (VB (decide (g_.mode = 2))) (e_pick (t := true) (ev_t rfl) (ev_t rfl)) ?_
        refine .a rfl ?_
        refine .nil ?_
        refine CdOK.ret ?_
        refine ⟨.inr rfl, _, rfl, h, _, _, rfl, rfl, hC, ((renFlV rfl) : RenV _ _ _ _ (VB (decide (g_.mode = 2)))), ?_⟩
        cases hm.ret; exact ⟨rfl, rfl⟩
      ·intro c9; replace hm := hm.ifn c9
       refine .t (VB (false)) (e_pick (t := true) (ev_t rfl) (ev_t rfl)) ?_
       refine .m rfl ?_
       refine .k ?_
       refine .k ?_
       refine .k ?_
       refine .k ?_
       refine .k ?_
       refine .k ?_
       refine .k ?_
       refine .k ?_
       refine .t (VB (false)) (e_pick (t := false) (ev_t rfl) rfl) ?_
       refine .a rfl ?_
       refine .nil ?_
       refine CdOK.ret ?_
       refine ⟨.inr rfl, _, rfl, h, _, _, rfl, rfl, hC, ((renFlV rfl) : RenV _ _ _ _ (VB (false))), ?_⟩
       cases hm.ret; exact ⟨rfl, rfl⟩
     ·intro c10; replace hm := hm.ifn c10
      refine .t (VB (false)) (e_pick (t := true) (ev_t rfl) (ev_t rfl)) ?_
      refine .m rfl ?_
      refine .k ?_
      refine .k ?_
      refine .k ?_
      refine .k ?_
      refine .t (VB (false)) (e_pick (t := false) (ev_t rfl) rfl) ?_
      refine .m rfl ?_
      refine .k ?_
      refine .k ?_
      refine .k ?_
      refine .k ?_
      refine .k ?_
      refine .k ?_
      refine .k ?_
      refine .k ?_
      refine .t (VB (false)) (e_pick (t := false) (ev_t rfl) rfl) ?_
      refine .a rfl ?_
      refine .nil ?_
      refine CdOK.ret ?_
      refine ⟨.inr rfl, _, rfl, h, _, _, rfl, rfl, hC, ((renFlV rfl) : RenV _ _ _ _ (VB (false))), ?_⟩
      cases hm.ret; exact ⟨rfl, rfl⟩
    ·intro c11; replace hm := hm.ifn c11
     refine .t (VB (false)) (e_pick (t := true) (ev_t rfl) (ev_t rfl)) ?_
     refine .m rfl ?_
     refine .k ?_
     refine .k ?_
     refine .k ?_
     refine .k ?_
     refine .t (VB (false)) (e_pick (t := false) (ev_t rfl) rfl) ?_
     refine .m rfl ?_
     refine .k ?_
     refine .k ?_
     refine .k ?_
     refine .k ?_
     refine .t (VB (false)) (e_pick (t := false) (ev_t rfl) rfl) ?_
     refine .m rfl ?_
     refine .k ?_
     refine .k ?_
     refine .k ?_
     refine .k ?_
     refine .k ?_
     refine .k ?_
     refine .k ?_
     refine .k ?_
     refine .t (VB (false)) (e_pick (t := false) (ev_t rfl) rfl) ?_
     refine .a rfl ?_
     refine .nil ?_
     refine CdOK.ret ?_
     refine ⟨.inr rfl, _, rfl, h, _, _, rfl, rfl, hC, ((renFlV rfl) : RenV _ _ _ _ (VB (false))), ?_⟩
     cases hm.ret; exact ⟨rfl, rfl⟩
   ·intro c12; replace hm := hm.ifn c12
    refine .t (VB (false)) (e_pick (t := true) (ev_t rfl) (ev_t rfl)) ?_
    refine .m rfl ?_
    refine .k ?_
    refine .k ?_
    refine .k ?_
    refine .k ?_
    refine .t (VB (false)) (e_pick (t := false) (ev_t rfl) rfl) ?_
    refine .m rfl ?_
    refine .k ?_
    refine .k ?_
    refine .k ?_
    refine .k ?_
    refine .t (VB (false)) (e_pick (t := false) (ev_t rfl) rfl) ?_
    refine .m rfl ?_
    refine .k ?_
    refine .k ?_
    refine .k ?_
    refine .k ?_
    refine .t (VB (false)) (e_pick (t := false) (ev_t rfl) rfl) ?_
    refine .m rfl ?_
    refine .k ?_
    refine .k ?_
    refine .k ?_
    refine .k ?_
    refine .k ?_
    refine .k ?_
    refine .k ?_
    refine .k ?_
    refine .t (VB (false)) (e_pick (t := false) (ev_t rfl) rfl) ?_
    refine .a rfl ?_
    refine .nil ?_
    refine CdOK.ret ?_
    refine ⟨.inr rfl, _, rfl, h, _, _, rfl, rfl, hC, ((renFlV rfl) : RenV _ _ _ _ (VB (false))), ?_⟩
    cases hm.ret; exact ⟨rfl, rfl⟩
  ·intro c13; replace hm := hm.ifn c13
   refine .t (VB (false)) (e_pick (t := true) (ev_t rfl) (ev_t rfl)) ?_
   refine .m rfl ?_
   refine .k ?_
   refine .k ?_
   refine .k ?_
   refine .k ?_
   refine .t (VB (false)) (e_pick (t := false) (ev_t rfl) rfl) ?_
   refine .m rfl ?_
   refine .k ?_
   refine .k ?_
   refine .k ?_
   refine .k ?_
   refine .t (VB (false)) (e_pick (t := false) (ev_t rfl) rfl) ?_
   refine .m rfl ?_
   refine .k ?_
   refine .k ?_
   refine .k ?_
   refine .k ?_
   refine .t (VB (false)) (e_pick (t := false) (ev_t rfl) rfl) ?_
   refine .m rfl ?_
   refine .k ?_
   refine .k ?_
   refine .k ?_
   refine .k ?_
   refine .t (VB (false)) (e_pick (t := false) (ev_t rfl) rfl) ?_
   refine .m rfl ?_
   refine .k ?_
   refine .k ?_
   refine .k ?_
   refine .k ?_
   refine .k ?_
   refine .k ?_
   refine .k ?_
   refine .k ?_
   refine .t (VB (false)) (e_pick (t := false) (ev_t rfl) rfl) ?_
   refine .a rfl ?_
   refine .nil ?_
   refine CdOK.ret ?_
   refine ⟨.inr rfl, _, rfl, h, _, _, rfl, rfl, hC, ((renFlV rfl) : RenV _ _ _ _ (VB (false))), ?_⟩
   cases hm.ret; exact ⟨rfl, rfl⟩
 ·intro c14; replace hm := hm.ifn c14
  refine .m rfl ?_
  refine .k ?_
  refine .k ?_
  refine .k ?_
  refine .t (VB (false)) (e_pick (t := false) (ev_t rfl) rfl) ?_
  refine .m rfl ?_
  refine .k ?_
  refine .k ?_
  refine .k ?_
  refine .k ?_
  refine .t (VB (false)) (e_pick (t := false) (ev_t rfl) rfl) ?_
  refine .m rfl ?_
  refine .k ?_
  refine .k ?_
  refine .k ?_
  refine .k ?_
  refine .t (VB (false)) (e_pick (t := false) (ev_t rfl) rfl) ?_
  refine .m rfl ?_
  refine .k ?_
  refine .k ?_
  refine .k ?_
  refine .k ?_
  refine .t (VB (false)) (e_pick (t := false) (ev_t rfl) rfl) ?_
  refine .m rfl ?_
  refine .k ?_
  refine .k ?_
  refine .k ?_
  refine .k ?_
  refine .t (VB (false)) (e_pick (t := false) (ev_t rfl) rfl) ?_
  refine .m rfl ?_
  refine .k ?_
  refine .k ?_
  refine .k ?_
  refine .k ?_
  refine .k ?_
  refine .k ?_
  refine .k ?_
  refine .k ?_
  refine .t (VB (false)) (e_pick (t := false) (ev_t rfl) rfl) ?_
  refine .a rfl ?_
  refine .nil ?_
  refine CdOK.ret ?_
  refine ⟨.inr rfl, _, rfl, h, _, _, rfl, rfl, hC, ((renFlV rfl) : RenV _ _ _ _ (VB (false))), ?_⟩
  cases hm.ret; exact ⟨rfl, rfl⟩
/- slices.BinarySearchFunc[[]pagemend/api.Grant,pagemend/api.Grant,pagemend/api.Grant] -/
def BinarySearchFuncG.l1 (x_ : (List Grant)) (target : Grant) : Nat → Int → Int → Option Int
  | 0, _, _ => none
  | kk4 + 1, i2, j3 => (if i2 < j3 then (if (0 : Int) ≤ (w64 (Int.fdiv (IntKind.u64.wrap (w64 (i2 + j3))) (2 ^ (min (Int.toNat 1) (IntKind.bits .u64))))) ∧ (w64 (Int.fdiv (IntKind.u64.wrap (w64 (i2 + j3))) (2 ^ (min (Int.toNat 1) (IntKind.bits .u64))))) < (x_.length : Int) then ((locks_order (⟨(gd x_ (w64 (Int.fdiv (IntKind.u64.wrap (w64 (i2 + j3))) (2 ^ (min (Int.toNat 1) (IntKind.bits .u64)))))).tx, (⟨(gd x_ (w64 (Int.fdiv (IntKind.u64.wrap (w64 (i2 + j3))) (2 ^ (min (Int.toNat 1) (IntKind.bits .u64)))))).lock.page, (gd x_ (w64 (Int.fdiv (IntKind.u64.wrap (w64 (i2 + j3))) (2 ^ (min (Int.toNat 1) (IntKind.bits .u64)))))).lock.slot⟩ : Lock), (gd x_ (w64 (Int.fdiv (IntKind.u64.wrap (w64 (i2 + j3))) (2 ^ (min (Int.toNat 1) (IntKind.bits .u64)))))).mode⟩ : Grant) target).bind fun (x7 : Int) => (if x7 < 0 then BinarySearchFuncG.l1 x_ target kk4 (w64 ((w64 (Int.fdiv (IntKind.u64.wrap (w64 (i2 + j3))) (2 ^ (min (Int.toNat 1) (IntKind.bits .u64))))) + 1)) j3 else BinarySearchFuncG.l1 x_ target kk4 i2 (w64 (Int.fdiv (IntKind.u64.wrap (w64 (i2 + j3))) (2 ^ (min (Int.toNat 1) (IntKind.bits .u64))))))) else none) else some i2)
def BinarySearchFuncG (x_ : (List Grant)) (target : Grant) : Option (Int × Bool) := ((BinarySearchFuncG.l1 x_ target FU 0 (x_.length : Int)).bind fun (s11 : Int) => (if s11 < (x_.length : Int) then (if (0 : Int) ≤ s11 ∧ s11 < (x_.length : Int) then ((locks_order (gd x_ s11) target).bind fun (x14 : Int) => some (s11, (decide (x14 = 0)))) else none) else some (s11, false)))
theorem BinarySearchFuncG_ok {h : Heap} {x_ : (List Grant)} {target : Grant}   {r : (Int × Bool)} (hm : BinarySearchFuncG x_ target = some r) : FnOK Try.prog 200 [.o (.c (.L 4 (x_.map Grant.cs))), .o (.agg [I (target.tx), I (target.lock.page), I (target.lock.slot), I (target.mode)]), .o (.c (.fn 113 []))] h (fun v h' => v = .tup [.c (I (r.1)), .c (Bo (r.2))] ∧ h' = h) := by
 refine FnOK.fin ?_
 refine FnOK.bodyC (N := 49) Try.func200 rfl rfl rfl (fun hC => ?_)
 replace hm := Ev.of hm
 rw [BinarySearchFuncG.eq_1] at hm
 show CdOK _ _ _ (look _ [(0, .o (.c (.L 4 (x_.map Grant.cs)))), (1, .o (.agg [I (target.tx), I (target.lock.page), I (target.lock.slot), I (target.mode)])), (2, .o (.c (.fn 113 [])))]) (h ++ ([] : Heap)) _
 refine .seq ?_
 refine .region ?_
 refine .t (.o (.c (.ptr (h.length + 0) 0))) (e_boxN (L' := [⟨[I (target.tx), I (target.lock.page), I (target.lock.slot), I (target.mode)], true, true⟩]) rfl (ev_t rfl) rfl rfl) ?_
 refine .t (VI (0)) (e_as rfl) ?_
 refine .t (VB (false)) (e_as rfl) ?_
 refine .nil ?_
 refine CdOK.seq ?_
 refine .region ?_
 refine .m rfl ?_
 refine .t (VI ((x_.length : Int))) (e_lenM (ev_t rfl) is67) ?_
 refine .a rfl ?_
 refine .nil ?_
 refine CdOK.seq ?_
 refine .region ?_
 refine .m rfl ?_
 refine .t (VI (0)) (e_as rfl) ?_
 refine .a rfl ?_
 refine .nil ?_
 replace hm := hm.bnd
 refine CdOK.joinE (σ := Int) (fun s => s) hm (fun s => [(0, .o (.c (.L 4 (x_.map Grant.cs)))), (2, .o (.c (.fn 113 []))), (4, .o (.c (.ptr (h.length + 0) 0))), (8, VI ((x_.length : Int))), (9, VI (s))]) (fun s => h ++ ([⟨[I (target.tx), I (target.lock.page), I (target.lock.slot), I (target.mode)], true, true⟩] : Heap)) ?_ ?_
 ·intro hm
  refine .block ?_
  refine .loopE (σ := (Int × Int)) (fun k s => Ev (BinarySearchFuncG.l1 x_ target k s.1 s.2) _) (fun s => [(0, .o (.c (.L 4 (x_.map Grant.cs)))), (2, .o (.c (.fn 113 []))), (4, .o (.c (.ptr (h.length + 0) 0))), (8, VI ((x_.length : Int))), (9, VI (s.1)), (10, VI (s.2))]) (fun s => h ++ ([⟨[I (target.tx), I (target.lock.page), I (target.lock.slot), I (target.mode)], true, true⟩] : Heap)) FU (0, (x_.length : Int)) hm (.cons rfl (.cons rfl (.cons rfl (.cons rfl (.cons rfl (.cons rfl .nil)))))) rfl ?_
  rintro kk4 ⟨i2, j3⟩ T0 hm
  replace hm : Ev (BinarySearchFuncG.l1 x_ target kk4 i2 j3) _ := hm
  cases kk4 with
  | zero => exact (Ev.non hm).elim
  | succ kk4 =>
  rw [BinarySearchFuncG.l1.eq_2] at hm
  show CdOK _ _ _ (look T0 [(0, .o (.c (.L 4 (x_.map Grant.cs)))), (2, .o (.c (.fn 113 []))), (4, .o (.c (.ptr (h.length + 0) 0))), (8, VI ((x_.length : Int))), (9, VI (i2)), (10, VI (j3))]) (h ++ ([⟨[I (target.tx), I (target.lock.page), I (target.lock.slot), I (target.mode)], true, true⟩] : Heap)) _
  refine .seq ?_
  refine .seq ?_
  refine .region ?_
  refine .m rfl ?_
  refine .m rfl ?_
  refine .t (VB (decide (i2 < j3))) (e_bin (ev_t rfl) (ev_t rfl) rfl rfl) ?_
  refine .nil ?_
  refine CdOK.condD (ev_t rfl) ?_ ?_
  ·intro c5; replace hm := hm.ifp c5
   refine .skip ?_
   refine CdOK.block ?_
   refine .seq ?_
   refine .region ?_
   refine .m rfl ?_
   refine .m rfl ?_
   refine .t (VI ((w64 (i2 + j3)))) (e_bin (ev_t rfl) (ev_t rfl) rfl rfl) ?_
   refine .t (.o (.c (.v (.int .u64 ((IntKind.u64.wrap (w64 (i2 + j3)))))))) (e_cvw cv3_175 (ev_t rfl)) ?_
   refine .t (.o (.c (.v (.int .u64 ((Int.fdiv (IntKind.u64.wrap (w64 (i2 + j3))) (2 ^ (min (Int.toNat 1) (IntKind.bits .u64))))))))) (e_bin (ev_t rfl) rfl rfl rfl) ?_
   refine .t (VI ((w64 (Int.fdiv (IntKind.u64.wrap (w64 (i2 + j3))) (2 ^ (min (Int.toNat 1) (IntKind.bits .u64))))))) (e_cvw cv175_3 (ev_t rfl)) ?_
   refine .a rfl ?_
   refine .nil ?_
   refine CdOK.seq ?_
   refine .draw fol (by decide +kernel) ?_
   refine .m rfl ?_
   refine .m rfl ?_
   refine .m rfl ?_
   obtain ⟨c6, hm⟩ := hm.ifs
   refine .t (.o (.c (.rp [I ((gd x_ (w64 (Int.fdiv (IntKind.u64.wrap (w64 (i2 + j3))) (2 ^ (min (Int.toNat 1) (IntKind.bits .u64)))))).tx), I ((gd x_ (w64 (Int.fdiv (IntKind.u64.wrap (w64 (i2 + j3))) (2 ^ (min (Int.toNat 1) (IntKind.bits .u64)))))).lock.page), I ((gd x_ (w64 (Int.fdiv (IntKind.u64.wrap (w64 (i2 + j3))) (2 ^ (min (Int.toNat 1) (IntKind.bits .u64)))))).lock.slot), I ((gd x_ (w64 (Int.fdiv (IntKind.u64.wrap (w64 (i2 + j3))) (2 ^ (min (Int.toNat 1) (IntKind.bits .u64)))))).mode)]))) (e_ixM (f := Grant.cs) (l := x_) (i := (w64 (Int.fdiv (IntKind.u64.wrap (w64 (i2 + j3))) (2 ^ (min (Int.toNat 1) (IntKind.bits .u64)))))) (ev_t rfl) (ev_t rfl) el67 c6) ?_
   refine .t _ (e_ldRA (ev_t rfl) ty75 rfl rfl) ?_
   refine .t _ (e_ldbA (ev_t rfl) ty75 (bx rfl rfl) rfl rfl) ?_
   obtain ⟨x7, e7, hm⟩ := hm.call
   refine .cl rfl rfl rfl rfl pl113 (R2.wk _) (locks_order_ok    e7) ?_
   refine .t (VB (decide (x7 < 0))) (e_bin (ev_t rfl) rfl rfl rfl) ?_
   refine .nil ?_
   refine CdOK.condD (ev_t rfl) ?_ ?_
   ·intro c8; replace hm := hm.ifp c8
    refine .region ?_
    refine .m rfl ?_
    refine .t (VI ((w64 ((w64 (Int.fdiv (IntKind.u64.wrap (w64 (i2 + j3))) (2 ^ (min (Int.toNat 1) (IntKind.bits .u64))))) + 1)))) (e_bin (ev_t rfl) rfl rfl rfl) ?_
    refine .a rfl ?_
    refine .nil ?_
    refine .id ?_
    exact ⟨_, ((w64 ((w64 (Int.fdiv (IntKind.u64.wrap (w64 (i2 + j3))) (2 ^ (min (Int.toNat 1) (IntKind.bits .u64))))) + 1)), j3), Nat.lt_succ_self _, hm, (.cons rfl (.cons rfl (.cons rfl (.cons rfl (.cons rfl (.cons rfl .nil)))))), rfl⟩
   ·intro c9; replace hm := hm.ifn c9
    refine .region ?_
    refine .m rfl ?_
    refine .a rfl ?_
    refine .nil ?_
    refine .id ?_
    exact ⟨_, (i2, (w64 (Int.fdiv (IntKind.u64.wrap (w64 (i2 + j3))) (2 ^ (min (Int.toNat 1) (IntKind.bits .u64)))))), Nat.lt_succ_self _, hm, (.cons rfl (.cons rfl (.cons rfl (.cons rfl (.cons rfl (.cons rfl .nil)))))), rfl⟩
  ·intro c10; replace hm := hm.ifn c10
   refine .exit ?_
   refine .id ?_
   exact ⟨i2, hm.ret, (.cons rfl (.cons rfl (.cons rfl (.cons rfl (.cons rfl .nil))))), rfl⟩
 ·rintro i1 T0 hm
  show CdOK _ _ _ (look T0 [(0, .o (.c (.L 4 (x_.map Grant.cs)))), (2, .o (.c (.fn 113 []))), (4, .o (.c (.ptr (h.length + 0) 0))), (8, VI ((x_.length : Int))), (9, VI (i1))]) (h ++ ([⟨[I (target.tx), I (target.lock.page), I (target.lock.slot), I (target.mode)], true, true⟩] : Heap)) _
  refine .seq ?_
  refine .draw fol (by decide +kernel) ?_
  refine .m rfl ?_
  refine .m rfl ?_
  refine .m rfl ?_
  refine .sd rfl rfl rfl (e_bin (ev_t rfl) (ev_t rfl) rfl rfl) ?_ ?_
  ·intro c12; replace hm := hm.ifp c12
   refine .m rfl ?_
   refine .m rfl ?_
   refine .m rfl ?_
   refine .m rfl ?_
   obtain ⟨c13, hm⟩ := hm.ifs
   refine .t (.o (.c (.rp [I ((gd x_ i1).tx), I ((gd x_ i1).lock.page), I ((gd x_ i1).lock.slot), I ((gd x_ i1).mode)]))) (e_ixM (f := Grant.cs) (l := x_) (i := i1) (ev_t rfl) (ev_t rfl) el67 c13) ?_
   refine .t _ (e_ldRA (ev_t rfl) ty75 rfl rfl) ?_
   refine .t _ (e_ldbA (ev_t rfl) ty75 (bx rfl rfl) rfl rfl) ?_
   obtain ⟨x14, e14, hm⟩ := hm.call
   refine .cl rfl rfl rfl rfl pl113 (R2.wk _) (locks_order_ok    e14) ?_
   refine .t (VB (decide (x14 = 0))) (e_eqK (ev_t rfl) rfl) ?_
   refine .t (VB (decide (x14 = 0))) (e_pick (t := true) (ev_t rfl) (ev_t rfl)) ?_
   refine .a rfl ?_
   refine .a rfl ?_
   refine .nil ?_
   refine CdOK.ret ?_
   refine ⟨.inr rfl, _, rfl, h, _, _, rfl, rfl, hC, ((renFlV rfl) : RenV _ _ _ _ (.tup [.c (I (i1)), .c (Bo (decide (x14 = 0)))])), ?_⟩
   cases hm.ret; exact ⟨rfl, rfl⟩
  ·intro c15; replace hm := hm.ifn c15
   refine .m rfl ?_
   refine .k ?_
   refine .k ?_
   refine .k ?_
   refine .k ?_
   refine .k ?_
   refine .k ?_
   refine .k ?_
   refine .k ?_
   refine .t (VB (false)) (e_pick (t := false) (ev_t rfl) rfl) ?_
   refine .a rfl ?_
   refine .a rfl ?_
   refine .nil ?_
   refine CdOK.ret ?_
   refine ⟨.inr rfl, _, rfl, h, _, _, rfl, rfl, hC, ((renFlV rfl) : RenV _ _ _ _ (.tup [.c (I (i1)), .c (Bo false)])), ?_⟩
   cases hm.ret; exact ⟨rfl, rfl⟩
/- pagemend/locks.find -/
def locks_find (l_ : (List Grant)) (tx : Int) (k_ : Lock) : Option (Int × Bool) := ((BinarySearchFuncG l_ (⟨tx, k_, 0⟩ : Grant)).bind fun (x1 : (Int × Bool)) => some (x1.1, x1.2))
theorem locks_find_ok {h : Heap} {l_ : (List Grant)} {tx : Int} {k_ : Lock}   {r : (Int × Bool)} (hm : locks_find l_ tx k_ = some r) : FnOK Try.prog 175 [.o (.c (.L 4 (l_.map Grant.cs))), VI (tx), .o (.agg [I (k_.page), I (k_.slot)])] h (fun v h' => v = .tup [.c (I (r.1)), .c (Bo (r.2))] ∧ h' = h) := by
 refine FnOK.fin ?_
 refine FnOK.bodyC (N := 15) Try.func175 rfl rfl rfl (fun hC => ?_)
 replace hm := Ev.of hm
 rw [locks_find.eq_1] at hm
 show CdOK _ _ _ (look _ [(0, .o (.c (.L 4 (l_.map Grant.cs)))), (1, VI (tx)), (2, .o (.agg [I (k_.page), I (k_.slot)]))]) (h ++ ([] : Heap)) _
 refine .seq ?_
 refine .region ?_
 refine .t (.o (.c (.ptr (h.length + 0) 0))) (e_boxN (L' := [⟨[I (k_.page), I (k_.slot)], true, true⟩]) rfl (ev_t rfl) rfl rfl) ?_
 refine .t (VI (0)) (e_as rfl) ?_
 refine .t (VB (false)) (e_as rfl) ?_
 refine .nil ?_
 refine CdOK.seq ?_
 refine .region ?_
 refine .m rfl ?_
 refine .m rfl ?_
 refine .t _ (e_ldbA (ev_t rfl) ty71 (bx rfl rfl) rfl rfl) ?_
 refine .t (.o (.agg [I (tx), I (k_.page), I (k_.slot), I (0)])) (e_bld (cs := [I (tx), I (k_.page), I (k_.slot), I (0)]) zo75 bl75 rfl rfl) ?_
 obtain ⟨x1, e1, hm⟩ := hm.call
 refine .cl rfl rfl rfl rfl pl200 (R2.wk _) (BinarySearchFuncG_ok    e1) ?_
 rintro _ _ ⟨rfl, rfl⟩
 refine .t (VI (x1.1)) (e_ext (ev_t rfl) rfl) ?_
 refine .t (VB (x1.2)) (e_ext (ev_t rfl) rfl) ?_
 refine .a rfl ?_
 refine .a rfl ?_
 refine .nil ?_
 refine CdOK.ret ?_
 refine ⟨.inr rfl, _, rfl, h, _, _, rfl, rfl, hC, ((renFlV rfl) : RenV _ _ _ _ (.tup [.c (I (x1.1)), .c (Bo (x1.2))])), ?_⟩
 cases hm.ret; exact ⟨rfl, rfl⟩
/- pagemend/locks.mode -/
def locks_mode1 (t_ : Locks) (tx : Int) (k_ : Lock) : Option Int := ((locks_find t_.held tx k_).bind fun (x1 : (Int × Bool)) => (if x1.2 = true then (if (0 : Int) ≤ x1.1 ∧ x1.1 < (t_.held.length : Int) then some ((gd t_.held x1.1).mode) else none) else some 0))
theorem locks_mode1_ok {h : Heap} {t_ : Locks} {tx : Int} {k_ : Lock}   {r : Int} (hm : locks_mode1 t_ tx k_ = some r) : FnOK Try.prog 106 [.o (.agg [.L 4 (t_.held.map Grant.cs), .L 4 (t_.waiting.map Grant.cs)]), VI (tx), .o (.agg [I (k_.page), I (k_.slot)])] h (fun v h' => v = VI (r) ∧ h' = h) := by
 refine FnOK.fin ?_
 refine FnOK.bodyC (N := 24) Try.func106 rfl rfl rfl (fun hC => ?_)
 replace hm := Ev.of hm
 rw [locks_mode1.eq_1] at hm
 show CdOK _ _ _ (look _ [(0, .o (.agg [.L 4 (t_.held.map Grant.cs), .L 4 (t_.waiting.map Grant.cs)])), (1, VI (tx)), (2, .o (.agg [I (k_.page), I (k_.slot)]))]) (h ++ ([] : Heap)) _
 refine .seq ?_
 refine .region ?_
 refine .t (.o (.c (.ptr (h.length + 0) 0))) (e_boxN (L' := [⟨[.L 4 (t_.held.map Grant.cs), .L 4 (t_.waiting.map Grant.cs)], true, true⟩]) rfl (ev_t rfl) rfl rfl) ?_
 refine .t (.o (.c (.ptr (h.length + 1) 0))) (e_boxN (L' := [⟨[.L 4 (t_.held.map Grant.cs), .L 4 (t_.waiting.map Grant.cs)], true, true⟩, ⟨[I (k_.page), I (k_.slot)], true, true⟩]) rfl (ev_t rfl) rfl rfl) ?_
 refine .t (VI (0)) (e_as rfl) ?_
 refine .nil ?_
 refine CdOK.seq ?_
 refine .seq ?_
 refine .region ?_
 refine .t _ (e_fa' fa69_0 (ev_t rfl)) ?_
 refine .t _ (e_ldb1 (ev_t rfl) ty67 (bx rfl rfl) rfl) ?_
 refine .m rfl ?_
 refine .t _ (e_ldbA (ev_t rfl) ty71 (bx rfl rfl) rfl rfl) ?_
 obtain ⟨x1, e1, hm⟩ := hm.call
 refine .cl rfl rfl rfl rfl pl175 (R2.wk _) (locks_find_ok    e1) ?_
 rintro _ _ ⟨rfl, rfl⟩
 refine .m rfl ?_
 refine .t (VI (x1.1)) (e_ext (ev_t rfl) rfl) ?_
 refine .t (VB (x1.2)) (e_ext (ev_t rfl) rfl) ?_
 refine .a rfl ?_
 refine .a rfl ?_
 refine .nil ?_
 refine CdOK.seq ?_
 refine .region ?_
 refine .m rfl ?_
 refine .nil ?_
 refine CdOK.condB (ev_t rfl) ?_ ?_
 ·intro c2; replace hm := hm.ifp c2
  refine .seq ?_
  refine .region ?_
  refine .t _ (e_fa' fa69_0 (ev_t rfl)) ?_
  refine .t _ (e_ldb1 (ev_t rfl) ty67 (bx rfl rfl) rfl) ?_
  refine .m rfl ?_
  obtain ⟨c3, hm⟩ := hm.ifs
  refine .t (.o (.c (.rp [I ((gd t_.held x1.1).tx), I ((gd t_.held x1.1).lock.page), I ((gd t_.held x1.1).lock.slot), I ((gd t_.held x1.1).mode)]))) (e_ixM (f := Grant.cs) (l := t_.held) (i := x1.1) (ev_t rfl) (ev_t rfl) el67 c3) ?_
  refine .t _ (e_faR fa75_2 (ev_t rfl) rfl) ?_
  refine .t _ (e_ldR1 (ev_t rfl) ty3 rfl) ?_
  refine .a rfl ?_
  refine .nil ?_
  refine CdOK.ret ?_
  refine ⟨.inr rfl, _, rfl, h, _, _, rfl, rfl, hC, ((renFlV rfl) : RenV _ _ _ _ (VI ((gd t_.held x1.1).mode))), ?_⟩
  cases hm.ret; exact ⟨rfl, rfl⟩
 ·intro c4; replace hm := hm.ifn c4
  refine .skip ?_
  refine CdOK.seq ?_
  refine .region ?_
  refine .t (VI (0)) (e_as rfl) ?_
  refine .nil ?_
  refine CdOK.ret ?_
  refine ⟨.inr rfl, _, rfl, h, _, _, rfl, rfl, hC, ((renFlV rfl) : RenV _ _ _ _ (VI (0))), ?_⟩
  cases hm.ret; exact ⟨rfl, rfl⟩
/- pagemend/locks.Valid$1 -/
def locks_ValidF (x_ : Grant) (a1 : Grant) : Option Bool := some (decide (x_.tx = a1.tx))
theorem locks_ValidF_ok {h : Heap} {x_ : Grant} {a1 : Grant} {b_a1 : Nat} (hb_a1 : h[b_a1]? = some ⟨[I (a1.tx), I (a1.lock.page), I (a1.lock.slot), I (a1.mode)], true, true⟩)  {r : Bool} (hm : locks_ValidF x_ a1 = some r) : FnOK Try.prog 116 [.o (.agg [I (x_.tx), I (x_.lock.page), I (x_.lock.slot), I (x_.mode)]), .o (.c (.ptr b_a1 0))] h (fun v h' => v = VB (r) ∧ h' = h) := by
 refine FnOK.fin ?_
 refine FnOK.bodyC (N := 9) Try.func116 rfl rfl rfl (fun hC => ?_)
 have hl_a1 := lt_of_get hb_a1
 replace hm := Ev.of hm
 rw [locks_ValidF.eq_1] at hm
 show CdOK _ _ _ (look _ [(0, .o (.agg [I (x_.tx), I (x_.lock.page), I (x_.lock.slot), I (x_.mode)])), (1, .o (.c (.ptr b_a1 0)))]) (h ++ ([] : Heap)) _
 refine .seq ?_
 refine .region ?_
 refine .t (.o (.c (.ptr (h.length + 0) 0))) (e_boxN (L' := [⟨[I (x_.tx), I (x_.lock.page), I (x_.lock.slot), I (x_.mode)], true, true⟩]) rfl (ev_t rfl) rfl rfl) ?_
 refine .t (VB (false)) (e_as rfl) ?_
 refine .nil ?_
 refine CdOK.seq ?_
 refine .region ?_
 refine .t _ (e_fa' fa75_0 (ev_t rfl)) ?_
 refine .t _ (e_ldb1 (ev_t rfl) ty3 (bx rfl rfl) rfl) ?_
 refine .t _ (e_fa' fa75_0 (ev_t rfl)) ?_
 refine .t _ (e_ldb1 (ev_t rfl) ty3 (pb hb_a1) rfl) ?_
 refine .t (VB (decide (x_.tx = a1.tx))) (e_eqK (ev_t rfl) (ev_t rfl)) ?_
 refine .a rfl ?_
 refine .nil ?_
 refine CdOK.ret ?_
 refine ⟨.inr rfl, _, rfl, h, _, _, rfl, rfl, hC, ((renFlV rfl) : RenV _ _ _ _ (VB (decide (x_.tx = a1.tx)))), ?_⟩
 cases hm.ret; exact ⟨rfl, rfl⟩
/- slices.IndexFunc[[]pagemend/api.Grant,pagemend/api.Grant] -/
def IndexFuncV.l1 (s_ : (List Grant)) (f_0 : Grant) : Nat → Int → Option (Sum Unit Int)
  | 0, _ => none
  | kk2 + 1, t81 => (if t81 < (s_.length : Int) then (if (0 : Int) ≤ t81 ∧ t81 < (s_.length : Int) then ((locks_ValidF (gd s_ t81) f_0).bind fun (x5 : Bool) => (if x5 = true then some (Sum.inr t81) else IndexFuncV.l1 s_ f_0 kk2 (w64 (t81 + 1)))) else none) else some (Sum.inl ()))
def IndexFuncV (s_ : (List Grant)) (f_0 : Grant) : Option Int := ((IndexFuncV.l1 s_ f_0 FU 0).bind fun (z : Sum Unit Int) => match z with | .inl (s9 : Unit) => some (-1) | .inr r => some r)
theorem IndexFuncV_ok {h : Heap} {s_ : (List Grant)} {f_0 : Grant} {b_f_0 : Nat} (hb_f_0 : h[b_f_0]? = some ⟨[I (f_0.tx), I (f_0.lock.page), I (f_0.lock.slot), I (f_0.mode)], true, true⟩)  {r : Int} (hm : IndexFuncV s_ f_0 = some r) : FnOK Try.prog 127 [.o (.c (.L 4 (s_.map Grant.cs))), .o (.c (.fn 116 [(b_f_0, 0)]))] h (fun v h' => v = VI (r) ∧ h' = h) := by
 refine FnOK.fin ?_
 refine FnOK.bodyC (N := 19) Try.func127 rfl rfl rfl (fun hC => ?_)
 have hl_f_0 := lt_of_get hb_f_0
 replace hm := Ev.of hm
 rw [IndexFuncV.eq_1] at hm
 show CdOK _ _ _ (look _ [(0, .o (.c (.L 4 (s_.map Grant.cs)))), (1, .o (.c (.fn 116 [(b_f_0, 0)])))]) (h ++ ([] : Heap)) _
 refine .seq ?_
 refine .region ?_
 refine .t (VI (0)) (e_as rfl) ?_
 refine .nil ?_
 refine CdOK.seq ?_
 refine .seq ?_
 refine .region ?_
 refine .m rfl ?_
 refine .t (VI ((s_.length : Int))) (e_lenM (ev_t rfl) is67) ?_
 refine .t (VI (0)) (e_mv rfl) ?_
 refine .nil ?_
 replace hm := hm.bnd
 refine CdOK.joinT (σ := Unit) (fun s => Sum.inl ()) hm (fun s => []) (fun s => h ++ ([] : Heap)) ?_ ?_
 ·intro hm
  refine .block ?_
  refine .loopE (σ := Int) (fun k s => Ev (IndexFuncV.l1 s_ f_0 k s) _) (fun s => [(0, .o (.c (.L 4 (s_.map Grant.cs)))), (1, .o (.c (.fn 116 [(b_f_0, 0)]))), (7, VI ((s_.length : Int))), (8, VI (s))]) (fun s => h ++ ([] : Heap)) FU 0 hm (.cons rfl (.cons rfl (.cons rfl (.cons rfl .nil)))) rfl ?_
  rintro kk2 t81 T0 hm
  replace hm : Ev (IndexFuncV.l1 s_ f_0 kk2 t81) _ := hm
  cases kk2 with
  | zero => exact (Ev.non hm).elim
  | succ kk2 =>
  rw [IndexFuncV.l1.eq_2] at hm
  show CdOK _ _ _ (look T0 [(0, .o (.c (.L 4 (s_.map Grant.cs)))), (1, .o (.c (.fn 116 [(b_f_0, 0)]))), (7, VI ((s_.length : Int))), (8, VI (t81))]) (h ++ ([] : Heap)) _
  refine .seq ?_
  refine .region ?_
  refine .t (VB (decide (t81 < (s_.length : Int)))) (e_bin (ev_t rfl) (ev_t rfl) rfl rfl) ?_
  refine .nil ?_
  refine CdOK.seq ?_
  refine .condD (ev_t rfl) ?_ ?_
  ·intro c3; replace hm := hm.ifp c3
   refine .skip ?_
   refine CdOK.seq ?_
   refine .block ?_
   refine .seq ?_
   refine .region ?_
   refine .m rfl ?_
   refine .a rfl ?_
   refine .nil ?_
   refine CdOK.seq ?_
   refine .region ?_
   refine .m rfl ?_
   refine .m rfl ?_
   refine .m rfl ?_
   obtain ⟨c4, hm⟩ := hm.ifs
   refine .t (.o (.c (.rp [I ((gd s_ t81).tx), I ((gd s_ t81).lock.page), I ((gd s_ t81).lock.slot), I ((gd s_ t81).mode)]))) (e_ixM (f := Grant.cs) (l := s_) (i := t81) (ev_t rfl) (ev_t rfl) el67 c4) ?_
   refine .t _ (e_ldRA (ev_t rfl) ty75 rfl rfl) ?_
   obtain ⟨x5, e5, hm⟩ := hm.call
   refine .cl rfl rfl rfl rfl pl116 (R2.wk _) (locks_ValidF_ok  (b_a1 := b_f_0) (pb hb_f_0) e5) ?_
   rintro _ _ ⟨rfl, rfl⟩
   refine .nil ?_
   refine CdOK.condB (ev_t rfl) ?_ ?_
   ·intro c6; replace hm := hm.ifp c6
    refine .seq ?_
    refine .region ?_
    refine .m rfl ?_
    refine .a rfl ?_
    refine .nil ?_
    refine CdOK.ret ?_
    refine ⟨.inr rfl, _, rfl, h, _, _, rfl, rfl, hC, ((renFlV rfl) : RenV _ _ _ _ (VI (t81))), ?_⟩
    have hr := hm.ret; replace hr := Ev.ret hr; cases hr; exact ⟨rfl, rfl⟩
   ·intro c7; replace hm := hm.ifn c7
    refine .skip ?_
    refine CdOK.region ?_
    refine .t (VI ((w64 (t81 + 1)))) (e_bin (ev_t rfl) rfl rfl rfl) ?_
    refine .m rfl ?_
    refine .nil ?_
    refine .id ?_
    exact ⟨_, (w64 (t81 + 1)), Nat.lt_succ_self _, hm, (.cons rfl (.cons rfl (.cons rfl (.cons rfl .nil)))), rfl⟩
  ·intro c8; replace hm := hm.ifn c8
   refine .exit ?_
   refine .id ?_
   exact ⟨(), hm.ret, .nil, rfl⟩
 ·intro _ T0 hm
  refine CdOK.seq ?_
  refine .region ?_
  refine .t (VI ((-1))) (e_as rfl) ?_
  refine .nil ?_
  refine CdOK.ret ?_
  refine ⟨.inr rfl, _, rfl, h, _, _, rfl, rfl, hC, ((renFlV rfl) : RenV _ _ _ _ (VI ((-1)))), ?_⟩
  cases hm.ret; exact ⟨rfl, rfl⟩
/- slices.ContainsFunc[[]pagemend/api.Grant,pagemend/api.Grant] -/
def ContainsFuncV (s_ : (List Grant)) (f_0 : Grant) : Option Bool := ((IndexFuncV s_ f_0).bind fun (x1 : Int) => some (decide (0 ≤ x1)))
theorem ContainsFuncV_ok {h : Heap} {s_ : (List Grant)} {f_0 : Grant} {b_f_0 : Nat} (hb_f_0 : h[b_f_0]? = some ⟨[I (f_0.tx), I (f_0.lock.page), I (f_0.lock.slot), I (f_0.mode)], true, true⟩)  {r : Bool} (hm : ContainsFuncV s_ f_0 = some r) : FnOK Try.prog 115 [.o (.c (.L 4 (s_.map Grant.cs))), .o (.c (.fn 116 [(b_f_0, 0)]))] h (fun v h' => v = VB (r) ∧ h' = h) := by
 refine FnOK.fin ?_
 refine FnOK.bodyC (N := 9) Try.func115 rfl rfl rfl (fun hC => ?_)
 have hl_f_0 := lt_of_get hb_f_0
 replace hm := Ev.of hm
 rw [ContainsFuncV.eq_1] at hm
 show CdOK _ _ _ (look _ [(0, .o (.c (.L 4 (s_.map Grant.cs)))), (1, .o (.c (.fn 116 [(b_f_0, 0)])))]) (h ++ ([] : Heap)) _
 refine .seq ?_
 refine .region ?_
 refine .t (VB (false)) (e_as rfl) ?_
 refine .nil ?_
 refine CdOK.seq ?_
 refine .region ?_
 refine .m rfl ?_
 refine .m rfl ?_
 obtain ⟨x1, e1, hm⟩ := hm.call
 refine .cl rfl rfl rfl rfl pl127 (R2.wk _) (IndexFuncV_ok  (b_f_0 := b_f_0) (pb hb_f_0) e1) ?_
 rintro _ _ ⟨rfl, rfl⟩
 refine .t (VB (decide (0 ≤ x1))) (e_bin (ev_t rfl) rfl rfl rfl) ?_
 refine .a rfl ?_
 refine .nil ?_
 refine CdOK.ret ?_
 refine ⟨.inr rfl, _, rfl, h, _, _, rfl, rfl, hC, ((renFlV rfl) : RenV _ _ _ _ (VB (decide (0 ≤ x1)))), ?_⟩
 cases hm.ret; exact ⟨rfl, rfl⟩
/- pagemend/locks.Valid -/
def locks_Valid.l1 (t_ : Locks) : Nat → Int → Option (Sum Unit Bool)
  | 0, _ => none
  | kk4 + 1, t183 => (if t183 < (t_.held.length : Int) then (if (0 : Int) ≤ t183 ∧ t183 < (t_.held.length : Int) then ((locks_valid1 (gd t_.held t183)).bind fun (x7 : Bool) => (if x7 = true then (if 0 < t183 then (if (0 : Int) ≤ (w64 (t183 - 1)) ∧ (w64 (t183 - 1)) < (t_.held.length : Int) then ((locks_order (⟨(gd t_.held (w64 (t183 - 1))).tx, (⟨(gd t_.held (w64 (t183 - 1))).lock.page, (gd t_.held (w64 (t183 - 1))).lock.slot⟩ : Lock), (gd t_.held (w64 (t183 - 1))).mode⟩ : Grant) (gd t_.held t183)).bind fun (x10 : Int) => (if 0 ≤ x10 then some (Sum.inr false) else (if (0 : Int) ≤ (w64 (t183 - 1)) ∧ (w64 (t183 - 1)) < (t_.held.length : Int) then ((locks_conflict (⟨(gd t_.held (w64 (t183 - 1))).tx, (⟨(gd t_.held (w64 (t183 - 1))).lock.page, (gd t_.held (w64 (t183 - 1))).lock.slot⟩ : Lock), (gd t_.held (w64 (t183 - 1))).mode⟩ : Grant) (gd t_.held t183)).bind fun (x14 : Bool) => (if x14 = true then some (Sum.inr false) else locks_Valid.l1 t_ kk4 (w64 (t183 + 1)))) else none))) else none) else locks_Valid.l1 t_ kk4 (w64 (t183 + 1))) else some (Sum.inr false))) else none) else some (Sum.inl ()))
def locks_Valid.l2 (t_ : Locks) : Nat → Int → Option (Sum Unit Bool)
  | 0, _ => none
  | kk21 + 1, t5520 => (if t5520 < (t_.waiting.length : Int) then (if (0 : Int) ≤ t5520 ∧ t5520 < (t_.waiting.length : Int) then ((locks_valid1 (gd t_.waiting t5520)).bind fun (x24 : Bool) => (if x24 = true then ((locks_mode1 t_ ((gd t_.waiting t5520).tx) ((gd t_.waiting t5520).lock)).bind fun (x25 : Int) => (if ((gd t_.waiting t5520).mode) ≤ x25 then some (Sum.inr false) else (if (0 : Int) ≤ t5520 ∧ t5520 ≤ (t_.waiting.length : Int) then ((ContainsFuncV (t_.waiting.take (Int.toNat t5520)) (gd t_.waiting t5520)).bind fun (x29 : Bool) => (if x29 = true then some (Sum.inr false) else locks_Valid.l2 t_ kk21 (w64 (t5520 + 1)))) else none))) else some (Sum.inr false))) else none) else some (Sum.inl ()))
def locks_Valid (t_ : Locks) : Option Bool := (if 1024 < (w64 ((t_.held.length : Int) + (t_.waiting.length : Int))) then some false else ((locks_Valid.l1 t_ FU 0).bind fun (z : Sum Unit Bool) => match z with | .inl (s19 : Unit) => ((locks_Valid.l2 t_ FU 0).bind fun (z : Sum Unit Bool) => match z with | .inl (s33 : Unit) => some true | .inr r => some r) | .inr r => some r))
theorem locks_Valid_ok {h : Heap} {t_ : Locks}   {r : Bool} (hm : locks_Valid t_ = some r) : FnOK Try.prog 44 [.o (.agg [.L 4 (t_.held.map Grant.cs), .L 4 (t_.waiting.map Grant.cs)])] h (fun v h' => v = VB (r) ∧ h' = h) := by
 refine FnOK.fin ?_
 refine FnOK.bodyC (N := 83) Try.func44 rfl rfl rfl (fun hC => ?_)
 replace hm := Ev.of hm
 rw [locks_Valid.eq_1] at hm
 show CdOK _ _ _ (look _ [(0, .o (.agg [.L 4 (t_.held.map Grant.cs), .L 4 (t_.waiting.map Grant.cs)]))]) (h ++ ([] : Heap)) _
 refine .seq ?_
 refine .region ?_
 refine .t (.o (.c (.ptr (h.length + 0) 0))) (e_boxN (L' := [⟨[.L 4 (t_.held.map Grant.cs), .L 4 (t_.waiting.map Grant.cs)], true, true⟩]) rfl (ev_t rfl) rfl rfl) ?_
 refine .t (VB (false)) (e_as rfl) ?_
 refine .nil ?_
 refine CdOK.seq ?_
 refine .seq ?_
 refine .region ?_
 refine .t _ (e_fa' fa69_0 (ev_t rfl)) ?_
 refine .t _ (e_ldb1 (ev_t rfl) ty67 (bx rfl rfl) rfl) ?_
 refine .t (VI ((t_.held.length : Int))) (e_lenM (ev_t rfl) is67) ?_
 refine .t _ (e_fa' fa69_1 (ev_t rfl)) ?_
 refine .t _ (e_ldb1 (ev_t rfl) ty67 (bx rfl rfl) rfl) ?_
 refine .t (VI ((t_.waiting.length : Int))) (e_lenM (ev_t rfl) is67) ?_
 refine .t (VI ((w64 ((t_.held.length : Int) + (t_.waiting.length : Int))))) (e_bin (ev_t rfl) (ev_t rfl) rfl rfl) ?_
 refine .t (VB (decide (1024 < (w64 ((t_.held.length : Int) + (t_.waiting.length : Int)))))) (e_bin (ev_t rfl) rfl rfl rfl) ?_
 refine .nil ?_
 refine CdOK.condD (ev_t rfl) ?_ ?_
 ·intro c1; replace hm := hm.ifp c1
  refine .seq ?_
  refine .region ?_
  refine .t (VB (false)) (e_as rfl) ?_
  refine .nil ?_
  refine CdOK.ret ?_
  refine ⟨.inr rfl, _, rfl, h, _, _, rfl, rfl, hC, ((renFlV rfl) : RenV _ _ _ _ (VB (false))), ?_⟩
  cases hm.ret; exact ⟨rfl, rfl⟩
 ·intro c2; replace hm := hm.ifn c2
  refine .skip ?_
  refine CdOK.seq ?_
  refine .seq ?_
  refine .region ?_
  refine .t _ (e_fa' fa69_0 (ev_t rfl)) ?_
  refine .t _ (e_ldb1 (ev_t rfl) ty67 (bx rfl rfl) rfl) ?_
  refine .t (VI ((t_.held.length : Int))) (e_lenM (ev_t rfl) is67) ?_
  refine .t (VI (0)) (e_mv rfl) ?_
  refine .nil ?_
  replace hm := hm.bnd
  refine CdOK.joinT (σ := Unit) (fun s => Sum.inl ()) hm (fun s => [(1, .o (.c (.ptr (h.length + 0) 0)))]) (fun s => h ++ ([⟨[.L 4 (t_.held.map Grant.cs), .L 4 (t_.waiting.map Grant.cs)], true, true⟩] : Heap)) ?_ ?_
  ·intro hm
   refine .block ?_
   refine .loopE (σ := Int) (fun k s => Ev (locks_Valid.l1 t_ k s) _) (fun s => [(1, .o (.c (.ptr (h.length + 0) 0))), (16, .o (.c (.L 4 (t_.held.map Grant.cs)))), (17, VI ((t_.held.length : Int))), (18, VI (s))]) (fun s => h ++ ([⟨[.L 4 (t_.held.map Grant.cs), .L 4 (t_.waiting.map Grant.cs)], true, true⟩] : Heap)) FU 0 hm (.cons rfl (.cons rfl (.cons rfl (.cons rfl .nil)))) rfl ?_
   rintro kk4 t183 T0 hm
   replace hm : Ev (locks_Valid.l1 t_ kk4 t183) _ := hm
   cases kk4 with
   | zero => exact (Ev.non hm).elim
   | succ kk4 =>
   rw [locks_Valid.l1.eq_2] at hm
   show CdOK _ _ _ (look T0 [(1, .o (.c (.ptr (h.length + 0) 0))), (16, .o (.c (.L 4 (t_.held.map Grant.cs)))), (17, VI ((t_.held.length : Int))), (18, VI (t183))]) (h ++ ([⟨[.L 4 (t_.held.map Grant.cs), .L 4 (t_.waiting.map Grant.cs)], true, true⟩] : Heap)) _
   refine .seq ?_
   refine .region ?_
   refine .t (VB (decide (t183 < (t_.held.length : Int)))) (e_bin (ev_t rfl) (ev_t rfl) rfl rfl) ?_
   refine .nil ?_
   refine CdOK.seq ?_
   refine .condD (ev_t rfl) ?_ ?_
   ·intro c5; replace hm := hm.ifp c5
    refine .skip ?_
    refine CdOK.seq ?_
    refine .block ?_
    refine .seq ?_
    refine .region ?_
    refine .m rfl ?_
    obtain ⟨c6, hm⟩ := hm.ifs
    refine .t (.o (.c (.rp [I ((gd t_.held t183).tx), I ((gd t_.held t183).lock.page), I ((gd t_.held t183).lock.slot), I ((gd t_.held t183).mode)]))) (e_ixM (f := Grant.cs) (l := t_.held) (i := t183) (ev_t rfl) (ev_t rfl) el67 c6) ?_
    refine .t _ (e_ldRA (ev_t rfl) ty75 rfl rfl) ?_
    refine .t (.o (.c (.ptr (h.length + 1) 0))) (e_allocN (L' := [⟨[.L 4 (t_.held.map Grant.cs), .L 4 (t_.waiting.map Grant.cs)], true, true⟩, ⟨[I (0), I (0), I (0), I (0)], true, true⟩]) rfl zo75 rfl rfl) ?_
    refine .a rfl ?_
    refine .s0 rfl rfl (e_stN (L' := [⟨[.L 4 (t_.held.map Grant.cs), .L 4 (t_.waiting.map Grant.cs)], true, true⟩, ⟨[I ((gd t_.held t183).tx), I ((gd t_.held t183).lock.page), I ((gd t_.held t183).lock.slot), I ((gd t_.held t183).mode)], true, true⟩]) rfl (ev_t rfl) (ev_t rfl) ty75 rfl rfl rfl rfl rfl) ?_
    refine .nil ?_
    refine CdOK.seq ?_
    refine .draw fol (by decide +kernel) ?_
    refine .t _ (e_ldbA (ev_t rfl) ty75 (bx rfl rfl) rfl rfl) ?_
    obtain ⟨x7, e7, hm⟩ := hm.call
    cases x7 with
    | true =>
     replace hm := hm.ifp rfl
     refine .cl rfl rfl rfl rfl pl105 (R2.wk _) (locks_valid1_ok    e7) ?_
     refine .t (VB (false)) (e_un (ev_t rfl) rfl) ?_
     refine .m rfl ?_
     refine .m rfl ?_
     refine .sd rfl rfl rfl (e_bin (ev_t rfl) rfl rfl rfl) ?_ ?_
     ·intro c8; replace hm := hm.ifp c8
      refine .m rfl ?_
      refine .t _ (e_fa' fa69_0 (ev_t rfl)) ?_
      refine .t _ (e_ldb1 (ev_t rfl) ty67 (bx rfl rfl) rfl) ?_
      refine .m rfl ?_
      refine .t (VI ((w64 (t183 - 1)))) (e_bin (ev_t rfl) rfl rfl rfl) ?_
      obtain ⟨c9, hm⟩ := hm.ifs
      refine .t (.o (.c (.rp [I ((gd t_.held (w64 (t183 - 1))).tx), I ((gd t_.held (w64 (t183 - 1))).lock.page), I ((gd t_.held (w64 (t183 - 1))).lock.slot), I ((gd t_.held (w64 (t183 - 1))).mode)]))) (e_ixM (f := Grant.cs) (l := t_.held) (i := (w64 (t183 - 1))) (ev_t rfl) (ev_t rfl) el67 c9) ?_
      refine .t _ (e_ldRA (ev_t rfl) ty75 rfl rfl) ?_
      refine .t _ (e_ldbA (ev_t rfl) ty75 (bx rfl rfl) rfl rfl) ?_
      obtain ⟨x10, e10, hm⟩ := hm.call
      refine .cl rfl rfl rfl rfl pl113 (R2.wk _) (locks_order_ok    e10) ?_
      refine .sd rfl rfl rfl (e_bin (ev_t rfl) rfl rfl rfl) ?_ ?_
      ·intro c11; replace hm := hm.ifp c11
       refine .m rfl ?_
       refine .k ?_
       refine .k ?_
       refine .k ?_
       refine .k ?_
       refine .k ?_
       refine .k ?_
       refine .k ?_
       refine .k ?_
       refine .t (VB (true)) (e_pick (t := true) (ev_t rfl) rfl) ?_
       refine .t (VB (true)) (e_pick (t := true) (ev_t rfl) (ev_t rfl)) ?_
       refine .t (VB (true)) (e_pick (t := false) (ev_t rfl) (ev_t rfl)) ?_
       refine .nil ?_
       refine CdOK.cond_true rfl ?_
       refine .seq ?_
       refine .region ?_
       refine .t (VB (false)) (e_as rfl) ?_
       refine .nil ?_
       refine CdOK.ret ?_
       refine ⟨.inr rfl, _, rfl, h, _, _, rfl, rfl, hC, ((renFlV rfl) : RenV _ _ _ _ (VB (false))), ?_⟩
       have hr := hm.ret; replace hr := Ev.ret hr; cases hr; exact ⟨rfl, rfl⟩
      ·intro c12; replace hm := hm.ifn c12
       refine .m rfl ?_
       refine .t _ (e_fa' fa69_0 (ev_t rfl)) ?_
       refine .t _ (e_ldb1 (ev_t rfl) ty67 (bx rfl rfl) rfl) ?_
       refine .m rfl ?_
       refine .t (VI ((w64 (t183 - 1)))) (e_bin (ev_t rfl) rfl rfl rfl) ?_
       obtain ⟨c13, hm⟩ := hm.ifs
       refine .t (.o (.c (.rp [I ((gd t_.held (w64 (t183 - 1))).tx), I ((gd t_.held (w64 (t183 - 1))).lock.page), I ((gd t_.held (w64 (t183 - 1))).lock.slot), I ((gd t_.held (w64 (t183 - 1))).mode)]))) (e_ixM (f := Grant.cs) (l := t_.held) (i := (w64 (t183 - 1))) (ev_t rfl) (ev_t rfl) el67 c13) ?_
       refine .t _ (e_ldRA (ev_t rfl) ty75 rfl rfl) ?_
       refine .t _ (e_ldbA (ev_t rfl) ty75 (bx rfl rfl) rfl rfl) ?_
       obtain ⟨x14, e14, hm⟩ := hm.call
       refine .cl rfl rfl rfl rfl pl114 (R2.wk _) (locks_conflict_ok    e14) ?_
       refine .t (VB (x14)) (e_pick (t := false) (ev_t rfl) (ev_t rfl)) ?_
       refine .t (VB (x14)) (e_pick (t := true) (ev_t rfl) (ev_t rfl)) ?_
       refine .t (VB (x14)) (e_pick (t := false) (ev_t rfl) (ev_t rfl)) ?_
       refine .nil ?_
       refine CdOK.condB (ev_t rfl) ?_ ?_
       ·intro c15; replace hm := hm.ifp c15
        refine .seq ?_
        refine .region ?_
        refine .t (VB (false)) (e_as rfl) ?_
        refine .nil ?_
        refine CdOK.ret ?_
        refine ⟨.inr rfl, _, rfl, h, _, _, rfl, rfl, hC, ((renFlV rfl) : RenV _ _ _ _ (VB (false))), ?_⟩
        have hr := hm.ret; replace hr := Ev.ret hr; cases hr; exact ⟨rfl, rfl⟩
       ·intro c16; replace hm := hm.ifn c16
        refine .skip ?_
        refine CdOK.region ?_
        refine .t (VI ((w64 (t183 + 1)))) (e_bin (ev_t rfl) rfl rfl rfl) ?_
        refine .m rfl ?_
        refine .nil ?_
        refine .re (σ := [0]) (X := [(1, .o (.c (.ptr (h.length + 0) 0))), (16, .o (.c (.L 4 (t_.held.map Grant.cs)))), (17, VI ((t_.held.length : Int))), (18, VI ((w64 (t183 + 1))))]) (L' := [⟨[.L 4 (t_.held.map Grant.cs), .L 4 (t_.waiting.map Grant.cs)], true, true⟩]) rfl rfl hC (by decide) (.obj 0 rfl (renFl rfl) .nil) (.cons (.o (.c (.ptr 0 0 _ rfl))) (.cons (renFlV rfl) (.cons (renFlV rfl) (.cons (renFlV rfl) .nil)))) ?_
        exact ⟨_, (w64 (t183 + 1)), Nat.lt_succ_self _, hm, (.cons rfl (.cons rfl (.cons rfl (.cons rfl .nil)))), rfl⟩
     ·intro c17; replace hm := hm.ifn c17
      refine .m rfl ?_
      refine .k ?_
      refine .k ?_
      refine .k ?_
      refine .k ?_
      refine .k ?_
      refine .k ?_
      refine .k ?_
      refine .k ?_
      refine .k ?_
      refine .k ?_
      refine .k ?_
      refine .k ?_
      refine .k ?_
      refine .k ?_
      refine .k ?_
      refine .k ?_
      refine .k ?_
      refine .k ?_
      refine .k ?_
      refine .t (VB (false)) (e_pick (t := false) (ev_t rfl) rfl) ?_
      refine .t (VB (false)) (e_pick (t := false) (ev_t rfl) (ev_t rfl)) ?_
      refine .nil ?_
      refine CdOK.cond_false rfl ?_
      refine .skip ?_
      refine CdOK.region ?_
      refine .t (VI ((w64 (t183 + 1)))) (e_bin (ev_t rfl) rfl rfl rfl) ?_
      refine .m rfl ?_
      refine .nil ?_
      refine .re (σ := [0]) (X := [(1, .o (.c (.ptr (h.length + 0) 0))), (16, .o (.c (.L 4 (t_.held.map Grant.cs)))), (17, VI ((t_.held.length : Int))), (18, VI ((w64 (t183 + 1))))]) (L' := [⟨[.L 4 (t_.held.map Grant.cs), .L 4 (t_.waiting.map Grant.cs)], true, true⟩]) rfl rfl hC (by decide) (.obj 0 rfl (renFl rfl) .nil) (.cons (.o (.c (.ptr 0 0 _ rfl))) (.cons (renFlV rfl) (.cons (renFlV rfl) (.cons (renFlV rfl) .nil)))) ?_
      exact ⟨_, (w64 (t183 + 1)), Nat.lt_succ_self _, hm, (.cons rfl (.cons rfl (.cons rfl (.cons rfl .nil)))), rfl⟩
    | false =>
     replace hm := hm.ifn Bool.false_ne_true
     refine .cl rfl rfl rfl rfl pl105 (R2.wk _) (locks_valid1_ok    e7) ?_
     refine .t (VB (true)) (e_un (ev_t rfl) rfl) ?_
     refine .m rfl ?_
     refine .k ?_
     refine .k ?_
     refine .k ?_
     refine .k ?_
     refine .k ?_
     refine .k ?_
     refine .k ?_
     refine .k ?_
     refine .k ?_
     refine .k ?_
     refine .k ?_
     refine .k ?_
     refine .k ?_
     refine .k ?_
     refine .k ?_
     refine .k ?_
     refine .k ?_
     refine .k ?_
     refine .k ?_
     refine .k ?_
     refine .k ?_
     refine .k ?_
     refine .k ?_
     refine .t (VB (true)) (e_pick (t := true) (ev_t rfl) rfl) ?_
     refine .nil ?_
     refine CdOK.cond_true rfl ?_
     refine .seq ?_
     refine .region ?_
     refine .t (VB (false)) (e_as rfl) ?_
     refine .nil ?_
     refine CdOK.ret ?_
     refine ⟨.inr rfl, _, rfl, h, _, _, rfl, rfl, hC, ((renFlV rfl) : RenV _ _ _ _ (VB (false))), ?_⟩
     have hr := hm.ret; replace hr := Ev.ret hr; cases hr; exact ⟨rfl, rfl⟩
   ·intro c18; replace hm := hm.ifn c18
    refine .exit ?_
    refine .id ?_
    exact ⟨(), hm.ret, (.cons rfl .nil), rfl⟩
  ·intro _ T0 hm
   refine CdOK.seq ?_
   refine .seq ?_
   refine .region ?_
   refine .t _ (e_fa' fa69_1 (ev_t rfl)) ?_
   refine .t _ (e_ldb1 (ev_t rfl) ty67 (bx rfl rfl) rfl) ?_
   refine .t (VI ((t_.waiting.length : Int))) (e_lenM (ev_t rfl) is67) ?_
   refine .t (VI (0)) (e_mv rfl) ?_
   refine .nil ?_
   replace hm := hm.bnd
   refine CdOK.joinT (σ := Unit) (fun s => Sum.inl ()) hm (fun s => []) (fun s => h ++ ([] : Heap)) ?_ ?_
   ·intro hm
    refine .block ?_
    refine .loopE (σ := Int) (fun k s => Ev (locks_Valid.l2 t_ k s) _) (fun s => [(1, .o (.c (.ptr (h.length + 0) 0))), (53, .o (.c (.L 4 (t_.waiting.map Grant.cs)))), (54, VI ((t_.waiting.length : Int))), (55, VI (s))]) (fun s => h ++ ([⟨[.L 4 (t_.held.map Grant.cs), .L 4 (t_.waiting.map Grant.cs)], true, true⟩] : Heap)) FU 0 hm (.cons rfl (.cons rfl (.cons rfl (.cons rfl .nil)))) rfl ?_
    rintro kk21 t5520 T0 hm
    replace hm : Ev (locks_Valid.l2 t_ kk21 t5520) _ := hm
    cases kk21 with
    | zero => exact (Ev.non hm).elim
    | succ kk21 =>
    rw [locks_Valid.l2.eq_2] at hm
    show CdOK _ _ _ (look T0 [(1, .o (.c (.ptr (h.length + 0) 0))), (53, .o (.c (.L 4 (t_.waiting.map Grant.cs)))), (54, VI ((t_.waiting.length : Int))), (55, VI (t5520))]) (h ++ ([⟨[.L 4 (t_.held.map Grant.cs), .L 4 (t_.waiting.map Grant.cs)], true, true⟩] : Heap)) _
    refine .seq ?_
    refine .region ?_
    refine .t (VB (decide (t5520 < (t_.waiting.length : Int)))) (e_bin (ev_t rfl) (ev_t rfl) rfl rfl) ?_
    refine .nil ?_
    refine CdOK.seq ?_
    refine .condD (ev_t rfl) ?_ ?_
    ·intro c22; replace hm := hm.ifp c22
     refine .skip ?_
     refine CdOK.seq ?_
     refine .block ?_
     refine .seq ?_
     refine .region ?_
     refine .m rfl ?_
     obtain ⟨c23, hm⟩ := hm.ifs
     refine .t (.o (.c (.rp [I ((gd t_.waiting t5520).tx), I ((gd t_.waiting t5520).lock.page), I ((gd t_.waiting t5520).lock.slot), I ((gd t_.waiting t5520).mode)]))) (e_ixM (f := Grant.cs) (l := t_.waiting) (i := t5520) (ev_t rfl) (ev_t rfl) el67 c23) ?_
     refine .t _ (e_ldRA (ev_t rfl) ty75 rfl rfl) ?_
     refine .t (.o (.c (.ptr (h.length + 1) 0))) (e_allocN (L' := [⟨[.L 4 (t_.held.map Grant.cs), .L 4 (t_.waiting.map Grant.cs)], true, true⟩, ⟨[I (0), I (0), I (0), I (0)], true, true⟩]) rfl zo75 rfl rfl) ?_
     refine .a rfl ?_
     refine .s0 rfl rfl (e_stN (L' := [⟨[.L 4 (t_.held.map Grant.cs), .L 4 (t_.waiting.map Grant.cs)], true, true⟩, ⟨[I ((gd t_.waiting t5520).tx), I ((gd t_.waiting t5520).lock.page), I ((gd t_.waiting t5520).lock.slot), I ((gd t_.waiting t5520).mode)], true, true⟩]) rfl (ev_t rfl) (ev_t rfl) ty75 rfl rfl rfl rfl rfl) ?_
     refine .nil ?_
     refine CdOK.seq ?_
     refine .draw fol (by decide +kernel) ?_
     refine .t _ (e_ldbA (ev_t rfl) ty75 (bx rfl rfl) rfl rfl) ?_
     obtain ⟨x24, e24, hm⟩ := hm.call
     cases x24 with
     | true =>
      replace hm := hm.ifp rfl
      refine .cl rfl rfl rfl rfl pl105 (R2.wk _) (locks_valid1_ok    e24) ?_
      refine .t (VB (false)) (e_un (ev_t rfl) rfl) ?_
      refine .m rfl ?_
      refine .t _ (e_ldbA (ev_t rfl) ty69 (bx rfl rfl) rfl rfl) ?_
      refine .t _ (e_fa' fa75_0 (ev_t rfl)) ?_
      refine .t _ (e_ldb1 (ev_t rfl) ty3 (bx rfl rfl) rfl) ?_
      refine .t _ (e_fa' fa75_1 (ev_t rfl)) ?_
      refine .t _ (e_ldbA (ev_t rfl) ty71 (bx rfl rfl) rfl rfl) ?_
      obtain ⟨x25, e25, hm⟩ := hm.call
      refine .cl rfl rfl rfl rfl pl106 (R2.wk _) (locks_mode1_ok    e25) ?_
      refine .t _ (e_fa' fa75_2 (ev_t rfl)) ?_
      refine .t _ (e_ldb1 (ev_t rfl) ty3 (bx rfl rfl) rfl) ?_
      refine .sd rfl rfl rfl (e_bin (ev_t rfl) (ev_t rfl) rfl rfl) ?_ ?_
      ·intro c26; replace hm := hm.ifp c26
       refine .t (VB (true)) (e_pick (t := false) (ev_t rfl) (ev_t rfl)) ?_
       refine .m rfl ?_
       refine .k ?_
       refine .k ?_
       refine .k ?_
       refine .k ?_
       refine .k ?_
       refine .k ?_
       refine .t (VB (true)) (e_pick (t := true) (ev_t rfl) rfl) ?_
       refine .nil ?_
       refine CdOK.cond_true rfl ?_
       refine .seq ?_
       refine .region ?_
       refine .t (VB (false)) (e_as rfl) ?_
       refine .nil ?_
       refine CdOK.ret ?_
       refine ⟨.inr rfl, _, rfl, h, _, _, rfl, rfl, hC, ((renFlV rfl) : RenV _ _ _ _ (VB (false))), ?_⟩
       have hr := hm.ret; replace hr := Ev.ret hr; cases hr; exact ⟨rfl, rfl⟩
      ·intro c27; replace hm := hm.ifn c27
       refine .t (VB (false)) (e_pick (t := false) (ev_t rfl) (ev_t rfl)) ?_
       refine .m rfl ?_
       refine .t _ (e_fa' fa69_1 (ev_t rfl)) ?_
       refine .t _ (e_ldb1 (ev_t rfl) ty67 (bx rfl rfl) rfl) ?_
       refine .m rfl ?_
       obtain ⟨c28, hm⟩ := hm.ifs
       refine .t (.o (.c (.L 4 ((t_.waiting.take (Int.toNat t5520)).map Grant.cs)))) (e_slhM el67 (ev_t rfl) (ev_t rfl) c28) ?_
       refine .t (.o (.c (.fn 116 [((h.length + 1), 0)]))) (e_mkf rfl rfl) ?_
       obtain ⟨x29, e29, hm⟩ := hm.call
       refine .cl rfl rfl rfl rfl pl115 (R2.wk _) (ContainsFuncV_ok  (b_f_0 := (h.length + 1)) (bx rfl rfl) e29) ?_
       refine .t (VB (x29)) (e_pick (t := false) (ev_t rfl) (ev_t rfl)) ?_
       refine .nil ?_
       refine CdOK.condB (ev_t rfl) ?_ ?_
       ·intro c30; replace hm := hm.ifp c30
        refine .seq ?_
        refine .region ?_
        refine .t (VB (false)) (e_as rfl) ?_
        refine .nil ?_
        refine CdOK.ret ?_
        refine ⟨.inr rfl, _, rfl, h, _, _, rfl, rfl, hC, ((renFlV rfl) : RenV _ _ _ _ (VB (false))), ?_⟩
        have hr := hm.ret; replace hr := Ev.ret hr; cases hr; exact ⟨rfl, rfl⟩
       ·intro c31; replace hm := hm.ifn c31
        refine .skip ?_
        refine CdOK.region ?_
        refine .t (VI ((w64 (t5520 + 1)))) (e_bin (ev_t rfl) rfl rfl rfl) ?_
        refine .m rfl ?_
        refine .nil ?_
        refine .re (σ := [0]) (X := [(1, .o (.c (.ptr (h.length + 0) 0))), (53, .o (.c (.L 4 (t_.waiting.map Grant.cs)))), (54, VI ((t_.waiting.length : Int))), (55, VI ((w64 (t5520 + 1))))]) (L' := [⟨[.L 4 (t_.held.map Grant.cs), .L 4 (t_.waiting.map Grant.cs)], true, true⟩]) rfl rfl hC (by decide) (.obj 0 rfl (renFl rfl) .nil) (.cons (.o (.c (.ptr 0 0 _ rfl))) (.cons (renFlV rfl) (.cons (renFlV rfl) (.cons (renFlV rfl) .nil)))) ?_
        exact ⟨_, (w64 (t5520 + 1)), Nat.lt_succ_self _, hm, (.cons rfl (.cons rfl (.cons rfl (.cons rfl .nil)))), rfl⟩
     | false =>
      replace hm := hm.ifn Bool.false_ne_true
      refine .cl rfl rfl rfl rfl pl105 (R2.wk _) (locks_valid1_ok    e24) ?_
      refine .t (VB (true)) (e_un (ev_t rfl) rfl) ?_
      refine .m rfl ?_
      refine .k ?_
      refine .k ?_
      refine .k ?_
      refine .k ?_
      refine .k ?_
      refine .k ?_
      refine .k ?_
      refine .k ?_
      refine .k ?_
      refine .t (VB (true)) (e_pick (t := true) (ev_t rfl) rfl) ?_
      refine .m rfl ?_
      refine .k ?_
      refine .k ?_
      refine .k ?_
      refine .k ?_
      refine .k ?_
      refine .k ?_
      refine .t (VB (true)) (e_pick (t := true) (ev_t rfl) rfl) ?_
      refine .nil ?_
      refine CdOK.cond_true rfl ?_
      refine .seq ?_
      refine .region ?_
      refine .t (VB (false)) (e_as rfl) ?_
      refine .nil ?_
      refine CdOK.ret ?_
      refine ⟨.inr rfl, _, rfl, h, _, _, rfl, rfl, hC, ((renFlV rfl) : RenV _ _ _ _ (VB (false))), ?_⟩
      have hr := hm.ret; replace hr := Ev.ret hr; cases hr; exact ⟨rfl, rfl⟩
    ·intro c32; replace hm := hm.ifn c32
     refine .exit ?_
     refine .re (σ := []) (X := []) (L' := []) rfl rfl hC (by decide) .nil .nil ?_
     exact ⟨(), hm.ret, .nil, rfl⟩
   ·intro _ T0 hm
    refine CdOK.seq ?_
    refine .region ?_
    refine .t (VB (true)) (e_as rfl) ?_
    refine .nil ?_
    refine CdOK.ret ?_
    refine ⟨.inr rfl, _, rfl, h, _, _, rfl, rfl, hC, ((renFlV rfl) : RenV _ _ _ _ (VB (true))), ?_⟩
    cases hm.ret; exact ⟨rfl, rfl⟩
/- pagemend/locks.Waiting$1 -/
def locks_WaitingF (g_ : Grant) (a1 : Int) : Option Bool := some (decide (g_.tx = a1))
theorem locks_WaitingF_ok {h : Heap} {g_ : Grant} {a1 : Int} {b_a1 : Nat} (hb_a1 : h[b_a1]? = some ⟨[I (a1)], true, true⟩)  {r : Bool} (hm : locks_WaitingF g_ a1 = some r) : FnOK Try.prog 128 [.o (.agg [I (g_.tx), I (g_.lock.page), I (g_.lock.slot), I (g_.mode)]), .o (.c (.ptr b_a1 0))] h (fun v h' => v = VB (r) ∧ h' = h) := by
 refine FnOK.fin ?_
 refine FnOK.bodyC (N := 8) Try.func128 rfl rfl rfl (fun hC => ?_)
 have hl_a1 := lt_of_get hb_a1
 replace hm := Ev.of hm
 rw [locks_WaitingF.eq_1] at hm
 show CdOK _ _ _ (look _ [(0, .o (.agg [I (g_.tx), I (g_.lock.page), I (g_.lock.slot), I (g_.mode)])), (1, .o (.c (.ptr b_a1 0)))]) (h ++ ([] : Heap)) _
 refine .seq ?_
 refine .region ?_
 refine .t (.o (.c (.ptr (h.length + 0) 0))) (e_boxN (L' := [⟨[I (g_.tx), I (g_.lock.page), I (g_.lock.slot), I (g_.mode)], true, true⟩]) rfl (ev_t rfl) rfl rfl) ?_
 refine .t (VB (false)) (e_as rfl) ?_
 refine .nil ?_
 refine CdOK.seq ?_
 refine .region ?_
 refine .t _ (e_fa' fa75_0 (ev_t rfl)) ?_
 refine .t _ (e_ldb1 (ev_t rfl) ty3 (bx rfl rfl) rfl) ?_
 refine .t _ (e_ldb1 (ev_t rfl) ty3 (pb hb_a1) rfl) ?_
 refine .t (VB (decide (g_.tx = a1))) (e_eqK (ev_t rfl) (ev_t rfl)) ?_
 refine .a rfl ?_
 refine .nil ?_
 refine CdOK.ret ?_
 refine ⟨.inr rfl, _, rfl, h, _, _, rfl, rfl, hC, ((renFlV rfl) : RenV _ _ _ _ (VB (decide (g_.tx = a1)))), ?_⟩
 cases hm.ret; exact ⟨rfl, rfl⟩
/- slices.IndexFunc[[]pagemend/api.Grant,pagemend/api.Grant] -/
def IndexFuncW.l1 (s_ : (List Grant)) (f_0 : Int) : Nat → Int → Option (Sum Unit Int)
  | 0, _ => none
  | kk2 + 1, t81 => (if t81 < (s_.length : Int) then (if (0 : Int) ≤ t81 ∧ t81 < (s_.length : Int) then ((locks_WaitingF (gd s_ t81) f_0).bind fun (x5 : Bool) => (if x5 = true then some (Sum.inr t81) else IndexFuncW.l1 s_ f_0 kk2 (w64 (t81 + 1)))) else none) else some (Sum.inl ()))
def IndexFuncW (s_ : (List Grant)) (f_0 : Int) : Option Int := ((IndexFuncW.l1 s_ f_0 FU 0).bind fun (z : Sum Unit Int) => match z with | .inl (s9 : Unit) => some (-1) | .inr r => some r)
theorem IndexFuncW_ok {h : Heap} {s_ : (List Grant)} {f_0 : Int} {b_f_0 : Nat} (hb_f_0 : h[b_f_0]? = some ⟨[I (f_0)], true, true⟩)  {r : Int} (hm : IndexFuncW s_ f_0 = some r) : FnOK Try.prog 127 [.o (.c (.L 4 (s_.map Grant.cs))), .o (.c (.fn 128 [(b_f_0, 0)]))] h (fun v h' => v = VI (r) ∧ h' = h) := by
 refine FnOK.fin ?_
 refine FnOK.bodyC (N := 19) Try.func127 rfl rfl rfl (fun hC => ?_)
 have hl_f_0 := lt_of_get hb_f_0
 replace hm := Ev.of hm
 rw [IndexFuncW.eq_1] at hm
 show CdOK _ _ _ (look _ [(0, .o (.c (.L 4 (s_.map Grant.cs)))), (1, .o (.c (.fn 128 [(b_f_0, 0)])))]) (h ++ ([] : Heap)) _
 refine .seq ?_
 refine .region ?_
 refine .t (VI (0)) (e_as rfl) ?_
 refine .nil ?_
 refine CdOK.seq ?_
 refine .seq ?_
 refine .region ?_
 refine .m rfl ?_
 refine .t (VI ((s_.length : Int))) (e_lenM (ev_t rfl) is67) ?_
 refine .t (VI (0)) (e_mv rfl) ?_
 refine .nil ?_
 replace hm := hm.bnd
 refine CdOK.joinT (σ := Unit) (fun s => Sum.inl ()) hm (fun s => []) (fun s => h ++ ([] : Heap)) ?_ ?_
 ·intro hm
  refine .block ?_
  refine .loopE (σ := Int) (fun k s => Ev (IndexFuncW.l1 s_ f_0 k s) _) (fun s => [(0, .o (.c (.L 4 (s_.map Grant.cs)))), (1, .o (.c (.fn 128 [(b_f_0, 0)]))), (7, VI ((s_.length : Int))), (8, VI (s))]) (fun s => h ++ ([] : Heap)) FU 0 hm (.cons rfl (.cons rfl (.cons rfl (.cons rfl .nil)))) rfl ?_
  rintro kk2 t81 T0 hm
  replace hm : Ev (IndexFuncW.l1 s_ f_0 kk2 t81) _ := hm
  cases kk2 with
  | zero => exact (Ev.non hm).elim
  | succ kk2 =>
  rw [IndexFuncW.l1.eq_2] at hm
  show CdOK _ _ _ (look T0 [(0, .o (.c (.L 4 (s_.map Grant.cs)))), (1, .o (.c (.fn 128 [(b_f_0, 0)]))), (7, VI ((s_.length : Int))), (8, VI (t81))]) (h ++ ([] : Heap)) _
  refine .seq ?_
  refine .region ?_
  refine .t (VB (decide (t81 < (s_.length : Int)))) (e_bin (ev_t rfl) (ev_t rfl) rfl rfl) ?_
  refine .nil ?_
  refine CdOK.seq ?_
  refine .condD (ev_t rfl) ?_ ?_
  ·intro c3; replace hm := hm.ifp c3
   refine .skip ?_
   refine CdOK.seq ?_
   refine .block ?_
   refine .seq ?_
   refine .region ?_
   refine .m rfl ?_
   refine .a rfl ?_
   refine .nil ?_
   refine CdOK.seq ?_
   refine .region ?_
   refine .m rfl ?_
   refine .m rfl ?_
   refine .m rfl ?_
   obtain ⟨c4, hm⟩ := hm.ifs
   refine .t (.o (.c (.rp [I ((gd s_ t81).tx), I ((gd s_ t81).lock.page), I ((gd s_ t81).lock.slot), I ((gd s_ t81).mode)]))) (e_ixM (f := Grant.cs) (l := s_) (i := t81) (ev_t rfl) (ev_t rfl) el67 c4) ?_
   refine .t _ (e_ldRA (ev_t rfl) ty75 rfl rfl) ?_
   obtain ⟨x5, e5, hm⟩ := hm.call
   refine .cl rfl rfl rfl rfl pl128 (R2.wk _) (locks_WaitingF_ok  (b_a1 := b_f_0) (pb hb_f_0) e5) ?_
   rintro _ _ ⟨rfl, rfl⟩
   refine .nil ?_
   refine CdOK.condB (ev_t rfl) ?_ ?_
   ·intro c6; replace hm := hm.ifp c6
    refine .seq ?_
    refine .region ?_
    refine .m rfl ?_
    refine .a rfl ?_
    refine .nil ?_
    refine CdOK.ret ?_
    refine ⟨.inr rfl, _, rfl, h, _, _, rfl, rfl, hC, ((renFlV rfl) : RenV _ _ _ _ (VI (t81))), ?_⟩
    have hr := hm.ret; replace hr := Ev.ret hr; cases hr; exact ⟨rfl, rfl⟩
   ·intro c7; replace hm := hm.ifn c7
    refine .skip ?_
    refine CdOK.region ?_
    refine .t (VI ((w64 (t81 + 1)))) (e_bin (ev_t rfl) rfl rfl rfl) ?_
    refine .m rfl ?_
    refine .nil ?_
    refine .id ?_
    exact ⟨_, (w64 (t81 + 1)), Nat.lt_succ_self _, hm, (.cons rfl (.cons rfl (.cons rfl (.cons rfl .nil)))), rfl⟩
  ·intro c8; replace hm := hm.ifn c8
   refine .exit ?_
   refine .id ?_
   exact ⟨(), hm.ret, .nil, rfl⟩
 ·intro _ T0 hm
  refine CdOK.seq ?_
  refine .region ?_
  refine .t (VI ((-1))) (e_as rfl) ?_
  refine .nil ?_
  refine CdOK.ret ?_
  refine ⟨.inr rfl, _, rfl, h, _, _, rfl, rfl, hC, ((renFlV rfl) : RenV _ _ _ _ (VI ((-1)))), ?_⟩
  cases hm.ret; exact ⟨rfl, rfl⟩
/- pagemend/locks.Waiting -/
def locks_Waiting (t_ : Locks) (tx : Int) : Option (Grant × Bool) := ((IndexFuncW t_.waiting tx).bind fun (x1 : Int) => (if x1 < 0 then some ((⟨0, (⟨0, 0⟩ : Lock), 0⟩ : Grant), false) else ((locks_Valid t_).bind fun (x4 : Bool) => (if (!x4) = true then some ((⟨0, (⟨0, 0⟩ : Lock), 0⟩ : Grant), false) else (if (0 : Int) ≤ x1 ∧ x1 < (t_.waiting.length : Int) then some ((gd t_.waiting x1), true) else none)))))
theorem locks_Waiting_ok {h : Heap} {t_ : Locks} {tx : Int}   {r : (Grant × Bool)} (hm : locks_Waiting t_ tx = some r) : FnOK Try.prog 55 [.o (.agg [.L 4 (t_.held.map Grant.cs), .L 4 (t_.waiting.map Grant.cs)]), VI (tx)] h (fun v h' => v = .tup [.agg [I (r.1.tx), I (r.1.lock.page), I (r.1.lock.slot), I (r.1.mode)], .c (Bo (r.2))] ∧ h' = h) := by
 refine FnOK.fin ?_
 refine FnOK.bodyC (N := 24) Try.func55 rfl rfl rfl (fun hC => ?_)
 replace hm := Ev.of hm
 rw [locks_Waiting.eq_1] at hm
 show CdOK _ _ _ (look _ [(0, .o (.agg [.L 4 (t_.held.map Grant.cs), .L 4 (t_.waiting.map Grant.cs)])), (1, VI (tx))]) (h ++ ([] : Heap)) _
 refine .seq ?_
 refine .region ?_
 refine .t (.o (.c (.ptr (h.length + 0) 0))) (e_boxN (L' := [⟨[.L 4 (t_.held.map Grant.cs), .L 4 (t_.waiting.map Grant.cs)], true, true⟩]) rfl (ev_t rfl) rfl rfl) ?_
 refine .t (.o (.c (.ptr (h.length + 1) 0))) (e_boxN (L' := [⟨[.L 4 (t_.held.map Grant.cs), .L 4 (t_.waiting.map Grant.cs)], true, true⟩, ⟨[I (tx)], true, true⟩]) rfl (ev_t rfl) rfl rfl) ?_
 refine .t (.o (.c (.ptr (h.length + 2) 0))) (e_allocN (L' := [⟨[.L 4 (t_.held.map Grant.cs), .L 4 (t_.waiting.map Grant.cs)], true, true⟩, ⟨[I (tx)], true, true⟩, ⟨[I (0), I (0), I (0), I (0)], true, true⟩]) rfl zo75 rfl rfl) ?_
 refine .t (VB (false)) (e_as rfl) ?_
 refine .nil ?_
 refine CdOK.seq ?_
 refine .region ?_
 refine .t _ (e_fa' fa69_1 (ev_t rfl)) ?_
 refine .t _ (e_ldb1 (ev_t rfl) ty67 (bx rfl rfl) rfl) ?_
 refine .t (.o (.c (.fn 128 [((h.length + 1), 0)]))) (e_mkf rfl rfl) ?_
 obtain ⟨x1, e1, hm⟩ := hm.call
 refine .cl rfl rfl rfl rfl pl127 (R2.wk _) (IndexFuncW_ok  (b_f_0 := (h.length + 1)) (bx rfl rfl) e1) ?_
 rintro _ _ ⟨rfl, rfl⟩
 refine .a rfl ?_
 refine .nil ?_
 refine CdOK.seq ?_
 refine .seq ?_
 refine .region ?_
 refine .m rfl ?_
 refine .sd rfl rfl rfl (e_bin (ev_t rfl) rfl rfl rfl) ?_ ?_
 ·intro c2; replace hm := hm.ifp c2
  refine .m rfl ?_
  refine .k ?_
  refine .k ?_
  refine .k ?_
  refine .t (VB (true)) (e_pick (t := true) (ev_t rfl) rfl) ?_
  refine .nil ?_
  refine CdOK.cond_true rfl ?_
  refine .seq ?_
  refine .region ?_
  refine .t (.o (.agg [I (0), I (0), I (0), I (0)])) (e_bld (cs := [I (0), I (0), I (0), I (0)]) zo75 bl75 rfl rfl) ?_
  refine .s0 rfl rfl (e_stN (L' := [⟨[.L 4 (t_.held.map Grant.cs), .L 4 (t_.waiting.map Grant.cs)], true, true⟩, ⟨[I (tx)], true, true⟩, ⟨[I (0), I (0), I (0), I (0)], true, true⟩]) rfl (ev_t rfl) (ev_t rfl) ty75 rfl rfl rfl rfl rfl) ?_
  refine .t (VB (false)) (e_as rfl) ?_
  refine .nil ?_
  refine CdOK.ret ?_
  refine ⟨.inr rfl, _, (resA_c (look_find rfl) (eLoad_A ty75 (bx rfl rfl) rfl rfl rfl) (resA_t (look_find rfl) resA_n)), h, _, _, rfl, rfl, hC, ((renFlV rfl) : RenV _ _ _ _ (.tup [.agg [I (0), I (0), I (0), I (0)], .c (Bo false)])), ?_⟩
  cases hm.ret; exact ⟨rfl, rfl⟩
 ·intro c3; replace hm := hm.ifn c3
  refine .m rfl ?_
  refine .t _ (e_ldbA (ev_t rfl) ty69 (bx rfl rfl) rfl rfl) ?_
  obtain ⟨x4, e4, hm⟩ := hm.call
  refine .cl rfl rfl rfl rfl pl44 (R2.wk _) (locks_Valid_ok    e4) ?_
  rintro _ _ ⟨rfl, rfl⟩
  refine .t (VB ((!x4))) (e_un (ev_t rfl) rfl) ?_
  refine .t (VB ((!x4))) (e_pick (t := false) (ev_t rfl) (ev_t rfl)) ?_
  refine .nil ?_
  refine CdOK.condB (ev_t rfl) ?_ ?_
  ·intro c5; replace hm := hm.ifp c5
   refine .seq ?_
   refine .region ?_
   refine .t (.o (.agg [I (0), I (0), I (0), I (0)])) (e_bld (cs := [I (0), I (0), I (0), I (0)]) zo75 bl75 rfl rfl) ?_
   refine .s0 rfl rfl (e_stN (L' := [⟨[.L 4 (t_.held.map Grant.cs), .L 4 (t_.waiting.map Grant.cs)], true, true⟩, ⟨[I (tx)], true, true⟩, ⟨[I (0), I (0), I (0), I (0)], true, true⟩]) rfl (ev_t rfl) (ev_t rfl) ty75 rfl rfl rfl rfl rfl) ?_
   refine .t (VB (false)) (e_as rfl) ?_
   refine .nil ?_
   refine CdOK.ret ?_
   refine ⟨.inr rfl, _, (resA_c (look_find rfl) (eLoad_A ty75 (bx rfl rfl) rfl rfl rfl) (resA_t (look_find rfl) resA_n)), h, _, _, rfl, rfl, hC, ((renFlV rfl) : RenV _ _ _ _ (.tup [.agg [I (0), I (0), I (0), I (0)], .c (Bo false)])), ?_⟩
   cases hm.ret; exact ⟨rfl, rfl⟩
  ·intro c6; replace hm := hm.ifn c6
   refine .skip ?_
   refine CdOK.seq ?_
   refine .region ?_
   refine .t _ (e_fa' fa69_1 (ev_t rfl)) ?_
   refine .t _ (e_ldb1 (ev_t rfl) ty67 (bx rfl rfl) rfl) ?_
   refine .m rfl ?_
   obtain ⟨c7, hm⟩ := hm.ifs
   refine .t (.o (.c (.rp [I ((gd t_.waiting x1).tx), I ((gd t_.waiting x1).lock.page), I ((gd t_.waiting x1).lock.slot), I ((gd t_.waiting x1).mode)]))) (e_ixM (f := Grant.cs) (l := t_.waiting) (i := x1) (ev_t rfl) (ev_t rfl) el67 c7) ?_
   refine .t _ (e_ldRA (ev_t rfl) ty75 rfl rfl) ?_
   refine .s0 rfl rfl (e_stN (L' := [⟨[.L 4 (t_.held.map Grant.cs), .L 4 (t_.waiting.map Grant.cs)], true, true⟩, ⟨[I (tx)], true, true⟩, ⟨[I ((gd t_.waiting x1).tx), I ((gd t_.waiting x1).lock.page), I ((gd t_.waiting x1).lock.slot), I ((gd t_.waiting x1).mode)], true, true⟩]) rfl (ev_t rfl) (ev_t rfl) ty75 rfl rfl rfl rfl rfl) ?_
   refine .t (VB (true)) (e_as rfl) ?_
   refine .nil ?_
   refine CdOK.ret ?_
   refine ⟨.inr rfl, _, (resA_c (look_find rfl) (eLoad_A ty75 (bx rfl rfl) rfl rfl rfl) (resA_t (look_find rfl) resA_n)), h, _, _, rfl, rfl, hC, ((renFlV rfl) : RenV _ _ _ _ (.tup [.agg [I ((gd t_.waiting x1).tx), I ((gd t_.waiting x1).lock.page), I ((gd t_.waiting x1).lock.slot), I ((gd t_.waiting x1).mode)], .c (Bo true)])), ?_⟩
   cases hm.ret; exact ⟨rfl, rfl⟩
/- pagemend/locks.Mode -/
def locks_Mode (t_ : Locks) (tx : Int) (k_ : Lock) : Option Int := ((locks_Valid t_).bind fun (x1 : Bool) => (if (!x1) = true then some 0 else ((locks_mode1 t_ tx k_).bind fun (x4 : Int) => some x4)))
theorem locks_Mode_ok {h : Heap} {t_ : Locks} {tx : Int} {k_ : Lock}   {r : Int} (hm : locks_Mode t_ tx k_ = some r) : FnOK Try.prog 42 [.o (.agg [.L 4 (t_.held.map Grant.cs), .L 4 (t_.waiting.map Grant.cs)]), VI (tx), .o (.agg [I (k_.page), I (k_.slot)])] h (fun v h' => v = VI (r) ∧ h' = h) := by
 refine FnOK.fin ?_
 refine FnOK.bodyC (N := 14) Try.func42 rfl rfl rfl (fun hC => ?_)
 replace hm := Ev.of hm
 rw [locks_Mode.eq_1] at hm
 show CdOK _ _ _ (look _ [(0, .o (.agg [.L 4 (t_.held.map Grant.cs), .L 4 (t_.waiting.map Grant.cs)])), (1, VI (tx)), (2, .o (.agg [I (k_.page), I (k_.slot)]))]) (h ++ ([] : Heap)) _
 refine .seq ?_
 refine .region ?_
 refine .t (.o (.c (.ptr (h.length + 0) 0))) (e_boxN (L' := [⟨[.L 4 (t_.held.map Grant.cs), .L 4 (t_.waiting.map Grant.cs)], true, true⟩]) rfl (ev_t rfl) rfl rfl) ?_
 refine .t (.o (.c (.ptr (h.length + 1) 0))) (e_boxN (L' := [⟨[.L 4 (t_.held.map Grant.cs), .L 4 (t_.waiting.map Grant.cs)], true, true⟩, ⟨[I (k_.page), I (k_.slot)], true, true⟩]) rfl (ev_t rfl) rfl rfl) ?_
 refine .t (VI (0)) (e_as rfl) ?_
 refine .nil ?_
 refine CdOK.seq ?_
 refine .seq ?_
 refine .region ?_
 refine .t _ (e_ldbA (ev_t rfl) ty69 (bx rfl rfl) rfl rfl) ?_
 obtain ⟨x1, e1, hm⟩ := hm.call
 refine .cl rfl rfl rfl rfl pl44 (R2.wk _) (locks_Valid_ok    e1) ?_
 rintro _ _ ⟨rfl, rfl⟩
 refine .t (VB ((!x1))) (e_un (ev_t rfl) rfl) ?_
 refine .nil ?_
 refine CdOK.condB (ev_t rfl) ?_ ?_
 ·intro c2; replace hm := hm.ifp c2
  refine .seq ?_
  refine .region ?_
  refine .t (VI (0)) (e_as rfl) ?_
  refine .nil ?_
  refine CdOK.ret ?_
  refine ⟨.inr rfl, _, rfl, h, _, _, rfl, rfl, hC, ((renFlV rfl) : RenV _ _ _ _ (VI (0))), ?_⟩
  cases hm.ret; exact ⟨rfl, rfl⟩
 ·intro c3; replace hm := hm.ifn c3
  refine .skip ?_
  refine CdOK.seq ?_
  refine .region ?_
  refine .t _ (e_ldbA (ev_t rfl) ty69 (bx rfl rfl) rfl rfl) ?_
  refine .m rfl ?_
  refine .t _ (e_ldbA (ev_t rfl) ty71 (bx rfl rfl) rfl rfl) ?_
  obtain ⟨x4, e4, hm⟩ := hm.call
  refine .cl rfl rfl rfl rfl pl106 (R2.wk _) (locks_mode1_ok    e4) ?_
  rintro _ _ ⟨rfl, rfl⟩
  refine .a rfl ?_
  refine .nil ?_
  refine CdOK.ret ?_
  refine ⟨.inr rfl, _, rfl, h, _, _, rfl, rfl, hC, ((renFlV rfl) : RenV _ _ _ _ (VI (x4))), ?_⟩
  cases hm.ret; exact ⟨rfl, rfl⟩
end Rv
