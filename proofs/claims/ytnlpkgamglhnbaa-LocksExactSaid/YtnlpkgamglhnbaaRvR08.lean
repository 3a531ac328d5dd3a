/- Chapter 8: the program's functions, as plain functions. -/
import Derived.Test.YtnlpkgamglhnbaaRvLck
set_option linter.unusedVariables false
set_option linter.unusedSimpArgs false
namespace Rv
open Go Go.RowKit Go.Proofs
theorem eqs75_r (x y : Grant) : (eqF [some (x.tx == y.tx), (eqF [some (x.lock.page == y.lock.page), some (x.lock.slot == y.lock.slot)]), some (x.mode == y.mode)]) = some (decide (x = y)) := by
  have h := (show (eqF [some (x.tx == y.tx), (eqF [some (x.lock.page == y.lock.page), some (x.lock.slot == y.lock.slot)]), some (x.mode == y.mode)]) = some _ from (eqF_cons (b := _) (eqF_cons2 (eqF_cons (b := _) (eqF_cons (b := _) rfl)) (eqF_cons (b := _) rfl))))
  rw [h]
  congr 1
  rw [Bool.eq_iff_iff]
  rcases x with ⟨a1, ⟨a1, a2⟩, a2⟩
  rcases y with ⟨b1, ⟨b3, b4⟩, b2⟩
  simp only [Bool.and_eq_true, beq_iff_eq, decide_eq_true_eq, Grant.mk.injEq, Lock.mk.injEq, and_true, and_assoc]
theorem eqs75_eql (x y : Grant) : eEqAgg Try.prog .eql 75 [.int .i64 (x.tx), .int .i64 (x.lock.page), .int .i64 (x.lock.slot), .int .i64 (x.mode)].toArray [.int .i64 (y.tx), .int .i64 (y.lock.page), .int .i64 (y.lock.slot), .int .i64 (y.mode)].toArray = some (.bool (decide (x = y))) := by
  have h : eqS Try.prog Op.maxDepth 75 (.agg [.int .i64 (x.tx), .int .i64 (x.lock.page), .int .i64 (x.lock.slot), .int .i64 (x.mode)].toArray) (.agg [.int .i64 (y.tx), .int .i64 (y.lock.page), .int .i64 (y.lock.slot), .int .i64 (y.mode)].toArray) = (eqF [some (x.tx == y.tx), (eqF [some (x.lock.page == y.lock.page), some (x.lock.slot == y.lock.slot)]), some (x.mode == y.mode)]) := by kernel_rfl
  unfold eEqAgg
  rw [if_neg (by decide +kernel), h, eqs75_r]
theorem eqs75_neq (x y : Grant) : eEqAgg Try.prog .neq 75 [.int .i64 (x.tx), .int .i64 (x.lock.page), .int .i64 (x.lock.slot), .int .i64 (x.mode)].toArray [.int .i64 (y.tx), .int .i64 (y.lock.page), .int .i64 (y.lock.slot), .int .i64 (y.mode)].toArray = some (.bool (decide (¬ x = y))) := by
  have h : eqS Try.prog Op.maxDepth 75 (.agg [.int .i64 (x.tx), .int .i64 (x.lock.page), .int .i64 (x.lock.slot), .int .i64 (x.mode)].toArray) (.agg [.int .i64 (y.tx), .int .i64 (y.lock.page), .int .i64 (y.lock.slot), .int .i64 (y.mode)].toArray) = (eqF [some (x.tx == y.tx), (eqF [some (x.lock.page == y.lock.page), some (x.lock.slot == y.lock.slot)]), some (x.mode == y.mode)]) := by kernel_rfl
  unfold eEqAgg
  rw [if_neg (by decide +kernel), h, eqs75_r]
  by_cases e : x = y <;> simp [e]
theorem pl47 : plainFn Try.prog 47 = true := by decide +kernel
theorem pl117 : plainFn Try.prog 117 = true := by decide +kernel
theorem pl118 : plainFn Try.prog 118 = true := by decide +kernel
theorem pl119 : plainFn Try.prog 119 = true := by decide +kernel
theorem pl120 : plainFn Try.prog 120 = true := by decide +kernel
theorem pl123 : plainFn Try.prog 123 = true := by decide +kernel
/- pagemend/pagemendref08.grant -/
def ref08_grant (g_ : Grant) : Option Bool := (if 1 ≤ g_.tx then (if g_.tx ≤ 1073741824 then (if 0 ≤ g_.lock.page then (if g_.lock.page < 64 then (if 0 ≤ g_.lock.slot then (if g_.lock.slot < 16 then (if g_.mode = 1 then some true else some (decide (g_.mode = 2))) else some false) else some false) else some false) else some false) else some false) else some false)
theorem ref08_grant_ok {h : Heap} {g_ : Grant}   {r : Bool} (hm : ref08_grant g_ = some r) : FnOK Try.prog 117 [.o (.agg [I (g_.tx), I (g_.lock.page), I (g_.lock.slot), I (g_.mode)])] h (fun v h' => v = VB (r) ∧ h' = h) := by
 refine FnOK.fin ?_
 refine FnOK.bodyC (N := 45) Try.func117 rfl rfl rfl (fun hC => ?_)
 replace hm := Ev.of hm
 rw [ref08_grant.eq_1] at hm
 show CdOK _ _ _ (look _ [(0, .o (.agg [I (g_.tx), I (g_.lock.page), I (g_.lock.slot), I (g_.mode)]))]) (h ++ ([] : Heap)) _
 refine .seq ?_
 refine .region ?_
 refine .t (.o (.c (.ptr (h.length + 0) 0))) (e_boxN (L' := [⟨[I (g_.tx), I (g_.lock.page), I (g_.lock.slot), I (g_.mode)], true, true⟩]) rfl (ev_t rfl) rfl rfl) ?_
 refine .t (VB (false)) (e_as rfl) ?_
 refine .nil ?_
 refine CdOK.seq ?_
 refine .region ?_
 refine .t _ (e_fa' fa75_0 (ev_t rfl)) ?_
 refine .t _ (e_ldb1 (ev_t rfl) ty3 (bx rfl rfl) rfl) ?_
 refine .sd rfl rfl rfl (e_bin (ev_t rfl) rfl rfl rfl) ?_ ?_
 ·intro c1; replace hm := hm.ifp c1
  refine .m rfl ?_
  refine .t _ (e_fa' fa75_0 (ev_t rfl)) ?_
  refine .t _ (e_ldb1 (ev_t rfl) ty3 (bx rfl rfl) rfl) ?_
  refine .sd rfl rfl rfl (e_bin (ev_t rfl) rfl rfl rfl) ?_ ?_
  ·intro c2; replace hm := hm.ifp c2
   refine .t (VB (true)) (e_pick (t := true) (ev_t rfl) (ev_t rfl)) ?_
   refine .m rfl ?_
   refine .t _ (e_fa' fa75_1 (ev_t rfl)) ?_
   refine .t _ (e_fa' fa71_0 (ev_t rfl)) ?_
   refine .t _ (e_ldb1 (ev_t rfl) ty3 (bx rfl rfl) rfl) ?_
   refine .sd rfl rfl rfl (e_bin (ev_t rfl) rfl rfl rfl) ?_ ?_
   ·intro c3; replace hm := hm.ifp c3
    refine .t (VB (true)) (e_pick (t := true) (ev_t rfl) (ev_t rfl)) ?_
    refine .m rfl ?_
    refine .t _ (e_fa' fa75_1 (ev_t rfl)) ?_
    refine .t _ (e_fa' fa71_0 (ev_t rfl)) ?_
    refine .t _ (e_ldb1 (ev_t rfl) ty3 (bx rfl rfl) rfl) ?_
    refine .sd rfl rfl rfl (e_bin (ev_t rfl) rfl rfl rfl) ?_ ?_
    ·intro c4; replace hm := hm.ifp c4
     refine .t (VB (true)) (e_pick (t := true) (ev_t rfl) (ev_t rfl)) ?_
     refine .m rfl ?_
     refine .t _ (e_fa' fa75_1 (ev_t rfl)) ?_
     refine .t _ (e_fa' fa71_1 (ev_t rfl)) ?_
     refine .t _ (e_ldb1 (ev_t rfl) ty3 (bx rfl rfl) rfl) ?_
     refine .sd rfl rfl rfl (e_bin (ev_t rfl) rfl rfl rfl) ?_ ?_
     ·intro c5; replace hm := hm.ifp c5
      refine .t (VB (true)) (e_pick (t := true) (ev_t rfl) (ev_t rfl)) ?_
      refine .m rfl ?_
      refine .t _ (e_fa' fa75_1 (ev_t rfl)) ?_
      refine .t _ (e_fa' fa71_1 (ev_t rfl)) ?_
      refine .t _ (e_ldb1 (ev_t rfl) ty3 (bx rfl rfl) rfl) ?_
      refine .sd rfl rfl rfl (e_bin (ev_t rfl) rfl rfl rfl) ?_ ?_
      ·intro c6; replace hm := hm.ifp c6
       refine .t (VB (true)) (e_pick (t := true) (ev_t rfl) (ev_t rfl)) ?_
       refine .m rfl ?_
       refine .t _ (e_fa' fa75_2 (ev_t rfl)) ?_
       refine .t _ (e_ldb1 (ev_t rfl) ty3 (bx rfl rfl) rfl) ?_
       refine .sd rfl rfl rfl (e_eqK (ev_t rfl) rfl) ?_ ?_
       ·intro c7; replace hm := hm.ifp c7
        refine .m rfl ?_
        refine .k ?_
        refine .k ?_
        refine .k ?_
        refine .t (VB (true)) (e_pick (t := true) (ev_t rfl) rfl) ?_
        refine .t (VB (true)) (e_pick (t := true) (ev_t rfl) (ev_t rfl)) ?_
        refine .a rfl ?_
        refine .nil ?_
        refine CdOK.ret ?_
        refine ⟨.inr rfl, _, rfl, h, _, _, rfl, rfl, hC, ((renFlV rfl) : RenV _ _ _ _ (VB (true))), ?_⟩
        cases hm.ret; exact ⟨rfl, rfl⟩
       ·intro c8; replace hm := hm.ifn c8
        refine .m rfl ?_
        refine .t _ (e_fa' fa75_2 (ev_t rfl)) ?_
        refine .t _ (e_ldb1 (ev_t rfl) ty3 (bx rfl rfl) rfl) ?_
        refine .t (VB (decide (g_.mode = 2))) (e_eqK (ev_t rfl) rfl) ?_
        refine .t (VB (decide (g_.mode = 2))) (e_pick (t := false) (ev_t rfl) (ev_t rfl)) ?_
        refine .t (VB (decide (g_.mode = 2))) (e_pick (t := true) (ev_t rfl) (ev_t rfl)) ?_
        refine .a rfl ?_
        refine .nil ?_
        refine CdOK.ret ?_
        refine ⟨.inr rfl, _, rfl, h, _, _, rfl, rfl, hC, ((renFlV rfl) : RenV _ _ _ _ (VB (decide (g_.mode = 2)))), ?_⟩
        cases hm.ret; exact ⟨rfl, rfl⟩
      ·intro c9; replace hm := hm.ifn c9
       refine .t (VB (false)) (e_pick (t := true) (ev_t rfl) (ev_t rfl)) ?_
       refine .m rfl ?_
       refine .k ?_
       refine .k ?_
       refine .k ?_
       refine .k ?_
       refine .k ?_
       refine .k ?_
       refine .k ?_
       refine .k ?_
       refine .t (VB (false)) (e_pick (t := false) (ev_t rfl) rfl) ?_
       refine .a rfl ?_
       refine .nil ?_
       refine CdOK.ret ?_
       refine ⟨.inr rfl, _, rfl, h, _, _, rfl, rfl, hC, ((renFlV rfl) : RenV _ _ _ _ (VB (false))), ?_⟩
       cases hm.ret; exact ⟨rfl, rfl⟩
     ·intro c10; replace hm := hm.ifn c10
      refine .t (VB (false)) (e_pick (t := true) (ev_t rfl) (ev_t rfl)) ?_
      refine .m rfl ?_
      refine .k ?_
      refine .k ?_
      refine .k ?_
      refine .k ?_
      refine .t (VB (false)) (e_pick (t := false) (ev_t rfl) rfl) ?_
      refine .m rfl ?_
      refine .k ?_
      refine .k ?_
      refine .k ?_
      refine .k ?_
      refine .k ?_
      refine .k ?_
      refine .k ?_
      refine .k ?_
      refine .t (VB (false)) (e_pick (t := false) (ev_t rfl) rfl) ?_
      refine .a rfl ?_
      refine .nil ?_
      refine CdOK.ret ?_
      refine ⟨.inr rfl, _, rfl, h, _, _, rfl, rfl, hC, ((renFlV rfl) : RenV _ _ _ _ (VB (false))), ?_⟩
      cases hm.ret; exact ⟨rfl, rfl⟩
    ·intro c11; replace hm := hm.ifn c11
     refine .t (VB (false)) (e_pick (t := true) (ev_t rfl) (ev_t rfl)) ?_
     refine .m rfl ?_
     refine .k ?_
     refine .k ?_
     refine .k ?_
     refine .k ?_
     refine .t (VB (false)) (e_pick (t := false) (ev_t rfl) rfl) ?_
     refine .m rfl ?_
     refine .k ?_
     refine .k ?_
     refine .k ?_
     refine .k ?_
     refine .t (VB (false)) (e_pick (t := false) (ev_t rfl) rfl) ?_
     refine .m rfl ?_
     refine .k ?_
     refine .k ?_
     refine .k ?_
     refine .k ?_
     refine .k ?_
     refine .k ?_
     refine .k ?_
     refine .k ?_
     refine .t (VB (false)) (e_pick (t := false) (ev_t rfl) rfl) ?_
     refine .a rfl ?_
     refine .nil ?_
     refine CdOK.ret ?_
     refine ⟨.inr rfl, _, rfl, h, _, _, rfl, rfl, hC, ((renFlV rfl) : RenV _ _ _ _ (VB (false))), ?_⟩
     cases hm.ret; exact ⟨rfl, rfl⟩
   ·intro c12; replace hm := hm.ifn c12
    refine .t (VB (false)) (e_pick (t := true) (ev_t rfl) (ev_t rfl)) ?_
    refine .m rfl ?_
    refine .k ?_
    refine .k ?_
    refine .k ?_
    refine .k ?_
    refine .t (VB (false)) (e_pick (t := false) (ev_t rfl) rfl) ?_
    refine .m rfl ?_
    refine .k ?_
    refine .k ?_
    refine .k ?_
    refine .k ?_
    refine .t (VB (false)) (e_pick (t := false) (ev_t rfl) rfl) ?_
    refine .m rfl ?_
    refine .k ?_
    refine .k ?_
    refine .k ?_
    refine .k ?_
    refine .t (VB (false)) (e_pick (t := false) (ev_t rfl) rfl) ?_
    refine .m rfl ?_
    refine .k ?_
    refine .k ?_
    refine .k ?_
    refine .k ?_
    refine .k ?_
    refine .k ?_
    refine .k ?_
    refine .k ?_
    refine .t (VB (false)) (e_pick (t := false) (ev_t rfl) rfl) ?_
    refine .a rfl ?_
    refine .nil ?_
    refine CdOK.ret ?_
    refine ⟨.inr rfl, _, rfl, h, _, _, rfl, rfl, hC, ((renFlV rfl) : RenV _ _ _ _ (VB (false))), ?_⟩
    cases hm.ret; exact ⟨rfl, rfl⟩
  ·intro c13; replace hm := hm.ifn c13
   refine .t (VB (false)) (e_pick (t := true) (ev_t rfl) (ev_t rfl)) ?_
   refine .m rfl ?_
   refine .k ?_
   refine .k ?_
   refine .k ?_
   refine .k ?_
   refine .t (VB (false)) (e_pick (t := false) (ev_t rfl) rfl) ?_
   refine .m rfl ?_
   refine .k ?_
   refine .k ?_
   refine .k ?_
   refine .k ?_
   refine .t (VB (false)) (e_pick (t := false) (ev_t rfl) rfl) ?_
   refine .m rfl ?_
   refine .k ?_
   refine .k ?_
   refine .k ?_
   refine .k ?_
   refine .t (VB (false)) (e_pick (t := false) (ev_t rfl) rfl) ?_
   refine .m rfl ?_
   refine .k ?_
   refine .k ?_
   refine .k ?_
   refine .k ?_
   refine .t (VB (false)) (e_pick (t := false) (ev_t rfl) rfl) ?_
   refine .m rfl ?_
   refine .k ?_
   refine .k ?_
   refine .k ?_
   refine .k ?_
   refine .k ?_
   refine .k ?_
   refine .k ?_
   refine .k ?_
   refine .t (VB (false)) (e_pick (t := false) (ev_t rfl) rfl) ?_
   refine .a rfl ?_
   refine .nil ?_
   refine CdOK.ret ?_
   refine ⟨.inr rfl, _, rfl, h, _, _, rfl, rfl, hC, ((renFlV rfl) : RenV _ _ _ _ (VB (false))), ?_⟩
   cases hm.ret; exact ⟨rfl, rfl⟩
 ·intro c14; replace hm := hm.ifn c14
  refine .m rfl ?_
  refine .k ?_
  refine .k ?_
  refine .k ?_
  refine .t (VB (false)) (e_pick (t := false) (ev_t rfl) rfl) ?_
  refine .m rfl ?_
  refine .k ?_
  refine .k ?_
  refine .k ?_
  refine .k ?_
  refine .t (VB (false)) (e_pick (t := false) (ev_t rfl) rfl) ?_
  refine .m rfl ?_
  refine .k ?_
  refine .k ?_
  refine .k ?_
  refine .k ?_
  refine .t (VB (false)) (e_pick (t := false) (ev_t rfl) rfl) ?_
  refine .m rfl ?_
  refine .k ?_
  refine .k ?_
  refine .k ?_
  refine .k ?_
  refine .t (VB (false)) (e_pick (t := false) (ev_t rfl) rfl) ?_
  refine .m rfl ?_
  refine .k ?_
  refine .k ?_
  refine .k ?_
  refine .k ?_
  refine .t (VB (false)) (e_pick (t := false) (ev_t rfl) rfl) ?_
  refine .m rfl ?_
  refine .k ?_
  refine .k ?_
  refine .k ?_
  refine .k ?_
  refine .k ?_
  refine .k ?_
  refine .k ?_
  refine .k ?_
  refine .t (VB (false)) (e_pick (t := false) (ev_t rfl) rfl) ?_
  refine .a rfl ?_
  refine .nil ?_
  refine CdOK.ret ?_
  refine ⟨.inr rfl, _, rfl, h, _, _, rfl, rfl, hC, ((renFlV rfl) : RenV _ _ _ _ (VB (false))), ?_⟩
  cases hm.ret; exact ⟨rfl, rfl⟩
/- pagemend/pagemendref08.less -/
def ref08_less (a_ : Grant) (b_ : Grant) : Option Bool := (if a_.lock.page ≠ b_.lock.page then some (decide (a_.lock.page < b_.lock.page)) else (if a_.lock.slot ≠ b_.lock.slot then some (decide (a_.lock.slot < b_.lock.slot)) else some (decide (a_.tx < b_.tx))))
theorem ref08_less_ok {h : Heap} {a_ : Grant} {b_ : Grant}   {r : Bool} (hm : ref08_less a_ b_ = some r) : FnOK Try.prog 118 [.o (.agg [I (a_.tx), I (a_.lock.page), I (a_.lock.slot), I (a_.mode)]), .o (.agg [I (b_.tx), I (b_.lock.page), I (b_.lock.slot), I (b_.mode)])] h (fun v h' => v = VB (r) ∧ h' = h) := by
 refine FnOK.fin ?_
 refine FnOK.bodyC (N := 38) Try.func118 rfl rfl rfl (fun hC => ?_)
 replace hm := Ev.of hm
 rw [ref08_less.eq_1] at hm
 show CdOK _ _ _ (look _ [(0, .o (.agg [I (a_.tx), I (a_.lock.page), I (a_.lock.slot), I (a_.mode)])), (1, .o (.agg [I (b_.tx), I (b_.lock.page), I (b_.lock.slot), I (b_.mode)]))]) (h ++ ([] : Heap)) _
 refine .seq ?_
 refine .region ?_
 refine .t (.o (.c (.ptr (h.length + 0) 0))) (e_boxN (L' := [⟨[I (a_.tx), I (a_.lock.page), I (a_.lock.slot), I (a_.mode)], true, true⟩]) rfl (ev_t rfl) rfl rfl) ?_
 refine .t (.o (.c (.ptr (h.length + 1) 0))) (e_boxN (L' := [⟨[I (a_.tx), I (a_.lock.page), I (a_.lock.slot), I (a_.mode)], true, true⟩, ⟨[I (b_.tx), I (b_.lock.page), I (b_.lock.slot), I (b_.mode)], true, true⟩]) rfl (ev_t rfl) rfl rfl) ?_
 refine .t (VB (false)) (e_as rfl) ?_
 refine .nil ?_
 refine CdOK.seq ?_
 refine .seq ?_
 refine .region ?_
 refine .t _ (e_fa' fa75_1 (ev_t rfl)) ?_
 refine .t _ (e_fa' fa71_0 (ev_t rfl)) ?_
 refine .t _ (e_ldb1 (ev_t rfl) ty3 (bx rfl rfl) rfl) ?_
 refine .t _ (e_fa' fa75_1 (ev_t rfl)) ?_
 refine .t _ (e_fa' fa71_0 (ev_t rfl)) ?_
 refine .t _ (e_ldb1 (ev_t rfl) ty3 (bx rfl rfl) rfl) ?_
 refine .t (VB (decide (a_.lock.page ≠ b_.lock.page))) (e_neK (ev_t rfl) (ev_t rfl)) ?_
 refine .nil ?_
 refine CdOK.condD (ev_t rfl) ?_ ?_
 ·intro c1; replace hm := hm.ifp c1
  refine .seq ?_
  refine .region ?_
  refine .t _ (e_fa' fa75_1 (ev_t rfl)) ?_
  refine .t _ (e_fa' fa71_0 (ev_t rfl)) ?_
  refine .t _ (e_ldb1 (ev_t rfl) ty3 (bx rfl rfl) rfl) ?_
  refine .t _ (e_fa' fa75_1 (ev_t rfl)) ?_
  refine .t _ (e_fa' fa71_0 (ev_t rfl)) ?_
  refine .t _ (e_ldb1 (ev_t rfl) ty3 (bx rfl rfl) rfl) ?_
  refine .t (VB (decide (a_.lock.page < b_.lock.page))) (e_bin (ev_t rfl) (ev_t rfl) rfl rfl) ?_
  refine .a rfl ?_
  refine .nil ?_
  refine CdOK.ret ?_
  refine ⟨.inr rfl, _, rfl, h, _, _, rfl, rfl, hC, ((renFlV rfl) : RenV _ _ _ _ (VB (decide (a_.lock.page < b_.lock.page)))), ?_⟩
  cases hm.ret; exact ⟨rfl, rfl⟩
 ·intro c2; replace hm := hm.ifn c2
  refine .skip ?_
  refine CdOK.seq ?_
  refine .seq ?_
  refine .region ?_
  refine .t _ (e_fa' fa75_1 (ev_t rfl)) ?_
  refine .t _ (e_fa' fa71_1 (ev_t rfl)) ?_
  refine .t _ (e_ldb1 (ev_t rfl) ty3 (bx rfl rfl) rfl) ?_
  refine .t _ (e_fa' fa75_1 (ev_t rfl)) ?_
  refine .t _ (e_fa' fa71_1 (ev_t rfl)) ?_
  refine .t _ (e_ldb1 (ev_t rfl) ty3 (bx rfl rfl) rfl) ?_
  refine .t (VB (decide (a_.lock.slot ≠ b_.lock.slot))) (e_neK (ev_t rfl) (ev_t rfl)) ?_
  refine .nil ?_
  refine CdOK.condD (ev_t rfl) ?_ ?_
  ·intro c3; replace hm := hm.ifp c3
   refine .seq ?_
   refine .region ?_
   refine .t _ (e_fa' fa75_1 (ev_t rfl)) ?_
   refine .t _ (e_fa' fa71_1 (ev_t rfl)) ?_
   refine .t _ (e_ldb1 (ev_t rfl) ty3 (bx rfl rfl) rfl) ?_
   refine .t _ (e_fa' fa75_1 (ev_t rfl)) ?_
   refine .t _ (e_fa' fa71_1 (ev_t rfl)) ?_
   refine .t _ (e_ldb1 (ev_t rfl) ty3 (bx rfl rfl) rfl) ?_
   refine .t (VB (decide (a_.lock.slot < b_.lock.slot))) (e_bin (ev_t rfl) (ev_t rfl) rfl rfl) ?_
   refine .a rfl ?_
   refine .nil ?_
   refine CdOK.ret ?_
   refine ⟨.inr rfl, _, rfl, h, _, _, rfl, rfl, hC, ((renFlV rfl) : RenV _ _ _ _ (VB (decide (a_.lock.slot < b_.lock.slot)))), ?_⟩
   cases hm.ret; exact ⟨rfl, rfl⟩
  ·intro c4; replace hm := hm.ifn c4
   refine .skip ?_
   refine CdOK.seq ?_
   refine .region ?_
   refine .t _ (e_fa' fa75_0 (ev_t rfl)) ?_
   refine .t _ (e_ldb1 (ev_t rfl) ty3 (bx rfl rfl) rfl) ?_
   refine .t _ (e_fa' fa75_0 (ev_t rfl)) ?_
   refine .t _ (e_ldb1 (ev_t rfl) ty3 (bx rfl rfl) rfl) ?_
   refine .t (VB (decide (a_.tx < b_.tx))) (e_bin (ev_t rfl) (ev_t rfl) rfl rfl) ?_
   refine .a rfl ?_
   refine .nil ?_
   refine CdOK.ret ?_
   refine ⟨.inr rfl, _, rfl, h, _, _, rfl, rfl, hC, ((renFlV rfl) : RenV _ _ _ _ (VB (decide (a_.tx < b_.tx)))), ?_⟩
   cases hm.ret; exact ⟨rfl, rfl⟩
/- pagemend/pagemendref08.Conflict -/
def ref08_Conflict (a_ : Grant) (b_ : Grant) : Option Bool := (if a_.tx ≠ b_.tx then (if a_.lock = b_.lock then (if a_.mode = 2 then some true else some (decide (b_.mode = 2))) else some false) else some false)
theorem ref08_Conflict_ok {h : Heap} {a_ : Grant} {b_ : Grant}   {r : Bool} (hm : ref08_Conflict a_ b_ = some r) : FnOK Try.prog 119 [.o (.agg [I (a_.tx), I (a_.lock.page), I (a_.lock.slot), I (a_.mode)]), .o (.agg [I (b_.tx), I (b_.lock.page), I (b_.lock.slot), I (b_.mode)])] h (fun v h' => v = VB (r) ∧ h' = h) := by
 refine FnOK.fin ?_
 refine FnOK.bodyC (N := 27) Try.func119 rfl rfl rfl (fun hC => ?_)
 replace hm := Ev.of hm
 rw [ref08_Conflict.eq_1] at hm
 show CdOK _ _ _ (look _ [(0, .o (.agg [I (a_.tx), I (a_.lock.page), I (a_.lock.slot), I (a_.mode)])), (1, .o (.agg [I (b_.tx), I (b_.lock.page), I (b_.lock.slot), I (b_.mode)]))]) (h ++ ([] : Heap)) _
 refine .seq ?_
 refine .region ?_
 refine .t (.o (.c (.ptr (h.length + 0) 0))) (e_boxN (L' := [⟨[I (a_.tx), I (a_.lock.page), I (a_.lock.slot), I (a_.mode)], true, true⟩]) rfl (ev_t rfl) rfl rfl) ?_
 refine .t (.o (.c (.ptr (h.length + 1) 0))) (e_boxN (L' := [⟨[I (a_.tx), I (a_.lock.page), I (a_.lock.slot), I (a_.mode)], true, true⟩, ⟨[I (b_.tx), I (b_.lock.page), I (b_.lock.slot), I (b_.mode)], true, true⟩]) rfl (ev_t rfl) rfl rfl) ?_
 refine .t (VB (false)) (e_as rfl) ?_
 refine .nil ?_
 refine CdOK.seq ?_
 refine .region ?_
 refine .t _ (e_fa' fa75_0 (ev_t rfl)) ?_
 refine .t _ (e_ldb1 (ev_t rfl) ty3 (bx rfl rfl) rfl) ?_
 refine .t _ (e_fa' fa75_0 (ev_t rfl)) ?_
 refine .t _ (e_ldb1 (ev_t rfl) ty3 (bx rfl rfl) rfl) ?_
 refine .sd rfl rfl rfl (e_neK (ev_t rfl) (ev_t rfl)) ?_ ?_
 ·intro c1; replace hm := hm.ifp c1
  refine .m rfl ?_
  refine .t _ (e_fa' fa75_1 (ev_t rfl)) ?_
  refine .t _ (e_ldbA (ev_t rfl) ty71 (bx rfl rfl) rfl rfl) ?_
  refine .t _ (e_fa' fa75_1 (ev_t rfl)) ?_
  refine .t _ (e_ldbA (ev_t rfl) ty71 (bx rfl rfl) rfl rfl) ?_
  refine .sd rfl rfl rfl (e_eqA (ev_t rfl) (ev_t rfl) rfl rfl (eqs71_eql a_.lock b_.lock)) ?_ ?_
  ·intro c2; replace hm := hm.ifp c2
   refine .t (VB (true)) (e_pick (t := true) (ev_t rfl) (ev_t rfl)) ?_
   refine .m rfl ?_
   refine .t _ (e_fa' fa75_2 (ev_t rfl)) ?_
   refine .t _ (e_ldb1 (ev_t rfl) ty3 (bx rfl rfl) rfl) ?_
   refine .sd rfl rfl rfl (e_eqK (ev_t rfl) rfl) ?_ ?_
   ·intro c3; replace hm := hm.ifp c3
    refine .m rfl ?_
    refine .k ?_
    refine .k ?_
    refine .k ?_
    refine .t (VB (true)) (e_pick (t := true) (ev_t rfl) rfl) ?_
    refine .t (VB (true)) (e_pick (t := true) (ev_t rfl) (ev_t rfl)) ?_
    refine .a rfl ?_
    refine .nil ?_
    refine CdOK.ret ?_
    refine ⟨.inr rfl, _, rfl, h, _, _, rfl, rfl, hC, ((renFlV rfl) : RenV _ _ _ _ (VB (true))), ?_⟩
    cases hm.ret; exact ⟨rfl, rfl⟩
   ·intro c4; replace hm := hm.ifn c4
    refine .m rfl ?_
    refine .t _ (e_fa' fa75_2 (ev_t rfl)) ?_
    refine .t _ (e_ldb1 (ev_t rfl) ty3 (bx rfl rfl) rfl) ?_
    refine .t (VB (decide (b_.mode = 2))) (e_eqK (ev_t rfl) rfl) ?_
    refine .t (VB (decide (b_.mode = 2))) (e_pick (t := false) (ev_t rfl) (ev_t rfl)) ?_
    refine .t (VB (decide (b_.mode = 2))) (e_pick (t := true) (ev_t rfl) (ev_t rfl)) ?_
    refine .a rfl ?_
    refine .nil ?_
    refine CdOK.ret ?_
    refine ⟨.inr rfl, _, rfl, h, _, _, rfl, rfl, hC, ((renFlV rfl) : RenV _ _ _ _ (VB (decide (b_.mode = 2)))), ?_⟩
    cases hm.ret; exact ⟨rfl, rfl⟩
  ·intro c5; replace hm := hm.ifn c5
   refine .t (VB (false)) (e_pick (t := true) (ev_t rfl) (ev_t rfl)) ?_
   refine .m rfl ?_
   refine .k ?_
   refine .k ?_
   refine .k ?_
   refine .k ?_
   refine .k ?_
   refine .k ?_
   refine .k ?_
   refine .k ?_
   refine .t (VB (false)) (e_pick (t := false) (ev_t rfl) rfl) ?_
   refine .a rfl ?_
   refine .nil ?_
   refine CdOK.ret ?_
   refine ⟨.inr rfl, _, rfl, h, _, _, rfl, rfl, hC, ((renFlV rfl) : RenV _ _ _ _ (VB (false))), ?_⟩
   cases hm.ret; exact ⟨rfl, rfl⟩
 ·intro c6; replace hm := hm.ifn c6
  refine .m rfl ?_
  refine .k ?_
  refine .k ?_
  refine .k ?_
  refine .k ?_
  refine .k ?_
  refine .t (VB (false)) (e_pick (t := false) (ev_t rfl) rfl) ?_
  refine .m rfl ?_
  refine .k ?_
  refine .k ?_
  refine .k ?_
  refine .k ?_
  refine .k ?_
  refine .k ?_
  refine .k ?_
  refine .k ?_
  refine .t (VB (false)) (e_pick (t := false) (ev_t rfl) rfl) ?_
  refine .a rfl ?_
  refine .nil ?_
  refine CdOK.ret ?_
  refine ⟨.inr rfl, _, rfl, h, _, _, rfl, rfl, hC, ((renFlV rfl) : RenV _ _ _ _ (VB (false))), ?_⟩
  cases hm.ret; exact ⟨rfl, rfl⟩
/- pagemend/pagemendref08.mode -/
def ref08_mode1.l1 (t_ : Locks) (tx : Int) (k_ : Lock) : Nat → Int → Option (Sum Unit Int)
  | 0, _ => none
  | kk2 + 1, i1 => (if i1 < (t_.held.length : Int) then (if (0 : Int) ≤ i1 ∧ i1 < (t_.held.length : Int) then (if ((gd t_.held i1).tx) = tx then (if (0 : Int) ≤ i1 ∧ i1 < (t_.held.length : Int) then (if (gd t_.held i1).lock = k_ then (if (0 : Int) ≤ i1 ∧ i1 < (t_.held.length : Int) then some (Sum.inr ((gd t_.held i1).mode)) else none) else ref08_mode1.l1 t_ tx k_ kk2 (w64 (i1 + 1))) else none) else ref08_mode1.l1 t_ tx k_ kk2 (w64 (i1 + 1))) else none) else some (Sum.inl ()))
def ref08_mode1 (t_ : Locks) (tx : Int) (k_ : Lock) : Option Int := ((ref08_mode1.l1 t_ tx k_ FU 0).bind fun (z : Sum Unit Int) => match z with | .inl (s12 : Unit) => some 0 | .inr r => some r)
theorem ref08_mode1_ok {h : Heap} {t_ : Locks} {tx : Int} {k_ : Lock}   {r : Int} (hm : ref08_mode1 t_ tx k_ = some r) : FnOK Try.prog 120 [.o (.agg [.L 4 (t_.held.map Grant.cs), .L 4 (t_.waiting.map Grant.cs)]), VI (tx), .o (.agg [I (k_.page), I (k_.slot)])] h (fun v h' => v = VI (r) ∧ h' = h) := by
 refine FnOK.fin ?_
 refine FnOK.bodyC (N := 39) Try.func120 rfl rfl rfl (fun hC => ?_)
 replace hm := Ev.of hm
 rw [ref08_mode1.eq_1] at hm
 show CdOK _ _ _ (look _ [(0, .o (.agg [.L 4 (t_.held.map Grant.cs), .L 4 (t_.waiting.map Grant.cs)])), (1, VI (tx)), (2, .o (.agg [I (k_.page), I (k_.slot)]))]) (h ++ ([] : Heap)) _
 refine .seq ?_
 refine .region ?_
 refine .t (.o (.c (.ptr (h.length + 0) 0))) (e_boxN (L' := [⟨[.L 4 (t_.held.map Grant.cs), .L 4 (t_.waiting.map Grant.cs)], true, true⟩]) rfl (ev_t rfl) rfl rfl) ?_
 refine .t (.o (.c (.ptr (h.length + 1) 0))) (e_boxN (L' := [⟨[.L 4 (t_.held.map Grant.cs), .L 4 (t_.waiting.map Grant.cs)], true, true⟩, ⟨[I (k_.page), I (k_.slot)], true, true⟩]) rfl (ev_t rfl) rfl rfl) ?_
 refine .t (VI (0)) (e_as rfl) ?_
 refine .nil ?_
 refine CdOK.seq ?_
 refine .seq ?_
 refine .region ?_
 refine .t (VI (0)) (e_as rfl) ?_
 refine .nil ?_
 replace hm := hm.bnd
 refine CdOK.joinT (σ := Unit) (fun s => Sum.inl ()) hm (fun s => []) (fun s => h ++ ([] : Heap)) ?_ ?_
 ·intro hm
  refine .block ?_
  refine .loopE (σ := Int) (fun k s => Ev (ref08_mode1.l1 t_ tx k_ k s) _) (fun s => [(1, VI (tx)), (3, .o (.c (.ptr (h.length + 0) 0))), (5, .o (.c (.ptr (h.length + 1) 0))), (7, VI (s))]) (fun s => h ++ ([⟨[.L 4 (t_.held.map Grant.cs), .L 4 (t_.waiting.map Grant.cs)], true, true⟩, ⟨[I (k_.page), I (k_.slot)], true, true⟩] : Heap)) FU 0 hm (.cons rfl (.cons rfl (.cons rfl (.cons rfl .nil)))) rfl ?_
  rintro kk2 i1 T0 hm
  replace hm : Ev (ref08_mode1.l1 t_ tx k_ kk2 i1) _ := hm
  cases kk2 with
  | zero => exact (Ev.non hm).elim
  | succ kk2 =>
  rw [ref08_mode1.l1.eq_2] at hm
  show CdOK _ _ _ (look T0 [(1, VI (tx)), (3, .o (.c (.ptr (h.length + 0) 0))), (5, .o (.c (.ptr (h.length + 1) 0))), (7, VI (i1))]) (h ++ ([⟨[.L 4 (t_.held.map Grant.cs), .L 4 (t_.waiting.map Grant.cs)], true, true⟩, ⟨[I (k_.page), I (k_.slot)], true, true⟩] : Heap)) _
  refine .seq ?_
  refine .seq ?_
  refine .region ?_
  refine .m rfl ?_
  refine .t _ (e_fa' fa69_0 (ev_t rfl)) ?_
  refine .t _ (e_ldb1 (ev_t rfl) ty67 (bx rfl rfl) rfl) ?_
  refine .t (VI ((t_.held.length : Int))) (e_lenM (ev_t rfl) is67) ?_
  refine .t (VB (decide (i1 < (t_.held.length : Int)))) (e_bin (ev_t rfl) (ev_t rfl) rfl rfl) ?_
  refine .nil ?_
  refine CdOK.condD (ev_t rfl) ?_ ?_
  ·intro c3; replace hm := hm.ifp c3
   refine .skip ?_
   refine CdOK.seq ?_
   refine .block ?_
   refine .seq ?_
   refine .draw fol (by decide +kernel) ?_
   refine .t _ (e_fa' fa69_0 (ev_t rfl)) ?_
   refine .t _ (e_ldb1 (ev_t rfl) ty67 (bx rfl rfl) rfl) ?_
   refine .m rfl ?_
   obtain ⟨c4, hm⟩ := hm.ifs
   refine .t (.o (.c (.rp [I ((gd t_.held i1).tx), I ((gd t_.held i1).lock.page), I ((gd t_.held i1).lock.slot), I ((gd t_.held i1).mode)]))) (e_ixM (f := Grant.cs) (l := t_.held) (i := i1) (ev_t rfl) (ev_t rfl) el67 c4) ?_
   refine .t _ (e_faR fa75_0 (ev_t rfl) rfl) ?_
   refine .t _ (e_ldR1 (ev_t rfl) ty3 rfl) ?_
   refine .m rfl ?_
   refine .sd rfl rfl rfl (e_eqK (ev_t rfl) (ev_t rfl)) ?_ ?_
   ·intro c5; replace hm := hm.ifp c5
    refine .m rfl ?_
    refine .t _ (e_fa' fa69_0 (ev_t rfl)) ?_
    refine .t _ (e_ldb1 (ev_t rfl) ty67 (bx rfl rfl) rfl) ?_
    refine .m rfl ?_
    obtain ⟨c6, hm⟩ := hm.ifs
    refine .t (.o (.c (.rp [I ((gd t_.held i1).tx), I ((gd t_.held i1).lock.page), I ((gd t_.held i1).lock.slot), I ((gd t_.held i1).mode)]))) (e_ixM (f := Grant.cs) (l := t_.held) (i := i1) (ev_t rfl) (ev_t rfl) el67 c6) ?_
    refine .t _ (e_faR fa75_1 (ev_t rfl) rfl) ?_
    refine .t _ (e_ldRA (ev_t rfl) ty71 rfl rfl) ?_
    refine .t _ (e_ldbA (ev_t rfl) ty71 (bx rfl rfl) rfl rfl) ?_
    refine .t (VB (decide ((gd t_.held i1).lock = k_))) (e_eqA (ev_t rfl) (ev_t rfl) rfl rfl (eqs71_eql ((gd t_.held i1).lock) k_)) ?_
    refine .t (VB (decide ((gd t_.held i1).lock = k_))) (e_pick (t := true) (ev_t rfl) (ev_t rfl)) ?_
    refine .nil ?_
    refine CdOK.condD (ev_t rfl) ?_ ?_
    ·intro c7; replace hm := hm.ifp c7
     refine .seq ?_
     refine .region ?_
     refine .t _ (e_fa' fa69_0 (ev_t rfl)) ?_
     refine .t _ (e_ldb1 (ev_t rfl) ty67 (bx rfl rfl) rfl) ?_
     refine .m rfl ?_
     obtain ⟨c8, hm⟩ := hm.ifs
     refine .t (.o (.c (.rp [I ((gd t_.held i1).tx), I ((gd t_.held i1).lock.page), I ((gd t_.held i1).lock.slot), I ((gd t_.held i1).mode)]))) (e_ixM (f := Grant.cs) (l := t_.held) (i := i1) (ev_t rfl) (ev_t rfl) el67 c8) ?_
     refine .t _ (e_faR fa75_2 (ev_t rfl) rfl) ?_
     refine .t _ (e_ldR1 (ev_t rfl) ty3 rfl) ?_
     refine .a rfl ?_
     refine .nil ?_
     refine CdOK.ret ?_
     refine ⟨.inr rfl, _, rfl, h, _, _, rfl, rfl, hC, ((renFlV rfl) : RenV _ _ _ _ (VI ((gd t_.held i1).mode))), ?_⟩
     have hr := hm.ret; replace hr := Ev.ret hr; cases hr; exact ⟨rfl, rfl⟩
    ·intro c9; replace hm := hm.ifn c9
     refine .skip ?_
     refine CdOK.region ?_
     refine .m rfl ?_
     refine .t (VI ((w64 (i1 + 1)))) (e_bin (ev_t rfl) rfl rfl rfl) ?_
     refine .a rfl ?_
     refine .nil ?_
     refine .id ?_
     exact ⟨_, (w64 (i1 + 1)), Nat.lt_succ_self _, hm, (.cons rfl (.cons rfl (.cons rfl (.cons rfl .nil)))), rfl⟩
   ·intro c10; replace hm := hm.ifn c10
    refine .m rfl ?_
    refine .k ?_
    refine .k ?_
    refine .k ?_
    refine .k ?_
    refine .k ?_
    refine .k ?_
    refine .k ?_
    refine .k ?_
    refine .t (VB (false)) (e_pick (t := false) (ev_t rfl) rfl) ?_
    refine .nil ?_
    refine CdOK.cond_false rfl ?_
    refine .skip ?_
    refine CdOK.region ?_
    refine .m rfl ?_
    refine .t (VI ((w64 (i1 + 1)))) (e_bin (ev_t rfl) rfl rfl rfl) ?_
    refine .a rfl ?_
    refine .nil ?_
    refine .id ?_
    exact ⟨_, (w64 (i1 + 1)), Nat.lt_succ_self _, hm, (.cons rfl (.cons rfl (.cons rfl (.cons rfl .nil)))), rfl⟩
  ·intro c11; replace hm := hm.ifn c11
   refine .exit ?_
   refine .re (σ := []) (X := []) (L' := []) rfl rfl hC (by decide) .nil .nil ?_
   exact ⟨(), hm.ret, .nil, rfl⟩
 ·intro _ T0 hm
  refine CdOK.seq ?_
  refine .region ?_
  refine .t (VI (0)) (e_as rfl) ?_
  refine .nil ?_
  refine CdOK.ret ?_
  refine ⟨.inr rfl, _, rfl, h, _, _, rfl, rfl, hC, ((renFlV rfl) : RenV _ _ _ _ (VI (0))), ?_⟩
  cases hm.ret; exact ⟨rfl, rfl⟩
/- pagemend/pagemendref08.Valid -/
def ref08_Valid.l2 (t_ : Locks) (i3 : Int) : Nat → Int → Option (Sum Unit Bool)
  | 0, _ => none
  | kk17 + 1, k16 => (if 0 ≤ k16 then (if (0 : Int) ≤ k16 ∧ k16 < (t_.held.length : Int) then (if (0 : Int) ≤ i3 ∧ i3 < (t_.held.length : Int) then (if (gd t_.held k16).lock = (gd t_.held i3).lock then (if (0 : Int) ≤ k16 ∧ k16 < (t_.held.length : Int) then (if (0 : Int) ≤ i3 ∧ i3 < (t_.held.length : Int) then ((ref08_Conflict (gd t_.held k16) (gd t_.held i3)).bind fun (x24 : Bool) => (if x24 = true then some (Sum.inr false) else ref08_Valid.l2 t_ i3 kk17 (w64 (k16 - 1)))) else none) else none) else some (Sum.inl ())) else none) else none) else some (Sum.inl ()))
def ref08_Valid.l1 (t_ : Locks) : Nat → Int → Option (Sum Unit Bool)
  | 0, _ => none
  | kk4 + 1, i3 => (if i3 < (t_.held.length : Int) then (((if (0 : Int) ≤ i3 ∧ i3 < (t_.held.length : Int) then ((ref08_grant (gd t_.held i3)).bind fun (x7 : Bool) => (if x7 = true then (if 0 < i3 then (if (0 : Int) ≤ (w64 (i3 - 1)) ∧ (w64 (i3 - 1)) < (t_.held.length : Int) then (if (0 : Int) ≤ i3 ∧ i3 < (t_.held.length : Int) then ((ref08_less (⟨(gd t_.held (w64 (i3 - 1))).tx, (⟨(gd t_.held (w64 (i3 - 1))).lock.page, (gd t_.held (w64 (i3 - 1))).lock.slot⟩ : Lock), (gd t_.held (w64 (i3 - 1))).mode⟩ : Grant) (gd t_.held i3)).bind fun (x11 : Bool) => (if (!x11) = true then some (Sum.inr false) else some (Sum.inl ()))) else none) else none) else some (Sum.inl ())) else some (Sum.inr false))) else none)).bind fun (z : Sum Unit Bool) => match z with | .inl (s15 : Unit) => ((ref08_Valid.l2 t_ i3 FU (w64 (i3 - 1))).bind fun (z : Sum Unit Bool) => match z with | .inl (s29 : Unit) => ref08_Valid.l1 t_ kk4 (w64 (i3 + 1)) | .inr r => some (Sum.inr r)) | .inr r => some (Sum.inr r)) else some (Sum.inl ()))
def ref08_Valid.l4 (t_ : Locks) (i32 : Int) : Nat → Int → Option (Sum Unit Bool)
  | 0, _ => none
  | kk41 + 1, k40 => (if k40 < i32 then (if (0 : Int) ≤ k40 ∧ k40 < (t_.waiting.length : Int) then (if ((gd t_.waiting k40).tx) = ((gd t_.waiting i32).tx) then some (Sum.inr false) else ref08_Valid.l4 t_ i32 kk41 (w64 (k40 + 1))) else none) else some (Sum.inl ()))
def ref08_Valid.l3 (t_ : Locks) : Nat → Int → Option (Sum Unit Bool)
  | 0, _ => none
  | kk33 + 1, i32 => (if i32 < (t_.waiting.length : Int) then (if (0 : Int) ≤ i32 ∧ i32 < (t_.waiting.length : Int) then ((ref08_grant (gd t_.waiting i32)).bind fun (x36 : Bool) => (if x36 = true then ((ref08_mode1 t_ ((gd t_.waiting i32).tx) ((gd t_.waiting i32).lock)).bind fun (x37 : Int) => (if ((gd t_.waiting i32).mode) ≤ x37 then some (Sum.inr false) else ((ref08_Valid.l4 t_ i32 FU 0).bind fun (z : Sum Unit Bool) => match z with | .inl (s47 : Unit) => ref08_Valid.l3 t_ kk33 (w64 (i32 + 1)) | .inr r => some (Sum.inr r)))) else some (Sum.inr false))) else none) else some (Sum.inl ()))
def ref08_Valid (t_ : Locks) : Option Bool := (if 1024 < (w64 ((t_.held.length : Int) + (t_.waiting.length : Int))) then some false else ((ref08_Valid.l1 t_ FU 0).bind fun (z : Sum Unit Bool) => match z with | .inl (s31 : Unit) => ((ref08_Valid.l3 t_ FU 0).bind fun (z : Sum Unit Bool) => match z with | .inl (s49 : Unit) => some true | .inr r => some r) | .inr r => some r))
theorem ref08_Valid_ok {h : Heap} {t_ : Locks}   {r : Bool} (hm : ref08_Valid t_ = some r) : FnOK Try.prog 47 [.o (.agg [.L 4 (t_.held.map Grant.cs), .L 4 (t_.waiting.map Grant.cs)])] h (fun v h' => v = VB (r) ∧ h' = h) := by
 refine FnOK.fin ?_
 refine FnOK.bodyC (N := 121) Try.func47 rfl rfl rfl (fun hC => ?_)
 replace hm := Ev.of hm
 rw [ref08_Valid.eq_1] at hm
 show CdOK _ _ _ (look _ [(0, .o (.agg [.L 4 (t_.held.map Grant.cs), .L 4 (t_.waiting.map Grant.cs)]))]) (h ++ ([] : Heap)) _
 refine .seq ?_
 refine .region ?_
 refine .t (.o (.c (.ptr (h.length + 0) 0))) (e_boxN (L' := [⟨[.L 4 (t_.held.map Grant.cs), .L 4 (t_.waiting.map Grant.cs)], true, true⟩]) rfl (ev_t rfl) rfl rfl) ?_
 refine .t (VB (false)) (e_as rfl) ?_
 refine .nil ?_
 refine CdOK.seq ?_
 refine .seq ?_
 refine .region ?_
 refine .t _ (e_fa' fa69_0 (ev_t rfl)) ?_
 refine .t _ (e_ldb1 (ev_t rfl) ty67 (bx rfl rfl) rfl) ?_
 refine .t (VI ((t_.held.length : Int))) (e_lenM (ev_t rfl) is67) ?_
 refine .t _ (e_fa' fa69_1 (ev_t rfl)) ?_
 refine .t _ (e_ldb1 (ev_t rfl) ty67 (bx rfl rfl) rfl) ?_
 refine .t (VI ((t_.waiting.length : Int))) (e_lenM (ev_t rfl) is67) ?_
 refine .t (VI ((w64 ((t_.held.length : Int) + (t_.waiting.length : Int))))) (e_bin (ev_t rfl) (ev_t rfl) rfl rfl) ?_
 refine .t (VB (decide (1024 < (w64 ((t_.held.length : Int) + (t_.waiting.length : Int)))))) (e_bin (ev_t rfl) rfl rfl rfl) ?_
 refine .nil ?_
 refine CdOK.condD (ev_t rfl) ?_ ?_
 ·intro c1; replace hm := hm.ifp c1
  refine .seq ?_
  refine .region ?_
  refine .t (VB (false)) (e_as rfl) ?_
  refine .nil ?_
  refine CdOK.ret ?_
  refine ⟨.inr rfl, _, rfl, h, _, _, rfl, rfl, hC, ((renFlV rfl) : RenV _ _ _ _ (VB (false))), ?_⟩
  cases hm.ret; exact ⟨rfl, rfl⟩
 ·intro c2; replace hm := hm.ifn c2
  refine .skip ?_
  refine CdOK.seq ?_
  refine .seq ?_
  refine .region ?_
  refine .t (VI (0)) (e_as rfl) ?_
  refine .nil ?_
  replace hm := hm.bnd
  refine CdOK.joinT (σ := Unit) (fun s => Sum.inl ()) hm (fun s => [(1, .o (.c (.ptr (h.length + 0) 0)))]) (fun s => h ++ ([⟨[.L 4 (t_.held.map Grant.cs), .L 4 (t_.waiting.map Grant.cs)], true, true⟩] : Heap)) ?_ ?_
  ·intro hm
   refine .block ?_
   refine .loopE (σ := Int) (fun k s => Ev (ref08_Valid.l1 t_ k s) _) (fun s => [(1, .o (.c (.ptr (h.length + 0) 0))), (3, VI (s))]) (fun s => h ++ ([⟨[.L 4 (t_.held.map Grant.cs), .L 4 (t_.waiting.map Grant.cs)], true, true⟩] : Heap)) FU 0 hm (.cons rfl (.cons rfl .nil)) rfl ?_
   rintro kk4 i3 T0 hm
   replace hm : Ev (ref08_Valid.l1 t_ kk4 i3) _ := hm
   cases kk4 with
   | zero => exact (Ev.non hm).elim
   | succ kk4 =>
   rw [ref08_Valid.l1.eq_2] at hm
   show CdOK _ _ _ (look T0 [(1, .o (.c (.ptr (h.length + 0) 0))), (3, VI (i3))]) (h ++ ([⟨[.L 4 (t_.held.map Grant.cs), .L 4 (t_.waiting.map Grant.cs)], true, true⟩] : Heap)) _
   refine .seq ?_
   refine .seq ?_
   refine .region ?_
   refine .m rfl ?_
   refine .t _ (e_fa' fa69_0 (ev_t rfl)) ?_
   refine .t _ (e_ldb1 (ev_t rfl) ty67 (bx rfl rfl) rfl) ?_
   refine .t (VI ((t_.held.length : Int))) (e_lenM (ev_t rfl) is67) ?_
   refine .t (VB (decide (i3 < (t_.held.length : Int)))) (e_bin (ev_t rfl) (ev_t rfl) rfl rfl) ?_
   refine .nil ?_
   refine CdOK.condD (ev_t rfl) ?_ ?_
   ·intro c5; replace hm := hm.ifp c5
    refine .skip ?_
    refine CdOK.seq ?_
    refine .block ?_
    replace hm := hm.bnd
    refine .joinE (σ := Unit) (fun s => Sum.inl ()) hm (fun s => [(1, .o (.c (.ptr (h.length + 0) 0))), (3, VI (i3))]) (fun s => h ++ ([⟨[.L 4 (t_.held.map Grant.cs), .L 4 (t_.waiting.map Grant.cs)], true, true⟩] : Heap)) ?_ ?_
    ·intro hm
     refine .seq ?_
     refine .draw fol (by decide +kernel) ?_
     refine .t _ (e_fa' fa69_0 (ev_t rfl)) ?_
     refine .t _ (e_ldb1 (ev_t rfl) ty67 (bx rfl rfl) rfl) ?_
     refine .m rfl ?_
     obtain ⟨c6, hm⟩ := hm.ifs
     refine .t (.o (.c (.rp [I ((gd t_.held i3).tx), I ((gd t_.held i3).lock.page), I ((gd t_.held i3).lock.slot), I ((gd t_.held i3).mode)]))) (e_ixM (f := Grant.cs) (l := t_.held) (i := i3) (ev_t rfl) (ev_t rfl) el67 c6) ?_
     refine .t _ (e_ldRA (ev_t rfl) ty75 rfl rfl) ?_
     obtain ⟨x7, e7, hm⟩ := hm.call
     cases x7 with
     | true =>
      replace hm := hm.ifp rfl
      refine .cl rfl rfl rfl rfl pl117 (R2.wk _) (ref08_grant_ok    e7) ?_
      refine .t (VB (false)) (e_un (ev_t rfl) rfl) ?_
      refine .m rfl ?_
      refine .m rfl ?_
      refine .sd rfl rfl rfl (e_bin (ev_t rfl) rfl rfl rfl) ?_ ?_
      ·intro c8; replace hm := hm.ifp c8
       refine .m rfl ?_
       refine .t _ (e_fa' fa69_0 (ev_t rfl)) ?_
       refine .t _ (e_ldb1 (ev_t rfl) ty67 (bx rfl rfl) rfl) ?_
       refine .m rfl ?_
       refine .t (VI ((w64 (i3 - 1)))) (e_bin (ev_t rfl) rfl rfl rfl) ?_
       obtain ⟨c9, hm⟩ := hm.ifs
       refine .t (.o (.c (.rp [I ((gd t_.held (w64 (i3 - 1))).tx), I ((gd t_.held (w64 (i3 - 1))).lock.page), I ((gd t_.held (w64 (i3 - 1))).lock.slot), I ((gd t_.held (w64 (i3 - 1))).mode)]))) (e_ixM (f := Grant.cs) (l := t_.held) (i := (w64 (i3 - 1))) (ev_t rfl) (ev_t rfl) el67 c9) ?_
       refine .t _ (e_ldRA (ev_t rfl) ty75 rfl rfl) ?_
       refine .t _ (e_fa' fa69_0 (ev_t rfl)) ?_
       refine .t _ (e_ldb1 (ev_t rfl) ty67 (bx rfl rfl) rfl) ?_
       refine .m rfl ?_
       obtain ⟨c10, hm⟩ := hm.ifs
       refine .t (.o (.c (.rp [I ((gd t_.held i3).tx), I ((gd t_.held i3).lock.page), I ((gd t_.held i3).lock.slot), I ((gd t_.held i3).mode)]))) (e_ixM (f := Grant.cs) (l := t_.held) (i := i3) (ev_t rfl) (ev_t rfl) el67 c10) ?_
       refine .t _ (e_ldRA (ev_t rfl) ty75 rfl rfl) ?_
       obtain ⟨x11, e11, hm⟩ := hm.call
       refine .cl rfl rfl rfl rfl pl118 (R2.wk _) (ref08_less_ok    e11) ?_
       refine .t (VB ((!x11))) (e_un (ev_t rfl) rfl) ?_
       refine .t (VB ((!x11))) (e_pick (t := true) (ev_t rfl) (ev_t rfl)) ?_
       refine .t (VB ((!x11))) (e_pick (t := false) (ev_t rfl) (ev_t rfl)) ?_
       refine .nil ?_
       refine CdOK.condB (ev_t rfl) ?_ ?_
       ·intro c12; replace hm := hm.ifp c12
        refine .seq ?_
        refine .region ?_
        refine .t (VB (false)) (e_as rfl) ?_
        refine .nil ?_
        refine CdOK.ret ?_
        refine ⟨.inr rfl, _, rfl, h, _, _, rfl, rfl, hC, ((renFlV rfl) : RenV _ _ _ _ (VB (false))), ?_⟩
        have hr := hm.ret; replace hr := Ev.ret hr; replace hr := Ev.ret hr; cases hr; exact ⟨rfl, rfl⟩
       ·intro c13; replace hm := hm.ifn c13
        refine .skip ?_
        refine .id ?_
        exact ⟨(), hm.ret, (.cons rfl (.cons rfl .nil)), rfl⟩
      ·intro c14; replace hm := hm.ifn c14
       refine .m rfl ?_
       refine .k ?_
       refine .k ?_
       refine .k ?_
       refine .k ?_
       refine .k ?_
       refine .k ?_
       refine .k ?_
       refine .k ?_
       refine .k ?_
       refine .k ?_
       refine .k ?_
       refine .k ?_
       refine .k ?_
       refine .t (VB (false)) (e_pick (t := false) (ev_t rfl) rfl) ?_
       refine .t (VB (false)) (e_pick (t := false) (ev_t rfl) (ev_t rfl)) ?_
       refine .nil ?_
       refine CdOK.cond_false rfl ?_
       refine .skip ?_
       refine .id ?_
       exact ⟨(), hm.ret, (.cons rfl (.cons rfl .nil)), rfl⟩
     | false =>
      replace hm := hm.ifn Bool.false_ne_true
      refine .cl rfl rfl rfl rfl pl117 (R2.wk _) (ref08_grant_ok    e7) ?_
      refine .t (VB (true)) (e_un (ev_t rfl) rfl) ?_
      refine .m rfl ?_
      refine .k ?_
      refine .k ?_
      refine .k ?_
      refine .k ?_
      refine .k ?_
      refine .k ?_
      refine .k ?_
      refine .k ?_
      refine .k ?_
      refine .k ?_
      refine .k ?_
      refine .k ?_
      refine .k ?_
      refine .k ?_
      refine .k ?_
      refine .k ?_
      refine .k ?_
      refine .t (VB (true)) (e_pick (t := true) (ev_t rfl) rfl) ?_
      refine .nil ?_
      refine CdOK.cond_true rfl ?_
      refine .seq ?_
      refine .region ?_
      refine .t (VB (false)) (e_as rfl) ?_
      refine .nil ?_
      refine CdOK.ret ?_
      refine ⟨.inr rfl, _, rfl, h, _, _, rfl, rfl, hC, ((renFlV rfl) : RenV _ _ _ _ (VB (false))), ?_⟩
      have hr := hm.ret; replace hr := Ev.ret hr; replace hr := Ev.ret hr; cases hr; exact ⟨rfl, rfl⟩
    ·intro _ T0 hm
     show CdOK _ _ _ (look T0 [(1, .o (.c (.ptr (h.length + 0) 0))), (3, VI (i3))]) (h ++ ([⟨[.L 4 (t_.held.map Grant.cs), .L 4 (t_.waiting.map Grant.cs)], true, true⟩] : Heap)) _
     replace hm : Ev _ _ := hm
     refine .seq ?_
     refine .region ?_
     refine .m rfl ?_
     refine .t (VI ((w64 (i3 - 1)))) (e_bin (ev_t rfl) rfl rfl rfl) ?_
     refine .a rfl ?_
     refine .nil ?_
     replace hm := hm.bnd
     refine CdOK.joinT (σ := Unit) (fun s => Sum.inl ()) hm (fun s => [(1, .o (.c (.ptr (h.length + 0) 0))), (3, VI (i3))]) (fun s => h ++ ([⟨[.L 4 (t_.held.map Grant.cs), .L 4 (t_.waiting.map Grant.cs)], true, true⟩] : Heap)) ?_ ?_
     ·intro hm
      refine .block ?_
      refine .loopE (σ := Int) (fun k s => Ev (ref08_Valid.l2 t_ i3 k s) _) (fun s => [(1, .o (.c (.ptr (h.length + 0) 0))), (3, VI (i3)), (4, VI (s))]) (fun s => h ++ ([⟨[.L 4 (t_.held.map Grant.cs), .L 4 (t_.waiting.map Grant.cs)], true, true⟩] : Heap)) FU (w64 (i3 - 1)) hm (.cons rfl (.cons rfl (.cons rfl .nil))) rfl ?_
      rintro kk17 k16 T0 hm
      replace hm : Ev (ref08_Valid.l2 t_ i3 kk17 k16) _ := hm
      cases kk17 with
      | zero => exact (Ev.non hm).elim
      | succ kk17 =>
      rw [ref08_Valid.l2.eq_2] at hm
      show CdOK _ _ _ (look T0 [(1, .o (.c (.ptr (h.length + 0) 0))), (3, VI (i3)), (4, VI (k16))]) (h ++ ([⟨[.L 4 (t_.held.map Grant.cs), .L 4 (t_.waiting.map Grant.cs)], true, true⟩] : Heap)) _
      refine .seq ?_
      refine .seq ?_
      refine .draw fol (by decide +kernel) ?_
      refine .m rfl ?_
      refine .sd rfl rfl rfl (e_bin (ev_t rfl) rfl rfl rfl) ?_ ?_
      ·intro c18; replace hm := hm.ifp c18
       refine .m rfl ?_
       refine .t _ (e_fa' fa69_0 (ev_t rfl)) ?_
       refine .t _ (e_ldb1 (ev_t rfl) ty67 (bx rfl rfl) rfl) ?_
       refine .m rfl ?_
       obtain ⟨c19, hm⟩ := hm.ifs
       refine .t (.o (.c (.rp [I ((gd t_.held k16).tx), I ((gd t_.held k16).lock.page), I ((gd t_.held k16).lock.slot), I ((gd t_.held k16).mode)]))) (e_ixM (f := Grant.cs) (l := t_.held) (i := k16) (ev_t rfl) (ev_t rfl) el67 c19) ?_
       refine .t _ (e_faR fa75_1 (ev_t rfl) rfl) ?_
       refine .t _ (e_ldRA (ev_t rfl) ty71 rfl rfl) ?_
       refine .t _ (e_fa' fa69_0 (ev_t rfl)) ?_
       refine .t _ (e_ldb1 (ev_t rfl) ty67 (bx rfl rfl) rfl) ?_
       refine .m rfl ?_
       obtain ⟨c20, hm⟩ := hm.ifs
       refine .t (.o (.c (.rp [I ((gd t_.held i3).tx), I ((gd t_.held i3).lock.page), I ((gd t_.held i3).lock.slot), I ((gd t_.held i3).mode)]))) (e_ixM (f := Grant.cs) (l := t_.held) (i := i3) (ev_t rfl) (ev_t rfl) el67 c20) ?_
       refine .t _ (e_faR fa75_1 (ev_t rfl) rfl) ?_
       refine .t _ (e_ldRA (ev_t rfl) ty71 rfl rfl) ?_
       refine .t (VB (decide ((gd t_.held k16).lock = (gd t_.held i3).lock))) (e_eqA (ev_t rfl) (ev_t rfl) rfl rfl (eqs71_eql ((gd t_.held k16).lock) ((gd t_.held i3).lock))) ?_
       refine .t (VB (decide ((gd t_.held k16).lock = (gd t_.held i3).lock))) (e_pick (t := true) (ev_t rfl) (ev_t rfl)) ?_
       refine .nil ?_
       refine CdOK.condD (ev_t rfl) ?_ ?_
       ·intro c21; replace hm := hm.ifp c21
        refine .skip ?_
        refine CdOK.seq ?_
        refine .block ?_
        refine .seq ?_
        refine .draw fol (by decide +kernel) ?_
        refine .t _ (e_fa' fa69_0 (ev_t rfl)) ?_
        refine .t _ (e_ldb1 (ev_t rfl) ty67 (bx rfl rfl) rfl) ?_
        refine .m rfl ?_
        obtain ⟨c22, hm⟩ := hm.ifs
        refine .t (.o (.c (.rp [I ((gd t_.held k16).tx), I ((gd t_.held k16).lock.page), I ((gd t_.held k16).lock.slot), I ((gd t_.held k16).mode)]))) (e_ixM (f := Grant.cs) (l := t_.held) (i := k16) (ev_t rfl) (ev_t rfl) el67 c22) ?_
        refine .t _ (e_ldRA (ev_t rfl) ty75 rfl rfl) ?_
        refine .t _ (e_fa' fa69_0 (ev_t rfl)) ?_
        refine .t _ (e_ldb1 (ev_t rfl) ty67 (bx rfl rfl) rfl) ?_
        refine .m rfl ?_
        obtain ⟨c23, hm⟩ := hm.ifs
        refine .t (.o (.c (.rp [I ((gd t_.held i3).tx), I ((gd t_.held i3).lock.page), I ((gd t_.held i3).lock.slot), I ((gd t_.held i3).mode)]))) (e_ixM (f := Grant.cs) (l := t_.held) (i := i3) (ev_t rfl) (ev_t rfl) el67 c23) ?_
        refine .t _ (e_ldRA (ev_t rfl) ty75 rfl rfl) ?_
        obtain ⟨x24, e24, hm⟩ := hm.call
        refine .cl rfl rfl rfl rfl pl119 (R2.wk _) (ref08_Conflict_ok    e24) ?_
        refine .nil ?_
        refine CdOK.condB (ev_t rfl) ?_ ?_
        ·intro c25; replace hm := hm.ifp c25
         refine .seq ?_
         refine .region ?_
         refine .t (VB (false)) (e_as rfl) ?_
         refine .nil ?_
         refine CdOK.ret ?_
         refine ⟨.inr rfl, _, rfl, h, _, _, rfl, rfl, hC, ((renFlV rfl) : RenV _ _ _ _ (VB (false))), ?_⟩
         have hr := hm.ret; replace hr := Ev.ret hr; replace hr := Ev.ret hr; cases hr; exact ⟨rfl, rfl⟩
        ·intro c26; replace hm := hm.ifn c26
         refine .skip ?_
         refine CdOK.region ?_
         refine .m rfl ?_
         refine .t (VI ((w64 (k16 - 1)))) (e_bin (ev_t rfl) rfl rfl rfl) ?_
         refine .a rfl ?_
         refine .nil ?_
         refine .id ?_
         exact ⟨_, (w64 (k16 - 1)), Nat.lt_succ_self _, hm, (.cons rfl (.cons rfl (.cons rfl .nil))), rfl⟩
       ·intro c27; replace hm := hm.ifn c27
        refine .exit ?_
        refine .id ?_
        exact ⟨(), hm.ret, (.cons rfl (.cons rfl .nil)), rfl⟩
      ·intro c28; replace hm := hm.ifn c28
       refine .m rfl ?_
       refine .k ?_
       refine .k ?_
       refine .k ?_
       refine .k ?_
       refine .k ?_
       refine .k ?_
       refine .k ?_
       refine .k ?_
       refine .k ?_
       refine .k ?_
       refine .k ?_
       refine .k ?_
       refine .k ?_
       refine .t (VB (false)) (e_pick (t := false) (ev_t rfl) rfl) ?_
       refine .nil ?_
       refine CdOK.cond_false rfl ?_
       refine .exit ?_
       refine .id ?_
       exact ⟨(), hm.ret, (.cons rfl (.cons rfl .nil)), rfl⟩
     ·intro _ T0 hm
      refine CdOK.region ?_
      refine .m rfl ?_
      refine .t (VI ((w64 (i3 + 1)))) (e_bin (ev_t rfl) rfl rfl rfl) ?_
      refine .a rfl ?_
      refine .nil ?_
      refine .id ?_
      exact ⟨_, (w64 (i3 + 1)), Nat.lt_succ_self _, hm, (.cons rfl (.cons rfl .nil)), rfl⟩
   ·intro c30; replace hm := hm.ifn c30
    refine .exit ?_
    refine .id ?_
    exact ⟨(), hm.ret, (.cons rfl .nil), rfl⟩
  ·intro _ T0 hm
   refine CdOK.seq ?_
   refine .seq ?_
   refine .region ?_
   refine .t (VI (0)) (e_as rfl) ?_
   refine .nil ?_
   replace hm := hm.bnd
   refine CdOK.joinT (σ := Unit) (fun s => Sum.inl ()) hm (fun s => []) (fun s => h ++ ([] : Heap)) ?_ ?_
   ·intro hm
    refine .block ?_
    refine .loopE (σ := Int) (fun k s => Ev (ref08_Valid.l3 t_ k s) _) (fun s => [(1, .o (.c (.ptr (h.length + 0) 0))), (5, VI (s))]) (fun s => h ++ ([⟨[.L 4 (t_.held.map Grant.cs), .L 4 (t_.waiting.map Grant.cs)], true, true⟩] : Heap)) FU 0 hm (.cons rfl (.cons rfl .nil)) rfl ?_
    rintro kk33 i32 T0 hm
    replace hm : Ev (ref08_Valid.l3 t_ kk33 i32) _ := hm
    cases kk33 with
    | zero => exact (Ev.non hm).elim
    | succ kk33 =>
    rw [ref08_Valid.l3.eq_2] at hm
    show CdOK _ _ _ (look T0 [(1, .o (.c (.ptr (h.length + 0) 0))), (5, VI (i32))]) (h ++ ([⟨[.L 4 (t_.held.map Grant.cs), .L 4 (t_.waiting.map Grant.cs)], true, true⟩] : Heap)) _
    refine .seq ?_
    refine .seq ?_
    refine .region ?_
    refine .m rfl ?_
    refine .t _ (e_fa' fa69_1 (ev_t rfl)) ?_
    refine .t _ (e_ldb1 (ev_t rfl) ty67 (bx rfl rfl) rfl) ?_
    refine .t (VI ((t_.waiting.length : Int))) (e_lenM (ev_t rfl) is67) ?_
    refine .t (VB (decide (i32 < (t_.waiting.length : Int)))) (e_bin (ev_t rfl) (ev_t rfl) rfl rfl) ?_
    refine .nil ?_
    refine CdOK.condD (ev_t rfl) ?_ ?_
    ·intro c34; replace hm := hm.ifp c34
     refine .skip ?_
     refine CdOK.seq ?_
     refine .block ?_
     refine .seq ?_
     refine .region ?_
     refine .t _ (e_fa' fa69_1 (ev_t rfl)) ?_
     refine .t _ (e_ldb1 (ev_t rfl) ty67 (bx rfl rfl) rfl) ?_
     refine .m rfl ?_
     obtain ⟨c35, hm⟩ := hm.ifs
     refine .t (.o (.c (.rp [I ((gd t_.waiting i32).tx), I ((gd t_.waiting i32).lock.page), I ((gd t_.waiting i32).lock.slot), I ((gd t_.waiting i32).mode)]))) (e_ixM (f := Grant.cs) (l := t_.waiting) (i := i32) (ev_t rfl) (ev_t rfl) el67 c35) ?_
     refine .t _ (e_ldRA (ev_t rfl) ty75 rfl rfl) ?_
     refine .t (.o (.c (.ptr (h.length + 1) 0))) (e_allocN (L' := [⟨[.L 4 (t_.held.map Grant.cs), .L 4 (t_.waiting.map Grant.cs)], true, true⟩, ⟨[I (0), I (0), I (0), I (0)], true, true⟩]) rfl zo75 rfl rfl) ?_
     refine .s0 rfl rfl (e_stN (L' := [⟨[.L 4 (t_.held.map Grant.cs), .L 4 (t_.waiting.map Grant.cs)], true, true⟩, ⟨[I ((gd t_.waiting i32).tx), I ((gd t_.waiting i32).lock.page), I ((gd t_.waiting i32).lock.slot), I ((gd t_.waiting i32).mode)], true, true⟩]) rfl (ev_t rfl) (ev_t rfl) ty75 rfl rfl rfl rfl rfl) ?_
     refine .nil ?_
     refine CdOK.seq ?_
     refine .seq ?_
     refine .draw fol (by decide +kernel) ?_
     refine .t _ (e_ldbA (ev_t rfl) ty75 (bx rfl rfl) rfl rfl) ?_
     obtain ⟨x36, e36, hm⟩ := hm.call
     cases x36 with
     | true =>
      replace hm := hm.ifp rfl
      refine .cl rfl rfl rfl rfl pl117 (R2.wk _) (ref08_grant_ok    e36) ?_
      refine .t (VB (false)) (e_un (ev_t rfl) rfl) ?_
      refine .m rfl ?_
      refine .t _ (e_ldbA (ev_t rfl) ty69 (bx rfl rfl) rfl rfl) ?_
      refine .t _ (e_fa' fa75_0 (ev_t rfl)) ?_
      refine .t _ (e_ldb1 (ev_t rfl) ty3 (bx rfl rfl) rfl) ?_
      refine .t _ (e_fa' fa75_1 (ev_t rfl)) ?_
      refine .t _ (e_ldbA (ev_t rfl) ty71 (bx rfl rfl) rfl rfl) ?_
      obtain ⟨x37, e37, hm⟩ := hm.call
      refine .cl rfl rfl rfl rfl pl120 (R2.wk _) (ref08_mode1_ok    e37) ?_
      refine .t _ (e_fa' fa75_2 (ev_t rfl)) ?_
      refine .t _ (e_ldb1 (ev_t rfl) ty3 (bx rfl rfl) rfl) ?_
      refine .t (VB (decide (((gd t_.waiting i32).mode) ≤ x37))) (e_bin (ev_t rfl) (ev_t rfl) rfl rfl) ?_
      refine .t (VB (decide (((gd t_.waiting i32).mode) ≤ x37))) (e_pick (t := false) (ev_t rfl) (ev_t rfl)) ?_
      refine .nil ?_
      refine CdOK.condD (ev_t rfl) ?_ ?_
      ·intro c38; replace hm := hm.ifp c38
       refine .seq ?_
       refine .region ?_
       refine .t (VB (false)) (e_as rfl) ?_
       refine .nil ?_
       refine CdOK.ret ?_
       refine ⟨.inr rfl, _, rfl, h, _, _, rfl, rfl, hC, ((renFlV rfl) : RenV _ _ _ _ (VB (false))), ?_⟩
       have hr := hm.ret; replace hr := Ev.ret hr; cases hr; exact ⟨rfl, rfl⟩
      ·intro c39; replace hm := hm.ifn c39
       refine .skip ?_
       refine CdOK.seq ?_
       refine .region ?_
       refine .t (VI (0)) (e_as rfl) ?_
       refine .nil ?_
       replace hm := hm.bnd
       refine CdOK.joinT (σ := Unit) (fun s => Sum.inl ()) hm (fun s => [(1, .o (.c (.ptr (h.length + 0) 0))), (5, VI (i32))]) (fun s => h ++ ([⟨[.L 4 (t_.held.map Grant.cs), .L 4 (t_.waiting.map Grant.cs)], true, true⟩] : Heap)) ?_ ?_
       ·intro hm
        refine .block ?_
        refine .loopE (σ := Int) (fun k s => Ev (ref08_Valid.l4 t_ i32 k s) _) (fun s => [(1, .o (.c (.ptr (h.length + 0) 0))), (5, VI (i32)), (6, .o (.c (.ptr (h.length + 1) 0))), (7, VI (s))]) (fun s => h ++ ([⟨[.L 4 (t_.held.map Grant.cs), .L 4 (t_.waiting.map Grant.cs)], true, true⟩, ⟨[I ((gd t_.waiting i32).tx), I ((gd t_.waiting i32).lock.page), I ((gd t_.waiting i32).lock.slot), I ((gd t_.waiting i32).mode)], true, true⟩] : Heap)) FU 0 hm (.cons rfl (.cons rfl (.cons rfl (.cons rfl .nil)))) rfl ?_
        rintro kk41 k40 T0 hm
        replace hm : Ev (ref08_Valid.l4 t_ i32 kk41 k40) _ := hm
        cases kk41 with
        | zero => exact (Ev.non hm).elim
        | succ kk41 =>
        rw [ref08_Valid.l4.eq_2] at hm
        show CdOK _ _ _ (look T0 [(1, .o (.c (.ptr (h.length + 0) 0))), (5, VI (i32)), (6, .o (.c (.ptr (h.length + 1) 0))), (7, VI (k40))]) (h ++ ([⟨[.L 4 (t_.held.map Grant.cs), .L 4 (t_.waiting.map Grant.cs)], true, true⟩, ⟨[I ((gd t_.waiting i32).tx), I ((gd t_.waiting i32).lock.page), I ((gd t_.waiting i32).lock.slot), I ((gd t_.waiting i32).mode)], true, true⟩] : Heap)) _
        refine .seq ?_
        refine .seq ?_
        refine .region ?_
        refine .m rfl ?_
        refine .m rfl ?_
        refine .t (VB (decide (k40 < i32))) (e_bin (ev_t rfl) (ev_t rfl) rfl rfl) ?_
        refine .nil ?_
        refine CdOK.condD (ev_t rfl) ?_ ?_
        ·intro c42; replace hm := hm.ifp c42
         refine .skip ?_
         refine CdOK.seq ?_
         refine .block ?_
         refine .seq ?_
         refine .draw fol (by decide +kernel) ?_
         refine .t _ (e_fa' fa69_1 (ev_t rfl)) ?_
         refine .t _ (e_ldb1 (ev_t rfl) ty67 (bx rfl rfl) rfl) ?_
         refine .m rfl ?_
         obtain ⟨c43, hm⟩ := hm.ifs
         refine .t (.o (.c (.rp [I ((gd t_.waiting k40).tx), I ((gd t_.waiting k40).lock.page), I ((gd t_.waiting k40).lock.slot), I ((gd t_.waiting k40).mode)]))) (e_ixM (f := Grant.cs) (l := t_.waiting) (i := k40) (ev_t rfl) (ev_t rfl) el67 c43) ?_
         refine .t _ (e_faR fa75_0 (ev_t rfl) rfl) ?_
         refine .t _ (e_ldR1 (ev_t rfl) ty3 rfl) ?_
         refine .t _ (e_fa' fa75_0 (ev_t rfl)) ?_
         refine .t _ (e_ldb1 (ev_t rfl) ty3 (bx rfl rfl) rfl) ?_
         refine .t (VB (decide (((gd t_.waiting k40).tx) = ((gd t_.waiting i32).tx)))) (e_eqK (ev_t rfl) (ev_t rfl)) ?_
         refine .nil ?_
         refine CdOK.condD (ev_t rfl) ?_ ?_
         ·intro c44; replace hm := hm.ifp c44
          refine .seq ?_
          refine .region ?_
          refine .t (VB (false)) (e_as rfl) ?_
          refine .nil ?_
          refine CdOK.ret ?_
          refine ⟨.inr rfl, _, rfl, h, _, _, rfl, rfl, hC, ((renFlV rfl) : RenV _ _ _ _ (VB (false))), ?_⟩
          have hr := hm.ret; replace hr := Ev.ret hr; replace hr := Ev.ret hr; cases hr; exact ⟨rfl, rfl⟩
         ·intro c45; replace hm := hm.ifn c45
          refine .skip ?_
          refine CdOK.region ?_
          refine .m rfl ?_
          refine .t (VI ((w64 (k40 + 1)))) (e_bin (ev_t rfl) rfl rfl rfl) ?_
          refine .a rfl ?_
          refine .nil ?_
          refine .id ?_
          exact ⟨_, (w64 (k40 + 1)), Nat.lt_succ_self _, hm, (.cons rfl (.cons rfl (.cons rfl (.cons rfl .nil)))), rfl⟩
        ·intro c46; replace hm := hm.ifn c46
         refine .exit ?_
         refine .re (σ := [0]) (X := [(1, .o (.c (.ptr (h.length + 0) 0))), (5, VI (i32))]) (L' := [⟨[.L 4 (t_.held.map Grant.cs), .L 4 (t_.waiting.map Grant.cs)], true, true⟩]) rfl rfl hC (by decide) (.obj 0 rfl (renFl rfl) .nil) (.cons (.o (.c (.ptr 0 0 _ rfl))) (.cons (renFlV rfl) .nil)) ?_
         exact ⟨(), hm.ret, (.cons rfl (.cons rfl .nil)), rfl⟩
       ·intro _ T0 hm
        refine CdOK.region ?_
        refine .m rfl ?_
        refine .t (VI ((w64 (i32 + 1)))) (e_bin (ev_t rfl) rfl rfl rfl) ?_
        refine .a rfl ?_
        refine .nil ?_
        refine .id ?_
        exact ⟨_, (w64 (i32 + 1)), Nat.lt_succ_self _, hm, (.cons rfl (.cons rfl .nil)), rfl⟩
     | false =>
      replace hm := hm.ifn Bool.false_ne_true
      refine .cl rfl rfl rfl rfl pl117 (R2.wk _) (ref08_grant_ok    e36) ?_
      refine .t (VB (true)) (e_un (ev_t rfl) rfl) ?_
      refine .m rfl ?_
      refine .k ?_
      refine .k ?_
      refine .k ?_
      refine .k ?_
      refine .k ?_
      refine .k ?_
      refine .k ?_
      refine .k ?_
      refine .k ?_
      refine .t (VB (true)) (e_pick (t := true) (ev_t rfl) rfl) ?_
      refine .nil ?_
      refine CdOK.cond_true rfl ?_
      refine .seq ?_
      refine .region ?_
      refine .t (VB (false)) (e_as rfl) ?_
      refine .nil ?_
      refine CdOK.ret ?_
      refine ⟨.inr rfl, _, rfl, h, _, _, rfl, rfl, hC, ((renFlV rfl) : RenV _ _ _ _ (VB (false))), ?_⟩
      have hr := hm.ret; replace hr := Ev.ret hr; cases hr; exact ⟨rfl, rfl⟩
    ·intro c48; replace hm := hm.ifn c48
     refine .exit ?_
     refine .re (σ := []) (X := []) (L' := []) rfl rfl hC (by decide) .nil .nil ?_
     exact ⟨(), hm.ret, .nil, rfl⟩
   ·intro _ T0 hm
    refine CdOK.seq ?_
    refine .region ?_
    refine .t (VB (true)) (e_as rfl) ?_
    refine .nil ?_
    refine CdOK.ret ?_
    refine ⟨.inr rfl, _, rfl, h, _, _, rfl, rfl, hC, ((renFlV rfl) : RenV _ _ _ _ (VB (true))), ?_⟩
    cases hm.ret; exact ⟨rfl, rfl⟩
/- pagemend/pagemendref08.Mode -/
def ref08_Mode (t_ : Locks) (tx : Int) (k_ : Lock) : Option Int := ((ref08_Valid t_).bind fun (x1 : Bool) => (if (!x1) = true then some 0 else ((ref08_mode1 t_ tx k_).bind fun (x4 : Int) => some x4)))
theorem ref08_Mode_ok {h : Heap} {t_ : Locks} {tx : Int} {k_ : Lock}   {r : Int} (hm : ref08_Mode t_ tx k_ = some r) : FnOK Try.prog 52 [.o (.agg [.L 4 (t_.held.map Grant.cs), .L 4 (t_.waiting.map Grant.cs)]), VI (tx), .o (.agg [I (k_.page), I (k_.slot)])] h (fun v h' => v = VI (r) ∧ h' = h) := by
 refine FnOK.fin ?_
 refine FnOK.bodyC (N := 14) Try.func52 rfl rfl rfl (fun hC => ?_)
 replace hm := Ev.of hm
 rw [ref08_Mode.eq_1] at hm
 show CdOK _ _ _ (look _ [(0, .o (.agg [.L 4 (t_.held.map Grant.cs), .L 4 (t_.waiting.map Grant.cs)])), (1, VI (tx)), (2, .o (.agg [I (k_.page), I (k_.slot)]))]) (h ++ ([] : Heap)) _
 refine .seq ?_
 refine .region ?_
 refine .t (.o (.c (.ptr (h.length + 0) 0))) (e_boxN (L' := [⟨[.L 4 (t_.held.map Grant.cs), .L 4 (t_.waiting.map Grant.cs)], true, true⟩]) rfl (ev_t rfl) rfl rfl) ?_
 refine .t (.o (.c (.ptr (h.length + 1) 0))) (e_boxN (L' := [⟨[.L 4 (t_.held.map Grant.cs), .L 4 (t_.waiting.map Grant.cs)], true, true⟩, ⟨[I (k_.page), I (k_.slot)], true, true⟩]) rfl (ev_t rfl) rfl rfl) ?_
 refine .t (VI (0)) (e_as rfl) ?_
 refine .nil ?_
 refine CdOK.seq ?_
 refine .seq ?_
 refine .region ?_
 refine .t _ (e_ldbA (ev_t rfl) ty69 (bx rfl rfl) rfl rfl) ?_
 obtain ⟨x1, e1, hm⟩ := hm.call
 refine .cl rfl rfl rfl rfl pl47 (R2.wk _) (ref08_Valid_ok    e1) ?_
 rintro _ _ ⟨rfl, rfl⟩
 refine .t (VB ((!x1))) (e_un (ev_t rfl) rfl) ?_
 refine .nil ?_
 refine CdOK.condB (ev_t rfl) ?_ ?_
 ·intro c2; replace hm := hm.ifp c2
  refine .seq ?_
  refine .region ?_
  refine .t (VI (0)) (e_as rfl) ?_
  refine .nil ?_
  refine CdOK.ret ?_
  refine ⟨.inr rfl, _, rfl, h, _, _, rfl, rfl, hC, ((renFlV rfl) : RenV _ _ _ _ (VI (0))), ?_⟩
  cases hm.ret; exact ⟨rfl, rfl⟩
 ·intro c3; replace hm := hm.ifn c3
  refine .skip ?_
  refine CdOK.seq ?_
  refine .region ?_
  refine .t _ (e_ldbA (ev_t rfl) ty69 (bx rfl rfl) rfl rfl) ?_
  refine .m rfl ?_
  refine .t _ (e_ldbA (ev_t rfl) ty71 (bx rfl rfl) rfl rfl) ?_
  obtain ⟨x4, e4, hm⟩ := hm.call
  refine .cl rfl rfl rfl rfl pl120 (R2.wk _) (ref08_mode1_ok    e4) ?_
  rintro _ _ ⟨rfl, rfl⟩
  refine .a rfl ?_
  refine .nil ?_
  refine CdOK.ret ?_
  refine ⟨.inr rfl, _, rfl, h, _, _, rfl, rfl, hC, ((renFlV rfl) : RenV _ _ _ _ (VI (x4))), ?_⟩
  cases hm.ret; exact ⟨rfl, rfl⟩
/- pagemend/pagemendref08.Waiting -/
def ref08_Waiting.l1 (t_ : Locks) (tx : Int) : Nat → Int → Grant → Option (Sum Grant (Grant × Bool))
  | 0, _, _ => none
  | kk6 + 1, i4, bx5 => (if i4 < (t_.waiting.length : Int) then (if (0 : Int) ≤ i4 ∧ i4 < (t_.waiting.length : Int) then (if ((gd t_.waiting i4).tx) = tx then (if (0 : Int) ≤ i4 ∧ i4 < (t_.waiting.length : Int) then some (Sum.inr ((gd t_.waiting i4), true)) else none) else ref08_Waiting.l1 t_ tx kk6 (w64 (i4 + 1)) bx5) else none) else some (Sum.inl bx5))
def ref08_Waiting (t_ : Locks) (tx : Int) : Option (Grant × Bool) := ((ref08_Valid t_).bind fun (x1 : Bool) => (if x1 = true then ((ref08_Waiting.l1 t_ tx FU 0 (⟨0, (⟨0, 0⟩ : Lock), 0⟩ : Grant)).bind fun (z : Sum Grant (Grant × Bool)) => match z with | .inl (s13 : Grant) => some ((⟨0, (⟨0, 0⟩ : Lock), 0⟩ : Grant), false) | .inr r => some r) else some ((⟨0, (⟨0, 0⟩ : Lock), 0⟩ : Grant), false)))
theorem ref08_Waiting_ok {h : Heap} {t_ : Locks} {tx : Int}   {r : (Grant × Bool)} (hm : ref08_Waiting t_ tx = some r) : FnOK Try.prog 56 [.o (.agg [.L 4 (t_.held.map Grant.cs), .L 4 (t_.waiting.map Grant.cs)]), VI (tx)] h (fun v h' => v = .tup [.agg [I (r.1.tx), I (r.1.lock.page), I (r.1.lock.slot), I (r.1.mode)], .c (Bo (r.2))] ∧ h' = h) := by
 refine FnOK.fin ?_
 refine FnOK.bodyC (N := 30) Try.func56 rfl rfl rfl (fun hC => ?_)
 replace hm := Ev.of hm
 rw [ref08_Waiting.eq_1] at hm
 show CdOK _ _ _ (look _ [(0, .o (.agg [.L 4 (t_.held.map Grant.cs), .L 4 (t_.waiting.map Grant.cs)])), (1, VI (tx))]) (h ++ ([] : Heap)) _
 refine .seq ?_
 refine .region ?_
 refine .t (.o (.c (.ptr (h.length + 0) 0))) (e_boxN (L' := [⟨[.L 4 (t_.held.map Grant.cs), .L 4 (t_.waiting.map Grant.cs)], true, true⟩]) rfl (ev_t rfl) rfl rfl) ?_
 refine .t (.o (.c (.ptr (h.length + 1) 0))) (e_allocN (L' := [⟨[.L 4 (t_.held.map Grant.cs), .L 4 (t_.waiting.map Grant.cs)], true, true⟩, ⟨[I (0), I (0), I (0), I (0)], true, true⟩]) rfl zo75 rfl rfl) ?_
 refine .t (VB (false)) (e_as rfl) ?_
 refine .nil ?_
 refine CdOK.seq ?_
 refine .seq ?_
 refine .region ?_
 refine .t _ (e_ldbA (ev_t rfl) ty69 (bx rfl rfl) rfl rfl) ?_
 obtain ⟨x1, e1, hm⟩ := hm.call
 refine .cl rfl rfl rfl rfl pl47 (R2.wk _) (ref08_Valid_ok    e1) ?_
 rintro _ _ ⟨rfl, rfl⟩
 refine .nil ?_
 refine CdOK.condB (ev_t rfl) ?_ ?_
 ·intro c2; replace hm := hm.ifp c2
  refine .seq ?_
  refine .region ?_
  refine .t (VI (0)) (e_as rfl) ?_
  refine .nil ?_
  replace hm := hm.bnd
  refine CdOK.joinT (σ := Grant) (fun s => Sum.inl s) hm (fun s => [(4, .o (.c (.ptr (h.length + 0) 0)))]) (fun s => h ++ ([⟨[I (s.tx), I (s.lock.page), I (s.lock.slot), I (s.mode)], true, true⟩] : Heap)) ?_ ?_
  ·intro hm
   refine .block ?_
   refine .loopE (σ := (Int × Grant)) (fun k s => Ev (ref08_Waiting.l1 t_ tx k s.1 s.2) _) (fun s => [(1, VI (tx)), (2, .o (.c (.ptr (h.length + 0) 0))), (4, .o (.c (.ptr (h.length + 1) 0))), (6, VI (s.1))]) (fun s => h ++ ([⟨[.L 4 (t_.held.map Grant.cs), .L 4 (t_.waiting.map Grant.cs)], true, true⟩, ⟨[I (s.2.tx), I (s.2.lock.page), I (s.2.lock.slot), I (s.2.mode)], true, true⟩] : Heap)) FU (0, (⟨0, (⟨0, 0⟩ : Lock), 0⟩ : Grant)) hm (.cons rfl (.cons rfl (.cons rfl (.cons rfl .nil)))) rfl ?_
   rintro kk6 ⟨i4, bx5⟩ T0 hm
   replace hm : Ev (ref08_Waiting.l1 t_ tx kk6 i4 bx5) _ := hm
   cases kk6 with
   | zero => exact (Ev.non hm).elim
   | succ kk6 =>
   rw [ref08_Waiting.l1.eq_2] at hm
   show CdOK _ _ _ (look T0 [(1, VI (tx)), (2, .o (.c (.ptr (h.length + 0) 0))), (4, .o (.c (.ptr (h.length + 1) 0))), (6, VI (i4))]) (h ++ ([⟨[.L 4 (t_.held.map Grant.cs), .L 4 (t_.waiting.map Grant.cs)], true, true⟩, ⟨[I (bx5.tx), I (bx5.lock.page), I (bx5.lock.slot), I (bx5.mode)], true, true⟩] : Heap)) _
   refine .seq ?_
   refine .seq ?_
   refine .region ?_
   refine .m rfl ?_
   refine .t _ (e_fa' fa69_1 (ev_t rfl)) ?_
   refine .t _ (e_ldb1 (ev_t rfl) ty67 (bx rfl rfl) rfl) ?_
   refine .t (VI ((t_.waiting.length : Int))) (e_lenM (ev_t rfl) is67) ?_
   refine .t (VB (decide (i4 < (t_.waiting.length : Int)))) (e_bin (ev_t rfl) (ev_t rfl) rfl rfl) ?_
   refine .nil ?_
   refine CdOK.condD (ev_t rfl) ?_ ?_
   ·intro c7; replace hm := hm.ifp c7
    refine .skip ?_
    refine CdOK.seq ?_
    refine .block ?_
    refine .seq ?_
    refine .region ?_
    refine .t _ (e_fa' fa69_1 (ev_t rfl)) ?_
    refine .t _ (e_ldb1 (ev_t rfl) ty67 (bx rfl rfl) rfl) ?_
    refine .m rfl ?_
    obtain ⟨c8, hm⟩ := hm.ifs
    refine .t (.o (.c (.rp [I ((gd t_.waiting i4).tx), I ((gd t_.waiting i4).lock.page), I ((gd t_.waiting i4).lock.slot), I ((gd t_.waiting i4).mode)]))) (e_ixM (f := Grant.cs) (l := t_.waiting) (i := i4) (ev_t rfl) (ev_t rfl) el67 c8) ?_
    refine .t _ (e_faR fa75_0 (ev_t rfl) rfl) ?_
    refine .t _ (e_ldR1 (ev_t rfl) ty3 rfl) ?_
    refine .m rfl ?_
    refine .t (VB (decide (((gd t_.waiting i4).tx) = tx))) (e_eqK (ev_t rfl) (ev_t rfl)) ?_
    refine .nil ?_
    refine CdOK.condD (ev_t rfl) ?_ ?_
    ·intro c9; replace hm := hm.ifp c9
     refine .seq ?_
     refine .region ?_
     refine .t _ (e_fa' fa69_1 (ev_t rfl)) ?_
     refine .t _ (e_ldb1 (ev_t rfl) ty67 (bx rfl rfl) rfl) ?_
     refine .m rfl ?_
     obtain ⟨c10, hm⟩ := hm.ifs
     refine .t (.o (.c (.rp [I ((gd t_.waiting i4).tx), I ((gd t_.waiting i4).lock.page), I ((gd t_.waiting i4).lock.slot), I ((gd t_.waiting i4).mode)]))) (e_ixM (f := Grant.cs) (l := t_.waiting) (i := i4) (ev_t rfl) (ev_t rfl) el67 c10) ?_
     refine .t _ (e_ldRA (ev_t rfl) ty75 rfl rfl) ?_
     refine .s0 rfl rfl (e_stN (L' := [⟨[.L 4 (t_.held.map Grant.cs), .L 4 (t_.waiting.map Grant.cs)], true, true⟩, ⟨[I ((gd t_.waiting i4).tx), I ((gd t_.waiting i4).lock.page), I ((gd t_.waiting i4).lock.slot), I ((gd t_.waiting i4).mode)], true, true⟩]) rfl (ev_t rfl) (ev_t rfl) ty75 rfl rfl rfl rfl rfl) ?_
     refine .t (VB (true)) (e_as rfl) ?_
     refine .nil ?_
     refine CdOK.ret ?_
     refine ⟨.inr rfl, _, (resA_c (look_find rfl) (eLoad_A ty75 (bx rfl rfl) rfl rfl rfl) (resA_t (look_find rfl) resA_n)), h, _, _, rfl, rfl, hC, ((renFlV rfl) : RenV _ _ _ _ (.tup [.agg [I ((gd t_.waiting i4).tx), I ((gd t_.waiting i4).lock.page), I ((gd t_.waiting i4).lock.slot), I ((gd t_.waiting i4).mode)], .c (Bo true)])), ?_⟩
     have hr := hm.ret; replace hr := Ev.ret hr; cases hr; exact ⟨rfl, rfl⟩
    ·intro c11; replace hm := hm.ifn c11
     refine .skip ?_
     refine CdOK.region ?_
     refine .m rfl ?_
     refine .t (VI ((w64 (i4 + 1)))) (e_bin (ev_t rfl) rfl rfl rfl) ?_
     refine .a rfl ?_
     refine .nil ?_
     refine .id ?_
     exact ⟨_, ((w64 (i4 + 1)), bx5), Nat.lt_succ_self _, hm, (.cons rfl (.cons rfl (.cons rfl (.cons rfl .nil)))), rfl⟩
   ·intro c12; replace hm := hm.ifn c12
    refine .exit ?_
    refine .re (σ := [1]) (X := [(4, .o (.c (.ptr (h.length + 0) 0)))]) (L' := [⟨[I (bx5.tx), I (bx5.lock.page), I (bx5.lock.slot), I (bx5.mode)], true, true⟩]) rfl rfl hC (by decide) (.obj 1 rfl (renFl rfl) .nil) (.cons (.o (.c (.ptr 1 0 _ rfl))) .nil) ?_
    exact ⟨bx5, hm.ret, (.cons rfl .nil), rfl⟩
  ·rintro bx3 T0 hm
   refine CdOK.seq ?_
   refine .region ?_
   refine .t (.o (.agg [I (0), I (0), I (0), I (0)])) (e_bld (cs := [I (0), I (0), I (0), I (0)]) zo75 bl75 rfl rfl) ?_
   refine .s0 rfl rfl (e_stN (L' := [⟨[I (0), I (0), I (0), I (0)], true, true⟩]) rfl (ev_t rfl) (ev_t rfl) ty75 rfl rfl rfl rfl rfl) ?_
   refine .t (VB (false)) (e_as rfl) ?_
   refine .nil ?_
   refine CdOK.ret ?_
   refine ⟨.inr rfl, _, (resA_c (look_find rfl) (eLoad_A ty75 (bx rfl rfl) rfl rfl rfl) (resA_t (look_find rfl) resA_n)), h, _, _, rfl, rfl, hC, ((renFlV rfl) : RenV _ _ _ _ (.tup [.agg [I (0), I (0), I (0), I (0)], .c (Bo false)])), ?_⟩
   cases hm.ret; exact ⟨rfl, rfl⟩
 ·intro c14; replace hm := hm.ifn c14
  refine .skip ?_
  refine CdOK.seq ?_
  refine .region ?_
  refine .t (.o (.agg [I (0), I (0), I (0), I (0)])) (e_bld (cs := [I (0), I (0), I (0), I (0)]) zo75 bl75 rfl rfl) ?_
  refine .s0 rfl rfl (e_stN (L' := [⟨[.L 4 (t_.held.map Grant.cs), .L 4 (t_.waiting.map Grant.cs)], true, true⟩, ⟨[I (0), I (0), I (0), I (0)], true, true⟩]) rfl (ev_t rfl) (ev_t rfl) ty75 rfl rfl rfl rfl rfl) ?_
  refine .t (VB (false)) (e_as rfl) ?_
  refine .nil ?_
  refine CdOK.ret ?_
  refine ⟨.inr rfl, _, (resA_c (look_find rfl) (eLoad_A ty75 (bx rfl rfl) rfl rfl rfl) (resA_t (look_find rfl) resA_n)), h, _, _, rfl, rfl, hC, ((renFlV rfl) : RenV _ _ _ _ (.tup [.agg [I (0), I (0), I (0), I (0)], .c (Bo false)])), ?_⟩
  cases hm.ret; exact ⟨rfl, rfl⟩
/- pagemend/pagemendref08.SameGrants -/
def ref08_SameGrants.l1 (a_ : (List Grant)) (b_ : (List Grant)) : Nat → Int → Option (Sum Unit Bool)
  | 0, _ => none
  | kk4 + 1, i3 => (if i3 < (a_.length : Int) then (if (0 : Int) ≤ i3 ∧ i3 < (a_.length : Int) then (if (0 : Int) ≤ i3 ∧ i3 < (b_.length : Int) then (if ¬ (gd a_ i3) = (gd b_ i3) then some (Sum.inr false) else ref08_SameGrants.l1 a_ b_ kk4 (w64 (i3 + 1))) else none) else none) else some (Sum.inl ()))
def ref08_SameGrants (a_ : (List Grant)) (b_ : (List Grant)) : Option Bool := (if (a_.length : Int) ≠ (b_.length : Int) then some false else ((ref08_SameGrants.l1 a_ b_ FU 0).bind fun (z : Sum Unit Bool) => match z with | .inl (s11 : Unit) => some true | .inr r => some r))
theorem ref08_SameGrants_ok {h : Heap} {a_ : (List Grant)} {b_ : (List Grant)}   {r : Bool} (hm : ref08_SameGrants a_ b_ = some r) : FnOK Try.prog 123 [.o (.c (.L 4 (a_.map Grant.cs))), .o (.c (.L 4 (b_.map Grant.cs)))] h (fun v h' => v = VB (r) ∧ h' = h) := by
 refine FnOK.fin ?_
 refine FnOK.bodyC (N := 26) Try.func123 rfl rfl rfl (fun hC => ?_)
 replace hm := Ev.of hm
 rw [ref08_SameGrants.eq_1] at hm
 show CdOK _ _ _ (look _ [(0, .o (.c (.L 4 (a_.map Grant.cs)))), (1, .o (.c (.L 4 (b_.map Grant.cs))))]) (h ++ ([] : Heap)) _
 refine .seq ?_
 refine .region ?_
 refine .t (VB (false)) (e_as rfl) ?_
 refine .nil ?_
 refine CdOK.seq ?_
 refine .seq ?_
 refine .region ?_
 refine .m rfl ?_
 refine .t (VI ((a_.length : Int))) (e_lenM (ev_t rfl) is67) ?_
 refine .m rfl ?_
 refine .t (VI ((b_.length : Int))) (e_lenM (ev_t rfl) is67) ?_
 refine .t (VB (decide ((a_.length : Int) ≠ (b_.length : Int)))) (e_neK (ev_t rfl) (ev_t rfl)) ?_
 refine .nil ?_
 refine CdOK.condD (ev_t rfl) ?_ ?_
 ·intro c1; replace hm := hm.ifp c1
  refine .seq ?_
  refine .region ?_
  refine .t (VB (false)) (e_as rfl) ?_
  refine .nil ?_
  refine CdOK.ret ?_
  refine ⟨.inr rfl, _, rfl, h, _, _, rfl, rfl, hC, ((renFlV rfl) : RenV _ _ _ _ (VB (false))), ?_⟩
  cases hm.ret; exact ⟨rfl, rfl⟩
 ·intro c2; replace hm := hm.ifn c2
  refine .skip ?_
  refine CdOK.seq ?_
  refine .seq ?_
  refine .region ?_
  refine .t (VI (0)) (e_as rfl) ?_
  refine .nil ?_
  replace hm := hm.bnd
  refine CdOK.joinT (σ := Unit) (fun s => Sum.inl ()) hm (fun s => []) (fun s => h ++ ([] : Heap)) ?_ ?_
  ·intro hm
   refine .block ?_
   refine .loopE (σ := Int) (fun k s => Ev (ref08_SameGrants.l1 a_ b_ k s) _) (fun s => [(0, .o (.c (.L 4 (a_.map Grant.cs)))), (1, .o (.c (.L 4 (b_.map Grant.cs)))), (5, VI (s))]) (fun s => h ++ ([] : Heap)) FU 0 hm (.cons rfl (.cons rfl (.cons rfl .nil))) rfl ?_
   rintro kk4 i3 T0 hm
   replace hm : Ev (ref08_SameGrants.l1 a_ b_ kk4 i3) _ := hm
   cases kk4 with
   | zero => exact (Ev.non hm).elim
   | succ kk4 =>
   rw [ref08_SameGrants.l1.eq_2] at hm
   show CdOK _ _ _ (look T0 [(0, .o (.c (.L 4 (a_.map Grant.cs)))), (1, .o (.c (.L 4 (b_.map Grant.cs)))), (5, VI (i3))]) (h ++ ([] : Heap)) _
   refine .seq ?_
   refine .seq ?_
   refine .region ?_
   refine .m rfl ?_
   refine .m rfl ?_
   refine .t (VI ((a_.length : Int))) (e_lenM (ev_t rfl) is67) ?_
   refine .t (VB (decide (i3 < (a_.length : Int)))) (e_bin (ev_t rfl) (ev_t rfl) rfl rfl) ?_
   refine .nil ?_
   refine CdOK.condD (ev_t rfl) ?_ ?_
   ·intro c5; replace hm := hm.ifp c5
    refine .skip ?_
    refine CdOK.seq ?_
    refine .block ?_
    refine .seq ?_
    refine .draw fol (by decide +kernel) ?_
    refine .m rfl ?_
    refine .m rfl ?_
    obtain ⟨c6, hm⟩ := hm.ifs
    refine .t (.o (.c (.rp [I ((gd a_ i3).tx), I ((gd a_ i3).lock.page), I ((gd a_ i3).lock.slot), I ((gd a_ i3).mode)]))) (e_ixM (f := Grant.cs) (l := a_) (i := i3) (ev_t rfl) (ev_t rfl) el67 c6) ?_
    refine .t _ (e_ldRA (ev_t rfl) ty75 rfl rfl) ?_
    refine .m rfl ?_
    refine .m rfl ?_
    obtain ⟨c7, hm⟩ := hm.ifs
    refine .t (.o (.c (.rp [I ((gd b_ i3).tx), I ((gd b_ i3).lock.page), I ((gd b_ i3).lock.slot), I ((gd b_ i3).mode)]))) (e_ixM (f := Grant.cs) (l := b_) (i := i3) (ev_t rfl) (ev_t rfl) el67 c7) ?_
    refine .t _ (e_ldRA (ev_t rfl) ty75 rfl rfl) ?_
    refine .t (VB (decide (¬ (gd a_ i3) = (gd b_ i3)))) (e_eqA (ev_t rfl) (ev_t rfl) rfl rfl (eqs75_neq (gd a_ i3) (gd b_ i3))) ?_
    refine .nil ?_
    refine CdOK.condD (ev_t rfl) ?_ ?_
    ·intro c8; replace hm := hm.ifp c8
     refine .seq ?_
     refine .region ?_
     refine .t (VB (false)) (e_as rfl) ?_
     refine .nil ?_
     refine CdOK.ret ?_
     refine ⟨.inr rfl, _, rfl, h, _, _, rfl, rfl, hC, ((renFlV rfl) : RenV _ _ _ _ (VB (false))), ?_⟩
     have hr := hm.ret; replace hr := Ev.ret hr; cases hr; exact ⟨rfl, rfl⟩
    ·intro c9; replace hm := hm.ifn c9
     refine .skip ?_
     refine CdOK.region ?_
     refine .m rfl ?_
     refine .t (VI ((w64 (i3 + 1)))) (e_bin (ev_t rfl) rfl rfl rfl) ?_
     refine .a rfl ?_
     refine .nil ?_
     refine .id ?_
     exact ⟨_, (w64 (i3 + 1)), Nat.lt_succ_self _, hm, (.cons rfl (.cons rfl (.cons rfl .nil))), rfl⟩
   ·intro c10; replace hm := hm.ifn c10
    refine .exit ?_
    refine .id ?_
    exact ⟨(), hm.ret, .nil, rfl⟩
  ·intro _ T0 hm
   refine CdOK.seq ?_
   refine .region ?_
   refine .t (VB (true)) (e_as rfl) ?_
   refine .nil ?_
   refine CdOK.ret ?_
   refine ⟨.inr rfl, _, rfl, h, _, _, rfl, rfl, hC, ((renFlV rfl) : RenV _ _ _ _ (VB (true))), ?_⟩
   cases hm.ret; exact ⟨rfl, rfl⟩
/- pagemend/pagemendref08.Same -/
def ref08_Same (a_ : Locks) (b_ : Locks) : Option Bool := ((ref08_SameGrants a_.held b_.held).bind fun (x1 : Bool) => (if x1 = true then ((ref08_SameGrants a_.waiting b_.waiting).bind fun (x2 : Bool) => some x2) else some false))
theorem ref08_Same_ok {h : Heap} {a_ : Locks} {b_ : Locks}   {r : Bool} (hm : ref08_Same a_ b_ = some r) : FnOK Try.prog 51 [.o (.agg [.L 4 (a_.held.map Grant.cs), .L 4 (a_.waiting.map Grant.cs)]), .o (.agg [.L 4 (b_.held.map Grant.cs), .L 4 (b_.waiting.map Grant.cs)])] h (fun v h' => v = VB (r) ∧ h' = h) := by
 refine FnOK.fin ?_
 refine FnOK.bodyC (N := 17) Try.func51 rfl rfl rfl (fun hC => ?_)
 replace hm := Ev.of hm
 rw [ref08_Same.eq_1] at hm
 show CdOK _ _ _ (look _ [(0, .o (.agg [.L 4 (a_.held.map Grant.cs), .L 4 (a_.waiting.map Grant.cs)])), (1, .o (.agg [.L 4 (b_.held.map Grant.cs), .L 4 (b_.waiting.map Grant.cs)]))]) (h ++ ([] : Heap)) _
 refine .seq ?_
 refine .region ?_
 refine .t (.o (.c (.ptr (h.length + 0) 0))) (e_boxN (L' := [⟨[.L 4 (a_.held.map Grant.cs), .L 4 (a_.waiting.map Grant.cs)], true, true⟩]) rfl (ev_t rfl) rfl rfl) ?_
 refine .t (.o (.c (.ptr (h.length + 1) 0))) (e_boxN (L' := [⟨[.L 4 (a_.held.map Grant.cs), .L 4 (a_.waiting.map Grant.cs)], true, true⟩, ⟨[.L 4 (b_.held.map Grant.cs), .L 4 (b_.waiting.map Grant.cs)], true, true⟩]) rfl (ev_t rfl) rfl rfl) ?_
 refine .t (VB (false)) (e_as rfl) ?_
 refine .nil ?_
 refine CdOK.seq ?_
 refine .region ?_
 refine .t _ (e_fa' fa69_0 (ev_t rfl)) ?_
 refine .t _ (e_ldb1 (ev_t rfl) ty67 (bx rfl rfl) rfl) ?_
 refine .t _ (e_fa' fa69_0 (ev_t rfl)) ?_
 refine .t _ (e_ldb1 (ev_t rfl) ty67 (bx rfl rfl) rfl) ?_
 obtain ⟨x1, e1, hm⟩ := hm.call
 cases x1 with
 | true =>
  replace hm := hm.ifp rfl
  refine .cl rfl rfl rfl rfl pl123 (R2.wk _) (ref08_SameGrants_ok    e1) ?_
  rintro _ _ ⟨rfl, rfl⟩
  refine .m rfl ?_
  refine .t _ (e_fa' fa69_1 (ev_t rfl)) ?_
  refine .t _ (e_ldb1 (ev_t rfl) ty67 (bx rfl rfl) rfl) ?_
  refine .t _ (e_fa' fa69_1 (ev_t rfl)) ?_
  refine .t _ (e_ldb1 (ev_t rfl) ty67 (bx rfl rfl) rfl) ?_
  obtain ⟨x2, e2, hm⟩ := hm.call
  refine .cl rfl rfl rfl rfl pl123 (R2.wk _) (ref08_SameGrants_ok    e2) ?_
  rintro _ _ ⟨rfl, rfl⟩
  refine .t (VB (x2)) (e_pick (t := true) (ev_t rfl) (ev_t rfl)) ?_
  refine .a rfl ?_
  refine .nil ?_
  refine CdOK.ret ?_
  refine ⟨.inr rfl, _, rfl, h, _, _, rfl, rfl, hC, ((renFlV rfl) : RenV _ _ _ _ (VB (x2))), ?_⟩
  cases hm.ret; exact ⟨rfl, rfl⟩
 | false =>
  replace hm := hm.ifn Bool.false_ne_true
  refine .cl rfl rfl rfl rfl pl123 (R2.wk _) (ref08_SameGrants_ok    e1) ?_
  rintro _ _ ⟨rfl, rfl⟩
  refine .m rfl ?_
  refine .k ?_
  refine .k ?_
  refine .k ?_
  refine .k ?_
  refine .k ?_
  refine .t (VB (false)) (e_pick (t := false) (ev_t rfl) rfl) ?_
  refine .a rfl ?_
  refine .nil ?_
  refine CdOK.ret ?_
  refine ⟨.inr rfl, _, rfl, h, _, _, rfl, rfl, hC, ((renFlV rfl) : RenV _ _ _ _ (VB (false))), ?_⟩
  cases hm.ret; exact ⟨rfl, rfl⟩
/- pagemend/pagemendref08.hold -/
def ref08_hold.l1 (l_ : (List Grant)) (g_ : Grant) : Nat → (List Grant) → Bool → Int → Option ((List Grant) × Bool)
  | 0, _, _, _ => none
  | kk6 + 1, out3, done4, i5 => (if i5 < (l_.length : Int) then (((if done4 = true then some (out3, done4) else (if (0 : Int) ≤ i5 ∧ i5 < (l_.length : Int) then ((ref08_less (gd l_ i5) g_).bind fun (x13 : Bool) => (if (!x13) = true then (if (out3).length + ([g_] : List Grant).length ≤ 4398046511104 then some ((out3 ++ ([g_] : List Grant)), true) else none) else some (out3, done4))) else none))).bind fun (s17 : ((List Grant) × Bool)) => (if (0 : Int) ≤ i5 ∧ i5 < (l_.length : Int) then (if ((gd l_ i5).tx) ≠ g_.tx then (if (0 : Int) ≤ i5 ∧ i5 < (l_.length : Int) then (if (s17.1).length + ([(gd l_ i5)] : List Grant).length ≤ 4398046511104 then ref08_hold.l1 l_ g_ kk6 (s17.1 ++ ([(gd l_ i5)] : List Grant)) s17.2 (w64 (i5 + 1)) else none) else none) else (if (0 : Int) ≤ i5 ∧ i5 < (l_.length : Int) then (if ¬ (gd l_ i5).lock = g_.lock then (if (0 : Int) ≤ i5 ∧ i5 < (l_.length : Int) then (if (s17.1).length + ([(gd l_ i5)] : List Grant).length ≤ 4398046511104 then ref08_hold.l1 l_ g_ kk6 (s17.1 ++ ([(gd l_ i5)] : List Grant)) s17.2 (w64 (i5 + 1)) else none) else none) else ref08_hold.l1 l_ g_ kk6 s17.1 s17.2 (w64 (i5 + 1))) else none)) else none)) else some (out3, done4))
def ref08_hold (l_ : (List Grant)) (g_ : Grant) : Option (List Grant) := ((ref08_hold.l1 l_ g_ FU ([] : List Grant) false 0).bind fun (s29 : ((List Grant) × Bool)) => (if (!s29.2) = true then (if (s29.1).length + ([g_] : List Grant).length ≤ 4398046511104 then some (s29.1 ++ ([g_] : List Grant)) else none) else some s29.1))
theorem ref08_hold_ok {h : Heap} {l_ : (List Grant)} {g_ : Grant}   {r : (List Grant)} (hm : ref08_hold l_ g_ = some r) : FnOK Try.prog 185 [.o (.c (.L 4 (l_.map Grant.cs))), .o (.agg [I (g_.tx), I (g_.lock.page), I (g_.lock.slot), I (g_.mode)])] h (fun v h' => v = .o (.c (.L 4 (r.map Grant.cs))) ∧ h' = h) := by
 refine FnOK.fin ?_
 refine FnOK.bodyC (N := 61) Try.func185 rfl rfl rfl (fun hC => ?_)
 replace hm := Ev.of hm
 rw [ref08_hold.eq_1] at hm
 show CdOK _ _ _ (look _ [(0, .o (.c (.L 4 (l_.map Grant.cs)))), (1, .o (.agg [I (g_.tx), I (g_.lock.page), I (g_.lock.slot), I (g_.mode)]))]) (h ++ ([] : Heap)) _
 refine .seq ?_
 refine .region ?_
 refine .t (.o (.c (.ptr (h.length + 0) 0))) (e_boxN (L' := [⟨[I (g_.tx), I (g_.lock.page), I (g_.lock.slot), I (g_.mode)], true, true⟩]) rfl (ev_t rfl) rfl rfl) ?_
 refine .t (.o (.c (.v (.slice none 0 0)))) (e_as rfl) ?_
 refine .nil ?_
 refine CdOK.seq ?_
 refine .region ?_
 refine .t (.o (.c (.v (.slice none 0 0)))) (e_as rfl) ?_
 refine .nil ?_
 refine CdOK.seq ?_
 refine .region ?_
 refine .t (VB (false)) (e_as rfl) ?_
 refine .nil ?_
 refine CdOK.seq ?_
 refine .seq ?_
 refine .region ?_
 refine .t (VI (0)) (e_as rfl) ?_
 refine .nil ?_
 replace hm := hm.bnd
 refine CdOK.joinT (σ := ((List Grant) × Bool × Bool)) (fun s => (s.1, s.2.1)) hm (fun s => [(3, .o (.c (.ptr (h.length + 0) 0))), (5, .o (.c (.g (h.length + 1) ((s.1).length) 4 s.2.2))), (6, VB (s.2.1))]) (fun s => h ++ ([⟨[I (g_.tx), I (g_.lock.page), I (g_.lock.slot), I (g_.mode)], true, true⟩, ⟨(s.1.map Grant.cs).flatten, true, s.2.2⟩] : Heap)) ?_ ?_
 ·intro hm
  refine .block ?_
  refine .re (σ := [0, 1001]) (X := [(0, .o (.c (.L 4 (l_.map Grant.cs)))), (3, .o (.c (.ptr (h.length + 0) 0))), (5, .o (.c (.g (h.length + 1) ((([] : List Grant)).length) 4 false))), (6, VB (false)), (7, VI (0))]) (L' := [⟨[I (g_.tx), I (g_.lock.page), I (g_.lock.slot), I (g_.mode)], true, true⟩, ⟨(([] : List Grant).map Grant.cs).flatten, true, false⟩]) rfl rfl hC (by decide) (.obj 0 rfl (renFl rfl) (.dead 1001 _ rfl .nil)) (.cons (renFlV rfl) (.cons (.o (.c (.ptr 0 0 _ rfl))) (.cons (.o (.c (.nilg _ _))) (.cons (renFlV rfl) (.cons (renFlV rfl) .nil))))) ?_
  refine .loopE (σ := ((List Grant) × Bool × Int × Bool)) (fun k s => Ev (ref08_hold.l1 l_ g_ k s.1 s.2.1 s.2.2.1) _) (fun s => [(0, .o (.c (.L 4 (l_.map Grant.cs)))), (3, .o (.c (.ptr (h.length + 0) 0))), (5, .o (.c (.g (h.length + 1) ((s.1).length) 4 s.2.2.2))), (6, VB (s.2.1)), (7, VI (s.2.2.1))]) (fun s => h ++ ([⟨[I (g_.tx), I (g_.lock.page), I (g_.lock.slot), I (g_.mode)], true, true⟩, ⟨(s.1.map Grant.cs).flatten, true, s.2.2.2⟩] : Heap)) FU (([] : List Grant), false, 0, false) hm (.cons rfl (.cons rfl (.cons rfl (.cons rfl (.cons rfl .nil))))) rfl ?_
  rintro kk6 ⟨out3, done4, i5, out3v⟩ T0 hm
  replace hm : Ev (ref08_hold.l1 l_ g_ kk6 out3 done4 i5) _ := hm
  cases kk6 with
  | zero => exact (Ev.non hm).elim
  | succ kk6 =>
  rw [ref08_hold.l1.eq_2] at hm
  show CdOK _ _ _ (look T0 [(0, .o (.c (.L 4 (l_.map Grant.cs)))), (3, .o (.c (.ptr (h.length + 0) 0))), (5, .o (.c (.g (h.length + 1) ((out3).length) 4 out3v))), (6, VB (done4)), (7, VI (i5))]) (h ++ ([⟨[I (g_.tx), I (g_.lock.page), I (g_.lock.slot), I (g_.mode)], true, true⟩, ⟨(out3.map Grant.cs).flatten, true, out3v⟩] : Heap)) _
  refine .seq ?_
  refine .seq ?_
  refine .region ?_
  refine .m rfl ?_
  refine .m rfl ?_
  refine .t (VI ((l_.length : Int))) (e_lenM (ev_t rfl) is67) ?_
  refine .t (VB (decide (i5 < (l_.length : Int)))) (e_bin (ev_t rfl) (ev_t rfl) rfl rfl) ?_
  refine .nil ?_
  refine CdOK.condD (ev_t rfl) ?_ ?_
  ·intro c7; replace hm := hm.ifp c7
   refine .skip ?_
   refine CdOK.seq ?_
   refine .block ?_
   replace hm := hm.bnd
   refine .joinE (σ := ((List Grant) × Bool × Bool)) (fun s => (s.1, s.2.1)) hm (fun s => [(0, .o (.c (.L 4 (l_.map Grant.cs)))), (3, .o (.c (.ptr (h.length + 0) 0))), (5, .o (.c (.g (h.length + 1) ((s.1).length) 4 s.2.2))), (6, VB (s.2.1)), (7, VI (i5))]) (fun s => h ++ ([⟨[I (g_.tx), I (g_.lock.page), I (g_.lock.slot), I (g_.mode)], true, true⟩, ⟨(s.1.map Grant.cs).flatten, true, s.2.2⟩] : Heap)) ?_ ?_
   ·intro hm
    refine .seq ?_
    refine .draw fol (by decide +kernel) ?_
    refine .sb rfl rfl rfl (e_mv (ev_t rfl)) ?_ ?_
    ·intro c10; replace hm := hm.ifp c10
     refine .t (VB (false)) (e_un (ev_t rfl) rfl) ?_
     refine .m rfl ?_
     refine .k ?_
     refine .k ?_
     refine .k ?_
     refine .k ?_
     refine .k ?_
     refine .k ?_
     refine .k ?_
     refine .t (VB (false)) (e_pick (t := false) (ev_t rfl) rfl) ?_
     refine .nil ?_
     refine CdOK.cond_false rfl ?_
     refine .skip ?_
     refine .id ?_
     exact ⟨(out3, done4, out3v), hm.ret, (.cons rfl (.cons rfl (.cons rfl (.cons rfl (.cons rfl .nil))))), rfl⟩
    ·intro c11; replace hm := hm.ifn (by rw [c11]; exact Bool.false_ne_true)
     refine .t (VB (true)) (e_un (ev_t rfl) rfl) ?_
     refine .m rfl ?_
     refine .m rfl ?_
     refine .m rfl ?_
     obtain ⟨c12, hm⟩ := hm.ifs
     refine .t (.o (.c (.rp [I ((gd l_ i5).tx), I ((gd l_ i5).lock.page), I ((gd l_ i5).lock.slot), I ((gd l_ i5).mode)]))) (e_ixM (f := Grant.cs) (l := l_) (i := i5) (ev_t rfl) (ev_t rfl) el67 c12) ?_
     refine .t _ (e_ldRA (ev_t rfl) ty75 rfl rfl) ?_
     refine .t _ (e_ldbA (ev_t rfl) ty75 (bx rfl rfl) rfl rfl) ?_
     obtain ⟨x13, e13, hm⟩ := hm.call
     refine .cl rfl rfl rfl rfl pl118 (R2.wk _) (ref08_less_ok    e13) ?_
     refine .t (VB ((!x13))) (e_un (ev_t rfl) rfl) ?_
     refine .t (VB ((!x13))) (e_pick (t := true) (ev_t rfl) (ev_t rfl)) ?_
     refine .nil ?_
     refine CdOK.condB (ev_t rfl) ?_ ?_
     ·intro c14; replace hm := hm.ifp c14
      refine .seq ?_
      refine .region ?_
      refine .m rfl ?_
      refine .t _ (e_ldbA (ev_t rfl) ty75 (bx rfl rfl) rfl rfl) ?_
      refine .t (.o (.c (.LC 4 (([g_] : List Grant).map Grant.cs)))) (e_lit (cs := [I (g_.tx), I (g_.lock.page), I (g_.lock.slot), I (g_.mode)]) (xs := ([g_]).map Grant.cs) slt67 rfl rfl rfl rfl rfl) ?_
      obtain ⟨c15, hm⟩ := hm.ifs
      refine .t (.o (.c (.g (h.length + 2) (((out3 ++ ([g_] : List Grant))).length) 4 (out3v || decide (0 < ([g_] : List Grant).length))))) (e_apG (k := 4) (q := 4398046511104) (m := ([g_] : List Grant).length) (j := 1) (f := Grant.cs) (xs := out3) (ys := ([g_] : List Grant)) (L' := [⟨[I (g_.tx), I (g_.lock.page), I (g_.lock.slot), I (g_.mode)], true, true⟩, ⟨(out3.map Grant.cs).flatten, true, false⟩, ⟨((out3 ++ ([g_] : List Grant)).map Grant.cs).flatten, true, (out3v || decide (0 < ([g_] : List Grant).length))⟩]) slt67 rfl (ev_t rfl) (ev_t rfl) (bx rfl rfl) (by intro x; rfl) src_LC rfl c15 rfl (by first | rfl | simp) rfl rfl) ?_
      refine .a rfl ?_
      refine .nil ?_
      refine CdOK.region ?_
      refine .t (VB (true)) (e_as rfl) ?_
      refine .nil ?_
      refine .re (σ := [0, 2]) (X := [(0, .o (.c (.L 4 (l_.map Grant.cs)))), (3, .o (.c (.ptr (h.length + 0) 0))), (5, .o (.c (.g (h.length + 1) (((out3 ++ ([g_] : List Grant))).length) 4 (out3v || decide (0 < ([g_] : List Grant).length))))), (6, VB (true)), (7, VI (i5))]) (L' := [⟨[I (g_.tx), I (g_.lock.page), I (g_.lock.slot), I (g_.mode)], true, true⟩, ⟨((out3 ++ ([g_] : List Grant)).map Grant.cs).flatten, true, (out3v || decide (0 < ([g_] : List Grant).length))⟩]) rfl rfl hC (by decide) (.obj 0 rfl (renFl rfl) (.obj 2 rfl (renFl (flat_all (f := Grant.cs) (l := (out3 ++ ([g_] : List Grant))) (by intro x; rfl))) .nil)) (.cons (renFlV rfl) (.cons (.o (.c (.ptr 0 0 _ rfl))) (.cons (.o (.c (.gg 2 1 _ _ _ _ _ rfl (by first | rfl | (simp; done) | (dsimp only at *; simp only [List.length_take]; omega)) rfl))) (.cons (renFlV rfl) (.cons (renFlV rfl) .nil))))) ?_
      exact ⟨((out3 ++ ([g_] : List Grant)), true, (out3v || decide (0 < ([g_] : List Grant).length))), hm.ret, (.cons rfl (.cons rfl (.cons rfl (.cons rfl (.cons rfl .nil))))), rfl⟩
     ·intro c16; replace hm := hm.ifn c16
      refine .skip ?_
      refine .id ?_
      exact ⟨(out3, done4, out3v), hm.ret, (.cons rfl (.cons rfl (.cons rfl (.cons rfl (.cons rfl .nil))))), rfl⟩
   ·rintro ⟨out8, done9, out8v⟩ T0 hm
    show CdOK _ _ _ (look T0 [(0, .o (.c (.L 4 (l_.map Grant.cs)))), (3, .o (.c (.ptr (h.length + 0) 0))), (5, .o (.c (.g (h.length + 1) ((out8).length) 4 out8v))), (6, VB (done9)), (7, VI (i5))]) (h ++ ([⟨[I (g_.tx), I (g_.lock.page), I (g_.lock.slot), I (g_.mode)], true, true⟩, ⟨(out8.map Grant.cs).flatten, true, out8v⟩] : Heap)) _
    refine .seq ?_
    refine .draw fol (by decide +kernel) ?_
    refine .m rfl ?_
    refine .m rfl ?_
    obtain ⟨c18, hm⟩ := hm.ifs
    refine .t (.o (.c (.rp [I ((gd l_ i5).tx), I ((gd l_ i5).lock.page), I ((gd l_ i5).lock.slot), I ((gd l_ i5).mode)]))) (e_ixM (f := Grant.cs) (l := l_) (i := i5) (ev_t rfl) (ev_t rfl) el67 c18) ?_
    refine .t _ (e_faR fa75_0 (ev_t rfl) rfl) ?_
    refine .t _ (e_ldR1 (ev_t rfl) ty3 rfl) ?_
    refine .t _ (e_fa' fa75_0 (ev_t rfl)) ?_
    refine .t _ (e_ldb1 (ev_t rfl) ty3 (bx rfl rfl) rfl) ?_
    refine .sd rfl rfl rfl (e_neK (ev_t rfl) (ev_t rfl)) ?_ ?_
    ·intro c19; replace hm := hm.ifp c19
     refine .m rfl ?_
     refine .k ?_
     refine .k ?_
     refine .k ?_
     refine .k ?_
     refine .k ?_
     refine .k ?_
     refine .k ?_
     refine .k ?_
     refine .t (VB (true)) (e_pick (t := true) (ev_t rfl) rfl) ?_
     refine .nil ?_
     refine CdOK.cond_true rfl ?_
     refine .region ?_
     refine .m rfl ?_
     refine .m rfl ?_
     refine .m rfl ?_
     obtain ⟨c20, hm⟩ := hm.ifs
     refine .t (.o (.c (.rp [I ((gd l_ i5).tx), I ((gd l_ i5).lock.page), I ((gd l_ i5).lock.slot), I ((gd l_ i5).mode)]))) (e_ixM (f := Grant.cs) (l := l_) (i := i5) (ev_t rfl) (ev_t rfl) el67 c20) ?_
     refine .t _ (e_ldRA (ev_t rfl) ty75 rfl rfl) ?_
     refine .t (.o (.c (.LC 4 (([(gd l_ i5)] : List Grant).map Grant.cs)))) (e_lit (cs := [I ((gd l_ i5).tx), I ((gd l_ i5).lock.page), I ((gd l_ i5).lock.slot), I ((gd l_ i5).mode)]) (xs := ([(gd l_ i5)]).map Grant.cs) slt67 rfl rfl rfl rfl rfl) ?_
     obtain ⟨c21, hm⟩ := hm.ifs
     refine .t (.o (.c (.g (h.length + 2) (((out8 ++ ([(gd l_ i5)] : List Grant))).length) 4 (out8v || decide (0 < ([(gd l_ i5)] : List Grant).length))))) (e_apG (k := 4) (q := 4398046511104) (m := ([(gd l_ i5)] : List Grant).length) (j := 1) (f := Grant.cs) (xs := out8) (ys := ([(gd l_ i5)] : List Grant)) (L' := [⟨[I (g_.tx), I (g_.lock.page), I (g_.lock.slot), I (g_.mode)], true, true⟩, ⟨(out8.map Grant.cs).flatten, true, false⟩, ⟨((out8 ++ ([(gd l_ i5)] : List Grant)).map Grant.cs).flatten, true, (out8v || decide (0 < ([(gd l_ i5)] : List Grant).length))⟩]) slt67 rfl (ev_t rfl) (ev_t rfl) (bx rfl rfl) (by intro x; rfl) src_LC rfl c21 rfl (by first | rfl | simp) rfl rfl) ?_
     refine .a rfl ?_
     refine .nil ?_
     refine CdOK.region ?_
     refine .m rfl ?_
     refine .t (VI ((w64 (i5 + 1)))) (e_bin (ev_t rfl) rfl rfl rfl) ?_
     refine .a rfl ?_
     refine .nil ?_
     refine .re (σ := [0, 2]) (X := [(0, .o (.c (.L 4 (l_.map Grant.cs)))), (3, .o (.c (.ptr (h.length + 0) 0))), (5, .o (.c (.g (h.length + 1) (((out8 ++ ([(gd l_ i5)] : List Grant))).length) 4 (out8v || decide (0 < ([(gd l_ i5)] : List Grant).length))))), (6, VB (done9)), (7, VI ((w64 (i5 + 1))))]) (L' := [⟨[I (g_.tx), I (g_.lock.page), I (g_.lock.slot), I (g_.mode)], true, true⟩, ⟨((out8 ++ ([(gd l_ i5)] : List Grant)).map Grant.cs).flatten, true, (out8v || decide (0 < ([(gd l_ i5)] : List Grant).length))⟩]) rfl rfl hC (by decide) (.obj 0 rfl (renFl rfl) (.obj 2 rfl (renFl (flat_all (f := Grant.cs) (l := (out8 ++ ([(gd l_ i5)] : List Grant))) (by intro x; rfl))) .nil)) (.cons (renFlV rfl) (.cons (.o (.c (.ptr 0 0 _ rfl))) (.cons (.o (.c (.gg 2 1 _ _ _ _ _ rfl (by first | rfl | (simp; done) | (dsimp only at *; simp only [List.length_take]; omega)) rfl))) (.cons (renFlV rfl) (.cons (renFlV rfl) .nil))))) ?_
     exact ⟨_, ((out8 ++ ([(gd l_ i5)] : List Grant)), done9, (w64 (i5 + 1)), (out8v || decide (0 < ([(gd l_ i5)] : List Grant).length))), Nat.lt_succ_self _, hm, (.cons rfl (.cons rfl (.cons rfl (.cons rfl (.cons rfl .nil))))), rfl⟩
    ·intro c22; replace hm := hm.ifn c22
     refine .m rfl ?_
     refine .m rfl ?_
     refine .m rfl ?_
     obtain ⟨c23, hm⟩ := hm.ifs
     refine .t (.o (.c (.rp [I ((gd l_ i5).tx), I ((gd l_ i5).lock.page), I ((gd l_ i5).lock.slot), I ((gd l_ i5).mode)]))) (e_ixM (f := Grant.cs) (l := l_) (i := i5) (ev_t rfl) (ev_t rfl) el67 c23) ?_
     refine .t _ (e_faR fa75_1 (ev_t rfl) rfl) ?_
     refine .t _ (e_ldRA (ev_t rfl) ty71 rfl rfl) ?_
     refine .t _ (e_fa' fa75_1 (ev_t rfl)) ?_
     refine .t _ (e_ldbA (ev_t rfl) ty71 (bx rfl rfl) rfl rfl) ?_
     refine .t (VB (decide (¬ (gd l_ i5).lock = g_.lock))) (e_eqA (ev_t rfl) (ev_t rfl) rfl rfl (eqs71_neq ((gd l_ i5).lock) g_.lock)) ?_
     refine .t (VB (decide (¬ (gd l_ i5).lock = g_.lock))) (e_pick (t := false) (ev_t rfl) (ev_t rfl)) ?_
     refine .nil ?_
     refine CdOK.condD (ev_t rfl) ?_ ?_
     ·intro c24; replace hm := hm.ifp c24
      refine .region ?_
      refine .m rfl ?_
      refine .m rfl ?_
      refine .m rfl ?_
      obtain ⟨c25, hm⟩ := hm.ifs
      refine .t (.o (.c (.rp [I ((gd l_ i5).tx), I ((gd l_ i5).lock.page), I ((gd l_ i5).lock.slot), I ((gd l_ i5).mode)]))) (e_ixM (f := Grant.cs) (l := l_) (i := i5) (ev_t rfl) (ev_t rfl) el67 c25) ?_
      refine .t _ (e_ldRA (ev_t rfl) ty75 rfl rfl) ?_
      refine .t (.o (.c (.LC 4 (([(gd l_ i5)] : List Grant).map Grant.cs)))) (e_lit (cs := [I ((gd l_ i5).tx), I ((gd l_ i5).lock.page), I ((gd l_ i5).lock.slot), I ((gd l_ i5).mode)]) (xs := ([(gd l_ i5)]).map Grant.cs) slt67 rfl rfl rfl rfl rfl) ?_
      obtain ⟨c26, hm⟩ := hm.ifs
      refine .t (.o (.c (.g (h.length + 2) (((out8 ++ ([(gd l_ i5)] : List Grant))).length) 4 (out8v || decide (0 < ([(gd l_ i5)] : List Grant).length))))) (e_apG (k := 4) (q := 4398046511104) (m := ([(gd l_ i5)] : List Grant).length) (j := 1) (f := Grant.cs) (xs := out8) (ys := ([(gd l_ i5)] : List Grant)) (L' := [⟨[I (g_.tx), I (g_.lock.page), I (g_.lock.slot), I (g_.mode)], true, true⟩, ⟨(out8.map Grant.cs).flatten, true, false⟩, ⟨((out8 ++ ([(gd l_ i5)] : List Grant)).map Grant.cs).flatten, true, (out8v || decide (0 < ([(gd l_ i5)] : List Grant).length))⟩]) slt67 rfl (ev_t rfl) (ev_t rfl) (bx rfl rfl) (by intro x; rfl) src_LC rfl c26 rfl (by first | rfl | simp) rfl rfl) ?_
      refine .a rfl ?_
      refine .nil ?_
      refine CdOK.region ?_
      refine .m rfl ?_
      refine .t (VI ((w64 (i5 + 1)))) (e_bin (ev_t rfl) rfl rfl rfl) ?_
      refine .a rfl ?_
      refine .nil ?_
      refine .re (σ := [0, 2]) (X := [(0, .o (.c (.L 4 (l_.map Grant.cs)))), (3, .o (.c (.ptr (h.length + 0) 0))), (5, .o (.c (.g (h.length + 1) (((out8 ++ ([(gd l_ i5)] : List Grant))).length) 4 (out8v || decide (0 < ([(gd l_ i5)] : List Grant).length))))), (6, VB (done9)), (7, VI ((w64 (i5 + 1))))]) (L' := [⟨[I (g_.tx), I (g_.lock.page), I (g_.lock.slot), I (g_.mode)], true, true⟩, ⟨((out8 ++ ([(gd l_ i5)] : List Grant)).map Grant.cs).flatten, true, (out8v || decide (0 < ([(gd l_ i5)] : List Grant).length))⟩]) rfl rfl hC (by decide) (.obj 0 rfl (renFl rfl) (.obj 2 rfl (renFl (flat_all (f := Grant.cs) (l := (out8 ++ ([(gd l_ i5)] : List Grant))) (by intro x; rfl))) .nil)) (.cons (renFlV rfl) (.cons (.o (.c (.ptr 0 0 _ rfl))) (.cons (.o (.c (.gg 2 1 _ _ _ _ _ rfl (by first | rfl | (simp; done) | (dsimp only at *; simp only [List.length_take]; omega)) rfl))) (.cons (renFlV rfl) (.cons (renFlV rfl) .nil))))) ?_
      exact ⟨_, ((out8 ++ ([(gd l_ i5)] : List Grant)), done9, (w64 (i5 + 1)), (out8v || decide (0 < ([(gd l_ i5)] : List Grant).length))), Nat.lt_succ_self _, hm, (.cons rfl (.cons rfl (.cons rfl (.cons rfl (.cons rfl .nil))))), rfl⟩
     ·intro c27; replace hm := hm.ifn c27
      refine .skip ?_
      refine CdOK.region ?_
      refine .m rfl ?_
      refine .t (VI ((w64 (i5 + 1)))) (e_bin (ev_t rfl) rfl rfl rfl) ?_
      refine .a rfl ?_
      refine .nil ?_
      refine .id ?_
      exact ⟨_, (out8, done9, (w64 (i5 + 1)), out8v), Nat.lt_succ_self _, hm, (.cons rfl (.cons rfl (.cons rfl (.cons rfl (.cons rfl .nil))))), rfl⟩
  ·intro c28; replace hm := hm.ifn c28
   refine .exit ?_
   refine .id ?_
   exact ⟨(out3, done4, out3v), hm.ret, (.cons rfl (.cons rfl (.cons rfl .nil))), rfl⟩
 ·rintro ⟨out1, done2, out1v⟩ T0 hm
  refine CdOK.seq ?_
  refine .seq ?_
  refine .region ?_
  refine .m rfl ?_
  refine .t (VB ((!done2))) (e_un (ev_t rfl) rfl) ?_
  refine .nil ?_
  refine CdOK.condB (ev_t rfl) ?_ ?_
  ·intro c30; replace hm := hm.ifp c30
   refine .region ?_
   refine .m rfl ?_
   refine .t _ (e_ldbA (ev_t rfl) ty75 (bx rfl rfl) rfl rfl) ?_
   refine .t (.o (.c (.LC 4 (([g_] : List Grant).map Grant.cs)))) (e_lit (cs := [I (g_.tx), I (g_.lock.page), I (g_.lock.slot), I (g_.mode)]) (xs := ([g_]).map Grant.cs) slt67 rfl rfl rfl rfl rfl) ?_
   obtain ⟨c31, hm⟩ := hm.ifs
   refine .t (.o (.c (.g (h.length + 2) (((out1 ++ ([g_] : List Grant))).length) 4 (out1v || decide (0 < ([g_] : List Grant).length))))) (e_apG (k := 4) (q := 4398046511104) (m := ([g_] : List Grant).length) (j := 1) (f := Grant.cs) (xs := out1) (ys := ([g_] : List Grant)) (L' := [⟨[I (g_.tx), I (g_.lock.page), I (g_.lock.slot), I (g_.mode)], true, true⟩, ⟨(out1.map Grant.cs).flatten, true, false⟩, ⟨((out1 ++ ([g_] : List Grant)).map Grant.cs).flatten, true, (out1v || decide (0 < ([g_] : List Grant).length))⟩]) slt67 rfl (ev_t rfl) (ev_t rfl) (bx rfl rfl) (by intro x; rfl) src_LC rfl c31 rfl (by first | rfl | simp) rfl rfl) ?_
   refine .a rfl ?_
   refine .nil ?_
   refine CdOK.seq ?_
   refine .region ?_
   refine .m rfl ?_
   refine .a rfl ?_
   refine .nil ?_
   refine CdOK.ret ?_
   refine ⟨.inr rfl, _, rfl, h, _, _, rfl, rfl, hC, ((.o (.c (.fzg 2 _ 4 _ ((out1 ++ ([g_] : List Grant)).map Grant.cs) rfl (by decide) (by first | exact List.length_map .. | simp) (lens_all (by intro x; rfl)) (vl_all (by intro x; rfl))))) : RenV _ _ _ _ (.o (.c (.L 4 ((out1 ++ ([g_] : List Grant)).map Grant.cs))))), ?_⟩
   cases hm.ret; exact ⟨rfl, rfl⟩
  ·intro c32; replace hm := hm.ifn c32
   refine .skip ?_
   refine CdOK.seq ?_
   refine .region ?_
   refine .m rfl ?_
   refine .a rfl ?_
   refine .nil ?_
   refine CdOK.ret ?_
   refine ⟨.inr rfl, _, rfl, h, _, _, rfl, rfl, hC, ((.o (.c (.fzg 1 _ 4 _ (out1.map Grant.cs) rfl (by decide) (by first | exact List.length_map .. | simp) (lens_all (by intro x; rfl)) (vl_all (by intro x; rfl))))) : RenV _ _ _ _ (.o (.c (.L 4 (out1.map Grant.cs))))), ?_⟩
   cases hm.ret; exact ⟨rfl, rfl⟩
/- pagemend/pagemendref08.able -/
def ref08_able.l1 (t_ : Locks) (i_ : Int) : Nat → Int → Option (Sum Unit Bool)
  | 0, _ => none
  | kk2 + 1, k1 => (if k1 < (t_.held.length : Int) then (if (0 : Int) ≤ k1 ∧ k1 < (t_.held.length : Int) then (if (0 : Int) ≤ i_ ∧ i_ < (t_.waiting.length : Int) then ((ref08_Conflict (gd t_.held k1) (gd t_.waiting i_)).bind fun (x6 : Bool) => (if x6 = true then some (Sum.inr false) else ref08_able.l1 t_ i_ kk2 (w64 (k1 + 1)))) else none) else none) else some (Sum.inl ()))
def ref08_able.l2 (t_ : Locks) (i_ : Int) : Nat → Int → Option (Sum Unit Bool)
  | 0, _ => none
  | kk12 + 1, k11 => (if k11 < i_ then (if (0 : Int) ≤ k11 ∧ k11 < (t_.waiting.length : Int) then (if (0 : Int) ≤ i_ ∧ i_ < (t_.waiting.length : Int) then ((ref08_Conflict (gd t_.waiting k11) (gd t_.waiting i_)).bind fun (x16 : Bool) => (if x16 = true then some (Sum.inr false) else ref08_able.l2 t_ i_ kk12 (w64 (k11 + 1)))) else none) else none) else some (Sum.inl ()))
def ref08_able (t_ : Locks) (i_ : Int) : Option Bool := ((ref08_able.l1 t_ i_ FU 0).bind fun (z : Sum Unit Bool) => match z with | .inl (s10 : Unit) => ((ref08_able.l2 t_ i_ FU 0).bind fun (z : Sum Unit Bool) => match z with | .inl (s20 : Unit) => some true | .inr r => some r) | .inr r => some r)
theorem ref08_able_ok {h : Heap} {t_ : Locks} {i_ : Int}   {r : Bool} (hm : ref08_able t_ i_ = some r) : FnOK Try.prog 184 [.o (.agg [.L 4 (t_.held.map Grant.cs), .L 4 (t_.waiting.map Grant.cs)]), VI (i_)] h (fun v h' => v = VB (r) ∧ h' = h) := by
 refine FnOK.fin ?_
 refine FnOK.bodyC (N := 41) Try.func184 rfl rfl rfl (fun hC => ?_)
 replace hm := Ev.of hm
 rw [ref08_able.eq_1] at hm
 show CdOK _ _ _ (look _ [(0, .o (.agg [.L 4 (t_.held.map Grant.cs), .L 4 (t_.waiting.map Grant.cs)])), (1, VI (i_))]) (h ++ ([] : Heap)) _
 refine .seq ?_
 refine .region ?_
 refine .t (.o (.c (.ptr (h.length + 0) 0))) (e_boxN (L' := [⟨[.L 4 (t_.held.map Grant.cs), .L 4 (t_.waiting.map Grant.cs)], true, true⟩]) rfl (ev_t rfl) rfl rfl) ?_
 refine .t (VB (false)) (e_as rfl) ?_
 refine .nil ?_
 refine CdOK.seq ?_
 refine .seq ?_
 refine .region ?_
 refine .t (VI (0)) (e_as rfl) ?_
 refine .nil ?_
 replace hm := hm.bnd
 refine CdOK.joinT (σ := Unit) (fun s => Sum.inl ()) hm (fun s => [(1, VI (i_)), (2, .o (.c (.ptr (h.length + 0) 0)))]) (fun s => h ++ ([⟨[.L 4 (t_.held.map Grant.cs), .L 4 (t_.waiting.map Grant.cs)], true, true⟩] : Heap)) ?_ ?_
 ·intro hm
  refine .block ?_
  refine .loopE (σ := Int) (fun k s => Ev (ref08_able.l1 t_ i_ k s) _) (fun s => [(1, VI (i_)), (2, .o (.c (.ptr (h.length + 0) 0))), (5, VI (s))]) (fun s => h ++ ([⟨[.L 4 (t_.held.map Grant.cs), .L 4 (t_.waiting.map Grant.cs)], true, true⟩] : Heap)) FU 0 hm (.cons rfl (.cons rfl (.cons rfl .nil))) rfl ?_
  rintro kk2 k1 T0 hm
  replace hm : Ev (ref08_able.l1 t_ i_ kk2 k1) _ := hm
  cases kk2 with
  | zero => exact (Ev.non hm).elim
  | succ kk2 =>
  rw [ref08_able.l1.eq_2] at hm
  show CdOK _ _ _ (look T0 [(1, VI (i_)), (2, .o (.c (.ptr (h.length + 0) 0))), (5, VI (k1))]) (h ++ ([⟨[.L 4 (t_.held.map Grant.cs), .L 4 (t_.waiting.map Grant.cs)], true, true⟩] : Heap)) _
  refine .seq ?_
  refine .seq ?_
  refine .region ?_
  refine .m rfl ?_
  refine .t _ (e_fa' fa69_0 (ev_t rfl)) ?_
  refine .t _ (e_ldb1 (ev_t rfl) ty67 (bx rfl rfl) rfl) ?_
  refine .t (VI ((t_.held.length : Int))) (e_lenM (ev_t rfl) is67) ?_
  refine .t (VB (decide (k1 < (t_.held.length : Int)))) (e_bin (ev_t rfl) (ev_t rfl) rfl rfl) ?_
  refine .nil ?_
  refine CdOK.condD (ev_t rfl) ?_ ?_
  ·intro c3; replace hm := hm.ifp c3
   refine .skip ?_
   refine CdOK.seq ?_
   refine .block ?_
   refine .seq ?_
   refine .draw fol (by decide +kernel) ?_
   refine .t _ (e_fa' fa69_0 (ev_t rfl)) ?_
   refine .t _ (e_ldb1 (ev_t rfl) ty67 (bx rfl rfl) rfl) ?_
   refine .m rfl ?_
   obtain ⟨c4, hm⟩ := hm.ifs
   refine .t (.o (.c (.rp [I ((gd t_.held k1).tx), I ((gd t_.held k1).lock.page), I ((gd t_.held k1).lock.slot), I ((gd t_.held k1).mode)]))) (e_ixM (f := Grant.cs) (l := t_.held) (i := k1) (ev_t rfl) (ev_t rfl) el67 c4) ?_
   refine .t _ (e_ldRA (ev_t rfl) ty75 rfl rfl) ?_
   refine .t _ (e_fa' fa69_1 (ev_t rfl)) ?_
   refine .t _ (e_ldb1 (ev_t rfl) ty67 (bx rfl rfl) rfl) ?_
   refine .m rfl ?_
   obtain ⟨c5, hm⟩ := hm.ifs
   refine .t (.o (.c (.rp [I ((gd t_.waiting i_).tx), I ((gd t_.waiting i_).lock.page), I ((gd t_.waiting i_).lock.slot), I ((gd t_.waiting i_).mode)]))) (e_ixM (f := Grant.cs) (l := t_.waiting) (i := i_) (ev_t rfl) (ev_t rfl) el67 c5) ?_
   refine .t _ (e_ldRA (ev_t rfl) ty75 rfl rfl) ?_
   obtain ⟨x6, e6, hm⟩ := hm.call
   refine .cl rfl rfl rfl rfl pl119 (R2.wk _) (ref08_Conflict_ok    e6) ?_
   refine .nil ?_
   refine CdOK.condB (ev_t rfl) ?_ ?_
   ·intro c7; replace hm := hm.ifp c7
    refine .seq ?_
    refine .region ?_
    refine .t (VB (false)) (e_as rfl) ?_
    refine .nil ?_
    refine CdOK.ret ?_
    refine ⟨.inr rfl, _, rfl, h, _, _, rfl, rfl, hC, ((renFlV rfl) : RenV _ _ _ _ (VB (false))), ?_⟩
    have hr := hm.ret; replace hr := Ev.ret hr; cases hr; exact ⟨rfl, rfl⟩
   ·intro c8; replace hm := hm.ifn c8
    refine .skip ?_
    refine CdOK.region ?_
    refine .m rfl ?_
    refine .t (VI ((w64 (k1 + 1)))) (e_bin (ev_t rfl) rfl rfl rfl) ?_
    refine .a rfl ?_
    refine .nil ?_
    refine .id ?_
    exact ⟨_, (w64 (k1 + 1)), Nat.lt_succ_self _, hm, (.cons rfl (.cons rfl (.cons rfl .nil))), rfl⟩
  ·intro c9; replace hm := hm.ifn c9
   refine .exit ?_
   refine .id ?_
   exact ⟨(), hm.ret, (.cons rfl (.cons rfl .nil)), rfl⟩
 ·intro _ T0 hm
  refine CdOK.seq ?_
  refine .seq ?_
  refine .region ?_
  refine .t (VI (0)) (e_as rfl) ?_
  refine .nil ?_
  replace hm := hm.bnd
  refine CdOK.joinT (σ := Unit) (fun s => Sum.inl ()) hm (fun s => []) (fun s => h ++ ([] : Heap)) ?_ ?_
  ·intro hm
   refine .block ?_
   refine .loopE (σ := Int) (fun k s => Ev (ref08_able.l2 t_ i_ k s) _) (fun s => [(1, VI (i_)), (2, .o (.c (.ptr (h.length + 0) 0))), (6, VI (s))]) (fun s => h ++ ([⟨[.L 4 (t_.held.map Grant.cs), .L 4 (t_.waiting.map Grant.cs)], true, true⟩] : Heap)) FU 0 hm (.cons rfl (.cons rfl (.cons rfl .nil))) rfl ?_
   rintro kk12 k11 T0 hm
   replace hm : Ev (ref08_able.l2 t_ i_ kk12 k11) _ := hm
   cases kk12 with
   | zero => exact (Ev.non hm).elim
   | succ kk12 =>
   rw [ref08_able.l2.eq_2] at hm
   show CdOK _ _ _ (look T0 [(1, VI (i_)), (2, .o (.c (.ptr (h.length + 0) 0))), (6, VI (k11))]) (h ++ ([⟨[.L 4 (t_.held.map Grant.cs), .L 4 (t_.waiting.map Grant.cs)], true, true⟩] : Heap)) _
   refine .seq ?_
   refine .seq ?_
   refine .region ?_
   refine .m rfl ?_
   refine .m rfl ?_
   refine .t (VB (decide (k11 < i_))) (e_bin (ev_t rfl) (ev_t rfl) rfl rfl) ?_
   refine .nil ?_
   refine CdOK.condD (ev_t rfl) ?_ ?_
   ·intro c13; replace hm := hm.ifp c13
    refine .skip ?_
    refine CdOK.seq ?_
    refine .block ?_
    refine .seq ?_
    refine .draw fol (by decide +kernel) ?_
    refine .t _ (e_fa' fa69_1 (ev_t rfl)) ?_
    refine .t _ (e_ldb1 (ev_t rfl) ty67 (bx rfl rfl) rfl) ?_
    refine .m rfl ?_
    obtain ⟨c14, hm⟩ := hm.ifs
    refine .t (.o (.c (.rp [I ((gd t_.waiting k11).tx), I ((gd t_.waiting k11).lock.page), I ((gd t_.waiting k11).lock.slot), I ((gd t_.waiting k11).mode)]))) (e_ixM (f := Grant.cs) (l := t_.waiting) (i := k11) (ev_t rfl) (ev_t rfl) el67 c14) ?_
    refine .t _ (e_ldRA (ev_t rfl) ty75 rfl rfl) ?_
    refine .t _ (e_fa' fa69_1 (ev_t rfl)) ?_
    refine .t _ (e_ldb1 (ev_t rfl) ty67 (bx rfl rfl) rfl) ?_
    refine .m rfl ?_
    obtain ⟨c15, hm⟩ := hm.ifs
    refine .t (.o (.c (.rp [I ((gd t_.waiting i_).tx), I ((gd t_.waiting i_).lock.page), I ((gd t_.waiting i_).lock.slot), I ((gd t_.waiting i_).mode)]))) (e_ixM (f := Grant.cs) (l := t_.waiting) (i := i_) (ev_t rfl) (ev_t rfl) el67 c15) ?_
    refine .t _ (e_ldRA (ev_t rfl) ty75 rfl rfl) ?_
    obtain ⟨x16, e16, hm⟩ := hm.call
    refine .cl rfl rfl rfl rfl pl119 (R2.wk _) (ref08_Conflict_ok    e16) ?_
    refine .nil ?_
    refine CdOK.condB (ev_t rfl) ?_ ?_
    ·intro c17; replace hm := hm.ifp c17
     refine .seq ?_
     refine .region ?_
     refine .t (VB (false)) (e_as rfl) ?_
     refine .nil ?_
     refine CdOK.ret ?_
     refine ⟨.inr rfl, _, rfl, h, _, _, rfl, rfl, hC, ((renFlV rfl) : RenV _ _ _ _ (VB (false))), ?_⟩
     have hr := hm.ret; replace hr := Ev.ret hr; cases hr; exact ⟨rfl, rfl⟩
    ·intro c18; replace hm := hm.ifn c18
     refine .skip ?_
     refine CdOK.region ?_
     refine .m rfl ?_
     refine .t (VI ((w64 (k11 + 1)))) (e_bin (ev_t rfl) rfl rfl rfl) ?_
     refine .a rfl ?_
     refine .nil ?_
     refine .id ?_
     exact ⟨_, (w64 (k11 + 1)), Nat.lt_succ_self _, hm, (.cons rfl (.cons rfl (.cons rfl .nil))), rfl⟩
   ·intro c19; replace hm := hm.ifn c19
    refine .exit ?_
    refine .re (σ := []) (X := []) (L' := []) rfl rfl hC (by decide) .nil .nil ?_
    exact ⟨(), hm.ret, .nil, rfl⟩
  ·intro _ T0 hm
   refine CdOK.seq ?_
   refine .region ?_
   refine .t (VB (true)) (e_as rfl) ?_
   refine .nil ?_
   refine CdOK.ret ?_
   refine ⟨.inr rfl, _, rfl, h, _, _, rfl, rfl, hC, ((renFlV rfl) : RenV _ _ _ _ (VB (true))), ?_⟩
   cases hm.ret; exact ⟨rfl, rfl⟩
/- pagemend/pagemendref08.left -/
def ref08_left.l1 (l_ : (List Grant)) (tx : Int) (one : Bool) (k_ : Lock) : Nat → (List Grant) → Int → Option (List Grant)
  | 0, _, _ => none
  | kk4 + 1, out2, i3 => (if i3 < (l_.length : Int) then (if (0 : Int) ≤ i3 ∧ i3 < (l_.length : Int) then (if ((gd l_ i3).tx) ≠ tx then (if (0 : Int) ≤ i3 ∧ i3 < (l_.length : Int) then (if (out2).length + ([(gd l_ i3)] : List Grant).length ≤ 4398046511104 then ref08_left.l1 l_ tx one k_ kk4 (out2 ++ ([(gd l_ i3)] : List Grant)) (w64 (i3 + 1)) else none) else none) else (if one = true then (if (0 : Int) ≤ i3 ∧ i3 < (l_.length : Int) then (if ¬ (gd l_ i3).lock = k_ then (if (0 : Int) ≤ i3 ∧ i3 < (l_.length : Int) then (if (out2).length + ([(gd l_ i3)] : List Grant).length ≤ 4398046511104 then ref08_left.l1 l_ tx one k_ kk4 (out2 ++ ([(gd l_ i3)] : List Grant)) (w64 (i3 + 1)) else none) else none) else ref08_left.l1 l_ tx one k_ kk4 out2 (w64 (i3 + 1))) else none) else ref08_left.l1 l_ tx one k_ kk4 out2 (w64 (i3 + 1)))) else none) else some out2)
def ref08_left (l_ : (List Grant)) (tx : Int) (one : Bool) (k_ : Lock) : Option (List Grant) := ((ref08_left.l1 l_ tx one k_ FU ([] : List Grant) 0).bind fun (s19 : (List Grant)) => some s19)
theorem ref08_left_ok {h : Heap} {l_ : (List Grant)} {tx : Int} {one : Bool} {k_ : Lock}   {r : (List Grant)} (hm : ref08_left l_ tx one k_ = some r) : FnOK Try.prog 126 [.o (.c (.L 4 (l_.map Grant.cs))), VI (tx), VB (one), .o (.agg [I (k_.page), I (k_.slot)])] h (fun v h' => v = .o (.c (.L 4 (r.map Grant.cs))) ∧ h' = h) := by
 refine FnOK.fin ?_
 refine FnOK.bodyC (N := 44) Try.func126 rfl rfl rfl (fun hC => ?_)
 replace hm := Ev.of hm
 rw [ref08_left.eq_1] at hm
 show CdOK _ _ _ (look _ [(0, .o (.c (.L 4 (l_.map Grant.cs)))), (1, VI (tx)), (2, VB (one)), (3, .o (.agg [I (k_.page), I (k_.slot)]))]) (h ++ ([] : Heap)) _
 refine .seq ?_
 refine .region ?_
 refine .t (.o (.c (.ptr (h.length + 0) 0))) (e_boxN (L' := [⟨[I (k_.page), I (k_.slot)], true, true⟩]) rfl (ev_t rfl) rfl rfl) ?_
 refine .t (.o (.c (.v (.slice none 0 0)))) (e_as rfl) ?_
 refine .nil ?_
 refine CdOK.seq ?_
 refine .region ?_
 refine .t (.o (.c (.v (.slice none 0 0)))) (e_as rfl) ?_
 refine .nil ?_
 refine CdOK.seq ?_
 refine .seq ?_
 refine .region ?_
 refine .t (VI (0)) (e_as rfl) ?_
 refine .nil ?_
 replace hm := hm.bnd
 refine CdOK.joinT (σ := (List Grant)) (fun s => s) hm (fun s => [(9, .o (.c (.L 4 (s.map Grant.cs))))]) (fun s => h ++ ([] : Heap)) ?_ ?_
 ·intro hm
  refine .block ?_
  refine .re (σ := [0, 1001]) (X := [(0, .o (.c (.L 4 (l_.map Grant.cs)))), (1, VI (tx)), (2, VB (one)), (7, .o (.c (.ptr (h.length + 0) 0))), (9, .o (.c (.g (h.length + 1) ((([] : List Grant)).length) 4 false))), (10, VI (0))]) (L' := [⟨[I (k_.page), I (k_.slot)], true, true⟩, ⟨(([] : List Grant).map Grant.cs).flatten, true, false⟩]) rfl rfl hC (by decide) (.obj 0 rfl (renFl rfl) (.dead 1001 _ rfl .nil)) (.cons (renFlV rfl) (.cons (renFlV rfl) (.cons (renFlV rfl) (.cons (.o (.c (.ptr 0 0 _ rfl))) (.cons (.o (.c (.nilg _ _))) (.cons (renFlV rfl) .nil)))))) ?_
  refine .loopE (σ := ((List Grant) × Int × Bool)) (fun k s => Ev (ref08_left.l1 l_ tx one k_ k s.1 s.2.1) _) (fun s => [(0, .o (.c (.L 4 (l_.map Grant.cs)))), (1, VI (tx)), (2, VB (one)), (7, .o (.c (.ptr (h.length + 0) 0))), (9, .o (.c (.g (h.length + 1) ((s.1).length) 4 s.2.2))), (10, VI (s.2.1))]) (fun s => h ++ ([⟨[I (k_.page), I (k_.slot)], true, true⟩, ⟨(s.1.map Grant.cs).flatten, true, s.2.2⟩] : Heap)) FU (([] : List Grant), 0, false) hm (.cons rfl (.cons rfl (.cons rfl (.cons rfl (.cons rfl (.cons rfl .nil)))))) rfl ?_
  rintro kk4 ⟨out2, i3, out2v⟩ T0 hm
  replace hm : Ev (ref08_left.l1 l_ tx one k_ kk4 out2 i3) _ := hm
  cases kk4 with
  | zero => exact (Ev.non hm).elim
  | succ kk4 =>
  rw [ref08_left.l1.eq_2] at hm
  show CdOK _ _ _ (look T0 [(0, .o (.c (.L 4 (l_.map Grant.cs)))), (1, VI (tx)), (2, VB (one)), (7, .o (.c (.ptr (h.length + 0) 0))), (9, .o (.c (.g (h.length + 1) ((out2).length) 4 out2v))), (10, VI (i3))]) (h ++ ([⟨[I (k_.page), I (k_.slot)], true, true⟩, ⟨(out2.map Grant.cs).flatten, true, out2v⟩] : Heap)) _
  refine .seq ?_
  refine .seq ?_
  refine .region ?_
  refine .m rfl ?_
  refine .m rfl ?_
  refine .t (VI ((l_.length : Int))) (e_lenM (ev_t rfl) is67) ?_
  refine .t (VB (decide (i3 < (l_.length : Int)))) (e_bin (ev_t rfl) (ev_t rfl) rfl rfl) ?_
  refine .nil ?_
  refine CdOK.condD (ev_t rfl) ?_ ?_
  ·intro c5; replace hm := hm.ifp c5
   refine .skip ?_
   refine CdOK.seq ?_
   refine .block ?_
   refine .seq ?_
   refine .draw fol (by decide +kernel) ?_
   refine .m rfl ?_
   refine .m rfl ?_
   obtain ⟨c6, hm⟩ := hm.ifs
   refine .t (.o (.c (.rp [I ((gd l_ i3).tx), I ((gd l_ i3).lock.page), I ((gd l_ i3).lock.slot), I ((gd l_ i3).mode)]))) (e_ixM (f := Grant.cs) (l := l_) (i := i3) (ev_t rfl) (ev_t rfl) el67 c6) ?_
   refine .t _ (e_faR fa75_0 (ev_t rfl) rfl) ?_
   refine .t _ (e_ldR1 (ev_t rfl) ty3 rfl) ?_
   refine .m rfl ?_
   refine .sd rfl rfl rfl (e_neK (ev_t rfl) (ev_t rfl)) ?_ ?_
   ·intro c7; replace hm := hm.ifp c7
    refine .m rfl ?_
    refine .k ?_
    refine .k ?_
    refine .k ?_
    refine .k ?_
    refine .k ?_
    refine .k ?_
    refine .k ?_
    refine .k ?_
    refine .k ?_
    refine .k ?_
    refine .t (VB (true)) (e_pick (t := true) (ev_t rfl) rfl) ?_
    refine .nil ?_
    refine CdOK.cond_true rfl ?_
    refine .region ?_
    refine .m rfl ?_
    refine .m rfl ?_
    refine .m rfl ?_
    obtain ⟨c8, hm⟩ := hm.ifs
    refine .t (.o (.c (.rp [I ((gd l_ i3).tx), I ((gd l_ i3).lock.page), I ((gd l_ i3).lock.slot), I ((gd l_ i3).mode)]))) (e_ixM (f := Grant.cs) (l := l_) (i := i3) (ev_t rfl) (ev_t rfl) el67 c8) ?_
    refine .t _ (e_ldRA (ev_t rfl) ty75 rfl rfl) ?_
    refine .t (.o (.c (.LC 4 (([(gd l_ i3)] : List Grant).map Grant.cs)))) (e_lit (cs := [I ((gd l_ i3).tx), I ((gd l_ i3).lock.page), I ((gd l_ i3).lock.slot), I ((gd l_ i3).mode)]) (xs := ([(gd l_ i3)]).map Grant.cs) slt67 rfl rfl rfl rfl rfl) ?_
    obtain ⟨c9, hm⟩ := hm.ifs
    refine .t (.o (.c (.g (h.length + 2) (((out2 ++ ([(gd l_ i3)] : List Grant))).length) 4 (out2v || decide (0 < ([(gd l_ i3)] : List Grant).length))))) (e_apG (k := 4) (q := 4398046511104) (m := ([(gd l_ i3)] : List Grant).length) (j := 1) (f := Grant.cs) (xs := out2) (ys := ([(gd l_ i3)] : List Grant)) (L' := [⟨[I (k_.page), I (k_.slot)], true, true⟩, ⟨(out2.map Grant.cs).flatten, true, false⟩, ⟨((out2 ++ ([(gd l_ i3)] : List Grant)).map Grant.cs).flatten, true, (out2v || decide (0 < ([(gd l_ i3)] : List Grant).length))⟩]) slt67 rfl (ev_t rfl) (ev_t rfl) (bx rfl rfl) (by intro x; rfl) src_LC rfl c9 rfl (by first | rfl | simp) rfl rfl) ?_
    refine .a rfl ?_
    refine .nil ?_
    refine CdOK.region ?_
    refine .m rfl ?_
    refine .t (VI ((w64 (i3 + 1)))) (e_bin (ev_t rfl) rfl rfl rfl) ?_
    refine .a rfl ?_
    refine .nil ?_
    refine .re (σ := [0, 2]) (X := [(0, .o (.c (.L 4 (l_.map Grant.cs)))), (1, VI (tx)), (2, VB (one)), (7, .o (.c (.ptr (h.length + 0) 0))), (9, .o (.c (.g (h.length + 1) (((out2 ++ ([(gd l_ i3)] : List Grant))).length) 4 (out2v || decide (0 < ([(gd l_ i3)] : List Grant).length))))), (10, VI ((w64 (i3 + 1))))]) (L' := [⟨[I (k_.page), I (k_.slot)], true, true⟩, ⟨((out2 ++ ([(gd l_ i3)] : List Grant)).map Grant.cs).flatten, true, (out2v || decide (0 < ([(gd l_ i3)] : List Grant).length))⟩]) rfl rfl hC (by decide) (.obj 0 rfl (renFl rfl) (.obj 2 rfl (renFl (flat_all (f := Grant.cs) (l := (out2 ++ ([(gd l_ i3)] : List Grant))) (by intro x; rfl))) .nil)) (.cons (renFlV rfl) (.cons (renFlV rfl) (.cons (renFlV rfl) (.cons (.o (.c (.ptr 0 0 _ rfl))) (.cons (.o (.c (.gg 2 1 _ _ _ _ _ rfl (by first | rfl | (simp; done) | (dsimp only at *; simp only [List.length_take]; omega)) rfl))) (.cons (renFlV rfl) .nil)))))) ?_
    exact ⟨_, ((out2 ++ ([(gd l_ i3)] : List Grant)), (w64 (i3 + 1)), (out2v || decide (0 < ([(gd l_ i3)] : List Grant).length))), Nat.lt_succ_self _, hm, (.cons rfl (.cons rfl (.cons rfl (.cons rfl (.cons rfl (.cons rfl .nil)))))), rfl⟩
   ·intro c10; replace hm := hm.ifn c10
    refine .m rfl ?_
    refine .sb rfl rfl rfl (e_mv (ev_t rfl)) ?_ ?_
    ·intro c11; replace hm := hm.ifp c11
     refine .m rfl ?_
     refine .m rfl ?_
     refine .m rfl ?_
     obtain ⟨c12, hm⟩ := hm.ifs
     refine .t (.o (.c (.rp [I ((gd l_ i3).tx), I ((gd l_ i3).lock.page), I ((gd l_ i3).lock.slot), I ((gd l_ i3).mode)]))) (e_ixM (f := Grant.cs) (l := l_) (i := i3) (ev_t rfl) (ev_t rfl) el67 c12) ?_
     refine .t _ (e_faR fa75_1 (ev_t rfl) rfl) ?_
     refine .t _ (e_ldRA (ev_t rfl) ty71 rfl rfl) ?_
     refine .t _ (e_ldbA (ev_t rfl) ty71 (bx rfl rfl) rfl rfl) ?_
     refine .t (VB (decide (¬ (gd l_ i3).lock = k_))) (e_eqA (ev_t rfl) (ev_t rfl) rfl rfl (eqs71_neq ((gd l_ i3).lock) k_)) ?_
     refine .t (VB (decide (¬ (gd l_ i3).lock = k_))) (e_pick (t := true) (ev_t rfl) (ev_t rfl)) ?_
     refine .t (VB (decide (¬ (gd l_ i3).lock = k_))) (e_pick (t := false) (ev_t rfl) (ev_t rfl)) ?_
     refine .nil ?_
     refine CdOK.condD (ev_t rfl) ?_ ?_
     ·intro c13; replace hm := hm.ifp c13
      refine .region ?_
      refine .m rfl ?_
      refine .m rfl ?_
      refine .m rfl ?_
      obtain ⟨c14, hm⟩ := hm.ifs
      refine .t (.o (.c (.rp [I ((gd l_ i3).tx), I ((gd l_ i3).lock.page), I ((gd l_ i3).lock.slot), I ((gd l_ i3).mode)]))) (e_ixM (f := Grant.cs) (l := l_) (i := i3) (ev_t rfl) (ev_t rfl) el67 c14) ?_
      refine .t _ (e_ldRA (ev_t rfl) ty75 rfl rfl) ?_
      refine .t (.o (.c (.LC 4 (([(gd l_ i3)] : List Grant).map Grant.cs)))) (e_lit (cs := [I ((gd l_ i3).tx), I ((gd l_ i3).lock.page), I ((gd l_ i3).lock.slot), I ((gd l_ i3).mode)]) (xs := ([(gd l_ i3)]).map Grant.cs) slt67 rfl rfl rfl rfl rfl) ?_
      obtain ⟨c15, hm⟩ := hm.ifs
      refine .t (.o (.c (.g (h.length + 2) (((out2 ++ ([(gd l_ i3)] : List Grant))).length) 4 (out2v || decide (0 < ([(gd l_ i3)] : List Grant).length))))) (e_apG (k := 4) (q := 4398046511104) (m := ([(gd l_ i3)] : List Grant).length) (j := 1) (f := Grant.cs) (xs := out2) (ys := ([(gd l_ i3)] : List Grant)) (L' := [⟨[I (k_.page), I (k_.slot)], true, true⟩, ⟨(out2.map Grant.cs).flatten, true, false⟩, ⟨((out2 ++ ([(gd l_ i3)] : List Grant)).map Grant.cs).flatten, true, (out2v || decide (0 < ([(gd l_ i3)] : List Grant).length))⟩]) slt67 rfl (ev_t rfl) (ev_t rfl) (bx rfl rfl) (by intro x; rfl) src_LC rfl c15 rfl (by first | rfl | simp) rfl rfl) ?_
      refine .a rfl ?_
      refine .nil ?_
      refine CdOK.region ?_
      refine .m rfl ?_
      refine .t (VI ((w64 (i3 + 1)))) (e_bin (ev_t rfl) rfl rfl rfl) ?_
      refine .a rfl ?_
      refine .nil ?_
      refine .re (σ := [0, 2]) (X := [(0, .o (.c (.L 4 (l_.map Grant.cs)))), (1, VI (tx)), (2, VB (one)), (7, .o (.c (.ptr (h.length + 0) 0))), (9, .o (.c (.g (h.length + 1) (((out2 ++ ([(gd l_ i3)] : List Grant))).length) 4 (out2v || decide (0 < ([(gd l_ i3)] : List Grant).length))))), (10, VI ((w64 (i3 + 1))))]) (L' := [⟨[I (k_.page), I (k_.slot)], true, true⟩, ⟨((out2 ++ ([(gd l_ i3)] : List Grant)).map Grant.cs).flatten, true, (out2v || decide (0 < ([(gd l_ i3)] : List Grant).length))⟩]) rfl rfl hC (by decide) (.obj 0 rfl (renFl rfl) (.obj 2 rfl (renFl (flat_all (f := Grant.cs) (l := (out2 ++ ([(gd l_ i3)] : List Grant))) (by intro x; rfl))) .nil)) (.cons (renFlV rfl) (.cons (renFlV rfl) (.cons (renFlV rfl) (.cons (.o (.c (.ptr 0 0 _ rfl))) (.cons (.o (.c (.gg 2 1 _ _ _ _ _ rfl (by first | rfl | (simp; done) | (dsimp only at *; simp only [List.length_take]; omega)) rfl))) (.cons (renFlV rfl) .nil)))))) ?_
      exact ⟨_, ((out2 ++ ([(gd l_ i3)] : List Grant)), (w64 (i3 + 1)), (out2v || decide (0 < ([(gd l_ i3)] : List Grant).length))), Nat.lt_succ_self _, hm, (.cons rfl (.cons rfl (.cons rfl (.cons rfl (.cons rfl (.cons rfl .nil)))))), rfl⟩
     ·intro c16; replace hm := hm.ifn c16
      refine .skip ?_
      refine CdOK.region ?_
      refine .m rfl ?_
      refine .t (VI ((w64 (i3 + 1)))) (e_bin (ev_t rfl) rfl rfl rfl) ?_
      refine .a rfl ?_
      refine .nil ?_
      refine .id ?_
      exact ⟨_, (out2, (w64 (i3 + 1)), out2v), Nat.lt_succ_self _, hm, (.cons rfl (.cons rfl (.cons rfl (.cons rfl (.cons rfl (.cons rfl .nil)))))), rfl⟩
    ·intro c17; replace hm := hm.ifn (by rw [c17]; exact Bool.false_ne_true)
     refine .m rfl ?_
     refine .k ?_
     refine .k ?_
     refine .k ?_
     refine .k ?_
     refine .k ?_
     refine .k ?_
     refine .k ?_
     refine .t (VB (false)) (e_pick (t := false) (ev_t rfl) rfl) ?_
     refine .t (VB (false)) (e_pick (t := false) (ev_t rfl) (ev_t rfl)) ?_
     refine .nil ?_
     refine CdOK.cond_false rfl ?_
     refine .skip ?_
     refine CdOK.region ?_
     refine .m rfl ?_
     refine .t (VI ((w64 (i3 + 1)))) (e_bin (ev_t rfl) rfl rfl rfl) ?_
     refine .a rfl ?_
     refine .nil ?_
     refine .id ?_
     exact ⟨_, (out2, (w64 (i3 + 1)), out2v), Nat.lt_succ_self _, hm, (.cons rfl (.cons rfl (.cons rfl (.cons rfl (.cons rfl (.cons rfl .nil)))))), rfl⟩
  ·intro c18; replace hm := hm.ifn c18
   refine .exit ?_
   refine .re (σ := []) (X := [(9, .o (.c (.L 4 (out2.map Grant.cs))))]) (L' := []) rfl rfl hC (by decide) .nil (.cons (.o (.c (.fzg 1 _ 4 _ (out2.map Grant.cs) rfl (by decide) (by first | exact List.length_map .. | simp) (lens_all (by intro x; rfl)) (vl_all (by intro x; rfl))))) .nil) ?_
   exact ⟨out2, hm.ret, (.cons rfl .nil), rfl⟩
 ·rintro out1 T0 hm
  refine CdOK.seq ?_
  refine .region ?_
  refine .m rfl ?_
  refine .a rfl ?_
  refine .nil ?_
  refine CdOK.ret ?_
  refine ⟨.inr rfl, _, rfl, h, _, _, rfl, rfl, hC, ((renFlV rfl) : RenV _ _ _ _ (.o (.c (.L 4 (out1.map Grant.cs))))), ?_⟩
  cases hm.ret; exact ⟨rfl, rfl⟩
/- pagemend/pagemendref08.place -/
def ref08_place.l1 (t_ : Locks) (g_ : Grant) : Nat → Int → Option (Sum Unit Int)
  | 0, _ => none
  | kk5 + 1, i4 => (if i4 < (t_.waiting.length : Int) then (if (0 : Int) ≤ i4 ∧ i4 < (t_.waiting.length : Int) then (if (gd t_.waiting i4).lock = g_.lock then ((ref08_mode1 t_ ((gd t_.waiting i4).tx) ((gd t_.waiting i4).lock)).bind fun (x9 : Int) => (if x9 = 0 then some (Sum.inr i4) else ref08_place.l1 t_ g_ kk5 (w64 (i4 + 1)))) else ref08_place.l1 t_ g_ kk5 (w64 (i4 + 1))) else none) else some (Sum.inl ()))
def ref08_place (t_ : Locks) (g_ : Grant) : Option Int := ((ref08_mode1 t_ g_.tx g_.lock).bind fun (x1 : Int) => (if x1 = 0 then some (t_.waiting.length : Int) else ((ref08_place.l1 t_ g_ FU 0).bind fun (z : Sum Unit Int) => match z with | .inl (s14 : Unit) => some (t_.waiting.length : Int) | .inr r => some r)))
theorem ref08_place_ok {h : Heap} {t_ : Locks} {g_ : Grant}   {r : Int} (hm : ref08_place t_ g_ = some r) : FnOK Try.prog 121 [.o (.agg [.L 4 (t_.held.map Grant.cs), .L 4 (t_.waiting.map Grant.cs)]), .o (.agg [I (g_.tx), I (g_.lock.page), I (g_.lock.slot), I (g_.mode)])] h (fun v h' => v = VI (r) ∧ h' = h) := by
 refine FnOK.fin ?_
 refine FnOK.bodyC (N := 47) Try.func121 rfl rfl rfl (fun hC => ?_)
 replace hm := Ev.of hm
 rw [ref08_place.eq_1] at hm
 show CdOK _ _ _ (look _ [(0, .o (.agg [.L 4 (t_.held.map Grant.cs), .L 4 (t_.waiting.map Grant.cs)])), (1, .o (.agg [I (g_.tx), I (g_.lock.page), I (g_.lock.slot), I (g_.mode)]))]) (h ++ ([] : Heap)) _
 refine .seq ?_
 refine .region ?_
 refine .t (.o (.c (.ptr (h.length + 0) 0))) (e_boxN (L' := [⟨[.L 4 (t_.held.map Grant.cs), .L 4 (t_.waiting.map Grant.cs)], true, true⟩]) rfl (ev_t rfl) rfl rfl) ?_
 refine .t (.o (.c (.ptr (h.length + 1) 0))) (e_boxN (L' := [⟨[.L 4 (t_.held.map Grant.cs), .L 4 (t_.waiting.map Grant.cs)], true, true⟩, ⟨[I (g_.tx), I (g_.lock.page), I (g_.lock.slot), I (g_.mode)], true, true⟩]) rfl (ev_t rfl) rfl rfl) ?_
 refine .t (VI (0)) (e_as rfl) ?_
 refine .nil ?_
 refine CdOK.seq ?_
 refine .seq ?_
 refine .region ?_
 refine .t _ (e_ldbA (ev_t rfl) ty69 (bx rfl rfl) rfl rfl) ?_
 refine .t _ (e_fa' fa75_0 (ev_t rfl)) ?_
 refine .t _ (e_ldb1 (ev_t rfl) ty3 (bx rfl rfl) rfl) ?_
 refine .t _ (e_fa' fa75_1 (ev_t rfl)) ?_
 refine .t _ (e_ldbA (ev_t rfl) ty71 (bx rfl rfl) rfl rfl) ?_
 obtain ⟨x1, e1, hm⟩ := hm.call
 refine .cl rfl rfl rfl rfl pl120 (R2.wk _) (ref08_mode1_ok    e1) ?_
 rintro _ _ ⟨rfl, rfl⟩
 refine .t (VB (decide (x1 = 0))) (e_eqK (ev_t rfl) rfl) ?_
 refine .nil ?_
 refine CdOK.condD (ev_t rfl) ?_ ?_
 ·intro c2; replace hm := hm.ifp c2
  refine .seq ?_
  refine .region ?_
  refine .t _ (e_fa' fa69_1 (ev_t rfl)) ?_
  refine .t _ (e_ldb1 (ev_t rfl) ty67 (bx rfl rfl) rfl) ?_
  refine .t (VI ((t_.waiting.length : Int))) (e_lenM (ev_t rfl) is67) ?_
  refine .a rfl ?_
  refine .nil ?_
  refine CdOK.ret ?_
  refine ⟨.inr rfl, _, rfl, h, _, _, rfl, rfl, hC, ((renFlV rfl) : RenV _ _ _ _ (VI ((t_.waiting.length : Int)))), ?_⟩
  cases hm.ret; exact ⟨rfl, rfl⟩
 ·intro c3; replace hm := hm.ifn c3
  refine .skip ?_
  refine CdOK.seq ?_
  refine .seq ?_
  refine .region ?_
  refine .t (VI (0)) (e_as rfl) ?_
  refine .nil ?_
  replace hm := hm.bnd
  refine CdOK.joinT (σ := Unit) (fun s => Sum.inl ()) hm (fun s => [(2, .o (.c (.ptr (h.length + 0) 0)))]) (fun s => h ++ ([⟨[.L 4 (t_.held.map Grant.cs), .L 4 (t_.waiting.map Grant.cs)], true, true⟩] : Heap)) ?_ ?_
  ·intro hm
   refine .block ?_
   refine .loopE (σ := Int) (fun k s => Ev (ref08_place.l1 t_ g_ k s) _) (fun s => [(2, .o (.c (.ptr (h.length + 0) 0))), (3, .o (.c (.ptr (h.length + 1) 0))), (5, VI (s))]) (fun s => h ++ ([⟨[.L 4 (t_.held.map Grant.cs), .L 4 (t_.waiting.map Grant.cs)], true, true⟩, ⟨[I (g_.tx), I (g_.lock.page), I (g_.lock.slot), I (g_.mode)], true, true⟩] : Heap)) FU 0 hm (.cons rfl (.cons rfl (.cons rfl .nil))) rfl ?_
   rintro kk5 i4 T0 hm
   replace hm : Ev (ref08_place.l1 t_ g_ kk5 i4) _ := hm
   cases kk5 with
   | zero => exact (Ev.non hm).elim
   | succ kk5 =>
   rw [ref08_place.l1.eq_2] at hm
   show CdOK _ _ _ (look T0 [(2, .o (.c (.ptr (h.length + 0) 0))), (3, .o (.c (.ptr (h.length + 1) 0))), (5, VI (i4))]) (h ++ ([⟨[.L 4 (t_.held.map Grant.cs), .L 4 (t_.waiting.map Grant.cs)], true, true⟩, ⟨[I (g_.tx), I (g_.lock.page), I (g_.lock.slot), I (g_.mode)], true, true⟩] : Heap)) _
   refine .seq ?_
   refine .seq ?_
   refine .region ?_
   refine .m rfl ?_
   refine .t _ (e_fa' fa69_1 (ev_t rfl)) ?_
   refine .t _ (e_ldb1 (ev_t rfl) ty67 (bx rfl rfl) rfl) ?_
   refine .t (VI ((t_.waiting.length : Int))) (e_lenM (ev_t rfl) is67) ?_
   refine .t (VB (decide (i4 < (t_.waiting.length : Int)))) (e_bin (ev_t rfl) (ev_t rfl) rfl rfl) ?_
   refine .nil ?_
   refine CdOK.condD (ev_t rfl) ?_ ?_
   ·intro c6; replace hm := hm.ifp c6
    refine .skip ?_
    refine CdOK.seq ?_
    refine .block ?_
    refine .seq ?_
    refine .region ?_
    refine .t _ (e_fa' fa69_1 (ev_t rfl)) ?_
    refine .t _ (e_ldb1 (ev_t rfl) ty67 (bx rfl rfl) rfl) ?_
    refine .m rfl ?_
    obtain ⟨c7, hm⟩ := hm.ifs
    refine .t (.o (.c (.rp [I ((gd t_.waiting i4).tx), I ((gd t_.waiting i4).lock.page), I ((gd t_.waiting i4).lock.slot), I ((gd t_.waiting i4).mode)]))) (e_ixM (f := Grant.cs) (l := t_.waiting) (i := i4) (ev_t rfl) (ev_t rfl) el67 c7) ?_
    refine .t _ (e_ldRA (ev_t rfl) ty75 rfl rfl) ?_
    refine .t (.o (.c (.ptr (h.length + 2) 0))) (e_allocN (L' := [⟨[.L 4 (t_.held.map Grant.cs), .L 4 (t_.waiting.map Grant.cs)], true, true⟩, ⟨[I (g_.tx), I (g_.lock.page), I (g_.lock.slot), I (g_.mode)], true, true⟩, ⟨[I (0), I (0), I (0), I (0)], true, true⟩]) rfl zo75 rfl rfl) ?_
    refine .s0 rfl rfl (e_stN (L' := [⟨[.L 4 (t_.held.map Grant.cs), .L 4 (t_.waiting.map Grant.cs)], true, true⟩, ⟨[I (g_.tx), I (g_.lock.page), I (g_.lock.slot), I (g_.mode)], true, true⟩, ⟨[I ((gd t_.waiting i4).tx), I ((gd t_.waiting i4).lock.page), I ((gd t_.waiting i4).lock.slot), I ((gd t_.waiting i4).mode)], true, true⟩]) rfl (ev_t rfl) (ev_t rfl) ty75 rfl rfl rfl rfl rfl) ?_
    refine .nil ?_
    refine CdOK.seq ?_
    refine .region ?_
    refine .t _ (e_fa' fa75_1 (ev_t rfl)) ?_
    refine .t _ (e_ldbA (ev_t rfl) ty71 (bx rfl rfl) rfl rfl) ?_
    refine .t _ (e_fa' fa75_1 (ev_t rfl)) ?_
    refine .t _ (e_ldbA (ev_t rfl) ty71 (bx rfl rfl) rfl rfl) ?_
    refine .sd rfl rfl rfl (e_eqA (ev_t rfl) (ev_t rfl) rfl rfl (eqs71_eql ((gd t_.waiting i4).lock) g_.lock)) ?_ ?_
    ·intro c8; replace hm := hm.ifp c8
     refine .m rfl ?_
     refine .t _ (e_ldbA (ev_t rfl) ty69 (bx rfl rfl) rfl rfl) ?_
     refine .t _ (e_fa' fa75_0 (ev_t rfl)) ?_
     refine .t _ (e_ldb1 (ev_t rfl) ty3 (bx rfl rfl) rfl) ?_
     refine .t _ (e_fa' fa75_1 (ev_t rfl)) ?_
     refine .t _ (e_ldbA (ev_t rfl) ty71 (bx rfl rfl) rfl rfl) ?_
     obtain ⟨x9, e9, hm⟩ := hm.call
     refine .cl rfl rfl rfl rfl pl120 (R2.wk _) (ref08_mode1_ok    e9) ?_
     rintro _ _ ⟨rfl, rfl⟩
     refine .t (VB (decide (x9 = 0))) (e_eqK (ev_t rfl) rfl) ?_
     refine .t (VB (decide (x9 = 0))) (e_pick (t := true) (ev_t rfl) (ev_t rfl)) ?_
     refine .nil ?_
     refine CdOK.condD (ev_t rfl) ?_ ?_
     ·intro c10; replace hm := hm.ifp c10
      refine .seq ?_
      refine .region ?_
      refine .m rfl ?_
      refine .a rfl ?_
      refine .nil ?_
      refine CdOK.ret ?_
      refine ⟨.inr rfl, _, rfl, h, _, _, rfl, rfl, hC, ((renFlV rfl) : RenV _ _ _ _ (VI (i4))), ?_⟩
      have hr := hm.ret; replace hr := Ev.ret hr; cases hr; exact ⟨rfl, rfl⟩
     ·intro c11; replace hm := hm.ifn c11
      refine .skip ?_
      refine CdOK.region ?_
      refine .m rfl ?_
      refine .t (VI ((w64 (i4 + 1)))) (e_bin (ev_t rfl) rfl rfl rfl) ?_
      refine .a rfl ?_
      refine .nil ?_
      refine .re (σ := [0, 1]) (X := [(2, .o (.c (.ptr (h.length + 0) 0))), (3, .o (.c (.ptr (h.length + 1) 0))), (5, VI ((w64 (i4 + 1))))]) (L' := [⟨[.L 4 (t_.held.map Grant.cs), .L 4 (t_.waiting.map Grant.cs)], true, true⟩, ⟨[I (g_.tx), I (g_.lock.page), I (g_.lock.slot), I (g_.mode)], true, true⟩]) rfl rfl hC (by decide) (.obj 0 rfl (renFl rfl) (.obj 1 rfl (renFl rfl) .nil)) (.cons (.o (.c (.ptr 0 0 _ rfl))) (.cons (.o (.c (.ptr 1 1 _ rfl))) (.cons (renFlV rfl) .nil))) ?_
      exact ⟨_, (w64 (i4 + 1)), Nat.lt_succ_self _, hm, (.cons rfl (.cons rfl (.cons rfl .nil))), rfl⟩
    ·intro c12; replace hm := hm.ifn c12
     refine .m rfl ?_
     refine .k ?_
     refine .k ?_
     refine .k ?_
     refine .k ?_
     refine .k ?_
     refine .k ?_
     refine .k ?_
     refine .t (VB (false)) (e_pick (t := false) (ev_t rfl) rfl) ?_
     refine .nil ?_
     refine CdOK.cond_false rfl ?_
     refine .skip ?_
     refine CdOK.region ?_
     refine .m rfl ?_
     refine .t (VI ((w64 (i4 + 1)))) (e_bin (ev_t rfl) rfl rfl rfl) ?_
     refine .a rfl ?_
     refine .nil ?_
     refine .re (σ := [0, 1]) (X := [(2, .o (.c (.ptr (h.length + 0) 0))), (3, .o (.c (.ptr (h.length + 1) 0))), (5, VI ((w64 (i4 + 1))))]) (L' := [⟨[.L 4 (t_.held.map Grant.cs), .L 4 (t_.waiting.map Grant.cs)], true, true⟩, ⟨[I (g_.tx), I (g_.lock.page), I (g_.lock.slot), I (g_.mode)], true, true⟩]) rfl rfl hC (by decide) (.obj 0 rfl (renFl rfl) (.obj 1 rfl (renFl rfl) .nil)) (.cons (.o (.c (.ptr 0 0 _ rfl))) (.cons (.o (.c (.ptr 1 1 _ rfl))) (.cons (renFlV rfl) .nil))) ?_
     exact ⟨_, (w64 (i4 + 1)), Nat.lt_succ_self _, hm, (.cons rfl (.cons rfl (.cons rfl .nil))), rfl⟩
   ·intro c13; replace hm := hm.ifn c13
    refine .exit ?_
    refine .re (σ := [0]) (X := [(2, .o (.c (.ptr (h.length + 0) 0)))]) (L' := [⟨[.L 4 (t_.held.map Grant.cs), .L 4 (t_.waiting.map Grant.cs)], true, true⟩]) rfl rfl hC (by decide) (.obj 0 rfl (renFl rfl) .nil) (.cons (.o (.c (.ptr 0 0 _ rfl))) .nil) ?_
    exact ⟨(), hm.ret, (.cons rfl .nil), rfl⟩
  ·intro _ T0 hm
   refine CdOK.seq ?_
   refine .region ?_
   refine .t _ (e_fa' fa69_1 (ev_t rfl)) ?_
   refine .t _ (e_ldb1 (ev_t rfl) ty67 (bx rfl rfl) rfl) ?_
   refine .t (VI ((t_.waiting.length : Int))) (e_lenM (ev_t rfl) is67) ?_
   refine .a rfl ?_
   refine .nil ?_
   refine CdOK.ret ?_
   refine ⟨.inr rfl, _, rfl, h, _, _, rfl, rfl, hC, ((renFlV rfl) : RenV _ _ _ _ (VI ((t_.waiting.length : Int)))), ?_⟩
   cases hm.ret; exact ⟨rfl, rfl⟩
end Rv
