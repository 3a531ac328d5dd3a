import Derived.Test.YtnlpkgamglhnbaaRvLif
set_option linter.unusedVariables false
set_option linter.unusedSimpArgs false
namespace Rv
open Go Go.RowKit Go.Proofs
def cmp_isNaN (x_ : Int) : Option Bool := some (decide (x_ ≠ x_))
theorem cmp_isNaN_ok {h : Heap} {x_ : Int}   {r : Bool} (hm : cmp_isNaN x_ = some r) : FnOK Try.prog 195 [VI (x_)] h (fun v h' => v = VB (r) ∧ h' = h) := by
 refine FnOK.fin ?_
 refine FnOK.bodyC (N := 6) Try.func195 rfl rfl rfl (fun hC => ?_)
 replace hm := Ev.of hm
 rw [cmp_isNaN.eq_1] at hm
 show CdOK _ _ _ (look _ [(0, VI (x_))]) (h ++ ([] : Heap)) _
 refine .seq (.region (.t (VB (false)) (e_as rfl) ?_))
 refine .nil (CdOK.seq (.region ?_))
 iterate 2 refine .m rfl ?_
 refine .t (VB (decide (x_ ≠ x_))) (e_neK (ev_t rfl) (ev_t rfl)) ?_
 refine .a rfl ?_
 refine .nil ?_
 refine CdOK.ret ?_
 refine ⟨.inr rfl, _, rfl, h, _, _, rfl, rfl, hC, ((renFlV rfl) : RenV _ _ _ _ (VB (decide (x_ ≠ x_)))), ?_⟩
 cases hm.ret; exact ⟨rfl, rfl⟩
def slices_isNaN (x_ : Int) : Option Bool := some (decide (x_ ≠ x_))
theorem slices_isNaN_ok {h : Heap} {x_ : Int}   {r : Bool} (hm : slices_isNaN x_ = some r) : FnOK Try.prog 162 [VI (x_)] h (fun v h' => v = VB (r) ∧ h' = h) := by
 refine FnOK.fin ?_
 refine FnOK.bodyC (N := 6) Try.func162 rfl rfl rfl (fun hC => ?_)
 replace hm := Ev.of hm
 rw [slices_isNaN.eq_1] at hm
 show CdOK _ _ _ (look _ [(0, VI (x_))]) (h ++ ([] : Heap)) _
 refine .seq (.region (.t (VB (false)) (e_as rfl) ?_))
 refine .nil (CdOK.seq (.region ?_))
 iterate 2 refine .m rfl ?_
 refine .t (VB (decide (x_ ≠ x_))) (e_neK (ev_t rfl) (ev_t rfl)) ?_
 refine .a rfl ?_
 refine .nil ?_
 refine CdOK.ret ?_
 refine ⟨.inr rfl, _, rfl, h, _, _, rfl, rfl, hC, ((renFlV rfl) : RenV _ _ _ _ (VB (decide (x_ ≠ x_)))), ?_⟩
 cases hm.ret; exact ⟨rfl, rfl⟩
end Rv
