import Derived.Test.YtnlpkgamglhnbaaRvLif
set_option linter.unusedVariables false
set_option linter.unusedSimpArgs false
namespace Rv
open Go Go.RowKit Go.Proofs
theorem el27 : ElF Try.prog 27 1 := .of (by decide +kernel)
theorem is27 : isSliceT Try.prog 27 = true := by decide +kernel
theorem nl27 : nlT Try.prog 27 = [] := by kernel_rfl
theorem slt27 : SlT Try.prog 27 1 ([.v (.int .i64 0)]) 8 := .of (e := 3) (by decide +kernel) (by kernel_rfl) rfl
theorem cloneI_ok {h : Heap} {A : Nat} (hA : h.length = A) {l : List Int} (hn : l.length ≤ 17592186044416) : FnOK Try.prog 93 [.o (.c (.L 1 (l.map cI)))] h (fun v h' => ∃ lv, v = .o (.c (.g A l.length 1 lv)) ∧ h' = h ++ [⟨(l.map cI).flatten, true, lv⟩]) := by
  subst hA
  refine FnOK.wk3 ?_
  refine FnOK.body (N := 8) Try.func93 rfl rfl rfl ?_
  rw [List.append_nil]
  refine CdOK.seq (CdOK.region ?_)
  refine RgOK.s rfl rfl rfl (e_as rfl) ?_
  refine RgOK.nil ?_
  show CdOK _ _ _ _ _ _
  refine CdOK.seq (CdOK.seq (CdOK.region ?_))
  refine RgOK.s rfl rfl rfl (e_mv (ev_t rfl)) ?_
  refine (RgOK.nilcmpL rfl rfl is27 (ev_t rfl) ?_ ?_)
  · intro c4
    refine RgOK.nil ?_
    show CdOK _ _ _ _ _ _
    refine CdOK.cond_true rfl ?_
    refine CdOK.seq (CdOK.region ?_)
    refine RgOK.s rfl rfl rfl (e_as rfl) ?_
    refine RgOK.nil ?_
    show CdOK _ _ _ _ _ _
    refine CdOK.ret ?_
    refine ⟨.inr rfl, _, rfl, ?_⟩
    first
    | (have hl : l = [] := by simpa using c4
       subst hl
       exact ⟨_, _, tellNil, false, rfl, rfl⟩)
    | exact ⟨_, _, Tell3.refl _ _, _, rfl, rfl⟩
  · intro c4
    refine RgOK.nil ?_
    show CdOK _ _ _ _ _ _
    refine CdOK.cond_false rfl ?_
    refine CdOK.skip ?_
    show CdOK _ _ _ _ _ _
    refine CdOK.seq (CdOK.region ?_)
    refine RgOK.s rfl rfl rfl (e_lit (cs := []) (xs := []) slt27 nl27 rfl rfl rfl rfl rfl) ?_
    refine RgOK.s rfl rfl rfl (e_mv (ev_t rfl)) ?_
    refine RgOK.s rfl rfl rfl (e_apC0 (k := 1) (q := 17592186044416) (m := l.length) (ys := l) (f := cI) (lv := decide (0 < l.length)) slt27 (ev_t rfl) (ev_t rfl) src_L rfl hn (by decide) rfl) ?_
    refine RgOK.s rfl rfl rfl (e_as (ev_t rfl)) ?_
    refine RgOK.nil ?_
    show CdOK _ _ _ _ _ _
    refine CdOK.ret ?_
    refine ⟨.inr rfl, _, rfl, ?_⟩
    first
    | (have hl : l = [] := by simpa using c4
       subst hl
       exact ⟨_, _, tellNil, false, rfl, rfl⟩)
    | exact ⟨_, _, Tell3.refl _ _, _, rfl, rfl⟩
end Rv
