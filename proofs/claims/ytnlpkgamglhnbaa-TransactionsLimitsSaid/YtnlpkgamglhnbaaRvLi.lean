/- slices.Clone, slices.Insert: walked. -/
import Derived.Test.YtnlpkgamglhnbaaRvVt
import Derived.Test.YtnlpkgamglhnbaaRvLib
import Derived.Test.YtnlpkgamglhnbaaRvBor
set_option linter.unusedVariables false
set_option linter.unusedSimpArgs false
namespace Rv
open Go Go.RowKit Go.Proofs
theorem is26 : isSliceT Try.prog 26 = true := by decide +kernel
theorem is27 : isSliceT Try.prog 27 = true := by decide +kernel
theorem is67 : isSliceT Try.prog 67 = true := by decide +kernel
theorem is92 : isSliceT Try.prog 92 = true := by decide +kernel
theorem slt26 : SlT Try.prog 26 2 ([.v (.int .i64 0)] ++ [.v (.int .i64 0)]) 16 := .of (e := 117) (by decide +kernel) (by kernel_rfl) rfl
theorem slt27 : SlT Try.prog 27 1 ([.v (.int .i64 0)]) 8 := .of (e := 3) (by decide +kernel) (by kernel_rfl) rfl
theorem slt67 : SlT Try.prog 67 4 ([.v (.int .i64 0)] ++ [.v (.int .i64 0)] ++ [.v (.int .i64 0)] ++ [.v (.int .i64 0)]) 32 := .of (e := 75) (by decide +kernel) (by kernel_rfl) rfl
theorem slt92 : SlT Try.prog 92 6 ([.v (.int .i64 0)] ++ [.v (.int .i64 0)] ++ [.v (.int .i64 0)] ++ [.v (.int .i64 0)] ++ [.v (.slice none 0 0)] ++ [.v (.slice none 0 0)]) 80 := .of (e := 108) (by decide +kernel) (by kernel_rfl) rfl
/- slices.Clone[[]int,int] -/
theorem cloneI_ok {h : Heap} {A : Nat} (hA : h.length = A) {l : List Int} (hn : l.length ≤ 17592186044416) : FnOK Try.prog 93 [.o (.c (.L 1 (l.map cI)))] h (fun v h' => ∃ lv, v = .o (.c (.g A l.length 1 lv)) ∧ h' = h ++ [⟨(l.map cI).flatten, true, lv⟩]) := by
  subst hA
  refine FnOK.wk3 ?_
  refine FnOK.body (N := 8) Try.func93 rfl rfl rfl ?_
  rw [List.append_nil]
  refine CdOK.seq ?_
  refine CdOK.region ?_
  refine RgOK.s rfl rfl rfl (e_as rfl) ?_
  refine RgOK.nil ?_
  show CdOK _ _ _ _ _ _
  refine CdOK.seq ?_
  refine CdOK.seq ?_
  refine CdOK.region ?_
  refine RgOK.s rfl rfl rfl (e_mv (ev_t rfl)) ?_
  refine (RgOK.nilcmpL rfl rfl is27 (ev_t rfl) ?_ ?_)
  · intro c4
    refine RgOK.nil ?_
    show CdOK _ _ _ _ _ _
    refine CdOK.cond_true rfl ?_
    refine CdOK.seq ?_
    refine CdOK.region ?_
    refine RgOK.s rfl rfl rfl (e_as rfl) ?_
    refine RgOK.nil ?_
    show CdOK _ _ _ _ _ _
    refine CdOK.ret ?_
    refine ⟨.inr rfl, _, rfl, ?_⟩
    first
    | (have hl : l = [] := by simpa using c4
       subst hl
       exact ⟨_, _, tellNil, false, rfl, rfl⟩)
    | exact ⟨_, _, Tell3.refl _ _, _, rfl, rfl⟩
  · intro c4
    refine RgOK.nil ?_
    show CdOK _ _ _ _ _ _
    refine CdOK.cond_false rfl ?_
    refine CdOK.skip ?_
    show CdOK _ _ _ _ _ _
    refine CdOK.seq ?_
    refine CdOK.region ?_
    refine RgOK.s rfl rfl rfl (e_lit (cs := []) (xs := []) slt27 rfl rfl rfl rfl rfl) ?_
    refine RgOK.s rfl rfl rfl (e_mv (ev_t rfl)) ?_
    refine RgOK.s rfl rfl rfl (e_apC0 (k := 1) (q := 17592186044416) (m := l.length) (ys := l) (f := cI) (lv := decide (0 < l.length)) slt27 (ev_t rfl) (ev_t rfl) src_L rfl hn (by decide) rfl) ?_
    refine RgOK.s rfl rfl rfl (e_as (ev_t rfl)) ?_
    refine RgOK.nil ?_
    show CdOK _ _ _ _ _ _
    refine CdOK.ret ?_
    refine ⟨.inr rfl, _, rfl, ?_⟩
    first
    | (have hl : l = [] := by simpa using c4
       subst hl
       exact ⟨_, _, tellNil, false, rfl, rfl⟩)
    | exact ⟨_, _, Tell3.refl _ _, _, rfl, rfl⟩
/- slices.Clone[[]pagemend/api.Place,pagemend/api.Place] -/
theorem cloneP_ok {h : Heap} {A : Nat} (hA : h.length = A) {l : List Place} (hn : l.length ≤ 8796093022208) : FnOK Try.prog 94 [.o (.c (.L 2 (l.map Place.cs)))] h (fun v h' => ∃ lv, v = .o (.c (.g A l.length 2 lv)) ∧ h' = h ++ [⟨(l.map Place.cs).flatten, true, lv⟩]) := by
  subst hA
  refine FnOK.wk3 ?_
  refine FnOK.body (N := 8) Try.func94 rfl rfl rfl ?_
  rw [List.append_nil]
  refine CdOK.seq ?_
  refine CdOK.region ?_
  refine RgOK.s rfl rfl rfl (e_as rfl) ?_
  refine RgOK.nil ?_
  show CdOK _ _ _ _ _ _
  refine CdOK.seq ?_
  refine CdOK.seq ?_
  refine CdOK.region ?_
  refine RgOK.s rfl rfl rfl (e_mv (ev_t rfl)) ?_
  refine (RgOK.nilcmpL rfl rfl is26 (ev_t rfl) ?_ ?_)
  · intro c4
    refine RgOK.nil ?_
    show CdOK _ _ _ _ _ _
    refine CdOK.cond_true rfl ?_
    refine CdOK.seq ?_
    refine CdOK.region ?_
    refine RgOK.s rfl rfl rfl (e_as rfl) ?_
    refine RgOK.nil ?_
    show CdOK _ _ _ _ _ _
    refine CdOK.ret ?_
    refine ⟨.inr rfl, _, rfl, ?_⟩
    first
    | (have hl : l = [] := by simpa using c4
       subst hl
       exact ⟨_, _, tellNil, false, rfl, rfl⟩)
    | exact ⟨_, _, Tell3.refl _ _, _, rfl, rfl⟩
  · intro c4
    refine RgOK.nil ?_
    show CdOK _ _ _ _ _ _
    refine CdOK.cond_false rfl ?_
    refine CdOK.skip ?_
    show CdOK _ _ _ _ _ _
    refine CdOK.seq ?_
    refine CdOK.region ?_
    refine RgOK.s rfl rfl rfl (e_lit (cs := []) (xs := []) slt26 rfl rfl rfl rfl rfl) ?_
    refine RgOK.s rfl rfl rfl (e_mv (ev_t rfl)) ?_
    refine RgOK.s rfl rfl rfl (e_apC0 (k := 2) (q := 8796093022208) (m := l.length) (ys := l) (f := Place.cs) (lv := decide (0 < l.length)) slt26 (ev_t rfl) (ev_t rfl) src_L rfl hn (by decide) rfl) ?_
    refine RgOK.s rfl rfl rfl (e_as (ev_t rfl)) ?_
    refine RgOK.nil ?_
    show CdOK _ _ _ _ _ _
    refine CdOK.ret ?_
    refine ⟨.inr rfl, _, rfl, ?_⟩
    first
    | (have hl : l = [] := by simpa using c4
       subst hl
       exact ⟨_, _, tellNil, false, rfl, rfl⟩)
    | exact ⟨_, _, Tell3.refl _ _, _, rfl, rfl⟩
/- slices.Clone[[]pagemend/api.Grant,pagemend/api.Grant] -/
theorem cloneG_ok {h : Heap} {A : Nat} (hA : h.length = A) {l : List Grant} (hn : l.length ≤ 4398046511104) : FnOK Try.prog 176 [.o (.c (.L 4 (l.map Grant.cs)))] h (fun v h' => ∃ lv, v = .o (.c (.g A l.length 4 lv)) ∧ h' = h ++ [⟨(l.map Grant.cs).flatten, true, lv⟩]) := by
  subst hA
  refine FnOK.wk3 ?_
  refine FnOK.body (N := 8) Try.func176 rfl rfl rfl ?_
  rw [List.append_nil]
  refine CdOK.seq ?_
  refine CdOK.region ?_
  refine RgOK.s rfl rfl rfl (e_as rfl) ?_
  refine RgOK.nil ?_
  show CdOK _ _ _ _ _ _
  refine CdOK.seq ?_
  refine CdOK.seq ?_
  refine CdOK.region ?_
  refine RgOK.s rfl rfl rfl (e_mv (ev_t rfl)) ?_
  refine (RgOK.nilcmpL rfl rfl is67 (ev_t rfl) ?_ ?_)
  · intro c4
    refine RgOK.nil ?_
    show CdOK _ _ _ _ _ _
    refine CdOK.cond_true rfl ?_
    refine CdOK.seq ?_
    refine CdOK.region ?_
    refine RgOK.s rfl rfl rfl (e_as rfl) ?_
    refine RgOK.nil ?_
    show CdOK _ _ _ _ _ _
    refine CdOK.ret ?_
    refine ⟨.inr rfl, _, rfl, ?_⟩
    first
    | (have hl : l = [] := by simpa using c4
       subst hl
       exact ⟨_, _, tellNil, false, rfl, rfl⟩)
    | exact ⟨_, _, Tell3.refl _ _, _, rfl, rfl⟩
  · intro c4
    refine RgOK.nil ?_
    show CdOK _ _ _ _ _ _
    refine CdOK.cond_false rfl ?_
    refine CdOK.skip ?_
    show CdOK _ _ _ _ _ _
    refine CdOK.seq ?_
    refine CdOK.region ?_
    refine RgOK.s rfl rfl rfl (e_lit (cs := []) (xs := []) slt67 rfl rfl rfl rfl rfl) ?_
    refine RgOK.s rfl rfl rfl (e_mv (ev_t rfl)) ?_
    refine RgOK.s rfl rfl rfl (e_apC0 (k := 4) (q := 4398046511104) (m := l.length) (ys := l) (f := Grant.cs) (lv := decide (0 < l.length)) slt67 (ev_t rfl) (ev_t rfl) src_L rfl hn (by decide) rfl) ?_
    refine RgOK.s rfl rfl rfl (e_as (ev_t rfl)) ?_
    refine RgOK.nil ?_
    show CdOK _ _ _ _ _ _
    refine CdOK.ret ?_
    refine ⟨.inr rfl, _, rfl, ?_⟩
    first
    | (have hl : l = [] := by simpa using c4
       subst hl
       exact ⟨_, _, tellNil, false, rfl, rfl⟩)
    | exact ⟨_, _, Tell3.refl _ _, _, rfl, rfl⟩
/- slices.Clone[[]pagemend/api.Tx,pagemend/api.Tx] -/
theorem cloneT_ok {h : Heap} {A : Nat} (hA : h.length = A) {l : List Tx} (hn : l.length ≤ 1759218604441) : FnOK Try.prog 145 [.o (.c (.L 6 (l.map Tx.cs)))] h (fun v h' => ∃ lv, v = .o (.c (.g A l.length 6 lv)) ∧ h' = h ++ [⟨(l.map Tx.cs).flatten, true, lv⟩]) := by
  subst hA
  refine FnOK.wk3 ?_
  refine FnOK.body (N := 8) Try.func145 rfl rfl rfl ?_
  rw [List.append_nil]
  refine CdOK.seq ?_
  refine CdOK.region ?_
  refine RgOK.s rfl rfl rfl (e_as rfl) ?_
  refine RgOK.nil ?_
  show CdOK _ _ _ _ _ _
  refine CdOK.seq ?_
  refine CdOK.seq ?_
  refine CdOK.region ?_
  refine RgOK.s rfl rfl rfl (e_mv (ev_t rfl)) ?_
  refine (RgOK.nilcmpL rfl rfl is92 (ev_t rfl) ?_ ?_)
  · intro c4
    refine RgOK.nil ?_
    show CdOK _ _ _ _ _ _
    refine CdOK.cond_true rfl ?_
    refine CdOK.seq ?_
    refine CdOK.region ?_
    refine RgOK.s rfl rfl rfl (e_as rfl) ?_
    refine RgOK.nil ?_
    show CdOK _ _ _ _ _ _
    refine CdOK.ret ?_
    refine ⟨.inr rfl, _, rfl, ?_⟩
    first
    | (have hl : l = [] := by simpa using c4
       subst hl
       exact ⟨_, _, tellNil, false, rfl, rfl⟩)
    | exact ⟨_, _, Tell3.refl _ _, _, rfl, rfl⟩
  · intro c4
    refine RgOK.nil ?_
    show CdOK _ _ _ _ _ _
    refine CdOK.cond_false rfl ?_
    refine CdOK.skip ?_
    show CdOK _ _ _ _ _ _
    refine CdOK.seq ?_
    refine CdOK.region ?_
    refine RgOK.s rfl rfl rfl (e_lit (cs := []) (xs := []) slt92 rfl rfl rfl rfl rfl) ?_
    refine RgOK.s rfl rfl rfl (e_mv (ev_t rfl)) ?_
    refine RgOK.s rfl rfl rfl (e_apC0 (k := 6) (q := 1759218604441) (m := l.length) (ys := l) (f := Tx.cs) (lv := decide (0 < l.length)) slt92 (ev_t rfl) (ev_t rfl) src_L rfl hn (by decide) rfl) ?_
    refine RgOK.s rfl rfl rfl (e_as (ev_t rfl)) ?_
    refine RgOK.nil ?_
    show CdOK _ _ _ _ _ _
    refine CdOK.ret ?_
    refine ⟨.inr rfl, _, rfl, ?_⟩
    first
    | (have hl : l = [] := by simpa using c4
       subst hl
       exact ⟨_, _, tellNil, false, rfl, rfl⟩)
    | exact ⟨_, _, Tell3.refl _ _, _, rfl, rfl⟩
end Rv
