/- What the codes of a drawing answer; the example of chapter 35. -/
import Derived.Test.YtnlpkgamglhnbaaRvPq5
import Derived.Test.YtnlpkgamglhnbaaRvLaw35a
import Derived.KernelRfl
import GoSem.Claim
set_option linter.unusedVariables false
set_option linter.unusedSimpArgs false
namespace Rv
open Go Go.RowKit Go.Proofs

theorem law35_awake_true : law35_awake = some true := by kernel_rfl
theorem cnt_all {l : List Int} {n : Int} (h : ∀ x ∈ l, x < n) : cntL l n = l.length := by
  unfold cntL
  rw [List.filter_eq_self.2 (fun x hx => decide_eq_true (h x hx))]
structure CodesOK (c : Codes) : Prop where
  at0 : 0 ≤ c.at_
  at1 : c.at_ ≤ c.l_.length
  len : c.l_.length ≤ 200
  rng : ∀ i : Int, 0 ≤ i → i < c.l_.length → 0 ≤ gd c.l_ i ∧ gd c.l_ i ≤ 255
theorem new_codes {l : List Int} (h : ∀ x ∈ l, 0 ≤ x ∧ x ≤ 255) : ∃ c, New l 200 = some c ∧ CodesOK c := by
  have hg : ∀ (l : List Int), (∀ x ∈ l, 0 ≤ x ∧ x ≤ 255) → ∀ i : Int, 0 ≤ i → i < l.length → 0 ≤ gd l i ∧ gd l i ≤ 255 := fun l h i h0 h1 => by
    have : gd l i ∈ l := by
      have hi : i.toNat < l.length := by omega
      simp only [gd, List.getD, List.getElem?_eq_getElem hi, Option.getD_some]
      exact List.getElem_mem hi
    exact h _ this
  rw [New.eq]
  by_cases c : (200 : Int) < l.length
  · rw [if_pos c, if_pos (by omega)]
    refine ⟨_, rfl, Int.le_refl _, by simp, by simp; omega, ?_⟩
    exact hg _ fun x hx => h x (List.mem_of_mem_take hx)
  · rw [if_neg c]
    exact ⟨_, rfl, Int.le_refl _, by simp, by show l.length ≤ 200; omega, hg _ h⟩
theorem next_spec {c : Codes} (hc : CodesOK c) {n : Int} (h0 : 1 ≤ n) (h1 : n ≤ 256) : ∃ a c', Codes_Next n c = some (a, c') ∧ 0 ≤ a ∧ a < n ∧ CodesOK c' := by
  unfold Codes_Next
  rw [FU_pos, Codes_Next.r_s]
  by_cases c1 : (c.l_.length : Int) ≤ c.at_
  · rw [if_pos c1]; exact ⟨0, c, rfl, by omega, by omega, hc⟩
  rw [if_neg c1, if_neg (by omega), if_pos ⟨hc.at0, by omega⟩, if_neg (by omega), if_pos (by omega)]
  have hg := hc.rng c.at_ hc.at0 (by omega)
  have hl := hc.len
  have ha := hc.at0
  rw [w64_id (x := c.at_ + 1) (by omega), w64_id (x := gd c.l_ c.at_) (by omega), Int.tmod_eq_emod_of_nonneg (by omega)]
  refine ⟨_, _, rfl, Int.emod_nonneg _ (by omega), Int.emod_lt_of_pos _ (by omega), ?_⟩
  exact ⟨by show 0 ≤ c.at_ + 1; omega, by show c.at_ + 1 ≤ (c.l_.length : Int); omega, hc.len, hc.rng⟩
end Rv
