import Derived.Test.YtnlpkgamglhnbaaRvDrw
set_option linter.unusedVariables false
set_option linter.unusedSimpArgs false
namespace Rv
open Go Go.RowKit Go.Proofs

structure CdOK2 (c : Codes) : Prop where
  at0 : 0 ≤ c.at_
  at1 : c.at_ ≤ c.l_.length
  len : c.l_.length ≤ 1000
  rng : ∀ i : Int, 0 ≤ i → i < c.l_.length → 0 ≤ gd c.l_ i ∧ gd c.l_ i ≤ 255
/-- One of the choices, and what is left of the codes. -/
def Step (c c' : Codes) : Prop := CdOK2 c' ∧ c'.l_ = c.l_ ∧ c.at_ ≤ c'.at_
theorem Step.refl {c : Codes} (h : CdOK2 c) : Step c c := ⟨h, rfl, Int.le_refl _⟩
theorem Step.trans {a b c : Codes} (h : Step a b) (h' : Step b c) : Step a c := ⟨h'.1, h'.2.1.trans h.2.1, Int.le_trans h.2.2 h'.2.2⟩
theorem new_codes2 {l : List Int} (h : ∀ x ∈ l, 0 ≤ x ∧ x ≤ 255) {n : Int} (h0 : 0 ≤ n) (h1 : n ≤ 1000) : ∃ c, New l n = some c ∧ CdOK2 c ∧ c.at_ = 0 ∧ (c.l_.length : Int) ≤ n := by
  have hg : ∀ (l : List Int), (∀ x ∈ l, 0 ≤ x ∧ x ≤ 255) → ∀ i : Int, 0 ≤ i → i < l.length → 0 ≤ gd l i ∧ gd l i ≤ 255 := fun l h i h0 h1 => by
    have : gd l i ∈ l := by
      have hi : i.toNat < l.length := by omega
      simp only [gd, List.getD, List.getElem?_eq_getElem hi, Option.getD_some]
      exact List.getElem_mem hi
    exact h _ this
  rw [New.eq_1]
  by_cases c : n < (l.length : Int)
  · rw [if_pos c, if_pos (by omega)]
    refine ⟨_, rfl, ⟨Int.le_refl _, by simp, by simp; omega, ?_⟩, rfl, by simp; omega⟩
    exact hg _ fun x hx => h x (List.mem_of_mem_take hx)
  · rw [if_neg c]
    exact ⟨_, rfl, ⟨Int.le_refl _, by simp, by show l.length ≤ 1000; omega, hg _ h⟩, rfl, by show (l.length : Int) ≤ n; omega⟩
theorem next2 {c : Codes} (hc : CdOK2 c) {n : Int} (h0 : 1 ≤ n) (h1 : n ≤ 256) : ∃ a c', Codes_Next n c = some (a, c') ∧ 0 ≤ a ∧ a < n ∧ Step c c' ∧ (c.at_ < c.l_.length → c'.at_ = c.at_ + 1) := by
  unfold Codes_Next
  rw [show FU = 18446744073709551615 + 1 from rfl, Codes_Next.r.eq_2]
  by_cases c1 : (c.l_.length : Int) ≤ c.at_
  · rw [if_pos c1]; exact ⟨0, c, rfl, by omega, by omega, .refl hc, fun h => by omega⟩
  rw [if_neg c1, if_neg (by omega), if_pos ⟨hc.at0, by omega⟩, if_neg (by omega), if_pos (by omega)]
  have hg := hc.rng c.at_ hc.at0 (by omega)
  have hl := hc.len
  have ha := hc.at0
  rw [w64_id (x := c.at_ + 1) (by omega), w64_id (x := gd c.l_ c.at_) (by omega), Int.tmod_eq_emod_of_nonneg (by omega)]
  refine ⟨_, _, rfl, Int.emod_nonneg _ (by omega), Int.emod_lt_of_pos _ (by omega), ⟨?_, rfl, by show c.at_ ≤ c.at_ + 1; omega⟩, fun _ => rfl⟩
  exact ⟨by show 0 ≤ c.at_ + 1; omega, by show c.at_ + 1 ≤ (c.l_.length : Int); omega, hc.len, hc.rng⟩
theorem int2 {c : Codes} (hc : CdOK2 c) : ∃ a c', Codes_Int c = some (a, c') ∧ Step c c' := by
  rw [Codes_Int.eq_1]
  obtain ⟨a, c1, e1, _, _, s1, _⟩ := next2 hc (n := 10) (by decide) (by decide)
  rw [e1]
  simp only [Option.bind_some]
  by_cases h0 : a = 0
  · rw [if_pos h0]
    obtain ⟨b, c2, e2, _, _, s2, _⟩ := next2 s1.1 (n := 3) (by decide) (by decide)
    rw [e2]
    exact ⟨_, _, rfl, s1.trans s2⟩
  · rw [if_neg h0]
    by_cases h1 : a = 1
    · rw [if_pos h1]
      obtain ⟨b, c2, e2, b0, b1, s2, _⟩ := next2 s1.1 (n := 16) (by decide) (by decide)
      rw [e2]
      simp only [Option.bind_some]
      rw [if_pos ⟨b0, by simpa using b1⟩]
      exact ⟨_, _, rfl, s1.trans s2⟩
    · rw [if_neg h1]
      obtain ⟨b, c2, e2, _, _, s2, _⟩ := next2 s1.1 (n := 20) (by decide) (by decide)
      rw [e2]
      exact ⟨_, _, rfl, s1.trans s2⟩
end Rv
