/- Chapter 35: a map is the same as itself. -/
import Derived.Test.YtnlpkgamglhnbaaRvPCodes
import Derived.Test.YtnlpkgamglhnbaaRvR35s
set_option linter.unusedVariables false
set_option linter.unusedSimpArgs false
namespace Rv
open Go Go.RowKit Go.Proofs

theorem same_l1 {a b : Remap} (he : a.places = b.places) (hm : a.places.length ≤ 1000000) : ∀ (k : Nat) (i : Int), 0 ≤ i → i ≤ a.places.length → a.places.length - i < k → ref35_Same.l1 a b k i = some (.inl ()) := by
  intro k
  induction k with
  | zero => intro i h0 h1 h2; omega
  | succ k ih =>
    intro i h0 h1 h2
    rw [ref35_Same.l1_s, ← he]
    by_cases hi : i < a.places.length
    · rw [if_pos hi, if_pos ⟨h0, hi⟩, if_pos ⟨h0, hi⟩, if_neg (by simp), w64_id (by omega)]
      exact ih _ (by omega) (by omega) (by omega)
    · rw [if_neg hi]
theorem same_l2 {a b : Remap} (he : a.bad = b.bad) (hm : a.bad.length ≤ 1000000) : ∀ (k : Nat) (i : Int), 0 ≤ i → i ≤ a.bad.length → a.bad.length - i < k → ref35_Same.l2 a b k i = some (.inl ()) := by
  intro k
  induction k with
  | zero => intro i h0 h1 h2; omega
  | succ k ih =>
    intro i h0 h1 h2
    rw [ref35_Same.l2_s, ← he]
    by_cases hi : i < a.bad.length
    · rw [if_pos hi, if_pos ⟨h0, hi⟩, if_pos ⟨h0, hi⟩, if_neg (by simp), w64_id (by omega)]
      exact ih _ (by omega) (by omega) (by omega)
    · rw [if_neg hi]
theorem same_refl {a : Remap} (hn : a.bad.length ≤ 1000000) (hm : a.places.length ≤ 1000000) : ref35_Same a a = some true := by
  rw [ref35_Same.eq, if_neg (by simp), if_neg (by simp), if_neg (by simp), if_neg (by simp), same_l1 rfl hm FU 0 (by omega) (by omega) (by unfold FU; omega)]
  simp only [Option.bind_some]
  rw [same_l2 rfl hn FU 0 (by omega) (by omega) (by unfold FU; omega)]
  rfl
end Rv
