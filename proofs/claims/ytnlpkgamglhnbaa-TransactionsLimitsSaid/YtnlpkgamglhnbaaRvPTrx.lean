/- Chapter 12: no more transactions run, and no more savepoints are kept, than there may be. -/
import Derived.Test.YtnlpkgamglhnbaaRvTrx2
import Derived.KernelRfl
import GoSem.Claim
set_option linter.unusedVariables false
set_option linter.unusedSimpArgs false
namespace Rv
open Go Go.RowKit Go.Proofs

theorem trx_l1_c {a b : Int} (h : Int.tmod (w64 a) 2 = Int.tmod (w64 b) 2) : ∀ f l i, law12_TransactionsLimits.l1 a f l i = law12_TransactionsLimits.l1 b f l i := by
  intro f
  induction f with
  | zero => intros; rfl
  | succ f ih => intro l i; rw [law12_TransactionsLimits.l1_s, law12_TransactionsLimits.l1_s, h]; simp only [ih]
theorem trx_l2_c {a b : Int} (h : Int.tmod (w64 a) 3 = Int.tmod (w64 b) 3) : ∀ f l i, law12_TransactionsLimits.l2 a f l i = law12_TransactionsLimits.l2 b f l i := by
  intro f
  induction f with
  | zero => intros; rfl
  | succ f ih => intro l i; rw [law12_TransactionsLimits.l2_s, law12_TransactionsLimits.l2_s, h]; simp only [ih]
theorem trx_c {a b c d : Int} (h : Int.tmod (w64 a) 2 = Int.tmod (w64 b) 2) (h' : Int.tmod (w64 c) 3 = Int.tmod (w64 d) 3) : law12_TransactionsLimits a c = law12_TransactionsLimits b d := by
  rw [law12_TransactionsLimits.eq, law12_TransactionsLimits.eq, h, h']
  simp only [trx_l1_c h, trx_l2_c h']
theorem trx00 : law12_TransactionsLimits 0 0 = some true := by kernel_rfl
theorem trx01 : law12_TransactionsLimits 0 1 = some true := by kernel_rfl
theorem trx02 : law12_TransactionsLimits 0 2 = some true := by kernel_rfl
theorem trx10 : law12_TransactionsLimits 1 0 = some true := by kernel_rfl
theorem trx11 : law12_TransactionsLimits 1 1 = some true := by kernel_rfl
theorem trx12 : law12_TransactionsLimits 1 2 = some true := by kernel_rfl
theorem law12_TransactionsLimits_true (p s : Int) (hp : (Lit.int .u8 p).wf = true) (hs : (Lit.int .u8 s).wf = true) : law12_TransactionsLimits p s = some true := by
  have hp' : 0 ≤ p ∧ p ≤ 255 := by simpa [Lit.wf, IntKind.min, IntKind.max, IntKind.signed, IntKind.bits] using hp
  have hs' : 0 ≤ s ∧ s ≤ 255 := by simpa [Lit.wf, IntKind.min, IntKind.max, IntKind.signed, IntKind.bits] using hs
  have e1 : Int.tmod (w64 p) 2 = Int.tmod (w64 (p % 2)) 2 := by
    rw [w64_id (by omega), w64_id (by omega), Int.tmod_eq_emod_of_nonneg (by omega), Int.tmod_eq_emod_of_nonneg (by omega)]; omega
  have e2 : Int.tmod (w64 s) 3 = Int.tmod (w64 (s % 3)) 3 := by
    rw [w64_id (by omega), w64_id (by omega), Int.tmod_eq_emod_of_nonneg (by omega), Int.tmod_eq_emod_of_nonneg (by omega)]; omega
  rw [trx_c e1 e2]
  have h1 : p % 2 = 0 ∨ p % 2 = 1 := by omega
  have h2 : s % 3 = 0 ∨ s % 3 = 1 ∨ s % 3 = 2 := by omega
  rcases h1 with h1 | h1 <;> rcases h2 with h2 | h2 | h2 <;> rw [h1, h2]
  · exact trx00
  · exact trx01
  · exact trx02
  · exact trx10
  · exact trx11
  · exact trx12
end Rv
