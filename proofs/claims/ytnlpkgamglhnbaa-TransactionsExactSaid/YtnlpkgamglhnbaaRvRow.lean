import Derived.Test.YtnlpkgamglhnbaaRvBor
import GoSem.Claim
set_option linter.unusedVariables false
set_option linter.unusedSimpArgs false
namespace Rv
open Go Go.RowKit

theorem row_calls {P : Program} {f : FuncId} {args : List AV} {us : List Value} {w : World} (hf : FnOK P f args [] (fun v h' => v = VB true ∧ h' = [])) (ha : R2 (RV (mu0 w)) args us) :
    Calls P f us.toArray w fun e w' => e = .returned (.bool true) ∧ Below w.heap.size w w' := by
  refine Calls.mono (hf (pt0 w) (mu0 w) w us (HR.zero w) ha) ?_
  rintro e w' ⟨u, v, h', μ', rfl, ⟨rfl, rfl⟩, hv, _, _, hb⟩
  obtain ⟨rfl, _⟩ := hv
  exact ⟨rfl, hb.os, hb.tape, hb.output, hb.size, hb.block⟩
theorem row_int {μ : Mu} {k : IntKind} {i : Int} : RV μ (.o (.c (.v (.int k i)))) (.int k i) := ⟨rfl, rfl⟩
/-- A slice of whole numbers, as the row hands it in. -/
def IsRow (k : IntKind) (w : World) (a : Option Addr) (len cap : Nat) (zs : List Int) : Prop :=
  (a = none ∧ len = 0 ∧ cap = 0 ∧ zs = []) ∨
  ∃ x, a = some x ∧ len ≤ cap ∧ cap ≤ maxLen ∧ zs.length = cap ∧ (∀ i, i < zs.length → w.cell? (x.add i) = some (.int k (zs.getD i 0))) ∧ ∀ n ∈ zs, (Lit.int k n).wf = true
theorem row_ints {k : IntKind} {w : World} {a : Option Addr} {len cap : Nat} {zs : List Int} (h : IsRow k w a len cap zs) : RV (mu0 w) (.o (.c (.L 1 ((zs.take len).map fun x => [Cell.v (.int k x)])))) (.slice a len cap) := by
  show LR _ 1 _ _
  have hl : len ≤ zs.length := by rcases h with ⟨_, h1, _, _⟩ | ⟨x, _, h1, _, h2, _⟩ <;> omega
  have hlen : ((zs.take len).map fun x => [Cell.v (.int k x)]).length = len := by simp; omega
  have key : LR (mu0 w).F 1 ((zs.take len).map fun x => [Cell.v (.int k x)]) (.slice a ((zs.take len).map fun x => [Cell.v (.int k x)]).length cap) := by
    refine LR.of ?_ ?_ ?_
    · rw [hlen]; rcases h with ⟨_, h1, h2, _⟩ | ⟨x, _, h1, _, h2, _⟩ <;> omega
    · intro e; subst e
      rcases h with ⟨_, h1, h2, h3⟩ | ⟨x, h1, _⟩
      · subst h3; exact ⟨by simp, h2⟩
      · cases h1
    · intro hne
      rcases h with ⟨_, h1, h2, h3⟩ | ⟨x, h1, h2, h3, h4, h5, h6⟩
      · subst h3; simp at hne
      · have hlen0 : 0 < len := by
          rcases Nat.eq_zero_or_pos len with e | e
          · subst e; simp at hne
          · exact e
        obtain ⟨B, o, s⟩ := x
        have hs : s = none := by
          have := h5 0 (by omega)
          cases s with
          | none => rfl
          | some s =>
            simp only [World.cell?, Addr.add] at this
            split at this
            · simp at this
            · cases this
        subst hs
        refine ⟨B, o, h1, fun i ps hi => ?_⟩
        rw [List.getElem?_map, Option.map_eq_some_iff] at hi
        obtain ⟨x, hx, rfl⟩ := hi
        refine ⟨rfl, fun j c hj => ?_⟩
        cases j with
        | succ j => simp at hj
        | zero =>
          simp at hj; subst hj
          rw [List.getElem?_take] at hx
          split at hx
          · have hz : i < zs.length := by omega
            have := h5 i hz
            refine ⟨_, ?_, rfl, rfl⟩
            show w.cell? ⟨B, o + i * 1 + 0, none⟩ = _
            have e2 : zs.getD i 0 = x := by simp [List.getD, hx]
            rw [e2] at this
            by_cases e : i = 0
            · subst e; simpa [Addr.add] using this
            · simpa [Addr.add, e] using this
          · cases hx
  rw [hlen] at key
  exact key
theorem row_wf {k : IntKind} {w : World} {a : Option Addr} {len cap : Nat} {zs : List Int} (h : IsRow k w a len cap zs) : ∀ x ∈ zs.take len, (Lit.int k x).wf = true := fun x hx => by
  rcases h with ⟨_, _, _, h3⟩ | ⟨_, _, _, _, _, _, h6⟩
  · subst h3; simp at hx
  · exact h6 x (List.mem_of_mem_take hx)
end Rv
