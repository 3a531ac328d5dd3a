import Derived.Test.YtnlpkgamglhnbaaRvRun
set_option linter.unusedVariables false
set_option linter.unusedSimpArgs false
namespace Rv
open Go Go.RowKit
variable {P : Program} {N : Nat} {h : Heap}

/-- Of a slice type: its element's cells, its zero, its bytes. -/
def SlT (P : Program) (t : TypeId) (k : Nat) (z : List Cell) (by_ : Nat) : Prop := ∃ e i, P.underlying t = some (.slice e) ∧ P.info? e = some i ∧ i.size = k ∧ i.bytes = by_ ∧ zeroOf P e = some z ∧ z.length = k ∧ 0 < k
def slt (P : Program) (t e : TypeId) (k b : Nat) : Bool := match P.underlying t, P.info? e with
  | some (.slice e'), some i => e' == e && i.size == k && i.bytes == b && decide (0 < k)
  | _, _ => false
theorem SlT.of {t e : TypeId} {k b : Nat} {z : List Cell} (h : slt P t e k b = true) (hz : zeroOf P e = some z) (hl : z.length = k) : SlT P t k z b := by
  unfold slt at h
  split at h
  · rename_i e' i he hi
    simp only [Bool.and_eq_true, beq_iff_eq, decide_eq_true_eq] at h
    obtain ⟨⟨⟨rfl, h1⟩, h2⟩, h3⟩ := h
    exact ⟨e', i, he, hi, h1, h2, hz, hl, h3⟩
  · cases h
def OutV (H : Heap) (base : Nat) (c : Cell) (k n : Nat) (cs : List Cell) : Prop :=
  cs.length = n * k ∧ ((c = .v (.slice none 0 0) ∧ n = 0) ∨ ∃ b ex, c = .sl b 0 n n k ex ∧ base ≤ b ∧ H[b]? = some ⟨cs, true, true⟩)
theorem OutV.nil {H : Heap} {base k : Nat} : OutV H base (.v (.slice none 0 0)) k 0 [] := ⟨by simp, .inl ⟨rfl, rfl⟩⟩
theorem OutV.low {H : Heap} {base base' k n : Nat} {c : Cell} {cs : List Cell} (ho : OutV H base c k n cs) (hb : base' ≤ base) : OutV H base' c k n cs := by
  obtain ⟨h1, h2⟩ := ho
  refine ⟨h1, ?_⟩
  rcases h2 with h2 | ⟨b, ex, h3, h4, h5⟩
  · exact .inl h2
  · exact .inr ⟨b, ex, h3, by omega, h5⟩
variable {ops : Array Oper} {l : List Oper} {Q : (Nat → AV) → Heap → Prop} {T0 : Nat → AV} {env : Env} {d : Nat} {ty : TypeId} {pos : String} {af : Array Edge} {g : Option (Nat × Bool)}
end Rv
