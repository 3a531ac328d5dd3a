import Derived.Test.YtnlpkgamglhnbaaRvRow
import Derived.Deep.Slices
set_option linter.unusedVariables false
set_option linter.unusedSimpArgs false
namespace Rv
open Go Go.RowKit

/-- What is read as a datum of a type is told by plain Lean values. -/
def Opn (P : Program) (w : World) (t : TypeId) {α : Type} (f : α → List Cell) (q : α → Prop) : Prop :=
  ∀ {H : Type} {enc : TypeId × Value → H} {base : Nat} {spare : Nat → Bool} {held : Bool} {fuel : Nat} {cs : List Value} {x : DataW H × List MemPlace}, DataW.trod enc P w base spare held fuel t cs = some x → ∃ y, R2 (FC (mu0 w).F) (f y) cs ∧ q y
theorem dpiece {cs : List Value} {a n b : Nat} (h : a + n = b) : cs.drop a = (cs.drop a).take n ++ cs.drop b := by
  rw [← h, ← List.drop_drop]; exact (List.take_append_drop n _).symm
theorem dlast {cs : List Value} {a n : Nat} (h : cs.length ≤ a + n) : cs.drop a = (cs.drop a).take n := (List.take_of_length_le (by rw [List.length_drop]; omega)).symm
section
variable {P : Program} {w : World} {t : TypeId}
theorem op_int {k : IntKind} (ht : P.underlying t = some (.int k)) : Opn P w t (fun x : Int => [.v (.int k x)]) (fun x => (Lit.int k x).wf = true) := by
  intro H enc base spare held fuel cs x h
  obtain ⟨n, rfl, _, hw⟩ := DataW.trod_int ht h
  exact ⟨n, R2.cons ⟨rfl, rfl⟩ (R2.nil _), hw⟩
theorem op_bool (ht : P.underlying t = some .bool) : Opn P w t (fun x : Bool => [.v (.bool x)]) (fun _ => True) := by
  intro H enc base spare held fuel cs x h
  obtain ⟨n, rfl, _⟩ := DataW.trod_bool ht h
  exact ⟨n, R2.cons ⟨rfl, rfl⟩ (R2.nil _), trivial⟩
theorem op_str (ht : P.underlying t = some .string) : Opn P w t (fun x : ByteArray => [.v (.string x)]) (fun x => x.size ≤ maxLen) := by
  intro H enc base spare held fuel cs x h
  obtain ⟨n, rfl, _, hw⟩ := DataW.trod_string ht h
  exact ⟨n, R2.cons ⟨rfl, rfl⟩ (R2.nil _), hw⟩
theorem op_slice {e : TypeId} {k : Nat} {α : Type} [Inhabited α] {f : α → List Cell} {q : α → Prop} (ht : P.underlying t = some (.slice e)) (hk : P.cellsOf e = k) (hk0 : 0 < k) (hf : ∀ y, (f y).length = k) (hop : Opn P w e f q) : Opn P w t (fun l : List α => [.L k (l.map f)]) (fun l => l.length ≤ maxLen ∧ ∀ y ∈ l, q y) := by
  intro H enc base spare held fuel cs x h
  rcases Go.Deep.open_slice ht h with ⟨rfl, _⟩ | ⟨a, len, cap, m, n, D, Pl, rfl, _, hl, hcm, hm, _, hx⟩
  · refine ⟨[], R2.cons ?_ (R2.nil _), Nat.zero_le _, by simp⟩
    exact LR.of (xs := []) (Nat.le_refl _) (fun _ => ⟨rfl, rfl⟩) (fun h => absurd rfl h)
  · have hlm : len ≤ m := by rw [hm]; split <;> omega
    have hsel : ∀ i, i < len → ∃ y : α, q y ∧ ∃ cs', w.cells? base (a.add (i * k)) k = some cs' ∧ R2 (FC (mu0 w).F) (f y) cs' := fun i hi => by
      obtain ⟨cs', h1, h2⟩ := hx i (by omega)
      obtain ⟨y, r, hq⟩ := hop h2
      rw [hk] at h1
      exact ⟨y, hq, cs', h1, r⟩
    obtain ⟨g, hg⟩ := Go.Deep.choose_lt hsel
    have hlen : (((List.range len).map g).map f).length = len := by simp
    refine ⟨(List.range len).map g, R2.cons ?_ (R2.nil _), by rw [List.length_map, List.length_range]; omega, fun y hy => ?_⟩
    · have key : LR (mu0 w).F k (((List.range len).map g).map f) (.slice (some a) (((List.range len).map g).map f).length cap) := by
        refine LR.of (by rw [hlen]; exact hl) (fun e => by cases e) fun hne => ?_
        have hlen0 : 0 < len := by
          rcases Nat.eq_zero_or_pos len with e | e
          · subst e; simp at hne
          · exact e
        obtain ⟨B, o, s⟩ := a
        have hs : s = none := by
          obtain ⟨_, cs', h1, h2⟩ := hg 0 hlen0
          obtain ⟨_, h3, h4⟩ := World.cells?_some h1
          have h5 := h4 0 hk0
          have h6 : cs'[0]? = some (cs'[0]'(by omega)) := List.getElem?_eq_getElem _
          rw [h6] at h5
          cases s with
          | none => rfl
          | some s =>
            simp only [World.cell?, Addr.add, Nat.zero_mul, if_true] at h5
            split at h5
            · simp at h5
            · cases h5
        subst hs
        refine ⟨B, o, rfl, fun i ps hi => ?_⟩
        rw [List.getElem?_map, Option.map_eq_some_iff] at hi
        obtain ⟨y, hy, rfl⟩ := hi
        rw [List.getElem?_map, Option.map_eq_some_iff] at hy
        obtain ⟨i', hi', rfl⟩ := hy
        have hlt : i < len := by
          have := lt_of_get hi'
          simpa using this
        rw [List.getElem?_range hlt] at hi'
        obtain rfl := Option.some.inj hi'
        refine ⟨hf _, fun j c hj => ?_⟩
        obtain ⟨_, cs', h1, h2⟩ := hg i hlt
        obtain ⟨_, h3, h4⟩ := World.cells?_some h1
        obtain ⟨v, hv, hfc⟩ := h2.get hj
        have hjk : j < k := by have := lt_of_get hj; rw [hf] at this; exact this
        have h5 := h4 j hjk
        rw [hv] at h5
        refine ⟨v, ?_, hfc⟩
        show w.cell? ⟨B, o + i * k + j, none⟩ = some v
        have e : ((⟨B, o, none⟩ : Addr).add (i * k)).add j = ⟨B, o + i * k + j, none⟩ := by
          unfold Addr.add
          by_cases e1 : i * k = 0 <;> by_cases e2 : j = 0 <;> simp [e1, e2]
        rw [e] at h5
        exact h5
      rw [hlen] at key
      exact key
    · obtain ⟨i, hi, rfl⟩ := List.mem_map.1 hy
      exact (hg i (List.mem_range.1 hi)).1
theorem FC.rc0 {c : Cell} {u : Value} (h : FC (mu0 w).F c u) : RC (mu0 w) c u := by
  cases c with
  | v x => exact h
  | L k xs => exact h
  | _ => exact h.elim
theorem op_agg {us : Array Value} {cs : List Cell} (h : R2 (FC (mu0 w).F) cs us.toList) : RV (mu0 w) (.o (.agg cs)) (.agg us) := ⟨us, rfl, h.1, fun i c v hc hv => (h.2 i c v hc hv).rc0⟩
theorem op_one {v : Value} {c : Cell} (h : R2 (FC (mu0 w).F) [c] [v]) : RV (mu0 w) (.o (.c c)) v := (h.2 0 c v rfl rfl).rc0
end
end Rv
