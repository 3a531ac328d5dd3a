import Derived.Test.YtnlpkgamglhnbaaRvLaw12e
import Derived.KernelRfl
set_option linter.unusedVariables false
set_option linter.unusedSimpArgs false
namespace Rv
open Go Go.RowKit Go.Proofs

theorem loopX {α β : Type} {L : Nat → Int → Option (Sum α β)} {n : Nat} (C : Nat → Prop) (f : Nat → β) (a : α)
    (st : ∀ (k i : Nat), i < n → (C i → L (k + 1) (i : Int) = some (.inr (f i))) ∧ (¬ C i → L (k + 1) (i : Int) = L k ((i + 1 : Nat) : Int)))
    (fin : ∀ k, L (k + 1) (n : Int) = some (.inl a)) : ∀ (k i : Nat), i ≤ n → n - i < k →
    (∃ j, i ≤ j ∧ j < n ∧ C j ∧ (∀ j', i ≤ j' → j' < j → ¬ C j') ∧ L k (i : Int) = some (.inr (f j))) ∨ ((∀ j, i ≤ j → j < n → ¬ C j) ∧ L k (i : Int) = some (.inl a)) := by
  intro k
  induction k with
  | zero => intro i _ h; omega
  | succ k ih =>
    intro i hi hk
    by_cases e : i = n
    · subst e
      exact .inr ⟨fun j h1 h2 => by omega, fin k⟩
    · obtain ⟨s1, s2⟩ := st k i (by omega)
      by_cases hc : C i
      · exact .inl ⟨i, Nat.le_refl _, by omega, hc, fun j' h1 h2 => by omega, s1 hc⟩
      · rw [s2 hc]
        rcases ih (i + 1) (by omega) (by omega) with ⟨j, h1, h2, h3, h4, h5⟩ | ⟨h1, h2⟩
        · refine .inl ⟨j, by omega, h2, h3, fun j' q1 q2 => ?_, h5⟩
          by_cases e : j' = i
          · subst e; exact hc
          · exact h4 j' (by omega) q2
        · refine .inr ⟨fun j q1 q2 => ?_, h2⟩
          by_cases e : j = i
          · subst e; exact hc
          · exact h1 j (by omega) q2
theorem FU_ltX {n : Nat} (h : n ≤ 9223372036854775807) (i : Nat) : n - i < FU := by unfold FU; omega
theorem succX {i n : Nat} (h : i < n) (h' : n ≤ 9223372036854775807) : w64 ((i : Int) + 1) = ((i + 1 : Nat) : Int) := by rw [w64_id (by omega)]; rfl
theorem predX {i n : Nat} (h : 0 < i) (h1 : i < n) (h' : n ≤ 9223372036854775807) : w64 ((i : Int) - 1) = (i : Int) - 1 := w64_id (by omega)
theorem inr_nat {i n : Nat} (h : i < n) : (0 : Int) ≤ (i : Int) ∧ (i : Int) < (n : Int) := by omega
theorem gd_nat {α : Type} [Inhabited α] {l : List α} {i : Nat} (h : i < l.length) : gd l (i : Int) = l[i] := by simp [gd, List.getD, h]
/-- A loop that says `no` under a condition, and `yes` at its end. -/
theorem loopN {L : Nat → Int → Option (Sum Unit Bool)} {n : Nat} (hn : n ≤ 9223372036854775807) (C : Nat → Prop)
    (st : ∀ (k i : Nat), i < n → (C i → L (k + 1) (i : Int) = some (.inr false)) ∧ (¬ C i → L (k + 1) (i : Int) = L k ((i + 1 : Nat) : Int)))
    (fin : ∀ k, L (k + 1) (n : Int) = some (.inl ())) : ((∃ j, j < n ∧ C j) ∧ L FU 0 = some (.inr false)) ∨ ((∀ j, j < n → ¬ C j) ∧ L FU 0 = some (.inl ())) := by
  rcases loopX C (fun _ => false) () st fin FU 0 (by omega) (FU_ltX hn 0) with ⟨j, _, h2, h3, _, h5⟩ | ⟨h1, h2⟩
  · exact .inl ⟨⟨j, h2, h3⟩, h5⟩
  · exact .inr ⟨fun j hj => h1 j (by omega) hj, h2⟩
open Classical in
theorem loopD {L : Nat → Int → Option (Sum Unit Bool)} {n : Nat} (hn : n ≤ 9223372036854775807) (C : Nat → Prop) {Pr : Prop} (hP : Pr ↔ ∀ j, j < n → ¬ C j)
    (st : ∀ (k i : Nat), i < n → (C i → L (k + 1) (i : Int) = some (.inr false)) ∧ (¬ C i → L (k + 1) (i : Int) = L k ((i + 1 : Nat) : Int)))
    (fin : ∀ k, L (k + 1) (n : Int) = some (.inl ())) : L FU 0 = some (if Pr then .inl () else .inr false) := by
  rcases loopN hn C st fin with ⟨⟨j, h1, h2⟩, h3⟩ | ⟨h1, h2⟩
  · rw [h3, if_neg (fun h => hP.1 h j h1 h2)]
  · rw [h2, if_pos (hP.2 h1)]

def AscB (l : List Int) (lo hi st : Int) : Prop := ∀ i : Nat, i < l.length → lo ≤ gd l (i : Int) ∧ gd l (i : Int) ≤ hi ∧ (0 < i → gd l ((i : Int) - 1) + st ≤ gd l (i : Int))
open Classical in
theorem asc_eq {l : List Int} (hn : l.length ≤ 9223372036854775807) {lo hi st : Int} (h0 : 0 ≤ lo ∧ lo ≤ 1) (h1 : 0 ≤ hi ∧ hi ≤ 1099511627776) (h2 : 0 ≤ st ∧ st ≤ 1) : transactions_ascending l lo hi st = some (decide (AscB l lo hi st)) := by
  have key := loopD (L := transactions_ascending.l1 l lo hi st) hn (fun i => gd l (i : Int) < lo ∨ hi < gd l (i : Int) ∨ (0 < i ∧ gd l (i : Int) < w64 (gd l ((i : Int) - 1) + st))) (Pr := AscB l lo hi st) (by
    constructor
    · intro h j hj hc
      obtain ⟨a1, a2, a3⟩ := h j hj
      rcases hc with c | c | ⟨c, d⟩
      · omega
      · omega
      · obtain ⟨b1, b2, _⟩ := h (j - 1) (by omega)
        have e : ((j - 1 : Nat) : Int) = (j : Int) - 1 := by omega
        rw [e] at b1 b2
        rw [w64_id (by omega)] at d
        have := a3 c
        omega
    · intro h j hj
      have hj' := h j hj
      have a1 : lo ≤ gd l (j : Int) := by omega
      have a2 : gd l (j : Int) ≤ hi := by omega
      refine ⟨a1, a2, fun c => ?_⟩
      have hp := h (j - 1) (by omega)
      have e : ((j - 1 : Nat) : Int) = (j : Int) - 1 := by omega
      rw [e] at hp
      have b1 : lo ≤ gd l ((j : Int) - 1) := by omega
      have b2 : gd l ((j : Int) - 1) ≤ hi := by omega
      rw [w64_id (x := gd l ((j : Int) - 1) + st) (by omega)] at hj'
      omega) (fun k i hi' => by
    rw [transactions_ascending.l1.eq_2, if_pos (by omega), if_pos (inr_nat hi'), succX hi' hn]
    by_cases c1 : gd l (i : Int) < lo
    · rw [if_pos c1]; exact ⟨fun _ => rfl, fun h => absurd (.inl c1) h⟩
    rw [if_neg c1]
    by_cases c2 : hi < gd l (i : Int)
    · rw [if_pos c2]; exact ⟨fun _ => rfl, fun h => absurd (.inr (.inl c2)) h⟩
    rw [if_neg c2]
    by_cases c3 : 0 < i
    · rw [if_pos (by omega), predX c3 hi' hn, if_pos (by omega)]
      by_cases c4 : gd l (i : Int) < w64 (gd l ((i : Int) - 1) + st)
      · rw [if_pos c4]; exact ⟨fun _ => rfl, fun h => absurd (.inr (.inr ⟨c3, c4⟩)) h⟩
      · rw [if_neg c4]; exact ⟨fun h => h.elim (fun h => absurd h c1) fun h => h.elim (fun h => absurd h c2) fun h => absurd h.2 c4, fun _ => rfl⟩
    · rw [if_neg (by omega)]; exact ⟨fun h => h.elim (fun h => absurd h c1) fun h => h.elim (fun h => absurd h c2) fun h => absurd h.1 c3, fun _ => rfl⟩) (fun k => by
    rw [transactions_ascending.l1.eq_2, if_neg (by omega)])
  rw [transactions_ascending.eq_1, key]
  by_cases h : AscB l lo hi st <;> simp [h]
open Classical in
theorem rpend_eq {x : Tx} (hn : x.pending.length ≤ 9223372036854775807) : ref12_valid1.l1 x FU 0 = some (if AscB x.pending 1 x.last 1 then .inl () else .inr false) := by
  refine loopD (L := ref12_valid1.l1 x) hn (fun i => gd x.pending (i : Int) < 1 ∨ x.last < gd x.pending (i : Int) ∨ (0 < i ∧ gd x.pending (i : Int) ≤ gd x.pending ((i : Int) - 1))) ?_ (fun k i hi' => ?_) (fun k => ?_)
  · constructor
    · intro h j hj hc
      have := h j hj
      omega
    · intro h j hj
      have := h j hj
      refine ⟨by omega, by omega, fun c => ?_⟩
      omega
  · rw [ref12_valid1.l1.eq_2, if_pos (by omega), if_pos (inr_nat hi'), succX hi' hn]
    by_cases c1 : gd x.pending (i : Int) < 1
    · rw [if_pos c1]; exact ⟨fun _ => rfl, fun h => absurd (.inl c1) h⟩
    rw [if_neg c1, if_pos (inr_nat hi')]
    by_cases c2 : x.last < gd x.pending (i : Int)
    · rw [if_pos c2]; exact ⟨fun _ => rfl, fun h => absurd (.inr (.inl c2)) h⟩
    rw [if_neg c2]
    by_cases c3 : 0 < i
    · rw [if_pos (by omega), predX c3 hi' hn, if_pos (by omega), if_pos (inr_nat hi')]
      by_cases c4 : gd x.pending (i : Int) ≤ gd x.pending ((i : Int) - 1)
      · rw [if_pos c4]; exact ⟨fun _ => rfl, fun h => absurd (.inr (.inr ⟨c3, c4⟩)) h⟩
      · rw [if_neg c4]; exact ⟨fun h => h.elim (fun h => absurd h c1) fun h => h.elim (fun h => absurd h c2) fun h => absurd h.2 c4, fun _ => rfl⟩
    · rw [if_neg (by omega)]; exact ⟨fun h => h.elim (fun h => absurd h c1) fun h => h.elim (fun h => absurd h c2) fun h => absurd h.1 c3, fun _ => rfl⟩
  · rw [ref12_valid1.l1.eq_2, if_neg (by omega)]
open Classical in
theorem rsave_eq {x : Tx} (hn : x.saves.length ≤ 9223372036854775807) : ref12_valid1.l2 x FU 0 = some (if AscB x.saves 0 x.last 0 then .inl () else .inr false) := by
  refine loopD (L := ref12_valid1.l2 x) hn (fun i => gd x.saves (i : Int) < 0 ∨ x.last < gd x.saves (i : Int) ∨ (0 < i ∧ gd x.saves (i : Int) < gd x.saves ((i : Int) - 1))) ?_ (fun k i hi' => ?_) (fun k => ?_)
  · constructor
    · intro h j hj hc
      have := h j hj
      omega
    · intro h j hj
      have := h j hj
      refine ⟨by omega, by omega, fun c => ?_⟩
      omega
  · rw [ref12_valid1.l2.eq_2, if_pos (by omega), if_pos (inr_nat hi'), succX hi' hn]
    by_cases c1 : gd x.saves (i : Int) < 0
    · rw [if_pos c1]; exact ⟨fun _ => rfl, fun h => absurd (.inl c1) h⟩
    rw [if_neg c1, if_pos (inr_nat hi')]
    by_cases c2 : x.last < gd x.saves (i : Int)
    · rw [if_pos c2]; exact ⟨fun _ => rfl, fun h => absurd (.inr (.inl c2)) h⟩
    rw [if_neg c2]
    by_cases c3 : 0 < i
    · rw [if_pos (by omega), predX c3 hi' hn, if_pos (by omega), if_pos (inr_nat hi')]
      by_cases c4 : gd x.saves (i : Int) < gd x.saves ((i : Int) - 1)
      · rw [if_pos c4]; exact ⟨fun _ => rfl, fun h => absurd (.inr (.inr ⟨c3, c4⟩)) h⟩
      · rw [if_neg c4]; exact ⟨fun h => h.elim (fun h => absurd h c1) fun h => h.elim (fun h => absurd h c2) fun h => absurd h.2 c4, fun _ => rfl⟩
    · rw [if_neg (by omega)]; exact ⟨fun h => h.elim (fun h => absurd h c1) fun h => h.elim (fun h => absurd h c2) fun h => absurd h.1 c3, fun _ => rfl⟩
  · rw [ref12_valid1.l2.eq_2, if_neg (by omega)]

structure TxOK (x : Tx) : Prop where
  i0 : 1 ≤ x.id_
  i1 : x.id_ ≤ 1073741824
  s0 : 1 ≤ x.state
  s1 : x.state ≤ 3
  l0 : 0 ≤ x.last
  l1 : x.last ≤ 1099511627776
  u : x.until_ = 0 ∨ (x.state = 2 ∧ 0 < x.until_ ∧ x.until_ ≤ x.last)
  p0 : (x.pending.length : Int) ≤ 4096
  p1 : AscB x.pending 1 x.last 1
  q0 : (x.saves.length : Int) ≤ 8
  q1 : AscB x.saves 0 x.last 0
open Classical in
theorem right_eq (x : Tx) : transactions_right x = some (decide (TxOK x)) := by
  have no : ¬ TxOK x → some false = some (decide (TxOK x)) := fun h => by simp [h]
  have hu : ((if x.until_ = 0 then some true else (if x.state = 2 then (if 0 < x.until_ then (if x.until_ ≤ x.last then some true else some false) else some false) else some false))) = some (decide (x.until_ = 0 ∨ (x.state = 2 ∧ 0 < x.until_ ∧ x.until_ ≤ x.last))) := by
    by_cases c1 : x.until_ = 0 <;> by_cases c2 : x.state = 2 <;> by_cases c3 : 0 < x.until_ <;> by_cases c4 : x.until_ ≤ x.last <;> simp [c1, c2, c3, c4]
  rw [transactions_right.eq_1, hu]
  simp only [Option.bind_some, decide_eq_true_eq]
  by_cases c1 : 1 ≤ x.id_
  rotate_left
  · rw [if_neg c1]; exact no fun h => c1 h.i0
  by_cases c2 : x.id_ ≤ 1073741824
  rotate_left
  · rw [if_pos c1, if_neg c2]; exact no fun h => c2 h.i1
  by_cases c3 : 1 ≤ x.state
  rotate_left
  · rw [if_pos c1, if_pos c2, if_neg c3]; exact no fun h => c3 h.s0
  by_cases c4 : x.state ≤ 3
  rotate_left
  · rw [if_pos c1, if_pos c2, if_pos c3, if_neg c4]; exact no fun h => c4 h.s1
  by_cases c5 : 0 ≤ x.last
  rotate_left
  · rw [if_pos c1, if_pos c2, if_pos c3, if_pos c4, if_neg c5]; exact no fun h => c5 h.l0
  by_cases c6 : x.last ≤ 1099511627776
  rotate_left
  · rw [if_pos c1, if_pos c2, if_pos c3, if_pos c4, if_pos c5, if_neg c6]; exact no fun h => c6 h.l1
  by_cases c7 : x.until_ = 0 ∨ (x.state = 2 ∧ 0 < x.until_ ∧ x.until_ ≤ x.last)
  rotate_left
  · rw [if_pos c1, if_pos c2, if_pos c3, if_pos c4, if_pos c5, if_pos c6, if_neg c7]; exact no fun h => c7 h.u
  by_cases c8 : (x.pending.length : Int) ≤ 4096
  rotate_left
  · rw [if_pos c1, if_pos c2, if_pos c3, if_pos c4, if_pos c5, if_pos c6, if_pos c7, if_neg c8]; exact no fun h => c8 h.p0
  rw [if_pos c1, if_pos c2, if_pos c3, if_pos c4, if_pos c5, if_pos c6, if_pos c7, if_pos c8, asc_eq (by omega) (by omega) (by omega) (by omega)]
  simp only [Option.bind_some, decide_eq_true_eq]
  by_cases c9 : AscB x.pending 1 x.last 1
  rotate_left
  · rw [if_neg c9]; exact no fun h => c9 h.p1
  by_cases c10 : (x.saves.length : Int) ≤ 8
  rotate_left
  · rw [if_pos c9, if_neg c10]; exact no fun h => c10 h.q0
  rw [if_pos c9, if_pos c10, asc_eq (by omega) (by omega) (by omega) (by omega)]
  simp only [Option.bind_some]
  by_cases c11 : AscB x.saves 0 x.last 0
  · have : TxOK x := ⟨c1, c2, c3, c4, c5, c6, c7, c8, c9, c10, c11⟩
    simp [c11, this]
  · have : ¬ TxOK x := fun h => c11 h.q1
    simp [c11, this]
open Classical in
theorem valid1_eq (x : Tx) : ref12_valid1 x = some (decide (TxOK x)) := by
  have no : ¬ TxOK x → some false = some (decide (TxOK x)) := fun h => by simp [h]
  rw [ref12_valid1.eq_1]
  by_cases c1 : x.id_ < 1
  · rw [if_pos c1]; exact no fun h => by have := h.i0; omega
  by_cases c2 : 1073741824 < x.id_
  · rw [if_neg c1, if_pos c2]; exact no fun h => by have := h.i1; omega
  by_cases c3 : x.state < 1
  · rw [if_neg c1, if_neg c2, if_pos c3]; exact no fun h => by have := h.s0; omega
  by_cases c4 : 3 < x.state
  · rw [if_neg c1, if_neg c2, if_neg c3, if_pos c4]; exact no fun h => by have := h.s1; omega
  by_cases c5 : x.last < 0
  · rw [if_neg c1, if_neg c2, if_neg c3, if_neg c4, if_pos c5]; exact no fun h => by have := h.l0; omega
  by_cases c6 : 1099511627776 < x.last
  · rw [if_neg c1, if_neg c2, if_neg c3, if_neg c4, if_neg c5, if_pos c6]; exact no fun h => by have := h.l1; omega
  by_cases c7 : 4096 < (x.pending.length : Int)
  · rw [if_neg c1, if_neg c2, if_neg c3, if_neg c4, if_neg c5, if_neg c6, if_pos c7]; exact no fun h => by have := h.p0; omega
  by_cases c8 : 8 < (x.saves.length : Int)
  · rw [if_neg c1, if_neg c2, if_neg c3, if_neg c4, if_neg c5, if_neg c6, if_neg c7, if_pos c8]; exact no fun h => by have := h.q0; omega
  rw [if_neg c1, if_neg c2, if_neg c3, if_neg c4, if_neg c5, if_neg c6, if_neg c7, if_neg c8]
  by_cases d1 : x.until_ < 0
  · rw [if_pos d1]; exact no fun h => by have := h.u; omega
  by_cases d2 : x.last < x.until_
  · rw [if_neg d1, if_pos d2]; exact no fun h => by have := h.u; omega
  rw [if_neg d1, if_neg d2]
  by_cases d3 : x.state ≠ 2 ∧ x.until_ ≠ 0
  · rw [if_pos d3.1, if_pos d3.2]; exact no fun h => by have := h.u; omega
  have hif : (if x.state ≠ 2 then (if x.until_ ≠ 0 then some (Sum.inr false) else some (Sum.inl ())) else some (Sum.inl ()) : Option (Sum Unit Bool)) = some (Sum.inl ()) := by
    by_cases e1 : x.state ≠ 2
    · rw [if_pos e1, if_neg (fun h => d3 ⟨e1, h⟩)]
    · rw [if_neg e1]
  rw [hif]
  simp only [Option.bind_some]
  rw [rpend_eq (by omega)]
  simp only [Option.bind_some]
  by_cases c9 : AscB x.pending 1 x.last 1
  rotate_left
  · rw [if_neg c9]; exact no fun h => c9 h.p1
  rw [if_pos c9]
  simp only
  rw [rsave_eq (by omega)]
  simp only [Option.bind_some]
  by_cases c11 : AscB x.saves 0 x.last 0
  · have : TxOK x := ⟨by omega, by omega, by omega, by omega, by omega, by omega, by omega, by omega, c9, by omega, c11⟩
    rw [if_pos c11]
    simp [this]
  · have : ¬ TxOK x := fun h => c11 h.q1
    rw [if_neg c11]
    simp [this]
structure TabOK (l : List Tx) : Prop where
  n : l.length ≤ 64
  ok : ∀ i : Nat, i < l.length → TxOK (gd l (i : Int))
  asc : ∀ i : Nat, i < l.length → 0 < i → (gd l ((i : Int) - 1)).id_ < (gd l (i : Int)).id_
abbrev TabC (l : List Tx) (i : Nat) : Prop := ¬ TxOK (gd l (i : Int)) ∨ (0 < i ∧ (gd l (i : Int)).id_ ≤ (gd l ((i : Int) - 1)).id_)
abbrev TabP (l : List Tx) : Prop := (∀ i : Nat, i < l.length → TxOK (gd l (i : Int))) ∧ ∀ i : Nat, i < l.length → 0 < i → (gd l ((i : Int) - 1)).id_ < (gd l (i : Int)).id_
theorem tabP (l : List Tx) : TabP l ↔ ∀ j, j < l.length → ¬ TabC l j := by
  constructor
  · rintro ⟨h1, h2⟩ j hj (c | ⟨c, d⟩)
    · exact c (h1 j hj)
    · have := h2 j hj c; omega
  · intro h
    refine ⟨fun i hi => Classical.byContradiction fun hc => h i hi (.inl hc), fun i hi h0 => Classical.byContradiction fun hc => h i hi (.inr ⟨h0, by omega⟩)⟩
open Classical in
theorem tvalid_eq (l : List Tx) : transactions_Valid l = some (decide (TabOK l)) := by
  rw [transactions_Valid.eq_1]
  by_cases c : 64 < (l.length : Int)
  · rw [if_pos c]
    have : ¬ TabOK l := fun h => by have := h.n; omega
    simp [this]
  rw [if_neg c]
  have hn : l.length ≤ 9223372036854775807 := by omega
  have key := loopD (L := transactions_Valid.l1 l) hn (TabC l) (tabP l) (fun k i hi => by
    rw [transactions_Valid.l1.eq_2, if_pos (by omega), if_pos (inr_nat hi), right_eq, succX hi hn]
    simp only [Option.bind_some, decide_eq_true_eq]
    by_cases c1 : TxOK (gd l (i : Int))
    rotate_left
    · rw [if_neg c1]; exact ⟨fun _ => rfl, fun h => absurd (.inl c1) h⟩
    rw [if_pos c1]
    by_cases c3 : 0 < i
    · rw [if_pos (by omega), predX c3 hi hn, if_pos (by omega)]
      by_cases c4 : (gd l (i : Int)).id_ ≤ (gd l ((i : Int) - 1)).id_
      · rw [if_pos c4]; exact ⟨fun _ => rfl, fun h => absurd (.inr ⟨c3, c4⟩) h⟩
      · rw [if_neg c4]; exact ⟨fun h => h.elim (fun h => absurd c1 h) fun h => absurd h.2 c4, fun _ => rfl⟩
    · rw [if_neg (by omega)]; exact ⟨fun h => h.elim (fun h => absurd c1 h) fun h => absurd h.1 c3, fun _ => rfl⟩) (fun k => by
    rw [transactions_Valid.l1.eq_2, if_neg (by omega)])
  rw [key]
  by_cases h : TabP l
  · have : TabOK l := ⟨by omega, h.1, h.2⟩
    rw [if_pos h]; simp [this]
  · have : ¬ TabOK l := fun h' => h ⟨h'.ok, h'.asc⟩
    rw [if_neg h]; simp [this]
open Classical in
theorem rvalidT_eq (l : List Tx) : ref12_Valid l = some (decide (TabOK l)) := by
  rw [ref12_Valid.eq_1]
  by_cases c : 64 < (l.length : Int)
  · rw [if_pos c]
    have : ¬ TabOK l := fun h => by have := h.n; omega
    simp [this]
  rw [if_neg c]
  have hn : l.length ≤ 9223372036854775807 := by omega
  have key := loopD (L := ref12_Valid.l1 l) hn (TabC l) (tabP l) (fun k i hi => by
    rw [ref12_Valid.l1.eq_2, if_pos (by omega), if_pos (inr_nat hi), valid1_eq, succX hi hn]
    simp only [Option.bind_some, decide_eq_true_eq]
    by_cases c1 : TxOK (gd l (i : Int))
    rotate_left
    · rw [if_neg c1]; exact ⟨fun _ => rfl, fun h => absurd (.inl c1) h⟩
    rw [if_pos c1]
    by_cases c3 : 0 < i
    · rw [if_pos (by omega), predX c3 hi hn, if_pos (by omega), if_pos (inr_nat hi)]
      by_cases c4 : (gd l (i : Int)).id_ ≤ (gd l ((i : Int) - 1)).id_
      · rw [if_pos c4]; exact ⟨fun _ => rfl, fun h => absurd (.inr ⟨c3, c4⟩) h⟩
      · rw [if_neg c4]; exact ⟨fun h => h.elim (fun h => absurd c1 h) fun h => absurd h.2 c4, fun _ => rfl⟩
    · rw [if_neg (by omega)]; exact ⟨fun h => h.elim (fun h => absurd c1 h) fun h => absurd h.1 c3, fun _ => rfl⟩) (fun k => by
    rw [ref12_Valid.l1.eq_2, if_neg (by omega)])
  rw [key]
  by_cases h : TabP l
  · have : TabOK l := ⟨by omega, h.1, h.2⟩
    rw [if_pos h]; simp [this]
  · have : ¬ TabOK l := fun h' => h ⟨h'.ok, h'.asc⟩
    rw [if_neg h]; simp [this]

theorem tfind_eq (l : List Tx) (k : Int) : transactions_Find l k = ref12_find l k := by
  have : ∀ n i, IndexFuncT.l1 l k n i = ref12_find.l1 l k n i := by
    intro n
    induction n with
    | zero => intro i; rfl
    | succ n ih =>
      intro i
      rw [IndexFuncT.l1.eq_2, ref12_find.l1.eq_2, transactions_FindF.eq_1, ih]
      simp only [Option.bind_some, decide_eq_true_eq]
  rw [transactions_Find.eq_1, IndexFuncT.eq_1, this, ref12_find.eq_1]
  cases ref12_find.l1 l k FU 0 with
  | none => rfl
  | some z => cases z <;> rfl
theorem rFind_eq (l : List Tx) (k : Int) : ref12_Find l k = ref12_find l k := by
  rw [ref12_Find.eq_1]; cases ref12_find l k <;> rfl
theorem find_spec {l : List Tx} (hn : l.length ≤ 9223372036854775807) (k : Int) : (∃ j : Nat, j < l.length ∧ (gd l (j : Int)).id_ = k ∧ (∀ j' : Nat, j' < j → (gd l (j' : Int)).id_ ≠ k) ∧ ref12_find l k = some (j : Int)) ∨ ((∀ j : Nat, j < l.length → (gd l (j : Int)).id_ ≠ k) ∧ ref12_find l k = some (-1)) := by
  rcases loopX (L := ref12_find.l1 l k) (n := l.length) (fun i => (gd l (i : Int)).id_ = k) (fun i => (i : Int)) () (fun n i hi => by
    rw [ref12_find.l1.eq_2, if_pos (by omega), if_pos (inr_nat hi), succX hi hn]
    by_cases c : (gd l (i : Int)).id_ = k
    · rw [if_pos c]; exact ⟨fun _ => rfl, fun h => absurd c h⟩
    · rw [if_neg c]; exact ⟨fun h => absurd h c, fun _ => rfl⟩) (fun n => by rw [ref12_find.l1.eq_2, if_neg (by omega)]) FU 0 (by omega) (FU_ltX hn 0) with ⟨j, _, h2, h3, h4, h5⟩ | ⟨h1, h2⟩
  · have h5' : ref12_find.l1 l k FU 0 = some (.inr (j : Int)) := h5
    exact .inl ⟨j, h2, h3, fun j' hj => h4 j' (by omega) hj, by rw [ref12_find.eq_1, h5']; rfl⟩
  · have h2' : ref12_find.l1 l k FU 0 = some (.inl ()) := h2
    exact .inr ⟨fun j hj => h1 j (by omega) hj, by rw [ref12_find.eq_1, h2']; rfl⟩

theorem ints_same {a : List Int} (h : a.length ≤ 9223372036854775807) : ref12_ints a a = some true := by
  have key := loopN (L := ref12_ints.l1 a a) h (fun _ => False) (fun k i hi => ⟨False.elim, fun _ => by
    rw [ref12_ints.l1.eq_2, if_pos (by omega), if_pos (inr_nat hi), if_pos (inr_nat hi), if_neg (by simp), succX hi h]⟩) (fun k => by rw [ref12_ints.l1.eq_2, if_neg (by omega)])
  rw [ref12_ints.eq_1, if_neg (by simp)]
  rcases key with ⟨⟨j, _, h⟩, _⟩ | ⟨_, h⟩
  · exact h.elim
  · rw [h]; rfl
structure Sm (l : List Tx) : Prop where
  n : l.length ≤ 1000
  p : ∀ x ∈ l, x.pending.length ≤ 9223372036854775807 ∧ x.saves.length ≤ 9223372036854775807
theorem gd_mem {α : Type} [Inhabited α] {l : List α} {i : Nat} (h : i < l.length) : gd l (i : Int) ∈ l := by rw [gd_nat h]; exact List.getElem_mem h
theorem same_self {l : List Tx} (h : Sm l) : ref12_Same l l = some true := by
  have hn : l.length ≤ 9223372036854775807 := by have := h.n; omega
  have key := loopN (L := ref12_Same.l1 l l) hn (fun _ => False) (fun k i hi => ⟨False.elim, fun _ => by
    have hp := h.p _ (gd_mem hi)
    rw [ref12_Same.l1.eq_2, if_pos (by omega), if_pos (inr_nat hi), if_pos (inr_nat hi), if_neg (by simp), if_neg (by simp), if_neg (by simp), if_neg (by simp), ints_same hp.1, ints_same hp.2, succX hi hn]
    rfl⟩) (fun k => by rw [ref12_Same.l1.eq_2, if_neg (by omega)])
  rw [ref12_Same.eq_1, if_neg (by simp)]
  rcases key with ⟨⟨j, _, h⟩, _⟩ | ⟨_, h⟩
  · exact h.elim
  · rw [h]; rfl
end Rv
