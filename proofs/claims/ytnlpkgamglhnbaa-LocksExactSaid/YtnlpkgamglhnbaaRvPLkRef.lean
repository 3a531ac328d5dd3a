/- Chapter 8: what the document's own functions answer: the same. -/
import Derived.Test.YtnlpkgamglhnbaaRvPLk4
import Derived.Test.YtnlpkgamglhnbaaRvR08
set_option linter.unusedVariables false
set_option linter.unusedSimpArgs false
namespace Rv
open Go Go.RowKit Go.Proofs

theorem rgrant_eq (g : Grant) : ref08_grant g = some (decide (grOK g)) := by
  rw [ref08_grant.eq_1]
  (repeat' split) <;> congr 1 <;> (first | (symm; rw [decide_eq_true_iff]; unfold grOK; omega) | (symm; rw [decide_eq_false_iff_not]; unfold grOK; omega) | (apply decide_eq_decide.2; unfold grOK; omega))
theorem rless_eq (a b : Grant) : ref08_less a b = some (ltG a b) := by
  rw [ref08_less.eq_1]
  unfold ltG
  (repeat' split) <;> congr 1 <;> apply decide_eq_decide.2 <;> omega
theorem rconf_eq (a b : Grant) : ref08_Conflict a b = some (confG a b) := by
  rw [ref08_Conflict.eq_1]
  unfold confG
  (repeat' split) <;> congr 1 <;> simp_all
theorem rmode1_eq {t : Locks} (hn : t.held.length ≤ 1000000) (tx : Int) (k : Lock) : ref08_mode1 t tx k = some (modeL t.held tx k) := by
  rw [ref08_mode1.eq_1]
  have := loopF (L := ref08_mode1.l1 t tx k) (n := t.held.length) (fun i => ∃ h : i < t.held.length, t.held[i].tx = tx ∧ t.held[i].lock = k) (fun i => (gd t.held (i : Int)).mode) () (fun q i hi => by
    rw [ref08_mode1.l1.eq_2, if_pos (by omega), if_pos (inr_nat hi)]
    by_cases c1 : t.held[i].tx = tx
    · rw [if_pos (by rw [gd_nat hi]; exact c1), if_pos (inr_nat hi)]
      by_cases c2 : t.held[i].lock = k
      · rw [if_pos (by rw [gd_nat hi]; exact c2), if_pos (inr_nat hi)]
        exact .inl ⟨⟨hi, c1, c2⟩, rfl⟩
      · rw [if_neg (by rw [gd_nat hi]; exact c2), w64_succ (by omega)]
        exact .inr ⟨fun h => c2 h.2.2, rfl⟩
    · rw [if_neg (by rw [gd_nat hi]; exact c1), w64_succ (by omega)]
      exact .inr ⟨fun h => c1 h.2.1, rfl⟩) (fun q => by rw [ref08_mode1.l1.eq_2, if_neg (by omega)]) FU 0 (by omega) (FU_lt hn 0)
  unfold modeL
  rcases this with ⟨j, _, h2, ⟨h3, h3'⟩, h4, h5⟩ | ⟨h1, h2⟩
  · have h5' : ref08_mode1.l1 t tx k FU 0 = _ := h5
    rw [h5', find_ix (j := j) h2 (by simpa using h3') (fun j' q1 h' hq => h4 j' (by omega) q1 ⟨h', by simpa using hq⟩), gd_nat h2]
    rfl
  · have h2' : ref08_mode1.l1 t tx k FU 0 = _ := h2
    rw [h2', List.find?_eq_none.2 (fun x hx => by
      obtain ⟨i, hi⟩ := List.getElem?_of_mem hx
      have hlt := lt_of_get hi
      rw [List.getElem?_eq_getElem hlt] at hi
      cases hi
      have := h1 i (by omega) hlt
      simp only [decide_eq_true_eq]
      exact fun hc => this ⟨hlt, hc⟩)]
    rfl

/-! ### valid tables -/
def LK (l : List Grant) (i : Nat) (hi : i < l.length) (k : Nat) : Prop := k < i ∧ (∀ j, k ≤ j → (h : j < i) → (l[j]'(by omega)).lock = l[i].lock) ∧ ∃ h : k < l.length, confG l[k] l[i] = true
open Classical in
theorem rl2_eq {t : Locks} {i : Nat} (hi : i < t.held.length) (hn : t.held.length ≤ 1000000) : ∀ (f k : Nat), k ≤ i → (∀ j, k ≤ j → (h : j < i) → (t.held[j]'(by omega)).lock = t.held[i].lock ∧ confG (t.held[j]'(by omega)) t.held[i] = false) → k < f →
    ref08_Valid.l2 t (i : Int) f ((k : Int) - 1) = some (if ∃ k', LK t.held i hi k' then .inr false else .inl ()) := by
  intro f
  induction f with
  | zero => intro k h1 h2 h3; omega
  | succ f ih =>
    intro k h1 h2 h3
    rw [ref08_Valid.l2.eq_2]
    cases k with
    | zero =>
      rw [if_neg (by omega), if_neg]
      rintro ⟨k', q1, q2, q3, q4⟩
      rw [(h2 k' (by omega) q1).2] at q4
      cases q4
    | succ k =>
      have hk : k < t.held.length := by omega
      have e : ((k + 1 : Nat) : Int) - 1 = (k : Int) := by omega
      rw [e, if_pos (by omega), if_pos (inr_nat hk), if_pos (inr_nat hi)]
      by_cases c1 : t.held[k].lock = t.held[i].lock
      · rw [if_pos (by rw [gd_nat hk, gd_nat hi]; exact c1), if_pos (inr_nat hk), if_pos (inr_nat hi), rconf_eq, gd_nat hk, gd_nat hi]
        simp only [Option.bind_some]
        by_cases c2 : confG t.held[k] t.held[i] = true
        · rw [if_pos c2, if_pos]
          refine ⟨k, by omega, fun j q1 q2 => ?_, hk, c2⟩
          by_cases e : j = k
          · subst e; exact c1
          · exact (h2 j (by omega) q2).1
        · rw [if_neg c2, w64_id (by omega)]
          refine ih k (by omega) (fun j q1 q2 => ?_) (by omega)
          by_cases e : j = k
          · subst e; exact ⟨c1, by simpa using c2⟩
          · exact h2 j (by omega) q2
      · rw [if_neg (by rw [gd_nat hk, gd_nat hi]; exact c1), if_neg]
        rintro ⟨k', q1, q2, q3, q4⟩
        by_cases e : k + 1 ≤ k'
        · rw [(h2 k' e q1).2] at q4; cases q4
        · exact c1 (q2 k (by omega) (by omega))
def RC2 (l : List Grant) (i : Nat) : Prop := ∃ h : i < l.length, ¬ (grOK l[i] ∧ (∀ h0 : 0 < i, ltG (l[i - 1]'(by omega)) l[i] = true) ∧ ¬ ∃ k, LK l i h k)
theorem heldOK_iff2 {l : List Grant} : HeldOK l ↔ ∀ i, i < l.length → ¬ RC2 l i := by
  constructor
  · rintro ⟨h1, h2, h3⟩ i hi ⟨_, hc⟩
    refine hc ⟨h1 _ (List.getElem_mem _), fun h0 => List.pairwise_iff_getElem.1 h2 (i - 1) i (by omega) hi (by omega), ?_⟩
    rintro ⟨k, _, _, hk, hx⟩
    rw [h3 _ (List.getElem_mem _) _ (List.getElem_mem _)] at hx
    cases hx
  · intro h
    have h' : ∀ i, (hi : i < l.length) → (grOK l[i] ∧ (∀ h0 : 0 < i, ltG (l[i - 1]'(by omega)) l[i] = true) ∧ ¬ ∃ k, LK l i hi k) := fun i hi => by
      by_cases hc : (grOK l[i] ∧ (∀ h0 : 0 < i, ltG (l[i - 1]'(by omega)) l[i] = true) ∧ ¬ ∃ k, LK l i hi k)
      · exact hc
      · exact absurd ⟨hi, hc⟩ (h i hi)
    have hasc : AscG l := asc_of_nb fun i hi => (h' (i + 1) hi).2.1 (by omega)
    refine ⟨fun g hg => ?_, hasc, ?_⟩
    · obtain ⟨i, hi⟩ := List.getElem?_of_mem hg
      have hlt := lt_of_get hi
      rw [List.getElem?_eq_getElem hlt] at hi
      cases hi
      exact (h' i hlt).1
    · have key : ∀ i j, (hi : i < l.length) → (hj : j < l.length) → i < j → confG l[i] l[j] = false := by
        intro i j hi hj hij
        rw [Bool.eq_false_iff]
        intro hc
        refine (h' j hj).2.2 ⟨i, hij, fun k h1 h2 => ?_, hi, hc⟩
        obtain ⟨c1, c2, c3⟩ := confG_iff.1 hc
        by_cases e1 : k = i
        · subst e1; exact c2
        · have a1 := List.pairwise_iff_getElem.1 hasc i k hi (by omega) (by omega)
          have a2 := List.pairwise_iff_getElem.1 hasc k j (by omega) hj (by omega)
          rw [ltG_iff] at a1 a2
          rw [lock_eq] at c2 ⊢
          omega
      intro a ha b hb
      obtain ⟨i, hi⟩ := List.getElem?_of_mem ha
      obtain ⟨j, hj⟩ := List.getElem?_of_mem hb
      have hi' := lt_of_get hi
      have hj' := lt_of_get hj
      rw [List.getElem?_eq_getElem hi'] at hi
      rw [List.getElem?_eq_getElem hj'] at hj
      cases hi; cases hj
      rcases Nat.lt_trichotomy i j with h1 | h1 | h1
      · exact key i j hi' hj' h1
      · subst h1
        rw [Bool.eq_false_iff]
        intro hc
        exact (confG_iff.1 hc).1 rfl
      · rw [confG_comm]; exact key j i hj' hi' h1
theorem rvalid_l1 {t : Locks} (hn : t.held.length ≤ 1000000) : (HeldOK t.held ∧ ref08_Valid.l1 t FU 0 = some (.inl ())) ∨ (¬ HeldOK t.held ∧ ref08_Valid.l1 t FU 0 = some (.inr false)) := by
  have := loopF (L := ref08_Valid.l1 t) (n := t.held.length) (RC2 t.held) (fun _ => false) () (fun k i hi => by
    rw [ref08_Valid.l1.eq_2, if_pos (by omega), if_pos (inr_nat hi), gd_nat hi, rgrant_eq]
    simp only [Option.bind_some]
    by_cases c1 : grOK t.held[i]
    rotate_left
    · rw [if_neg (by simpa using c1)]
      exact .inl ⟨⟨hi, fun hc => c1 hc.1⟩, rfl⟩
    rw [if_pos (by simpa using c1)]
    have hl2 := rl2_eq hi hn FU i (Nat.le_refl _) (fun j q1 q2 => by omega) (by unfold FU; omega)
    have fin : (∀ h0 : 0 < i, ltG (t.held[i - 1]'(by omega)) t.held[i] = true) → (RC2 t.held i ∧ ((ref08_Valid.l2 t (i : Int) FU (w64 ((i : Int) - 1))).bind fun (z : Sum Unit Bool) => match z with | .inl (s29 : Unit) => ref08_Valid.l1 t k (w64 ((i : Int) + 1)) | .inr r => some (Sum.inr r)) = some (.inr false)) ∨ (¬ RC2 t.held i ∧ ((ref08_Valid.l2 t (i : Int) FU (w64 ((i : Int) - 1))).bind fun (z : Sum Unit Bool) => match z with | .inl (s29 : Unit) => ref08_Valid.l1 t k (w64 ((i : Int) + 1)) | .inr r => some (Sum.inr r)) = ref08_Valid.l1 t k ((i + 1 : Nat) : Int)) := by
      intro hlt
      rw [w64_id (x := (i : Int) - 1) (by omega), hl2]
      simp only [Option.bind_some]
      by_cases c3 : ∃ k', LK t.held i hi k'
      · rw [if_pos c3]
        exact .inl ⟨⟨hi, fun hc => hc.2.2 c3⟩, rfl⟩
      · rw [if_neg c3]
        refine .inr ⟨fun hc => hc.2 ⟨c1, hlt, c3⟩, ?_⟩
        show ref08_Valid.l1 t k (w64 ((i : Int) + 1)) = _
        rw [w64_succ (by omega)]
    by_cases c2 : 0 < i
    · have hp : i - 1 < t.held.length := by omega
      rw [if_pos (by omega), w64_pred c2 (by omega), if_pos (inr_nat hp), if_pos (inr_nat hi), gd_nat hp]
      show (_ ∧ (((ref08_less t.held[i - 1] t.held[i]).bind _).bind _) = _) ∨ (_ ∧ (((ref08_less t.held[i - 1] t.held[i]).bind _).bind _) = _)
      rw [rless_eq]
      simp only [Option.bind_some]
      by_cases c4 : ltG t.held[i - 1] t.held[i] = true
      · rw [if_neg (by simp [c4])]
        simp only [Option.bind_some]
        have := fin fun _ => c4
        rw [w64_pred c2 (by omega)] at this
        exact this
      · rw [if_pos (by simpa using c4)]
        exact .inl ⟨⟨hi, fun hc => c4 (hc.2.1 c2)⟩, rfl⟩
    · rw [if_neg (by omega)]
      simp only [Option.bind_some]
      exact fin fun h => absurd h c2) (fun k => by rw [ref08_Valid.l1.eq_2, if_neg (by omega)]) FU 0 (by omega) (FU_lt hn 0)
  rw [heldOK_iff2]
  rcases this with ⟨j, _, h2, h3, _, h5⟩ | ⟨h1, h2⟩
  · exact .inr ⟨fun h => h j h2 h3, h5⟩
  · exact .inl ⟨fun i hi => h1 i (by omega) hi, h2⟩
open Classical in
theorem rl4_eq {t : Locks} {i : Nat} (hi : i < t.waiting.length) (hn : t.waiting.length ≤ 1000000) : ref08_Valid.l4 t (i : Int) FU 0 = some (if ∃ j, ∃ h : j < i, (t.waiting[j]'(by omega)).tx = t.waiting[i].tx then .inr false else .inl ()) := by
  have := loopF (L := ref08_Valid.l4 t (i : Int)) (n := i) (fun j => ∃ h : j < i, (t.waiting[j]'(by omega)).tx = t.waiting[i].tx) (fun _ => false) () (fun k j hj => by
    have hj' : j < t.waiting.length := by omega
    rw [ref08_Valid.l4.eq_2, if_pos (by omega), if_pos (inr_nat hj'), gd_nat hj', gd_nat hi]
    by_cases c : t.waiting[j].tx = t.waiting[i].tx
    · rw [if_pos c]; exact .inl ⟨⟨hj, c⟩, rfl⟩
    · rw [if_neg c, w64_succ (by omega)]; exact .inr ⟨fun h => c h.2, rfl⟩) (fun k => by rw [ref08_Valid.l4.eq_2, if_neg (by omega)]) FU 0 (by omega) (FU_lt (by omega) 0)
  rcases this with ⟨j, _, h2, h3, _, h5⟩ | ⟨h1, h2⟩
  · rw [if_pos ⟨j, h3⟩]; exact h5
  · rw [if_neg (by rintro ⟨j, hj, e⟩; exact h1 j (by omega) hj ⟨hj, e⟩)]; exact h2
theorem rvalid_l3 {t : Locks} (hm : t.held.length ≤ 1000000) (hn : t.waiting.length ≤ 1000000) : (WaitOK t ∧ ref08_Valid.l3 t FU 0 = some (.inl ())) ∨ (¬ WaitOK t ∧ ref08_Valid.l3 t FU 0 = some (.inr false)) := by
  have := loopF (L := ref08_Valid.l3 t) (n := t.waiting.length) (WC t) (fun _ => false) () (fun k i hi => by
    rw [ref08_Valid.l3.eq_2, if_pos (by omega), if_pos (inr_nat hi), gd_nat hi, rgrant_eq, rmode1_eq hm]
    simp only [Option.bind_some]
    by_cases c1 : grOK t.waiting[i]
    · rw [if_pos (by simpa using c1)]
      by_cases c2 : t.waiting[i].mode ≤ modeL t.held t.waiting[i].tx t.waiting[i].lock
      · rw [if_pos c2]
        exact .inl ⟨⟨hi, fun hc => by have := hc.2.1; omega⟩, rfl⟩
      · rw [if_neg c2, rl4_eq hi hn]
        simp only [Option.bind_some]
        by_cases c3 : ∃ j, ∃ h : j < i, (t.waiting[j]'(by omega)).tx = t.waiting[i].tx
        · rw [if_pos c3]
          obtain ⟨j, hj, e⟩ := c3
          exact .inl ⟨⟨hi, fun hc => hc.2.2 j hj e⟩, rfl⟩
        · rw [if_neg c3]
          refine .inr ⟨fun hc => hc.2 ⟨c1, by omega, fun j hj e => c3 ⟨j, hj, e⟩⟩, ?_⟩
          show ref08_Valid.l3 t k (w64 ((i : Int) + 1)) = _
          rw [w64_succ (by omega)]
    · rw [if_neg (by simpa using c1)]
      exact .inl ⟨⟨hi, fun hc => c1 hc.1⟩, rfl⟩) (fun k => by rw [ref08_Valid.l3.eq_2, if_neg (by omega)]) FU 0 (by omega) (FU_lt hn 0)
  rw [waitOK_iff]
  rcases this with ⟨j, _, h2, h3, _, h5⟩ | ⟨h1, h2⟩
  · exact .inr ⟨fun h => h j h2 h3, h5⟩
  · exact .inl ⟨fun i hi => h1 i (by omega) hi, h2⟩
open Classical in
theorem rvalid_eq {t : Locks} (hm : t.held.length ≤ 1000000) (hn : t.waiting.length ≤ 1000000) : ref08_Valid t = some (decide (LkOK t)) := by
  rw [ref08_Valid.eq_1, w64_id (by omega)]
  by_cases c1 : (1024 : Int) < (t.held.length : Int) + t.waiting.length
  · rw [if_pos c1, decide_eq_false (fun h => by have := h.cnt; omega)]
  · rw [if_neg c1]
    rcases rvalid_l1 hm with ⟨h1, h2⟩ | ⟨h1, h2⟩
    · rw [h2]
      simp only [Option.bind_some]
      rcases rvalid_l3 hm hn with ⟨h3, h4⟩ | ⟨h3, h4⟩
      · rw [h4, decide_eq_true (lkOK_iff.2 ⟨by omega, h1, h3⟩)]; rfl
      · rw [h4, decide_eq_false (fun h => h3 (lkOK_iff.1 h).2.2)]; rfl
    · rw [h2, decide_eq_false (fun h => h1 (lkOK_iff.1 h).2.1)]; rfl
theorem rvalid_true {t : Locks} (h : LkOK t) : ref08_Valid t = some true := by
  have := h.cnt
  rw [rvalid_eq (by omega) (by omega)]
  simp [h]
theorem rwaiting_eq {t : Locks} (hm : t.held.length ≤ 1000000) (hn : t.waiting.length ≤ 1000000) (tx : Int) : ref08_Waiting t tx = some (waitA t tx) := by
  rw [ref08_Waiting.eq_1, rvalid_eq hm hn]
  simp only [Option.bind_some]
  unfold waitA
  by_cases hv : LkOK t
  · simp only [hv, decide_true, if_true]
    have hlp : ∀ z : Grant, (∃ j, 0 ≤ j ∧ j < t.waiting.length ∧ (∃ h : j < t.waiting.length, t.waiting[j].tx = tx) ∧ (∀ j', 0 ≤ j' → j' < j → ¬ ∃ h : j' < t.waiting.length, t.waiting[j'].tx = tx) ∧ ref08_Waiting.l1 t tx FU 0 z = some (.inr (gd t.waiting (j : Int), true))) ∨ ((∀ j, 0 ≤ j → j < t.waiting.length → ¬ ∃ h : j < t.waiting.length, t.waiting[j].tx = tx) ∧ ref08_Waiting.l1 t tx FU 0 z = some (.inl z)) := fun z =>
      loopF (L := fun k i => ref08_Waiting.l1 t tx k i z) (n := t.waiting.length) (fun i => ∃ h : i < t.waiting.length, t.waiting[i].tx = tx) (fun i => (gd t.waiting (i : Int), true)) z (fun k i hi => by
        rw [ref08_Waiting.l1.eq_2, if_pos (by omega), if_pos (inr_nat hi)]
        by_cases c : t.waiting[i].tx = tx
        · rw [if_pos (by rw [gd_nat hi]; exact c), if_pos (inr_nat hi)]; exact .inl ⟨⟨hi, c⟩, rfl⟩
        · rw [if_neg (by rw [gd_nat hi]; exact c), w64_succ (by omega)]; exact .inr ⟨fun h => c h.2, rfl⟩) (fun k => by rw [ref08_Waiting.l1.eq_2, if_neg (by omega)]) FU 0 (by omega) (FU_lt hn 0)
    rcases hlp ⟨0, ⟨0, 0⟩, 0⟩ with ⟨j, _, h2, ⟨_, h3⟩, h4, h5⟩ | ⟨h1, h2⟩
    · rw [h5, find_ix (j := j) h2 (by simpa using h3) (fun j' q1 h' hq => h4 j' (by omega) q1 ⟨h', by simpa using hq⟩), gd_nat h2]; rfl
    · rw [h2, List.find?_eq_none.2 (fun x hx => by
        obtain ⟨i, hi⟩ := List.getElem?_of_mem hx
        have hlt := lt_of_get hi
        rw [List.getElem?_eq_getElem hlt] at hi
        cases hi
        have := h1 i (by omega) hlt
        simp only [decide_eq_true_eq]
        exact fun hc => this ⟨hlt, hc⟩)]
      rfl
  · simp [hv]
open Classical in
theorem rmode_eq {t : Locks} (hm : t.held.length ≤ 1000000) (hn : t.waiting.length ≤ 1000000) (tx : Int) (k : Lock) : ref08_Mode t tx k = some (if LkOK t then modeL t.held tx k else 0) := by
  rw [ref08_Mode.eq_1, rvalid_eq hm hn]
  simp only [Option.bind_some]
  by_cases hv : LkOK t
  · rw [if_pos hv, if_neg (by simp [hv]), rmode1_eq hm]; rfl
  · rw [if_neg hv, if_pos (by simp [hv])]

/-! ### equal tables -/
theorem rsameG_eq {a b : List Grant} (ha : a.length ≤ 1000000) : ref08_SameGrants a b = some (decide (a = b)) := by
  rw [ref08_SameGrants.eq_1]
  by_cases hl : a.length = b.length
  · rw [if_neg (by simp [hl])]
    have := loopF (L := ref08_SameGrants.l1 a b) (n := a.length) (fun i => ∃ h : i < a.length, ∃ h' : i < b.length, a[i] ≠ b[i]) (fun _ => false) () (fun k i hi => by
      have hi' : i < b.length := by omega
      rw [ref08_SameGrants.l1.eq_2, if_pos (by omega), if_pos (inr_nat hi), if_pos (inr_nat hi'), gd_nat hi, gd_nat hi']
      by_cases c : a[i] = b[i]
      · rw [if_neg (by simpa using c), w64_succ (by omega)]; exact .inr ⟨fun h => h.2.2 c, rfl⟩
      · rw [if_pos c]; exact .inl ⟨⟨hi, hi', c⟩, rfl⟩) (fun k => by rw [ref08_SameGrants.l1.eq_2, if_neg (by omega)]) FU 0 (by omega) (FU_lt ha 0)
    rcases this with ⟨j, _, h2, ⟨h3, h3', hne⟩, _, h5⟩ | ⟨h1, h2⟩
    · have h5' : ref08_SameGrants.l1 a b FU 0 = _ := h5
      rw [h5']
      have : a ≠ b := fun e => by subst e; exact hne rfl
      simp [this]
    · have h2' : ref08_SameGrants.l1 a b FU 0 = _ := h2
      rw [h2']
      have : a = b := List.ext_getElem hl fun i q1 q2 => by
        by_cases e : a[i] = b[i]
        · exact e
        · exact absurd ⟨q1, q2, e⟩ (h1 i (by omega) q1)
      simp [this]
  · rw [if_pos (by omega)]
    have : a ≠ b := fun e => hl (by rw [e])
    simp [this]
theorem locks_ext {a b : Locks} : a = b ↔ a.held = b.held ∧ a.waiting = b.waiting := by cases a; cases b; simp
theorem rsame_eq {a b : Locks} (h1 : a.held.length ≤ 1000000) (h2 : a.waiting.length ≤ 1000000) : ref08_Same a b = some (decide (a = b)) := by
  rw [ref08_Same.eq_1, rsameG_eq h1, rsameG_eq h2]
  simp only [Option.bind_some]
  by_cases e1 : a.held = b.held
  · by_cases e2 : a.waiting = b.waiting
    · simp [e1, e2, locks_ext]
    · simp [e1, e2, locks_ext]
  · simp [e1, locks_ext]
end Rv
