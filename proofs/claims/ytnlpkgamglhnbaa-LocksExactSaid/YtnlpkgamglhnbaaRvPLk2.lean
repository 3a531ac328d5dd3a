/- Chapter 8: what the program's plain functions answer: valid tables, settling, taking away. -/
import Derived.Test.YtnlpkgamglhnbaaRvPLk
set_option linter.unusedVariables false
set_option linter.unusedSimpArgs false
namespace Rv
open Go Go.RowKit Go.Proofs

/-! ### valid tables -/
/-- what the i-th grant that is held must show -/
def HC (l : List Grant) (i : Nat) : Prop := ∃ h : i < l.length, ¬ (grOK l[i] ∧ (∀ h0 : 0 < i, ltG (l[i - 1]'(by omega)) l[i] = true ∧ confG (l[i - 1]'(by omega)) l[i] = false))
def HeldOK (l : List Grant) : Prop := (∀ g ∈ l, grOK g) ∧ AscG l ∧ ∀ a ∈ l, ∀ b ∈ l, confG a b = false
theorem asc_of_nb {l : List Grant} (h : ∀ i, (hi : i + 1 < l.length) → ltG l[i] l[i + 1] = true) : AscG l := by
  rw [AscG, List.pairwise_iff_getElem]
  intro i j hi hj hij
  induction j with
  | zero => omega
  | succ j ih =>
    by_cases e : i = j
    · subst e; exact h i hj
    · exact ltG_trans (ih (by omega) (by omega)) (h j hj)
theorem heldOK_iff {l : List Grant} : HeldOK l ↔ ∀ i, i < l.length → ¬ HC l i := by
  constructor
  · rintro ⟨h1, h2, h3⟩ i hi ⟨_, hc⟩
    refine hc ⟨h1 _ (List.getElem_mem _), fun h0 => ⟨?_, h3 _ (List.getElem_mem _) _ (List.getElem_mem _)⟩⟩
    exact List.pairwise_iff_getElem.1 h2 (i - 1) i (by omega) hi (by omega)
  · intro h
    have h' : ∀ i, (hi : i < l.length) → grOK l[i] ∧ (∀ h0 : 0 < i, ltG (l[i - 1]'(by omega)) l[i] = true ∧ confG (l[i - 1]'(by omega)) l[i] = false) := fun i hi => by
      by_cases hc : grOK l[i] ∧ (∀ h0 : 0 < i, ltG (l[i - 1]'(by omega)) l[i] = true ∧ confG (l[i - 1]'(by omega)) l[i] = false)
      · exact hc
      · exact absurd ⟨hi, hc⟩ (h i hi)
    have hasc : AscG l := asc_of_nb fun i hi => ((h' (i + 1) hi).2 (by omega)).1
    refine ⟨fun g hg => ?_, hasc, ?_⟩
    · obtain ⟨i, hi⟩ := List.getElem?_of_mem hg
      have hlt := lt_of_get hi
      rw [List.getElem?_eq_getElem hlt] at hi
      cases hi
      exact (h' i hlt).1
    · -- two that conflict make two neighbours that do
      have key : ∀ i j, (hi : i < l.length) → (hj : j < l.length) → i < j → confG l[i] l[j] = false := by
        intro i j hi hj hij
        rw [Bool.eq_false_iff]
        intro hc
        obtain ⟨c1, c2, c3⟩ := confG_iff.1 hc
        have hlt := List.pairwise_iff_getElem.1 hasc i j hi hj hij
        have mid : ∀ k, (hk : k < l.length) → i ≤ k → k ≤ j → l[k].lock = l[i].lock := fun k hk h1 h2 => by
          by_cases e1 : k = i
          · subst e1; rfl
          · by_cases e2 : k = j
            · subst e2; exact c2.symm
            · have a1 := List.pairwise_iff_getElem.1 hasc i k hi hk (by omega)
              have a2 := List.pairwise_iff_getElem.1 hasc k j hk hj (by omega)
              rw [ltG_iff] at a1 a2
              rw [lock_eq] at c2 ⊢
              omega
        rcases c3 with c3 | c3
        · -- the first one is exclusive
          have hs : i + 1 < l.length := by omega
          have hn := (h' (i + 1) hs).2 (by omega)
          have hm := mid (i + 1) hs (by omega) (by omega)
          have hl := hn.1
          have : confG l[i] l[i + 1] = true := by
            rw [confG_iff]
            simp only [Nat.add_sub_cancel] at hl
            rw [ltG_iff] at hl
            rw [lock_eq] at hm
            refine ⟨by omega, by rw [lock_eq]; omega, .inl c3⟩
          have hn2 := hn.2
          simp only [Nat.add_sub_cancel] at hn2
          rw [this] at hn2; cases hn2
        · have hn := (h' j hj).2 (by omega)
          have hm := mid (j - 1) (by omega) (by omega) (by omega)
          have hl := hn.1
          have : confG (l[j - 1]'(by omega)) l[j] = true := by
            rw [confG_iff]
            rw [ltG_iff] at hl
            rw [lock_eq] at hm c2
            refine ⟨by omega, by rw [lock_eq]; omega, .inr c3⟩
          rw [this] at hn
          cases hn.2
      intro a ha b hb
      obtain ⟨i, hi⟩ := List.getElem?_of_mem ha
      obtain ⟨j, hj⟩ := List.getElem?_of_mem hb
      have hi' := lt_of_get hi
      have hj' := lt_of_get hj
      rw [List.getElem?_eq_getElem hi'] at hi
      rw [List.getElem?_eq_getElem hj'] at hj
      cases hi; cases hj
      rcases Nat.lt_trichotomy i j with h1 | h1 | h1
      · exact key i j hi' hj' h1
      · subst h1
        rw [Bool.eq_false_iff]
        intro hc
        exact (confG_iff.1 hc).1 rfl
      · rw [confG_comm]; exact key j i hj' hi' h1
theorem valid_l1 {t : Locks} (hn : t.held.length ≤ 1000000) : (HeldOK t.held ∧ locks_Valid.l1 t FU 0 = some (.inl ())) ∨ (¬ HeldOK t.held ∧ locks_Valid.l1 t FU 0 = some (.inr false)) := by
  have := loopF (L := locks_Valid.l1 t) (n := t.held.length) (HC t.held) (fun _ => false) () (fun k i hi => by
    rw [locks_Valid.l1.eq_2, if_pos (by omega), if_pos (inr_nat hi), gd_nat hi, valid1_eq]
    simp only [Option.bind_some]
    by_cases c1 : grOK t.held[i]
    · rw [if_pos (by simpa using c1)]
      by_cases c2 : 0 < i
      · rw [if_pos (by omega), w64_pred c2 (by omega), if_pos (by omega), gd_nat (show i - 1 < t.held.length by omega)]
        show (_ ∧ ((locks_order (t.held[i - 1]'(by omega)) t.held[i]).bind _) = _) ∨ (_ ∧ ((locks_order (t.held[i - 1]'(by omega)) t.held[i]).bind _) = _)
        obtain ⟨v, hv, _, _, h7⟩ := order_eq (t.held[i - 1]'(by omega)) t.held[i]
        rw [hv]
        simp only [Option.bind_some]
        by_cases c3 : 0 ≤ v
        · rw [if_pos c3]
          exact .inl ⟨⟨hi, fun hc => h7.1 c3 (hc.2 c2).1⟩, rfl⟩
        · rw [if_neg c3, if_pos (by omega)]
          show (_ ∧ ((locks_conflict (t.held[i - 1]'(by omega)) t.held[i]).bind _) = _) ∨ (_ ∧ ((locks_conflict (t.held[i - 1]'(by omega)) t.held[i]).bind _) = _)
          rw [conflict_eq]
          simp only [Option.bind_some]
          have hlt : ltG (t.held[i - 1]'(by omega)) t.held[i] = true := by
            by_cases hx : ltG (t.held[i - 1]'(by omega)) t.held[i] = true
            · exact hx
            · exact absurd (h7.2 hx) c3
          by_cases c4 : confG (t.held[i - 1]'(by omega)) t.held[i] = true
          · rw [if_pos c4]
            exact .inl ⟨⟨hi, fun hc => by rw [(hc.2 c2).2] at c4; cases c4⟩, rfl⟩
          · rw [if_neg c4, w64_succ (by omega)]
            exact .inr ⟨fun hc => hc.2 ⟨c1, fun _ => ⟨hlt, by simpa using c4⟩⟩, rfl⟩
      · rw [if_neg (by omega), w64_succ (by omega)]
        exact .inr ⟨fun hc => hc.2 ⟨c1, fun h => absurd h c2⟩, rfl⟩
    · rw [if_neg (by simpa using c1)]
      exact .inl ⟨⟨hi, fun hc => c1 hc.1⟩, rfl⟩) (fun k => by rw [locks_Valid.l1.eq_2, if_neg (by omega)]) FU 0 (by omega) (FU_lt hn 0)
  rw [heldOK_iff]
  rcases this with ⟨j, _, h2, h3, _, h5⟩ | ⟨h1, h2⟩
  · exact .inr ⟨fun h => h j h2 h3, h5⟩
  · exact .inl ⟨fun i hi => h1 i (by omega) hi, h2⟩
/-- what the i-th grant that waits must show -/
def WC (t : Locks) (i : Nat) : Prop := ∃ h : i < t.waiting.length, ¬ (grOK t.waiting[i] ∧ modeL t.held t.waiting[i].tx t.waiting[i].lock < t.waiting[i].mode ∧ ∀ j, (hj : j < i) → (t.waiting[j]'(by omega)).tx ≠ t.waiting[i].tx)
def WaitOK (t : Locks) : Prop := (∀ g ∈ t.waiting, grOK g ∧ modeL t.held g.tx g.lock < g.mode) ∧ t.waiting.Pairwise fun a b => a.tx ≠ b.tx
theorem waitOK_iff {t : Locks} : WaitOK t ↔ ∀ i, i < t.waiting.length → ¬ WC t i := by
  constructor
  · rintro ⟨h1, h2⟩ i hi ⟨_, hc⟩
    have := h1 _ (List.getElem_mem hi)
    exact hc ⟨this.1, this.2, fun j hj => List.pairwise_iff_getElem.1 h2 j i (by omega) hi hj⟩
  · intro h
    have h' : ∀ i, (hi : i < t.waiting.length) → (grOK t.waiting[i] ∧ modeL t.held t.waiting[i].tx t.waiting[i].lock < t.waiting[i].mode ∧ ∀ j, (hj : j < i) → (t.waiting[j]'(by omega)).tx ≠ t.waiting[i].tx) := fun i hi => by
      by_cases hc : (grOK t.waiting[i] ∧ modeL t.held t.waiting[i].tx t.waiting[i].lock < t.waiting[i].mode ∧ ∀ j, (hj : j < i) → (t.waiting[j]'(by omega)).tx ≠ t.waiting[i].tx)
      · exact hc
      · exact absurd ⟨hi, hc⟩ (h i hi)
    refine ⟨fun g hg => ?_, List.pairwise_iff_getElem.2 fun i j hi hj hij => (h' j hj).2.2 i hij⟩
    obtain ⟨i, hi⟩ := List.getElem?_of_mem hg
    have hlt := lt_of_get hi
    rw [List.getElem?_eq_getElem hlt] at hi
    cases hi
    exact ⟨(h' i hlt).1, (h' i hlt).2.1⟩
theorem any_take {l : List Grant} {i : Nat} (hi : i < l.length) (x : Int) : (l.take i).any (fun y => decide (y.tx = x)) = true ↔ ∃ j, ∃ hj : j < i, (l[j]'(by omega)).tx = x := by
  rw [List.any_eq_true]
  constructor
  · rintro ⟨y, hy, hp⟩
    obtain ⟨j, hj⟩ := List.getElem?_of_mem hy
    rw [List.getElem?_take] at hj
    split at hj
    · rename_i hlt
      rw [List.getElem?_eq_getElem (by omega)] at hj
      cases hj
      exact ⟨j, hlt, by simpa using hp⟩
    · cases hj
  · rintro ⟨j, hj, hp⟩
    refine ⟨l[j]'(by omega), ?_, by simpa using hp⟩
    have : (l.take i)[j]? = some (l[j]'(by omega)) := by rw [List.getElem?_take, if_pos hj, List.getElem?_eq_getElem]
    exact List.mem_of_getElem? this
theorem valid_l2 {t : Locks} (ha : AscG t.held) (hm : t.held.length ≤ 1000000) (hn : t.waiting.length ≤ 1000000) : (WaitOK t ∧ locks_Valid.l2 t FU 0 = some (.inl ())) ∨ (¬ WaitOK t ∧ locks_Valid.l2 t FU 0 = some (.inr false)) := by
  have := loopF (L := locks_Valid.l2 t) (n := t.waiting.length) (WC t) (fun _ => false) () (fun k i hi => by
    rw [locks_Valid.l2.eq_2, if_pos (by omega), if_pos (inr_nat hi), gd_nat hi, valid1_eq, mode1_eq ha hm]
    simp only [Option.bind_some]
    by_cases c1 : grOK t.waiting[i]
    · rw [if_pos (by simpa using c1)]
      by_cases c2 : t.waiting[i].mode ≤ modeL t.held t.waiting[i].tx t.waiting[i].lock
      · rw [if_pos c2]
        exact .inl ⟨⟨hi, fun hc => by have := hc.2.1; omega⟩, rfl⟩
      · rw [if_neg c2, if_pos (by omega), Int.toNat_natCast, containsV_eq (by simp; omega)]
        simp only [Option.bind_some]
        by_cases c3 : (t.waiting.take i).any (fun y => decide (y.tx = t.waiting[i].tx)) = true
        · rw [if_pos c3]
          obtain ⟨j, hj, e⟩ := (any_take hi _).1 c3
          exact .inl ⟨⟨hi, fun hc => hc.2.2 j hj e⟩, rfl⟩
        · rw [if_neg c3, w64_succ (by omega)]
          exact .inr ⟨fun hc => hc.2 ⟨c1, by omega, fun j hj e => c3 ((any_take hi _).2 ⟨j, hj, e⟩)⟩, rfl⟩
    · rw [if_neg (by simpa using c1)]
      exact .inl ⟨⟨hi, fun hc => c1 hc.1⟩, rfl⟩) (fun k => by rw [locks_Valid.l2.eq_2, if_neg (by omega)]) FU 0 (by omega) (FU_lt hn 0)
  rw [waitOK_iff]
  rcases this with ⟨j, _, h2, h3, _, h5⟩ | ⟨h1, h2⟩
  · exact .inr ⟨fun h => h j h2 h3, h5⟩
  · exact .inl ⟨fun i hi => h1 i (by omega) hi, h2⟩
theorem lkOK_iff {t : Locks} : LkOK t ↔ t.held.length + t.waiting.length ≤ 1024 ∧ HeldOK t.held ∧ WaitOK t :=
  ⟨fun h => ⟨h.cnt, ⟨h.hg, h.asc, h.nc⟩, h.wg, h.wt⟩, fun ⟨h1, ⟨h2, h3, h4⟩, h5, h6⟩ => ⟨h1, h2, h3, h4, h5, h6⟩⟩
open Classical in
theorem lkvalid_eq {t : Locks} (hm : t.held.length ≤ 1000000) (hn : t.waiting.length ≤ 1000000) : locks_Valid t = some (decide (LkOK t)) := by
  rw [locks_Valid.eq_1, w64_id (by omega)]
  by_cases c1 : (1024 : Int) < (t.held.length : Int) + t.waiting.length
  · rw [if_pos c1, decide_eq_false (fun h => by have := h.cnt; omega)]
  · rw [if_neg c1]
    rcases valid_l1 hm with ⟨h1, h2⟩ | ⟨h1, h2⟩
    · rw [h2]
      simp only [Option.bind_some]
      rcases valid_l2 h1.2.1 hm hn with ⟨h3, h4⟩ | ⟨h3, h4⟩
      · rw [h4, decide_eq_true (lkOK_iff.2 ⟨by omega, h1, h3⟩)]; rfl
      · rw [h4, decide_eq_false (fun h => h3 (lkOK_iff.1 h).2.2)]; rfl
    · rw [h2, decide_eq_false (fun h => h1 (lkOK_iff.1 h).2.1)]; rfl

/-! ### settling -/
theorem hold_prog {l : List Grant} (ha : AscG l) (g : Grant) :
    ((∃ y ∈ l, keyG y ⟨g.tx, g.lock, 0⟩ = true) → ∃ h : lbG l ⟨g.tx, g.lock, 0⟩ < l.length, l.set (lbG l ⟨g.tx, g.lock, 0⟩) ⟨(l[lbG l ⟨g.tx, g.lock, 0⟩]).tx, (l[lbG l ⟨g.tx, g.lock, 0⟩]).lock, g.mode⟩ = holdL l g) ∧
    ((¬ ∃ y ∈ l, keyG y ⟨g.tx, g.lock, 0⟩ = true) → insL l (lbG l ⟨g.tx, g.lock, 0⟩) g = holdL l g) := by
  have hlt0 : ∀ x : Grant, ltG x ⟨g.tx, g.lock, 0⟩ = ltG x g := fun x => rfl
  have hlb : lbG l ⟨g.tx, g.lock, 0⟩ = lbG l g := rfl
  have hf1 : l.filter (ltG · g) = l.take (lbG l g) := (mono_filter (lbG_mono ha g)).1
  have hf2 : l.filter (fun x => !ltG x g) = l.drop (lbG l g) := (mono_filter (lbG_mono ha g)).2
  constructor
  · rintro ⟨y, hy, hk⟩
    rw [keyK] at hk
    have hkg : keyG y g = true := by simp only [keyG, decide_eq_true_eq]; exact hk
    rw [hlb]
    rcases lbG_key ha (g := g) with ⟨z, hz, hkz⟩ | hno
    · have hlt := lt_of_get hz
      rw [List.getElem?_eq_getElem hlt] at hz
      cases hz
      refine ⟨hlt, ?_⟩
      have hkz' := hkz
      simp only [keyG, decide_eq_true_eq] at hkz'
      rw [show (⟨(l[lbG l g]).tx, (l[lbG l g]).lock, g.mode⟩ : Grant) = g by rw [hkz'.1, hkz'.2]]
      unfold holdL
      rw [hf1]
      have hgt : l.filter (ltG g ·) = l.drop (lbG l g + 1) := by
        have e1 : l.filter (ltG g ·) = (l.filter (fun x => !ltG x g)).filter (ltG g ·) := by
          rw [List.filter_filter]
          apply List.filter_congr
          intro x hx
          by_cases h : ltG g x = true
          · have : ltG x g = false := by simpa using ltG_asymm h
            simp [h, this]
          · simp [h]
        rw [e1, hf2, List.drop_eq_getElem_cons hlt, List.filter_cons]
        rw [if_neg (fun h => ltG_key h (by rw [keyG_iff] at *; omega))]
        apply List.filter_eq_self.2
        intro x hx
        have hall := ha
        rw [← List.take_append_drop (lbG l g) l, List.drop_eq_getElem_cons hlt, AscG, List.pairwise_append, List.pairwise_cons] at hall
        have h1 := hall.2.1.1 x hx
        rw [ltG_iff] at *
        rw [keyG_iff] at hkz
        omega
      rw [hgt, List.set_eq_take_append_cons_drop, if_pos hlt]
    · exact absurd hkg (hno y hy)
  · intro hno
    rw [hlb]
    unfold insL holdL
    rw [hf1]
    have : l.filter (ltG g ·) = l.drop (lbG l g) := by
      rw [← hf2]
      apply List.filter_congr
      intro x hx
      rcases ltG_tri x g with h | h | h
      · have : ltG g x = false := by simpa using ltG_asymm h
        simp [h, this]
      · simp only [keyG, decide_eq_true_eq] at h
        exact absurd ⟨x, hx, keyK.2 h⟩ hno
      · have : ltG x g = false := by simpa using ltG_asymm h
        simp [h, this]
    rw [this]
theorem settle_l2 : ∀ (rest held pre : List Grant) (k : Nat) (c : Bool), AscG held → held.length + pre.length + rest.length ≤ 1000000 → rest.length < k →
    ∃ c', locks_settle.l2 k c (pre.length : Int) ⟨held, pre ++ rest⟩ = some (c', ⟨(sett held pre rest).1, (sett held pre rest).2⟩) ∧ (AllB held (pre ++ rest) → c' = c) := by
  intro rest
  induction rest with
  | nil =>
    intro held pre k c ha hn hk
    obtain ⟨k, rfl⟩ : ∃ k', k = k' + 1 := ⟨k - 1, by omega⟩
    refine ⟨c, ?_, fun _ => rfl⟩
    rw [locks_settle.l2.eq_2, List.append_nil, if_neg (by simp)]; rfl
  | cons g r ih =>
    intro held pre k c ha hn hk
    simp only [List.length_cons] at hn hk
    obtain ⟨k, rfl⟩ : ∃ k', k = k' + 1 := ⟨k - 1, by omega⟩
    have hlen : (pre ++ g :: r).length = pre.length + (r.length + 1) := by simp
    have hi : pre.length < (pre ++ g :: r).length := by omega
    have hget : (pre ++ g :: r)[pre.length] = g := by simp
    rw [locks_settle.l2.eq_2]
    simp only
    rw [if_pos (by omega), blocked_eq (t := ⟨held, pre ++ g :: r⟩) hi (by show held.length ≤ _; omega) (by show (pre ++ g :: r).length ≤ _; omega)]
    simp only [Option.bind_some, List.take_left', hget, List.take_left]
    by_cases hb : blkG held pre g = true
    · rw [if_pos hb, w64_succ (by omega)]
      obtain ⟨c', h1, h2⟩ := ih held (pre ++ [g]) k c ha (by simp; omega) (by omega)
      refine ⟨c', ?_, fun hA => h2 (by rwa [List.append_assoc])⟩
      rw [show (sett held pre (g :: r)) = sett held (pre ++ [g]) r from if_pos hb]
      rw [← h1]
      congr 1
      · simp
      · rw [List.append_assoc]; rfl
    · rw [if_neg hb, if_pos (by omega), if_pos (inr_nat hi), if_pos (inr_nat hi), w64_succ (by omega), if_pos (by omega), find_eq ha (by omega)]
      rw [gd_nat hi, hget]
      simp only [Option.bind_some]
      have hdel : delL (pre ++ g :: r) (Int.toNat (pre.length : Int)) = pre ++ r := by
        rw [Int.toNat_natCast]
        unfold delL
        simp
      have hno : ¬ AllB held (pre ++ g :: r) := fun hA => hb (hA pre g r rfl)
      obtain ⟨hp1, hp2⟩ := hold_prog ha g
      rw [show (sett held pre (g :: r)) = sett (holdL held g) pre r from if_neg hb]
      have hl := holdL_len held g
      by_cases hk2 : ∃ y ∈ held, keyG y ⟨g.tx, g.lock, 0⟩ = true
      · obtain ⟨hlt, e⟩ := hp1 hk2
        rw [if_pos (decide_eq_true hk2), if_pos (by omega), if_pos (inr_nat hlt), if_pos (inr_nat hlt), hdel, gd_nat hlt, Int.toNat_natCast, e]
        obtain ⟨c', h1, h2⟩ := ih (holdL held g) pre k true (holdL_asc ha g) (by omega) (by omega)
        exact ⟨c', h1, fun hA => absurd hA hno⟩
      · have e := hp2 hk2
        have hle := lbG_le held ⟨g.tx, g.lock, 0⟩
        rw [if_neg (by simpa using hk2), if_pos (by omega), hdel, Int.toNat_natCast, e]
        obtain ⟨c', h1, h2⟩ := ih (holdL held g) pre k true (holdL_asc ha g) (by omega) (by omega)
        exact ⟨c', h1, fun hA => absurd hA hno⟩
/-- What settling leaves. -/
abbrev setL (t : Locks) : Locks := ⟨(sett t.held [] t.waiting).1, (sett t.held [] t.waiting).2⟩
theorem settle_eq {t : Locks} (hi : InvL t.held t.waiting) (hn : t.held.length + t.waiting.length ≤ 1000000) : locks_settle t = some (setL t) := by
  have hs := sett_spec t.waiting t.held [] hi (AllB.nil _)
  simp only [List.length_nil, Nat.zero_add] at hs
  obtain ⟨s1, s2, s3, s4⟩ := hs
  obtain ⟨c1, e1, _⟩ := settle_l2 t.waiting t.held [] FU false hi.asc (by simp; omega) (by unfold FU; omega)
  obtain ⟨c2, e2, h2⟩ := settle_l2 (setL t).waiting (setL t).held [] FU false s1.asc (by simp only [List.length_nil]; show (sett t.held [] t.waiting).1.length + 0 + (sett t.held [] t.waiting).2.length ≤ _; omega) (by show (sett t.held [] t.waiting).2.length < _; unfold FU; omega)
  have hall := sett_all s2
  have hc2 : c2 = false := h2 s2
  subst hc2
  rw [hall] at e2
  have e1' : locks_settle.l2 FU false 0 t = some (c1, setL t) := e1
  have e2' : locks_settle.l2 FU false 0 (setL t) = some (false, setL t) := e2
  rw [locks_settle.eq_1, show FU = 18446744073709551613 + 1 + 1 + 1 from rfl, locks_settle.l1.eq_2, if_pos rfl, e1']
  simp only [Option.bind_some]
  rw [locks_settle.l1.eq_2]
  cases c1 with
  | false => rfl
  | true =>
    rw [if_pos rfl, e2']
    simp only [Option.bind_some]
    rw [locks_settle.l1.eq_2]; rfl
end Rv
