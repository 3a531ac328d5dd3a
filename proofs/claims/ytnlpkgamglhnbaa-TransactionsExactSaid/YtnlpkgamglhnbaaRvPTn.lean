import Derived.Test.YtnlpkgamglhnbaaRvPTb
import Derived.Test.YtnlpkgamglhnbaaRvPTe
set_option linter.unusedVariables false
set_option linter.unusedSimpArgs false
namespace Rv
open Go Go.RowKit Go.Proofs

theorem AscB.lt {l : List Int} {lo hi : Int} (h : AscB l lo hi 1) {i : Nat} : ∀ {j : Nat}, i < j → j < l.length → gd l (i : Int) < gd l (j : Int) := by
  intro j
  induction j with
  | zero => intro h1 h2; omega
  | succ j ih =>
    intro h1 h2
    have b := (h (j + 1) h2).2.2 (by omega)
    have e1 : ((j + 1 : Nat) : Int) - 1 = (j : Int) := by omega
    rw [e1] at b
    by_cases e : i = j
    · subst e; omega
    · have a := ih (by omega) (by omega)
      omega
theorem AscB.le {l : List Int} {lo hi : Int} (h : AscB l lo hi 1) {i j : Nat} (h1 : i ≤ j) (h2 : j < l.length) : gd l (i : Int) ≤ gd l (j : Int) := by
  by_cases e : i = j
  · subst e; exact Int.le_refl _
  · exact Int.le_of_lt (h.lt (by omega) h2)
theorem less_eqT (x y : Int) : cmp_Less x y = some (decide (x < y)) := by
  unfold cmp_Less cmp_isNaN
  simp
theorem slnan_eqT (x : Int) : slices_isNaN x = some false := by unfold slices_isNaN; simp
theorem bs_l1 {l : List Int} {lo hi : Int} (h : AscB l lo hi 1) (hn : l.length ≤ 1000000) (a : Int) : ∀ (n i j : Nat), i ≤ j → j ≤ l.length → (∀ k : Nat, k < i → gd l (k : Int) < a) → (∀ k : Nat, j ≤ k → k < l.length → a ≤ gd l (k : Int)) → j - i < n →
    ∃ r : Nat, BinarySearch.l1 l a n (i : Int) (j : Int) = some (r : Int) ∧ r ≤ l.length ∧ (∀ k : Nat, k < r → gd l (k : Int) < a) ∧ (∀ k : Nat, r ≤ k → k < l.length → a ≤ gd l (k : Int)) := by
  intro n
  induction n with
  | zero => intro i j h1 h2 h3 h4 h5; omega
  | succ n ih =>
    intro i j h1 h2 h3 h4 h5
    rw [BinarySearch.l1.eq_2]
    by_cases hij : i < j
    · have e : ((i : Int) + (j : Int)) / 2 = (((i + j) / 2 : Nat) : Int) := by omega
      have hm : (i + j) / 2 < l.length := by omega
      rw [if_pos (by omega), half_eqT (i := (i : Int)) (j := (j : Int)) (by omega) (by omega), e, if_pos (inr_nat hm), less_eqT]
      simp only [Option.bind_some, decide_eq_true_eq]
      by_cases c : gd l (((i + j) / 2 : Nat) : Int) < a
      · rw [if_pos c, w64_succT (by omega)]
        exact ih ((i + j) / 2 + 1) j (by omega) h2 (fun k q => Int.lt_of_le_of_lt (h.le (i := k) (j := (i + j) / 2) (by omega) hm) c) h4 (by omega)
      · rw [if_neg c]
        exact ih i ((i + j) / 2) (by omega) (by omega) h3 (fun k q1 q2 => Int.le_trans (Int.not_lt.1 c) (h.le q1 q2)) (by omega)
    · rw [if_neg (by omega)]
      have : i = j := by omega
      subst this
      exact ⟨i, rfl, h2, h3, h4⟩
theorem mem_gd {l : List Int} {x : Int} (h : x ∈ l) : ∃ i : Nat, i < l.length ∧ gd l (i : Int) = x := by
  obtain ⟨i, hi⟩ := List.getElem?_of_mem h
  have hi' := lt_of_get hi
  rw [List.getElem?_eq_getElem hi'] at hi
  exact ⟨i, hi', by rw [gd_nat hi']; exact Option.some.inj hi⟩
theorem bs_okT {l : List Int} {lo hi : Int} (h : AscB l lo hi 1) (hn : l.length ≤ 1000000) (a : Int) : ∃ (r : Nat) (b : Bool), BinarySearch l a = some ((r : Int), b) ∧ r ≤ l.length ∧ (b = true → r < l.length ∧ gd l (r : Int) = a) ∧ (b = false → ∀ x ∈ l, x ≠ a) := by
  obtain ⟨r, h1, h2, h3, h4⟩ := bs_l1 h hn a FU 0 l.length (by omega) (by omega) (fun k h => by omega) (fun k h h' => by omega) (by unfold FU; omega)
  have h1' : BinarySearch.l1 l a FU 0 (l.length : Int) = some (r : Int) := h1
  rw [BinarySearch.eq_1, h1']
  simp only [Option.bind_some]
  have no : ¬ (r < l.length ∧ gd l (r : Int) = a) → ∀ x ∈ l, x ≠ a := fun hc x hx hxa => by
    obtain ⟨i, hi, he⟩ := mem_gd hx
    rw [hxa] at he
    rcases Nat.lt_trichotomy i r with c | c | c
    · have := h3 i c; omega
    · subst c; exact hc ⟨hi, he⟩
    · have q1 := h.lt c hi
      have q2 := h4 r (Nat.le_refl _) (by omega)
      omega
  by_cases c : r < l.length
  · rw [if_pos (by omega), if_pos (inr_nat c)]
    by_cases c2 : gd l (r : Int) = a
    · rw [if_pos c2]; exact ⟨r, true, rfl, h2, fun _ => ⟨c, c2⟩, fun h => by cases h⟩
    · rw [if_neg c2, if_pos (inr_nat c), slnan_eqT]
      exact ⟨r, false, rfl, h2, fun h => (by cases h), fun _ => no fun h => c2 h.2⟩
  · rw [if_neg (by omega)]
    exact ⟨r, false, rfl, h2, fun h => (by cases h), fun _ => no fun h => c h.1⟩

def flt (l : List Int) (k : Int) : List Int := l.filter fun x => !decide (x = k)
theorem flt_app (a b : List Int) (k : Int) : flt (a ++ b) k = flt a k ++ flt b k := List.filter_append ..
theorem flt_ceq {x : Int} {l : List Int} {k : Int} (h : x = k) : flt (x :: l) k = flt l k := by simp [flt, h]
theorem flt_cne {x : Int} {l : List Int} {k : Int} (h : ¬ x = k) : flt (x :: l) k = x :: flt l k := by simp [flt, h]
theorem flt_none {l : List Int} {k : Int} (h : ∀ x ∈ l, x ≠ k) : flt l k = l := List.filter_eq_self.2 fun x hx => by simpa using h x hx
theorem flt_del {l : List Int} {lo hi : Int} (h : AscB l lo hi 1) {r : Nat} (hr : r < l.length) {k : Int} (hk : gd l (r : Int) = k) : flt l k = delL l r := by
  have e : l = l.take r ++ l[r] :: l.drop (r + 1) := by rw [← List.drop_eq_getElem_cons hr, List.take_append_drop]
  have e0 : flt l k = flt (l.take r ++ l[r] :: l.drop (r + 1)) k := by rw [← e]
  rw [e0, flt_app, flt_ceq (by rw [← gd_nat hr]; exact hk), flt_none, flt_none]
  · rfl
  · intro x hx hxk
    obtain ⟨i, hi⟩ := List.getElem?_of_mem hx
    rw [List.getElem?_drop] at hi
    have hi' := lt_of_get hi
    rw [List.getElem?_eq_getElem hi'] at hi
    have := h.lt (i := r) (j := r + 1 + i) (by omega) hi'
    rw [gd_nat hi', Option.some.inj hi, hk] at this
    omega
  · intro x hx hxk
    obtain ⟨i, hi⟩ := List.getElem?_of_mem hx
    rw [List.getElem?_take] at hi
    split at hi
    · rename_i hlt
      rw [List.getElem?_eq_getElem (by omega)] at hi
      have := h.lt (i := i) (j := r) (by omega) hr
      rw [gd_nat (by omega), Option.some.inj hi, hk] at this
      omega
    · cases hi
theorem rnote_l1 {l : List Tx} {e : AEntry} {y : Int} (hn : (gd l y).pending.length ≤ 100000) : ∀ (n i : Nat) (out : List Int), i ≤ (gd l y).pending.length → out.length ≤ i → (gd l y).pending.length - i < n → ref12_Note.l1 l e y n out (i : Int) = some (out ++ flt ((gd l y).pending.drop i) e.ref) := by
  intro n
  induction n with
  | zero => intro i out h1 h2 h3; omega
  | succ n ih =>
    intro i out h1 h2 h3
    rw [ref12_Note.l1.eq_2]
    by_cases hi : i < (gd l y).pending.length
    · have hd : (gd l y).pending.drop i = (gd l y).pending[i] :: (gd l y).pending.drop (i + 1) := List.drop_eq_getElem_cons hi
      rw [if_pos (by omega), if_pos (inr_nat hi), w64_succT (by omega), gd_nat hi, hd]
      by_cases c : (gd l y).pending[i] = e.ref
      · rw [if_neg (by simpa using c), ih _ _ (by omega) (by omega) (by omega), flt_ceq c]
      · rw [if_pos c, if_pos (inr_nat hi), if_pos (by simp; omega), ih _ _ (by omega) (by simp; omega) (by omega), flt_cne c, List.append_assoc]
        rfl
    · rw [if_neg (by omega)]
      have : i = (gd l y).pending.length := by omega
      rw [this, List.drop_length]
      simp [flt]

theorem note_fin {l : List Tx} (hn : l.length ≤ 1000) {j : Nat} (hj : j < l.length) {t : Tx} (hf : ref12_find l t.id_ = some (j : Int)) (hp : t.pending.length ≤ 10000) :
    ((((if t.state = 2 then ((transactions_left t t.until_).bind fun (x43 : Bool) => (if (!x43) = true then some (⟨t.id_, 1, t.last, 0, t.pending, t.saves⟩ : Tx) else some t)) else some t)).bind fun (s47 : Tx) => ((transactions_with l s47).bind fun (x48 : (List Tx)) => some (x48, (0 : Int)))) = some (l.set j (setl t), 0)) ∧
    (((ref12_settle t).bind fun (x40 : Tx) => ((ref12_set l (j : Int) x40).bind fun (x41 : (List Tx)) => some (x41, (0 : Int)))) = some (l.set j (setl t), 0)) := by
  constructor
  · have e : (if t.state = 2 then ((transactions_left t t.until_).bind fun (x43 : Bool) => (if (!x43) = true then some (⟨t.id_, 1, t.last, 0, t.pending, t.saves⟩ : Tx) else some t)) else some t) = some (setl t) := by
      unfold setl
      by_cases c1 : t.state = 2
      · rw [if_pos c1, left_eqT (by omega)]
        simp only [Option.bind_some]
        by_cases c2 : 0 < t.pending.length ∧ t.until_ < gd t.pending ((t.pending.length : Int) - 1)
        · rw [decide_eq_true c2, if_neg (by decide), if_neg (fun h => h.2 c2)]
        · rw [decide_eq_false c2, if_pos (by decide), if_pos ⟨c1, c2⟩]
      · rw [if_neg c1, if_neg (fun h => c1 h.1)]
    rw [e]
    simp only [Option.bind_some]
    rw [with_eq hn hj (by rw [(setl_p t).2.2]; exact hf)]
    rfl
  · rw [settle_eqT (by omega)]
    simp only [Option.bind_some]
    rw [rset_eq hn hj]
    rfl
open Classical in
theorem note_ok {l : List Tx} (hn : l.length ≤ 1000) (e : AEntry) : ∃ r, transactions_Note l e = some r ∧ ref12_Note l e = some r ∧ SmB r.1 := by
  rw [transactions_Note.eq_1, ref12_Note.eq_1, tvalid_eq, rvalidT_eq]
  simp only [Option.bind_some]
  by_cases hv : TabOK l
  rotate_left
  · rw [if_pos (by simp [hv]), if_pos (by simp [hv])]; exact ⟨_, rfl, rfl, .nil⟩
  have hdv : decide (TabOK l) = true := decide_eq_true hv
  simp only [hdv, Bool.not_true, Bool.false_eq_true, if_false]
  rw [entry_ok, rentry_ok]
  simp only [Option.bind_some]
  by_cases he : EH e ∧ EK e
  rotate_left
  · have hde : decide (EH e ∧ EK e) = false := decide_eq_false he
    simp only [hde, Bool.not_false, if_true]
    exact ⟨_, rfl, rfl, .nil⟩
  have hde : decide (EH e ∧ EK e) = true := decide_eq_true he
  simp only [hde, Bool.not_true, Bool.false_eq_true, if_false]
  by_cases c0 : e.tx = 0
  · rw [if_pos c0, if_pos c0]; exact ⟨_, rfl, rfl, hv.smB⟩
  obtain ⟨k1, k5, hl0, hl1⟩ := ek_tx he c0
  rw [if_neg c0, if_neg c0, tfind_eq]
  rcases find_spec (l := l) (by omega) e.tx with ⟨j, hj, hid, _, h3⟩ | ⟨_, h2⟩
  rotate_left
  · rw [h2]
    simp only [Option.bind_some]
    have n0 : (-1 : Int) < 0 := by decide
    rw [if_pos n0, if_pos n0]; exact ⟨_, rfl, rfl, .nil⟩
  rw [h3]
  simp only [Option.bind_some]
  have n0 : ¬ ((j : Int) < 0) := by omega
  have n1 := inr_nat hj
  rw [if_neg n0, if_neg n0, if_pos n1, if_pos n1]
  have htx := hv.ok j hj
  have hs1 := htx.sm.1
  have hs2 := htx.sm.2
  have hf : ref12_find l (gd l (j : Int)).id_ = some (j : Int) := by rw [hid]; exact h3
  obtain ⟨r, b, hb, hb1, hb2, hb3⟩ := bs_okT htx.p1 (by omega) e.ref
  rw [hb]
  simp only [Option.bind_some]
  by_cases c1 : e.prevTx ≠ (gd l (j : Int)).last
  · rw [if_pos c1, if_pos c1]; exact ⟨_, rfl, rfl, .nil⟩
  rw [if_neg c1, if_neg c1]
  have m1 : ([e.lsn] : List Int).length = 1 := rfl
  have big : (gd l (j : Int)).pending.length ≤ 17592186044416 := by omega
  have hcase : e.kind_ = 1 ∨ e.kind_ = 2 ∨ e.kind_ = 4 ∨ (e.kind_ = 3 ∨ e.kind_ = 5) := by omega
  rcases hcase with k | k | k | k
  · have k2 : ¬ e.kind_ = 2 := by omega
    simp only [if_pos k, if_neg k2, Option.bind_some]
    rw [clip_eq]
    simp only [Option.bind_some]
    rw [if_pos (by rw [m1]; omega), if_pos big, if_pos (by rw [m1]; omega)]
    simp only [Option.bind_some]
    have hpl : ((gd l (j : Int)).pending ++ [e.lsn]).length ≤ 10000 := by rw [List.length_append, m1]; omega
    obtain ⟨f1, f2⟩ := note_fin hn hj (t := ⟨(gd l (j : Int)).id_, (gd l (j : Int)).state, e.lsn, (gd l (j : Int)).until_, (gd l (j : Int)).pending ++ [e.lsn], (gd l (j : Int)).saves⟩) hf hpl
    refine ⟨_, f1, f2, hv.smB.set ?_ j⟩
    rw [(setl_p _).1, (setl_p _).2.1]
    exact ⟨hpl, by show (gd l (j : Int)).saves.length ≤ _; omega⟩
  · have k0 : ¬ e.kind_ = 1 := by omega
    simp only [if_pos k, if_neg k0]
    have q1 := rnote_l1 (l := l) (e := e) (y := (j : Int)) (by omega) FU 0 [] (by omega) (by simp) (by unfold FU; omega)
    have q1' : ref12_Note.l1 l e (j : Int) FU [] 0 = some (flt (gd l (j : Int)).pending e.ref) := q1
    rw [q1']
    simp only [Option.bind_some]
    cases b with
    | false =>
      have e1 : flt (gd l (j : Int)).pending e.ref = (gd l (j : Int)).pending := flt_none (hb3 rfl)
      rw [e1]
      simp only [Bool.not_false, if_true, Option.bind_some]
      exact ⟨_, rfl, rfl, .nil⟩
    | true =>
      obtain ⟨hr, hg⟩ := hb2 rfl
      have e1 := flt_del htx.p1 hr hg
      have e2 := delL_len hr
      have n5 : ¬ ((delL (gd l (j : Int)).pending r).length : Int) = ((gd l (j : Int)).pending.length : Int) := by rw [e2]; omega
      rw [e1, if_neg n5]
      simp only [Bool.not_true, Bool.false_eq_true, if_false, Option.bind_some]
      rw [if_pos big, if_pos (by rw [w64_id (by omega)]; omega), Int.toNat_natCast]
      simp only [Option.bind_some]
      have hpl : (delL (gd l (j : Int)).pending r).length ≤ 10000 := by rw [e2]; omega
      obtain ⟨f1, f2⟩ := note_fin hn hj (t := ⟨(gd l (j : Int)).id_, (gd l (j : Int)).state, e.lsn, (gd l (j : Int)).until_, delL (gd l (j : Int)).pending r, (gd l (j : Int)).saves⟩) hf hpl
      refine ⟨_, f1, f2, hv.smB.set ?_ j⟩
      rw [(setl_p _).1, (setl_p _).2.1]
      exact ⟨hpl, by show (gd l (j : Int)).saves.length ≤ _; omega⟩
  · have k0 : ¬ e.kind_ = 1 := by omega
    have k2 : ¬ e.kind_ = 2 := by omega
    simp only [if_pos k, if_neg k0, if_neg k2, Option.bind_some]
    obtain ⟨f1, f2⟩ := note_fin hn hj (t := ⟨(gd l (j : Int)).id_, 3, e.lsn, 0, (gd l (j : Int)).pending, []⟩) hf (by show (gd l (j : Int)).pending.length ≤ _; omega)
    refine ⟨_, f1, f2, hv.smB.set ?_ j⟩
    rw [(setl_p _).1, (setl_p _).2.1]
    exact ⟨by show (gd l (j : Int)).pending.length ≤ _; omega, by show 0 ≤ 10000; omega⟩
  · have k0 : ¬ e.kind_ = 1 := by omega
    have k2 : ¬ e.kind_ = 2 := by omega
    have k4 : ¬ e.kind_ = 4 := by omega
    have kk : (if e.kind_ = 3 then some (decide (e.kind_ = 3)) else some (decide (e.kind_ = 5))) = some true := by
      rcases k with k | k <;> simp [k]
    simp only [if_neg k0, if_neg k2, if_neg k4, Option.bind_some]
    rw [kk, rremoveT_eq hn, tremove_eq hn]
    simp only [Option.bind_some, if_true]
    exact ⟨_, rfl, rfl, hv.smB.sub (rmv_sub _ _)⟩
end Rv
