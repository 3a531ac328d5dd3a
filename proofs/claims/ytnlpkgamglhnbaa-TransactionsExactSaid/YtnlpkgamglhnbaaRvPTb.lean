import Derived.Test.YtnlpkgamglhnbaaRvPTa
set_option linter.unusedVariables false
set_option linter.unusedSimpArgs false
namespace Rv
open Go Go.RowKit Go.Proofs

structure SmB (l : List Tx) : Prop where
  n : l.length ≤ 100
  p : ∀ x ∈ l, x.pending.length ≤ 10000 ∧ x.saves.length ≤ 10000
theorem SmB.sm {l : List Tx} (h : SmB l) : Sm l := ⟨by have := h.n; omega, fun x hx => by have := h.p x hx; omega⟩
theorem SmB.nil : SmB [] := ⟨by decide, fun x hx => by cases hx⟩
theorem TabOK.tx {l : List Tx} (h : TabOK l) {x : Tx} (hx : x ∈ l) : TxOK x := by
  obtain ⟨i, hi⟩ := List.getElem?_of_mem hx
  have hi' := lt_of_get hi
  rw [List.getElem?_eq_getElem hi'] at hi
  cases hi
  rw [← gd_nat hi']
  exact h.ok i hi'
theorem TxOK.sm {x : Tx} (h : TxOK x) : x.pending.length ≤ 4096 ∧ x.saves.length ≤ 8 := by have := h.p0; have := h.q0; omega
theorem TabOK.smB {l : List Tx} (h : TabOK l) : SmB l := ⟨by have := h.n; omega, fun x hx => by have := (h.tx hx).sm; omega⟩
theorem SmB.set {l : List Tx} (h : SmB l) {t : Tx} (ht : t.pending.length ≤ 10000 ∧ t.saves.length ≤ 10000) (i : Nat) : SmB (l.set i t) := by
  refine ⟨by simpa using h.n, fun x hx => ?_⟩
  rcases List.mem_or_eq_of_mem_set hx with hx | rfl
  · exact h.p x hx
  · exact ht
theorem SmB.sub {l m : List Tx} (h : SmB l) (hs : m.Sublist l) : SmB m := ⟨Nat.le_trans hs.length_le h.n, fun x hx => h.p x (hs.subset hx)⟩
theorem Sm.sub {l m : List Tx} (h : Sm l) (hs : m.Sublist l) : Sm m := ⟨Nat.le_trans hs.length_le h.n, fun x hx => h.p x (hs.subset hx)⟩

def rmv (l : List Tx) (k : Int) : List Tx := l.filter fun x => !decide (x.id_ = k)
theorem rmv_app (a b : List Tx) (k : Int) : rmv (a ++ b) k = rmv a k ++ rmv b k := List.filter_append ..
theorem rmv_ceq {x : Tx} {l : List Tx} {k : Int} (h : x.id_ = k) : rmv (x :: l) k = rmv l k := by simp [rmv, h]
theorem rmv_cne {x : Tx} {l : List Tx} {k : Int} (h : ¬ x.id_ = k) : rmv (x :: l) k = x :: rmv l k := by simp [rmv, h]
theorem rmv_nil (k : Int) : rmv [] k = [] := rfl
theorem rmv_sub (l : List Tx) (k : Int) : (rmv l k).Sublist l := List.filter_sublist
theorem tixM_eq (l : List Tx) (k : Int) : IndexFuncM l k = ref12_find l k := by
  have : ∀ n i, IndexFuncM.l1 l k n i = ref12_find.l1 l k n i := by
    intro n
    induction n with
    | zero => intro i; rfl
    | succ n ih =>
      intro i
      rw [IndexFuncM.l1.eq_2, ref12_find.l1.eq_2, transactions_RemoveF.eq_1, ih]
      simp only [Option.bind_some, decide_eq_true_eq]
  rw [IndexFuncM.eq_1, this, ref12_find.eq_1]
  rfl
theorem w64_succT {i : Nat} (h : i ≤ 10000000) : w64 ((i : Int) + 1) = ((i + 1 : Nat) : Int) := by rw [w64_id (by omega)]; rfl
theorem dfT_spec {s : List Tx} {f : Int} (hn : s.length ≤ 1000000) : ∀ (k i j : Nat) (bx : List Tx), bx.length = s.length → j ≤ s.length → i < j → bx.take i = rmv (s.take j) f → bx.drop j = s.drop j → s.length - j < k →
    ∃ (i' : Nat) (bx' : List Tx), DeleteFuncM.l1 f k (i : Int) (j : Int) bx = some ((i' : Int), bx') ∧ bx'.length = s.length ∧ i' < s.length ∧ bx'.take i' = rmv s f := by
  intro k
  induction k with
  | zero => intro i j bx h1 h2 h3 h4 h5 h6; omega
  | succ k ih =>
    intro i j bx h1 h2 h3 h4 h5 h6
    rw [DeleteFuncM.l1.eq_2]
    by_cases hj : j < s.length
    · have hjb : j < bx.length := by omega
      rw [if_pos (by omega), if_pos (by omega), if_pos (inr_nat hjb), if_pos (inr_nat hjb), gd_nat hjb]
      have hbs : bx[j] = s[j] := by
        have e1 : (bx.drop j)[0]? = bx[j]? := by rw [List.getElem?_drop]; rfl
        have e2 : (s.drop j)[0]? = s[j]? := by rw [List.getElem?_drop]; rfl
        rw [h5, e2, List.getElem?_eq_getElem hj, List.getElem?_eq_getElem hjb] at e1
        exact (Option.some.inj e1).symm
      rw [hbs, transactions_RemoveF.eq_1]
      simp only [Option.bind_some]
      have hst : s.take (j + 1) = s.take j ++ [s[j]] := by rw [List.take_add_one, List.getElem?_eq_getElem hj]; rfl
      by_cases hc : s[j].id_ = f
      · rw [if_neg (by simp [hc]), w64_succT (by omega)]
        refine ih i (j + 1) bx h1 (by omega) (by omega) ?_ ?_ (by omega)
        · rw [h4, hst, rmv_app, rmv_ceq hc, rmv_nil, List.append_nil]
        · rw [← List.drop_drop, h5, List.drop_drop]
      · have hi : i < bx.length := by omega
        rw [if_pos (by simp [hc]), if_pos (inr_nat hi), if_pos (inr_nat hi), w64_succT (by omega), w64_succT (by omega), Int.toNat_natCast]
        refine ih (i + 1) (j + 1) _ (by simpa using h1) (by omega) (by omega) ?_ ?_ (by omega)
        · rw [hst, rmv_app, ← h4, rmv_cne hc, rmv_nil, List.take_add_one, List.take_set_of_le (Nat.le_refl _), List.getElem?_set_self hi]
          rfl
        · rw [List.drop_set_of_lt (by omega), ← List.drop_drop, h5, List.drop_drop]
    · have e : j = s.length := by omega
      subst e
      rw [if_neg (by omega)]
      refine ⟨i, bx, rfl, h1, by omega, ?_⟩
      rw [h4, List.take_length]
theorem rmv_none {l : List Tx} {k : Int} (h : ∀ j : Nat, j < l.length → (gd l (j : Int)).id_ ≠ k) : rmv l k = l := by
  apply List.filter_eq_self.2
  intro x hx
  obtain ⟨j, hj⟩ := List.getElem?_of_mem hx
  have hj' := lt_of_get hj
  rw [List.getElem?_eq_getElem hj'] at hj
  cases hj
  have := h j hj'
  rw [gd_nat hj'] at this
  simpa using this
theorem tremove_eq {l : List Tx} (hn : l.length ≤ 1000) (k : Int) : transactions_Remove l k = some (rmv l k) := by
  rw [transactions_Remove.eq_1, if_pos (by omega), DeleteFuncM.eq_1, tixM_eq]
  rcases find_spec (l := l) (by omega) k with ⟨j, h, h1, h2, h3⟩ | ⟨h1, h2⟩
  · rw [h3]
    simp only [Option.bind_some]
    rw [if_neg (by omega), w64_succT (by omega)]
    obtain ⟨i', bx', e, l1, l2, l3⟩ := dfT_spec (s := l) (f := k) (by omega) FU j (j + 1) l rfl (by omega) (by omega) (by
      have e1 : rmv (l.take j) k = l.take j := rmv_none fun j' hj' => by
        have hjl : j' < j ∧ j' < l.length := by simp at hj'; omega
        have := h2 j' hjl.1
        rw [gd_nat hjl.2] at this
        rw [gd_nat hj']
        simpa using this
      rw [List.take_add_one, List.getElem?_eq_getElem h]
      rw [gd_nat h] at h1
      show _ = rmv (l.take j ++ [l[j]]) k
      rw [rmv_app, e1, rmv_ceq h1, rmv_nil, List.append_nil]) rfl (by unfold FU; omega)
    rw [e]
    simp only [Option.bind_some]
    rw [if_pos (by omega), if_pos (by omega), if_pos (by omega), Int.toNat_natCast, if_pos (by rw [List.length_take]; omega), List.take_take, Nat.min_self, l3]
    rfl
  · rw [h2]
    simp only [Option.bind_some, if_true]
    rw [rmv_none h1]
theorem rremove_l1 {l : List Tx} {k : Int} (hn : l.length ≤ 1000) : ∀ (n i : Nat) (out : List Tx), i ≤ l.length → out.length ≤ i → l.length - i < n → ref12_Remove.l1 l k n out (i : Int) = some (out ++ rmv (l.drop i) k) := by
  intro n
  induction n with
  | zero => intro i out h1 h2 h3; omega
  | succ n ih =>
    intro i out h1 h2 h3
    rw [ref12_Remove.l1.eq_2]
    by_cases hi : i < l.length
    · have hd : l.drop i = l[i] :: l.drop (i + 1) := List.drop_eq_getElem_cons hi
      rw [if_pos (by omega), if_pos (inr_nat hi), w64_succT (by omega), gd_nat hi, hd]
      by_cases c : l[i].id_ = k
      · rw [if_neg (by simpa using c), ih _ _ (by omega) (by omega) (by omega), rmv_ceq c]
      · rw [if_pos c, if_pos (inr_nat hi), if_pos (by simp; omega), ih _ _ (by omega) (by simp; omega) (by omega), rmv_cne c, List.append_assoc]
        rfl
    · rw [if_neg (by omega)]
      have : i = l.length := by omega
      subst this
      rw [List.drop_length, rmv_nil, List.append_nil]
theorem rremoveT_eq {l : List Tx} (hn : l.length ≤ 1000) (k : Int) : ref12_Remove l k = some (rmv l k) := by
  rw [ref12_Remove.eq_1, show (0 : Int) = ((0 : Nat) : Int) from rfl, rremove_l1 hn FU 0 [] (by omega) (by simp) (by unfold FU; omega)]
  rfl

theorem TabOK.mono {l : List Tx} (h : TabOK l) {i : Nat} : ∀ {j : Nat}, i ≤ j → j < l.length → (gd l (i : Int)).id_ ≤ (gd l (j : Int)).id_ := by
  intro j
  induction j with
  | zero => intro h1 h2; have : i = 0 := by omega
            subst this; omega
  | succ j ih =>
    intro h1 h2
    by_cases e : i = j + 1
    · subst e; omega
    · have a := ih (by omega) (by omega)
      have b := h.asc (j + 1) h2 (by omega)
      have e1 : ((j + 1 : Nat) : Int) - 1 = (j : Int) := by omega
      rw [e1] at b
      omega
theorem half_eqT {i j : Int} (h0 : 0 ≤ i + j) (h1 : i + j ≤ 4000000000) : (w64 (Int.fdiv (IntKind.u64.wrap (w64 (i + j))) (2 ^ (min (Int.toNat 1) (IntKind.bits .u64))))) = (i + j) / 2 := by
  have e1 : (2 : Int) ^ (min (Int.toNat 1) (IntKind.bits .u64)) = 2 := by decide
  rw [e1, w64_id (x := i + j) (by omega), wrapu64_id h0 (by omega), Int.fdiv_eq_ediv_of_nonneg _ (by omega), w64_id (by omega)]
theorem search_ok {l : List Tx} (ht : TabOK l) (a : Int) : ∀ (n i j : Nat), i ≤ j → j ≤ l.length → (∀ k : Nat, k < i → (gd l (k : Int)).id_ < a) → (∀ k : Nat, j ≤ k → k < l.length → a ≤ (gd l (k : Int)).id_) → j - i < n →
    ∃ r : Nat, sort_SearchP.l1 l a n (i : Int) (j : Int) = some (r : Int) ∧ r ≤ l.length ∧ (∀ k : Nat, k < r → (gd l (k : Int)).id_ < a) ∧ (∀ k : Nat, r ≤ k → k < l.length → a ≤ (gd l (k : Int)).id_) := by
  have hn := ht.n
  intro n
  induction n with
  | zero => intro i j h1 h2 h3 h4 h5; omega
  | succ n ih =>
    intro i j h1 h2 h3 h4 h5
    rw [sort_SearchP.l1.eq_2]
    by_cases hij : i < j
    · have e : ((i : Int) + (j : Int)) / 2 = (((i + j) / 2 : Nat) : Int) := by omega
      have hm : (i + j) / 2 < l.length := by omega
      rw [if_pos (by omega), half_eqT (i := (i : Int)) (j := (j : Int)) (by omega) (by omega), e, transactions_placeF.eq_1, if_pos (inr_nat hm)]
      simp only [Option.bind_some]
      by_cases c : a ≤ (gd l (((i + j) / 2 : Nat) : Int)).id_
      · rw [if_neg (by rw [decide_eq_true c]; decide)]
        exact ih i ((i + j) / 2) (by omega) (by omega) h3 (fun k q1 q2 => Int.le_trans c (ht.mono q1 q2)) (by omega)
      · rw [if_pos (by rw [decide_eq_false c]; rfl), w64_succT (by omega)]
        exact ih ((i + j) / 2 + 1) j (by omega) h2 (fun k q => Int.lt_of_le_of_lt (ht.mono (i := k) (j := (i + j) / 2) (by omega) hm) (Int.not_le.1 c)) h4 (by omega)
    · rw [if_neg (by omega)]
      have : i = j := by omega
      subst this
      exact ⟨i, rfl, h2, h3, h4⟩
theorem place_okT {l : List Tx} (ht : TabOK l) (a : Int) : ∃ r : Nat, transactions_place l a = some (r : Int) ∧ r ≤ l.length ∧ (∀ k : Nat, k < r → (gd l (k : Int)).id_ < a) ∧ (∀ k : Nat, r ≤ k → k < l.length → a ≤ (gd l (k : Int)).id_) := by
  obtain ⟨r, h1, h2⟩ := search_ok ht a FU 0 l.length (by omega) (by omega) (fun k h => by omega) (fun k h h' => by omega) (by have := ht.n; unfold FU; omega)
  refine ⟨r, ?_, h2⟩
  have h1' : sort_SearchP.l1 l a FU 0 (l.length : Int) = some (r : Int) := h1
  rw [transactions_place.eq_1, sort_SearchP.eq_1, h1']
  rfl
theorem rbegin_l1 {l : List Tx} {a : Int} (hn : l.length ≤ 64) : ∀ (n i : Nat), i ≤ l.length → l.length - i < n →
    ∃ r : Nat, ref12_Begin.l1 l a n (l.take i) (i : Int) = some (l.take r) ∧ i ≤ r ∧ r ≤ l.length ∧ (∀ k : Nat, i ≤ k → k < r → (gd l (k : Int)).id_ < a) ∧ (r < l.length → a ≤ (gd l (r : Int)).id_) := by
  intro n
  induction n with
  | zero => intro i h1 h2; omega
  | succ n ih =>
    intro i h1 h2
    rw [ref12_Begin.l1.eq_2]
    by_cases hi : i < l.length
    · rw [if_pos (by omega), if_pos (inr_nat hi)]
      by_cases c : (gd l (i : Int)).id_ < a
      · rw [if_pos c, if_pos (inr_nat hi), if_pos (by rw [List.length_take]; simp; omega), w64_succT (by omega)]
        have e : l.take i ++ [gd l (i : Int)] = l.take (i + 1) := by rw [List.take_add_one, List.getElem?_eq_getElem hi, gd_nat hi]; rfl
        rw [e]
        obtain ⟨r, q1, q2, q3, q4, q5⟩ := ih (i + 1) (by omega) (by omega)
        refine ⟨r, q1, by omega, q3, fun k h3 h4 => ?_, q5⟩
        by_cases e : k = i
        · subst e; exact c
        · exact q4 k (by omega) h4
      · rw [if_neg c]
        exact ⟨i, rfl, Nat.le_refl _, h1, fun k h3 h4 => by omega, fun _ => by omega⟩
    · rw [if_neg (by omega)]
      exact ⟨i, rfl, Nat.le_refl _, h1, fun k h3 h4 => by omega, fun h => by omega⟩
open Classical in
theorem begin_ok {l : List Tx} (hn : l.length ≤ 1000) (a : Int) : ∃ r, transactions_Begin l a = some r ∧ ref12_Begin l a = some r ∧ SmB r.1 := by
  rw [transactions_Begin.eq_1, ref12_Begin.eq_1, tvalid_eq, rvalidT_eq]
  simp only [Option.bind_some]
  by_cases hv : TabOK l
  rotate_left
  · rw [if_pos (by simp [hv]), if_pos (by simp [hv])]; exact ⟨_, rfl, rfl, .nil⟩
  simp only [hv, decide_true, Bool.not_true, Bool.false_eq_true, if_false]
  by_cases c1 : a < 1
  · rw [if_pos c1, if_pos c1]; exact ⟨_, rfl, rfl, .nil⟩
  rw [if_neg c1, if_neg c1]
  by_cases c2 : 1073741824 < a
  · rw [if_pos c2, if_pos c2]; exact ⟨_, rfl, rfl, .nil⟩
  rw [if_neg c2, if_neg c2, tfind_eq]
  rcases find_spec (l := l) (by omega) a with ⟨j, h, h1, h2, h3⟩ | ⟨h1, h2⟩
  · rw [h3]
    simp only [Option.bind_some]
    rw [if_pos (by omega), if_pos (by omega)]
    exact ⟨_, rfl, rfl, .nil⟩
  rw [h2]
  simp only [Option.bind_some]
  have n0 : ¬ ((0 : Int) ≤ -1) := by decide
  rw [if_neg n0, if_neg n0]
  by_cases c3 : (l.length : Int) = 64
  · rw [if_pos c3, if_pos c3]; exact ⟨_, rfl, rfl, .nil⟩
  have hv64 := hv.n
  rw [if_neg c3, if_neg c3, if_pos (by omega)]
  obtain ⟨r, p1, p2, p3, p4⟩ := place_okT hv a
  obtain ⟨s, q1, q2, q3, q4, q5⟩ := rbegin_l1 (a := a) hv64 FU 0 (by omega) (by unfold FU; omega)
  have q1' : ref12_Begin.l1 l a FU [] 0 = some (l.take s) := q1
  rw [p1, q1']
  simp only [Option.bind_some]
  have e : s = r := by
    rcases Nat.lt_trichotomy s r with h | h | h
    · have := p3 s h; have := q5 (by omega); omega
    · exact h
    · have := q4 r (by omega) h; have := p4 r (by omega) (by omega); omega
  subst e
  have hl : (l.take s).length = s := by rw [List.length_take]; omega
  rw [if_pos (by omega), hl, if_pos (by omega), if_pos (by simp; omega), if_pos (by simp; omega), Int.toNat_natCast]
  refine ⟨_, rfl, ?_, ?_, ?_⟩
  · simp [insL]
  · show (insL l s _).length ≤ 100
    rw [insL_len q3]; omega
  · intro x hx
    replace hx : x ∈ insL l s _ := hx
    simp only [insL, List.mem_append, List.mem_cons] at hx
    rcases hx with hx | hx | hx
    · exact hv.smB.p x (List.mem_of_mem_take hx)
    · subst hx; simp
    · exact hv.smB.p x (List.mem_of_mem_drop hx)

open Classical in
theorem act_spec {l : List Tx} (hn : l.length ≤ 1000) (k : Int) : (∃ c : Int, c ≠ 0 ∧ (∃ z, transactions_active l k = some (z, c)) ∧ ∃ z, ref12_active l k = some (z, c)) ∨
    ∃ j : Nat, j < l.length ∧ TabOK l ∧ (gd l (j : Int)).id_ = k ∧ (gd l (j : Int)).state = 1 ∧ transactions_active l k = some (gd l (j : Int), 0) ∧ ref12_active l k = some ((j : Int), 0) ∧ ref12_find l k = some (j : Int) := by
  rw [transactions_active.eq_1, ref12_active.eq_1, tvalid_eq, rvalidT_eq]
  simp only [Option.bind_some]
  by_cases hv : TabOK l
  rotate_left
  · rw [if_pos (by simp [hv]), if_pos (by simp [hv])]; exact .inl ⟨15, by decide, ⟨_, rfl⟩, ⟨_, rfl⟩⟩
  simp only [hv, decide_true, Bool.not_true, Bool.false_eq_true, if_false]
  rw [tfind_eq]
  rcases find_spec (l := l) (by omega) k with ⟨j, h, h1, h2, h3⟩ | ⟨h1, h2⟩
  · rw [h3]
    simp only [Option.bind_some]
    have n0 : ¬ ((j : Int) < 0) := by omega
    have n1 := inr_nat h
    rw [if_neg n0, if_neg n0]
    simp only [if_pos n1]
    by_cases c : (gd l (j : Int)).state = 1
    · have n2 : ¬ (gd l (j : Int)).state ≠ 1 := fun h => h c
      rw [if_neg n2, if_neg n2]
      exact .inr ⟨j, h, trivial, h1, c, rfl, rfl, rfl⟩
    · rw [if_pos c, if_pos c]; exact .inl ⟨15, by decide, ⟨_, rfl⟩, ⟨_, rfl⟩⟩
  · rw [h2]
    simp only [Option.bind_some]
    have n0 : (-1 : Int) < 0 := by decide
    rw [if_pos n0, if_pos n0]; exact .inl ⟨16, by decide, ⟨_, rfl⟩, ⟨_, rfl⟩⟩
theorem with_eq {l : List Tx} (hn : l.length ≤ 1000) {t : Tx} {j : Nat} (hj : j < l.length) (hf : ref12_find l t.id_ = some (j : Int)) : transactions_with l t = some (l.set j t) := by
  rw [transactions_with.eq_1, if_pos (by omega), if_pos (by omega), tfind_eq, hf]
  simp only [Option.bind_some]
  rw [if_pos (inr_nat hj), if_pos (inr_nat hj), Int.toNat_natCast]
theorem rset_eq {l : List Tx} (hn : l.length ≤ 1000) {t : Tx} {j : Nat} (hj : j < l.length) : ref12_set l (j : Int) t = some (l.set j t) := by
  rw [ref12_set.eq_1, if_pos (by omega), if_pos (by omega), if_pos (inr_nat hj), if_pos (inr_nat hj), Int.toNat_natCast]
theorem clip_eq (l : List Int) : slices_Clip l = some l := by
  rw [slices_Clip.eq_1, if_pos (by omega), Int.toNat_natCast, List.take_length]
theorem save_ok {l : List Tx} (hn : l.length ≤ 1000) (k : Int) : ∃ r, transactions_Save l k = some r ∧ ref12_Save l k = some r ∧ SmB r.1 := by
  rw [transactions_Save.eq_1, ref12_Save.eq_1]
  rcases act_spec hn k with ⟨c, hc, ⟨z, e1⟩, ⟨z', e2⟩⟩ | ⟨j, hj, hv, hid, hs, e1, e2, e3⟩
  · rw [e1, e2]
    simp only [Option.bind_some]
    rw [if_pos hc, if_pos hc]
    exact ⟨_, rfl, rfl, .nil⟩
  rw [e1, e2]
  simp only [Option.bind_some]
  have z0 : ¬ ((0 : Int) ≠ 0) := by decide
  rw [if_neg z0, if_neg z0, if_pos (inr_nat hj)]
  by_cases c : ((gd l (j : Int)).saves.length : Int) = 8
  · rw [if_pos c, if_pos c]; exact ⟨_, rfl, rfl, .nil⟩
  have hok := (hv.ok j hj).sm
  have hok1 := hok.1
  have hok2 := hok.2
  have hl1 : ([(gd l (j : Int)).last] : List Int).length = 1 := rfl
  rw [if_neg c, if_neg c, clip_eq]
  simp only [Option.bind_some]
  rw [if_pos (by rw [hl1]; omega), if_pos (by omega), if_pos (by rw [hl1]; omega), with_eq hn hj (by rw [← e3]; show ref12_find l (gd l (j : Int)).id_ = _; rw [hid]), rset_eq hn hj]
  refine ⟨_, rfl, rfl, hv.smB.set ⟨by show (gd l (j : Int)).pending.length ≤ _; omega, ?_⟩ j⟩
  show ((gd l (j : Int)).saves ++ [(gd l (j : Int)).last]).length ≤ _
  rw [List.length_append, hl1]; omega
theorem left_eqT {x : Tx} (hn : x.pending.length ≤ 9223372036854775807) (a : Int) : transactions_left x a = some (decide (0 < x.pending.length ∧ a < gd x.pending ((x.pending.length : Int) - 1))) := by
  rw [transactions_left.eq_1]
  by_cases c : 0 < x.pending.length
  · rw [if_pos (by omega), w64_id (by omega), if_pos (by omega)]
    simp [c]
  · rw [if_neg (by omega)]
    simp [c]
def setl (x : Tx) : Tx := if x.state = 2 ∧ ¬ (0 < x.pending.length ∧ x.until_ < gd x.pending ((x.pending.length : Int) - 1)) then ⟨x.id_, 1, x.last, 0, x.pending, x.saves⟩ else x
theorem settle_eqT {x : Tx} (hn : x.pending.length ≤ 9223372036854775807) : ref12_settle x = some (setl x) := by
  rw [ref12_settle.eq_1]
  unfold setl
  by_cases c1 : x.state = 2
  rotate_left
  · rw [if_neg c1, if_neg (fun h => c1 h.1)]
  rw [if_pos c1]
  by_cases c2 : (x.pending.length : Int) = 0
  · rw [if_pos c2, if_pos ⟨c1, fun h => by omega⟩]
  rw [if_neg c2, w64_id (by omega), if_pos (by omega)]
  by_cases c3 : gd x.pending ((x.pending.length : Int) - 1) ≤ x.until_
  · rw [if_pos c3, if_pos ⟨c1, fun h => by omega⟩]
  · rw [if_neg c3, if_neg (fun h => h.2 ⟨by omega, by omega⟩)]
theorem setl_p (x : Tx) : (setl x).pending = x.pending ∧ (setl x).saves = x.saves ∧ (setl x).id_ = x.id_ := by unfold setl; split <;> exact ⟨rfl, rfl, rfl⟩
theorem back_ok {l : List Tx} (hn : l.length ≤ 1000) (k save : Int) : ∃ r, transactions_Back l k save = some r ∧ ref12_Back l k save = some r ∧ SmB r.1 := by
  rw [transactions_Back.eq_1, ref12_Back.eq_1]
  rcases act_spec hn k with ⟨c, hc, ⟨z, e1⟩, ⟨z', e2⟩⟩ | ⟨j, hj, hv, hid, hs, e1, e2, e3⟩
  · rw [e1, e2]
    simp only [Option.bind_some]
    rw [if_pos hc, if_pos hc]
    exact ⟨_, rfl, rfl, .nil⟩
  rw [e1, e2]
  simp only [Option.bind_some]
  have z0 : ¬ ((0 : Int) ≠ 0) := by decide
  rw [if_neg z0, if_neg z0, if_pos (inr_nat hj)]
  by_cases c1 : save < 0
  · rw [if_pos c1, if_pos c1]; exact ⟨_, rfl, rfl, .nil⟩
  rw [if_neg c1, if_neg c1]
  by_cases c2 : ((gd l (j : Int)).saves.length : Int) ≤ save
  · rw [if_pos c2, if_pos c2]; exact ⟨_, rfl, rfl, .nil⟩
  have htx := hv.ok j hj
  have hok1 := htx.sm.1
  have hok2 := htx.sm.2
  have hr : 0 ≤ save + 1 ∧ save + 1 ≤ ((gd l (j : Int)).saves.length : Int) := by omega
  rw [if_neg c2, if_neg c2, w64_id (x := save + 1) (by omega), if_pos hr, if_pos hr]
  have hlen : ((gd l (j : Int)).saves.take (Int.toNat (save + 1))).length = Int.toNat (save + 1) := by rw [List.length_take]; omega
  have hu : (gd l (j : Int)).until_ = 0 := by
    rcases htx.u with h | h
    · exact h
    · omega
  generalize hS : (gd l (j : Int)).saves.take (Int.toNat (save + 1)) = S at hlen ⊢
  have b1 : S.length ≤ 17592186044416 := by omega
  have b2 : 0 < S.length := by omega
  have b3 : 0 ≤ save ∧ save < (S.length : Int) := by omega
  simp only [if_pos b1, if_pos b2, if_pos b3]
  rw [left_eqT (by show (gd l (j : Int)).pending.length ≤ _; omega), settle_eqT (by show (gd l (j : Int)).pending.length ≤ _; omega)]
  simp only [Option.bind_some, decide_eq_true_eq]
  rw [rset_eq hn hj]
  simp only [Option.bind_some]
  by_cases c3 : 0 < (gd l (j : Int)).pending.length ∧ gd S save < gd (gd l (j : Int)).pending (((gd l (j : Int)).pending.length : Int) - 1)
  · rw [if_pos c3]
    simp only [Option.bind_some]
    rw [with_eq hn hj (by rw [← e3]; show ref12_find l (gd l (j : Int)).id_ = _; rw [hid])]
    have e : setl ⟨(gd l (j : Int)).id_, 2, (gd l (j : Int)).last, gd S save, (gd l (j : Int)).pending, S⟩ = ⟨(gd l (j : Int)).id_, 2, (gd l (j : Int)).last, gd S save, (gd l (j : Int)).pending, S⟩ := by
      unfold setl
      rw [if_neg (fun h => h.2 c3)]
    rw [e]
    exact ⟨_, rfl, rfl, hv.smB.set ⟨by show (gd l (j : Int)).pending.length ≤ _; omega, by show S.length ≤ _; omega⟩ j⟩
  · rw [if_neg c3]
    simp only [Option.bind_some]
    rw [with_eq hn hj (by rw [← e3]; show ref12_find l (gd l (j : Int)).id_ = _; rw [hid])]
    have e : setl ⟨(gd l (j : Int)).id_, 2, (gd l (j : Int)).last, gd S save, (gd l (j : Int)).pending, S⟩ = ⟨(gd l (j : Int)).id_, (gd l (j : Int)).state, (gd l (j : Int)).last, (gd l (j : Int)).until_, (gd l (j : Int)).pending, S⟩ := by
      unfold setl
      rw [if_pos ⟨rfl, c3⟩, hs, hu]
    rw [e]
    exact ⟨_, rfl, rfl, hv.smB.set ⟨by show (gd l (j : Int)).pending.length ≤ _; omega, by show S.length ≤ _; omega⟩ j⟩
end Rv
