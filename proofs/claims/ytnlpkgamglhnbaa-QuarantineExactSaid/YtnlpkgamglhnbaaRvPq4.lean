/- Chapter 35: a marked map is a map again; where a page lies, and who lies there. -/
import Derived.Test.YtnlpkgamglhnbaaRvPq3
set_option linter.unusedVariables false
set_option linter.unusedSimpArgs false
namespace Rv
open Go Go.RowKit Go.Proofs

theorem insL_get {α : Type} {l : List α} {i : Nat} (hi : i ≤ l.length) (x d : α) (j : Nat) : (insL l i x).getD j d = if j < i then l.getD j d else if j = i then x else l.getD (j - 1) d := by
  unfold insL
  simp only [List.getD]
  rcases Nat.lt_trichotomy j i with h | h | h
  · rw [if_pos h, List.getElem?_append_left (by simp; omega), List.getElem?_take_of_lt h]
  · subst h
    rw [if_neg (Nat.lt_irrefl _), if_pos rfl, List.getElem?_append_right (by rw [List.length_take]; exact Nat.min_le_left _ _)]
    simp [Nat.min_eq_left hi]
  · rw [if_neg (by omega), if_neg (by omega), List.getElem?_append_right (by simp; omega)]
    rw [List.length_take, Nat.min_eq_left hi, show j - i = (j - i - 1) + 1 by omega, List.getElem?_cons_succ, List.getElem?_drop, show i + (j - i - 1) = j - 1 by omega]
theorem set_get {α : Type} {l : List α} {i : Nat} (hi : i < l.length) (x d : α) (j : Nat) : (l.set i x).getD j d = if j = i then x else l.getD j d := by
  simp only [List.getD, List.getElem?_set]
  by_cases h : j = i
  · subst h; rw [if_pos rfl, if_pos hi, if_pos rfl]; rfl
  · rw [if_neg (fun e => h e.symm), if_neg h]
theorem mem_insL {α : Type} {l : List α} {i : Nat} {x y : α} : y ∈ insL l i x ↔ y = x ∨ y ∈ l := by
  have : y ∈ l ↔ y ∈ l.take i ∨ y ∈ l.drop i := by
    rw [← List.mem_append, List.take_append_drop]
  rw [this]
  simp only [insL, List.mem_append, List.mem_cons]
  constructor
  · rintro (h | h | h)
    · exact .inr (.inl h)
    · exact .inl h
    · exact .inr (.inr h)
  · rintro (h | h | h)
    · exact .inr (.inl h)
    · exact .inl h
    · exact .inr (.inr h)
theorem insL_all {α : Type} {l : List α} {i : Nat} (hi : i ≤ l.length) {x d : α} {p : α → Prop} (h : ∀ k, k < l.length → p (l.getD k d)) (hx : p x) : ∀ k, k < (insL l i x).length → p ((insL l i x).getD k d) := fun k hk => by
  rw [insL_len hi] at hk
  rw [insL_get hi]
  split
  · exact h _ (by omega)
  · split
    · exact hx
    · exact h _ (by omega)
theorem set_all {α : Type} {l : List α} {i : Nat} (hi : i < l.length) {x d : α} {p : α → Prop} (h : ∀ k, k < l.length → k ≠ i → p (l.getD k d)) (hx : p x) : ∀ k, k < (l.set i x).length → p ((l.set i x).getD k d) := fun k hk => by
  rw [List.length_set] at hk
  rw [set_get hi]
  split
  · exact hx
  · exact h _ hk (by assumption)
/-- pairs of places of a list with one more -/
theorem insL_pair {α : Type} {l : List α} {i : Nat} (hi : i ≤ l.length) {x d : α} {p : α → α → Prop} (h : ∀ a b, a < b → b < l.length → p (l.getD a d) (l.getD b d)) (hl : ∀ k, k < i → k < l.length → p (l.getD k d) x) (hr : ∀ k, i ≤ k → k < l.length → p x (l.getD k d)) :
    ∀ a b, a < b → b < (insL l i x).length → p ((insL l i x).getD a d) ((insL l i x).getD b d) := fun a b hab hb => by
  rw [insL_len hi] at hb
  rw [insL_get hi, insL_get hi]
  by_cases h1 : b < i
  · rw [if_pos (by omega), if_pos h1]; exact h _ _ hab (by omega)
  rw [if_neg h1]
  by_cases h2 : b = i
  · rw [if_pos h2, if_pos (by omega)]; exact hl _ (by omega) (by omega)
  rw [if_neg h2]
  by_cases h3 : a < i
  · rw [if_pos h3]; exact h _ _ (by omega) (by omega)
  rw [if_neg h3]
  by_cases h4 : a = i
  · rw [if_pos h4]; exact hr _ (by omega) (by omega)
  · rw [if_neg h4]; exact h _ _ (by omega) (by omega)
theorem set_pair {α : Type} {l : List α} {i : Nat} (hi : i < l.length) {x d : α} {p : α → α → Prop} (h : ∀ a b, a < b → b < l.length → a ≠ i → b ≠ i → p (l.getD a d) (l.getD b d)) (hl : ∀ k, k < i → p (l.getD k d) x) (hr : ∀ k, i < k → k < l.length → p x (l.getD k d)) :
    ∀ a b, a < b → b < (l.set i x).length → p ((l.set i x).getD a d) ((l.set i x).getD b d) := fun a b hab hb => by
  rw [List.length_set] at hb
  rw [set_get hi, set_get hi]
  by_cases h1 : b = i
  · rw [if_pos h1, if_neg (by omega)]; exact hl _ (by omega)
  rw [if_neg h1]
  by_cases h2 : a = i
  · rw [if_pos h2]; exact hr _ (by omega) hb
  · rw [if_neg h2]; exact h _ _ hab hb h2 h1
theorem lbd_lt {l : List Int} (ha : Asc l) {x : Int} {k : Nat} (h : k < lbd l x) : l.getD k 0 < x := (lbd_iff ha (by have := lbd_le l x; omega)).2 h
theorem lbd_gt {l : List Int} (ha : Asc l) {x : Int} (hx : x ∉ l) {k : Nat} (h : lbd l x ≤ k) (hk : k < l.length) : x < l.getD k 0 := by
  have h1 : ¬ l.getD k 0 < x := fun e => by have := (lbd_iff ha hk).1 e; omega
  have h2 : l.getD k 0 ≠ x := fun e => hx (mem_getD.2 ⟨k, hk, e⟩)
  omega
theorem Asc.ins {l : List Int} (ha : Asc l) {x : Int} (hx : x ∉ l) : Asc (insL l (lbd l x) x) :=
  insL_pair (p := fun a b => a < b) (lbd_le l x) ha (fun k h _ => lbd_lt ha h) (fun k h h2 => lbd_gt ha hx h h2)
theorem cntL_ins (l : List Int) (i : Nat) (x n : Int) : cntL (insL l i x) n = cntL l n + if x < n then 1 else 0 := by
  have : cntL l n = cntL (l.take i) n + cntL (l.drop i) n := by
    unfold cntL
    rw [← List.length_append, ← List.filter_append, List.take_append_drop]
  rw [this]
  unfold cntL insL
  rw [List.filter_append, List.length_append, List.filter_cons]
  split
  · rename_i h; rw [if_pos (of_decide_eq_true h), List.length_cons]; omega
  · rename_i h; rw [if_neg (by simpa using h)]; omega
theorem ad_mem {r : Rm} {k : Nat} (h : k < r.pl.length) : ad r.pl k ∈ ads r := ads_mem.2 ⟨k, by omega, rfl⟩
/-- a bad spare that nobody uses -/
theorem RmOK.insBad {r : Rm} (hk : RmOK r) {a : Int} (h0 : r.pages ≤ a) (h1 : a < r.pages + r.spares) (h2 : a ∉ r.bad) (h3 : a ∉ ads r) : RmOK ⟨r.pages, r.spares, r.pl, insL r.bad (lbd r.bad a) a⟩ := by
  have hr := hk.rng
  refine ⟨hk.rng, insL_all (p := fun y => 0 ≤ y ∧ y < r.pages + r.spares) (lbd_le _ _) hk.bd (by omega), hk.as.ins h2, fun k hl => ?_, hk.pa, hk.pd, ?_⟩
  · have hp := hk.pp k hl
    refine ⟨hp.1, hp.2.1, mem_insL.2 (.inr hp.2.2.1), hp.2.2.2.1, hp.2.2.2.2.1, fun h => ?_⟩
    rcases mem_insL.1 h with h | h
    · exact h3 (h ▸ ad_mem hl)
    · exact hp.2.2.2.2.2 h
  · show cntL (insL _ _ _) r.pages = _
    rw [cntL_ins, if_neg (by omega), hk.cnt]; rfl
/-- a page's own place turns bad -/
theorem RmOK.insOwn {r : Rm} (hk : RmOK r) {a f : Int} (h0 : 0 ≤ a) (h1 : a < r.pages) (h2 : a ∉ r.bad) (f0 : r.pages ≤ f) (f1 : f < r.pages + r.spares) (f2 : f ∉ r.bad) (f3 : f ∉ ads r) :
    RmOK ⟨r.pages, r.spares, insL r.pl (lbd (pgs r) a) (a, f), insL r.bad (lbd r.bad a) a⟩ := by
  have hr := hk.rng
  have hl : lbd (pgs r) a ≤ r.pl.length := by have := lbd_le (pgs r) a; simpa using this
  have hpl : (pgs r).length = r.pl.length := by simp
  have hna : a ∉ pgs r := fun h => by
    obtain ⟨k, hk1, hk2⟩ := mem_getD.1 h
    rw [pgs_get] at hk2
    have := hk.pp k (by rw [hpl] at hk1; exact hk1)
    rw [show pg r.pl k = a from hk2] at this
    exact h2 this.2.2.1
  refine ⟨hk.rng, insL_all (p := fun y => 0 ≤ y ∧ y < r.pages + r.spares) (lbd_le _ _) hk.bd (by omega), hk.as.ins h2, ?_, ?_, ?_, ?_⟩
  · refine insL_all (d := (0, 0)) (p := fun y : Int × Int => 0 ≤ y.1 ∧ y.1 < r.pages ∧ y.1 ∈ insL r.bad (lbd r.bad a) a ∧ r.pages ≤ y.2 ∧ y.2 < r.pages + r.spares ∧ y.2 ∉ insL r.bad (lbd r.bad a) a) hl (fun k hl => ?_) ?_
    · have hp := hk.pp k hl
      refine ⟨hp.1, hp.2.1, mem_insL.2 (.inr hp.2.2.1), hp.2.2.2.1, hp.2.2.2.2.1, fun h => ?_⟩
      rcases mem_insL.1 h with h | h
      · have := hp.2.2.2.1; unfold ad at this; omega
      · exact hp.2.2.2.2.2 h
    · refine ⟨h0, h1, mem_insL.2 (.inl rfl), f0, f1, fun h => ?_⟩
      rcases mem_insL.1 h with h | h
      · omega
      · exact f2 h
  · refine insL_pair (d := (0, 0)) (p := fun y z : Int × Int => y.1 < z.1) hl hk.pa (fun k h h' => ?_) (fun k h h' => ?_)
    · have := lbd_lt (pgs_asc hk) h
      rwa [pgs_get] at this
    · have := lbd_gt (pgs_asc hk) hna h (by rw [hpl]; exact h')
      rwa [pgs_get] at this
  · refine insL_pair (d := (0, 0)) (p := fun y z : Int × Int => y.2 ≠ z.2) hl hk.pd (fun k h h' e => ?_) (fun k h h' e => ?_)
    · exact f3 ((show ad r.pl k = f from e) ▸ ad_mem h')
    · exact f3 (show f ∈ ads r from (show f = ad r.pl k from e) ▸ ad_mem h')
  · show cntL (insL _ _ _) r.pages = (insL _ _ _).length
    rw [cntL_ins, if_pos h1, hk.cnt, insL_len hl]
/-- a spare in use turns bad -/
theorem RmOK.setPl {r : Rm} (hk : RmOK r) {i : Nat} {f : Int} (hi : i < r.pl.length) (f0 : r.pages ≤ f) (f1 : f < r.pages + r.spares) (f2 : f ∉ r.bad) (f3 : f ∉ ads r) :
    RmOK ⟨r.pages, r.spares, r.pl.set i (pg r.pl i, f), insL r.bad (lbd r.bad (ad r.pl i)) (ad r.pl i)⟩ := by
  have hr := hk.rng
  have hpi := hk.pp i hi
  refine ⟨hk.rng, insL_all (p := fun y => 0 ≤ y ∧ y < r.pages + r.spares) (lbd_le _ _) hk.bd (by omega), hk.as.ins hpi.2.2.2.2.2, ?_, ?_, ?_, ?_⟩
  · refine set_all (d := (0, 0)) (p := fun y : Int × Int => 0 ≤ y.1 ∧ y.1 < r.pages ∧ y.1 ∈ insL r.bad (lbd r.bad (ad r.pl i)) (ad r.pl i) ∧ r.pages ≤ y.2 ∧ y.2 < r.pages + r.spares ∧ y.2 ∉ insL r.bad (lbd r.bad (ad r.pl i)) (ad r.pl i)) hi (fun k hl hne => ?_) ?_
    · have hp := hk.pp k hl
      refine ⟨hp.1, hp.2.1, mem_insL.2 (.inr hp.2.2.1), hp.2.2.2.1, hp.2.2.2.2.1, fun h => ?_⟩
      rcases mem_insL.1 h with h | h
      · rcases Nat.lt_or_gt_of_ne hne with h' | h'
        · exact hk.pd k i h' hi h
        · exact hk.pd i k h' hl h.symm
      · exact hp.2.2.2.2.2 h
    · refine ⟨hpi.1, hpi.2.1, mem_insL.2 (.inr hpi.2.2.1), f0, f1, fun h => ?_⟩
      rcases mem_insL.1 h with h | h
      · exact f3 ((show f = ad r.pl i from h) ▸ ad_mem hi)
      · exact f2 h
  · refine set_pair (d := (0, 0)) (p := fun y z : Int × Int => y.1 < z.1) hi (fun a b hab hb _ _ => hk.pa a b hab hb) (fun k h => ?_) (fun k h h' => ?_)
    · exact hk.pa k i h hi
    · exact hk.pa i k h h'
  · refine set_pair (d := (0, 0)) (p := fun y z : Int × Int => y.2 ≠ z.2) hi (fun a b hab hb _ _ => hk.pd a b hab hb) (fun k h e => ?_) (fun k h h' e => ?_)
    · exact f3 ((show ad r.pl k = f from e) ▸ ad_mem (by omega))
    · exact f3 ((show f = ad r.pl k from e) ▸ ad_mem h')
  · show cntL (insL _ _ _) r.pages = (r.pl.set _ _).length
    rw [cntL_ins, if_neg (by omega), hk.cnt, List.length_set]; rfl
/-! ### the free addresses -/
theorem freeN_mem {r : Rm} {x : Int} : ∀ {m : Nat}, x ∈ freeN r m → r.pages ≤ x ∧ x < r.pages + m ∧ x ∉ ads r ∧ x ∉ r.bad := by
  intro m
  induction m with
  | zero => intro h; simp [freeN] at h
  | succ m ih =>
    intro h
    simp only [freeN, List.mem_append] at h
    rcases h with h | h
    · have := ih h; exact ⟨this.1, by omega, this.2.2⟩
    · split at h
      · rename_i hc
        simp only [List.mem_singleton] at h
        subst h
        exact ⟨by omega, by omega, hc.1, hc.2⟩
      · simp at h
theorem freeQ_head {r : Rm} (hk : RmOK r) (h : (freeQ r).length ≠ 0) : r.pages ≤ (freeQ r).getD 0 0 ∧ (freeQ r).getD 0 0 < r.pages + r.spares ∧ (freeQ r).getD 0 0 ∉ ads r ∧ (freeQ r).getD 0 0 ∉ r.bad := by
  have hr := hk.rng
  have : (freeQ r).getD 0 0 ∈ freeQ r := mem_getD.2 ⟨0, by omega, rfl⟩
  have := freeN_mem this
  exact ⟨this.1, by omega, this.2.2⟩
/-! ### the lengths -/
theorem asc_ge {l : List Int} (ha : Asc l) (h0 : ∀ k, k < l.length → 0 ≤ l.getD k 0) : ∀ k, k < l.length → (k : Int) ≤ l.getD k 0 := by
  intro k
  induction k with
  | zero => intro h; have := h0 0 h; omega
  | succ k ih => intro h; have h1 := ih (by omega); have h2 := ha k (k + 1) (by omega) h; omega
theorem RmOK.blen {r : Rm} (hk : RmOK r) : r.bad.length ≤ 64 := by
  have hr := hk.rng
  rcases Nat.lt_or_ge 64 r.bad.length with h | h
  · have h1 := asc_ge hk.as (fun k h => (hk.bd k h).1) 64 h
    have h2 := hk.bd 64 h
    omega
  · exact h
theorem RmOK.plen {r : Rm} (hk : RmOK r) : r.pl.length ≤ 64 := by
  have h1 := hk.cnt
  have h2 : cntL r.bad r.pages ≤ r.bad.length := List.length_filter_le _ _
  have := hk.blen
  omega
end Rv
