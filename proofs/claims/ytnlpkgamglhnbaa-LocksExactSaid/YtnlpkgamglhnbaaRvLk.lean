/- Tables of locks, told plainly. -/
import Derived.Test.YtnlpkgamglhnbaaRvVt
set_option linter.unusedVariables false
set_option linter.unusedSimpArgs false
namespace Rv
open Go Go.RowKit Go.Proofs

/-! ### a list that falls in two parts -/
theorem mono_filter {α : Type} {p : α → Bool} : ∀ {l : List α}, l.Pairwise (fun a b => p b = true → p a = true) → l.filter p = l.take (l.filter p).length ∧ l.filter (fun x => !p x) = l.drop (l.filter p).length := by
  intro l
  induction l with
  | nil => intro _; simp
  | cons a r ih =>
    intro h
    obtain ⟨h1, h2⟩ := List.pairwise_cons.1 h
    obtain ⟨i1, i2⟩ := ih h2
    by_cases ha : p a = true
    · simp only [List.filter_cons, ha, if_true, List.length_cons, List.take_succ_cons, List.drop_succ_cons, Bool.not_true, Bool.false_eq_true, if_false]
      exact ⟨by rw [← i1], i2⟩
    · have hn : ∀ b ∈ r, ¬ p b = true := fun b hb hp => ha (h1 b hb hp)
      have e1 : r.filter p = [] := List.filter_eq_nil_iff.2 hn
      have e2 : r.filter (fun x => !p x) = r := List.filter_eq_self.2 fun b hb => by simpa using hn b hb
      have ha' : p a = false := by simpa using ha
      simp only [List.filter_cons, ha', Bool.false_eq_true, if_false, e1, e2, List.length_nil, List.take_zero, List.drop_zero, Bool.not_false, if_true]
      exact ⟨trivial, trivial⟩
theorem mono_iff {α : Type} {p : α → Bool} {l : List α} (h : l.Pairwise (fun a b => p b = true → p a = true)) {i : Nat} {x : α} (hi : l[i]? = some x) : p x = true ↔ i < (l.filter p).length := by
  obtain ⟨h1, h2⟩ := mono_filter h
  constructor
  · intro hp
    rcases Nat.lt_or_ge i (l.filter p).length with h' | h'
    · exact h'
    · have : (l.filter (fun x => !p x))[i - (l.filter p).length]? = some x := by
        rw [h2, List.getElem?_drop, show (l.filter p).length + (i - (l.filter p).length) = i by omega]; exact hi
      have := (List.mem_filter.1 (List.mem_of_getElem? this)).2
      simp [hp] at this
  · intro hlt
    have : (l.filter p)[i]? = some x := by rw [h1, List.getElem?_take, if_pos hlt]; exact hi
    exact (List.mem_filter.1 (List.mem_of_getElem? this)).2

/-! ### grants -/
def ltG (a b : Grant) : Bool := decide (a.lock.page < b.lock.page ∨ a.lock.page = b.lock.page ∧ (a.lock.slot < b.lock.slot ∨ a.lock.slot = b.lock.slot ∧ a.tx < b.tx))
def keyG (a b : Grant) : Bool := decide (a.tx = b.tx ∧ a.lock = b.lock)
def confG (a b : Grant) : Bool := decide (a.tx ≠ b.tx ∧ a.lock = b.lock ∧ (a.mode = 2 ∨ b.mode = 2))
theorem lock_eq {a b : Lock} : a = b ↔ a.page = b.page ∧ a.slot = b.slot := by
  cases a; cases b; simp
theorem ltG_iff {a b : Grant} : ltG a b = true ↔ (a.lock.page < b.lock.page ∨ a.lock.page = b.lock.page ∧ (a.lock.slot < b.lock.slot ∨ a.lock.slot = b.lock.slot ∧ a.tx < b.tx)) := by simp [ltG]
theorem keyG_iff {a b : Grant} : keyG a b = true ↔ (a.tx = b.tx ∧ a.lock.page = b.lock.page ∧ a.lock.slot = b.lock.slot) := by simp [keyG, lock_eq]
theorem confG_iff {a b : Grant} : confG a b = true ↔ (a.tx ≠ b.tx ∧ a.lock = b.lock ∧ (a.mode = 2 ∨ b.mode = 2)) := by simp [confG]
theorem confG_comm (a b : Grant) : confG a b = confG b a := by
  rw [Bool.eq_iff_iff, confG_iff, confG_iff]
  constructor <;> rintro ⟨h1, h2, h3⟩ <;> exact ⟨fun e => h1 e.symm, h2.symm, h3.symm⟩
theorem ltG_trans {a b c : Grant} (h1 : ltG a b = true) (h2 : ltG b c = true) : ltG a c = true := by
  rw [ltG_iff] at *; omega
theorem ltG_key {a b : Grant} (h : ltG a b = true) : ¬ keyG a b = true := by
  rw [ltG_iff] at h; rw [keyG_iff]; omega
theorem ltG_asymm {a b : Grant} (h : ltG a b = true) : ¬ ltG b a = true := by
  rw [ltG_iff] at *; omega
theorem ltG_tri (a b : Grant) : ltG a b = true ∨ keyG a b = true ∨ ltG b a = true := by
  rw [ltG_iff, ltG_iff, keyG_iff]; omega
abbrev AscG (l : List Grant) : Prop := l.Pairwise fun a b => ltG a b = true
def lbG (l : List Grant) (g : Grant) : Nat := (l.filter (ltG · g)).length
theorem lbG_mono {l : List Grant} (h : AscG l) (g : Grant) : l.Pairwise (fun a b => ltG b g = true → ltG a g = true) := h.imp fun h1 h2 => ltG_trans h1 h2
theorem lbG_le (l : List Grant) (g : Grant) : lbG l g ≤ l.length := List.length_filter_le ..
theorem lbG_iff {l : List Grant} (h : AscG l) {g : Grant} {i : Nat} {x : Grant} (hi : l[i]? = some x) : ltG x g = true ↔ i < lbG l g := mono_iff (lbG_mono h g) hi
theorem key_uniq {l : List Grant} (h : AscG l) {a b : Grant} (ha : a ∈ l) (hb : b ∈ l) (hk : keyG a b = true) : a = b := by
  obtain ⟨i, hi⟩ := List.getElem?_of_mem ha
  obtain ⟨j, hj⟩ := List.getElem?_of_mem hb
  have hi' := lt_of_get hi
  have hj' := lt_of_get hj
  rw [List.getElem?_eq_getElem hi'] at hi
  rw [List.getElem?_eq_getElem hj'] at hj
  cases hi; cases hj
  rcases Nat.lt_trichotomy i j with h' | h' | h'
  · exact absurd hk (ltG_key (List.pairwise_iff_getElem.1 h i j hi' hj' h'))
  · subst h'; rfl
  · have := ltG_key (List.pairwise_iff_getElem.1 h j i hj' hi' h')
    rw [keyG_iff] at hk this
    omega
/-- where the key is -/
theorem lbG_key {l : List Grant} (h : AscG l) {g : Grant} : (∃ x, l[lbG l g]? = some x ∧ keyG x g = true) ∨ ∀ x ∈ l, ¬ keyG x g = true := by
  by_cases hx : ∃ x ∈ l, keyG x g = true
  · left
    obtain ⟨x, hx, hk⟩ := hx
    obtain ⟨i, hi⟩ := List.getElem?_of_mem hx
    have h1 : ¬ i < lbG l g := fun hlt => by
      have := (lbG_iff h hi).2 hlt
      exact ltG_key this hk
    have h2 : ¬ lbG l g < i := fun hlt => by
      have hl : lbG l g < l.length := Nat.lt_trans hlt (lt_of_get hi)
      have hi' := lt_of_get hi
      rw [List.getElem?_eq_getElem hi'] at hi
      cases hi
      have h3 := List.pairwise_iff_getElem.1 h (lbG l g) i hl hi' hlt
      have h4 : ltG l[lbG l g] g = true := by
        rw [ltG_iff] at *; rw [keyG_iff] at hk; omega
      have := (lbG_iff h (List.getElem?_eq_getElem hl)).1 h4
      omega
    have : i = lbG l g := by omega
    subst this
    exact ⟨x, hi, hk⟩
  · right
    intro x hm hk
    exact hx ⟨x, hm, hk⟩
def holdL (l : List Grant) (g : Grant) : List Grant := l.filter (ltG · g) ++ g :: l.filter (ltG g ·)
theorem holdL_mem {l : List Grant} {g x : Grant} : x ∈ holdL l g ↔ x = g ∨ (x ∈ l ∧ ¬ keyG x g = true) := by
  unfold holdL
  simp only [List.mem_append, List.mem_cons, List.mem_filter]
  have h3 := ltG_tri x g
  constructor
  · rintro (⟨h1, h2⟩ | h1 | ⟨h1, h2⟩)
    · exact .inr ⟨h1, ltG_key h2⟩
    · exact .inl h1
    · exact .inr ⟨h1, fun hk => ltG_key h2 (by rw [keyG_iff] at *; omega)⟩
  · rintro (h1 | ⟨h1, h2⟩)
    · exact .inr (.inl h1)
    · rcases h3 with h3 | h3 | h3
      · exact .inl ⟨h1, h3⟩
      · exact absurd h3 h2
      · exact .inr (.inr ⟨h1, h3⟩)
theorem holdL_asc {l : List Grant} (h : AscG l) (g : Grant) : AscG (holdL l g) := by
  unfold holdL AscG
  rw [List.pairwise_append]
  refine ⟨h.filter _, List.pairwise_cons.2 ⟨fun b hb => (List.mem_filter.1 hb).2, h.filter _⟩, fun a ha b hb => ?_⟩
  have h1 := (List.mem_filter.1 ha).2
  rcases List.mem_cons.1 hb with rfl | hb
  · exact h1
  · exact ltG_trans h1 (List.mem_filter.1 hb).2
theorem holdL_len (l : List Grant) (g : Grant) : (holdL l g).length ≤ l.length + 1 := by
  unfold holdL
  rw [List.length_append, List.length_cons]
  have : ∀ (l : List Grant), (l.filter (ltG · g)).length + (l.filter (ltG g ·)).length ≤ l.length := by
    intro l
    induction l with
    | nil => simp
    | cons a r ih =>
      by_cases h1 : ltG a g = true
      · have h2 : ltG g a = false := by simpa using ltG_asymm h1
        simp only [List.filter_cons, h1, h2, if_true, List.length_cons, Bool.false_eq_true, if_false]; omega
      · simp only [List.filter_cons, h1, Bool.false_eq_true, if_false]
        split <;> simp only [List.length_cons] <;> omega
  have := this l
  omega

/-- in which mode -/
def modeL (l : List Grant) (tx : Int) (k : Lock) : Int := ((l.find? fun x => decide (x.tx = tx ∧ x.lock = k)).map (·.mode)).getD 0
theorem modeL_none {l : List Grant} {tx : Int} {k : Lock} (h : ∀ x ∈ l, ¬ (x.tx = tx ∧ x.lock = k)) : modeL l tx k = 0 := by
  unfold modeL
  rw [List.find?_eq_none.2 (fun x hx => by simpa using h x hx)]
  rfl
theorem modeL_some {l : List Grant} (ha : AscG l) {tx : Int} {k : Lock} {x : Grant} (hx : x ∈ l) (h1 : x.tx = tx) (h2 : x.lock = k) : modeL l tx k = x.mode := by
  unfold modeL
  cases e : l.find? fun x => decide (x.tx = tx ∧ x.lock = k) with
  | none =>
    have := List.find?_eq_none.1 e x hx
    simp [h1, h2] at this
  | some y =>
    have hy := List.mem_of_find?_eq_some e
    have hp := List.find?_some e
    simp only [decide_eq_true_eq] at hp
    have : y = x := key_uniq ha hy hx (by simp only [keyG, decide_eq_true_eq]; exact ⟨hp.1.trans h1.symm, hp.2.trans h2.symm⟩)
    subst this; rfl
theorem modeL_cases (l : List Grant) (ha : AscG l) (tx : Int) (k : Lock) : (∃ x ∈ l, x.tx = tx ∧ x.lock = k ∧ modeL l tx k = x.mode) ∨ ((∀ x ∈ l, ¬ (x.tx = tx ∧ x.lock = k)) ∧ modeL l tx k = 0) := by
  by_cases h : ∃ x ∈ l, x.tx = tx ∧ x.lock = k
  · obtain ⟨x, hx, h1, h2⟩ := h
    exact .inl ⟨x, hx, h1, h2, modeL_some ha hx h1 h2⟩
  · have h' : ∀ x ∈ l, ¬ (x.tx = tx ∧ x.lock = k) := fun x hx hc => h ⟨x, hx, hc⟩
    exact .inr ⟨h', modeL_none h'⟩
theorem modeL_hold_self {l : List Grant} (ha : AscG l) (g : Grant) : modeL (holdL l g) g.tx g.lock = g.mode := modeL_some (holdL_asc ha g) (holdL_mem.2 (.inl rfl)) rfl rfl
theorem modeL_hold_ne {l : List Grant} (ha : AscG l) {g : Grant} {tx : Int} {k : Lock} (hne : ¬ (g.tx = tx ∧ g.lock = k)) : modeL (holdL l g) tx k = modeL l tx k := by
  rcases modeL_cases l ha tx k with ⟨x, hx, h1, h2, h3⟩ | ⟨h1, h2⟩
  · rw [h3]
    refine modeL_some (holdL_asc ha g) (holdL_mem.2 (.inr ⟨hx, fun hk => hne ?_⟩)) h1 h2
    simp only [keyG, decide_eq_true_eq] at hk
    exact ⟨hk.1.symm.trans h1, hk.2.symm.trans h2⟩
  · rw [h2]
    refine modeL_none fun x hx hc => ?_
    rcases holdL_mem.1 hx with rfl | ⟨hx, _⟩
    · exact hne hc
    · exact h1 x hx hc

/-! ### settling -/
def blkG (held pre : List Grant) (g : Grant) : Bool := held.any (confG · g) || pre.any (confG · g)
def sett : List Grant → List Grant → List Grant → List Grant × List Grant
  | held, pre, [] => (held, pre)
  | held, pre, g :: r => if blkG held pre g = true then sett held (pre ++ [g]) r else sett (holdL held g) pre r
/-- everyone who waits is kept waiting -/
def AllB (held ws : List Grant) : Prop := ∀ p x s, ws = p ++ x :: s → blkG held p x = true
theorem AllB.nil (held : List Grant) : AllB held [] := fun p x s h => by simp at h
theorem AllB.snoc {held pre : List Grant} {g : Grant} (h : AllB held pre) (hg : blkG held pre g = true) : AllB held (pre ++ [g]) := by
  intro p x s e
  rcases List.eq_nil_or_concat s with rfl | ⟨s', y, rfl⟩
  · have := List.append_inj' e rfl
    obtain ⟨rfl, h2⟩ := this
    cases h2; exact hg
  · have e2 : pre ++ [g] = (p ++ x :: s') ++ [y] := by rw [e]; simp
    have := List.append_inj' e2 rfl
    exact h p x s' this.1
theorem sett_skip (held : List Grant) : ∀ (q p r : List Grant), (∀ q1 x q2, q = q1 ++ x :: q2 → blkG held (p ++ q1) x = true) → sett held p (q ++ r) = sett held (p ++ q) r := by
  intro q
  induction q with
  | nil => intro p r _; simp
  | cons a q ih =>
    intro p r h
    have h0 := h [] a q rfl
    simp only [List.append_nil] at h0
    show (if blkG held p a = true then sett held (p ++ [a]) (q ++ r) else _) = _
    rw [if_pos h0, ih (p ++ [a]) r (fun q1 x q2 e => by
      have := h (a :: q1) x q2 (by rw [e]; rfl)
      rwa [List.append_assoc])]
    rw [List.append_assoc]; rfl
theorem sett_all {held ws : List Grant} (h : AllB held ws) : sett held [] ws = (held, ws) := by
  have := sett_skip held ws [] [] (fun q1 x q2 e => by simpa using h q1 x q2 e)
  simpa [sett] using this
theorem sett_restart {held pre r : List Grant} (h : AllB held pre) : sett held [] (pre ++ r) = sett held pre r := by
  have := sett_skip held pre [] r (fun q1 x q2 e => by simpa using h q1 x q2 e)
  simpa using this
structure InvL (held ws : List Grant) : Prop where
  asc : AscG held
  hm : ∀ e ∈ held, e.mode = 1 ∨ e.mode = 2
  wm : ∀ x ∈ ws, modeL held x.tx x.lock < x.mode ∧ (x.mode = 1 ∨ x.mode = 2)
  wt : ws.Pairwise fun a b => a.tx ≠ b.tx
theorem blk_mono {held p : List Grant} {g x : Grant} (ha : AscG held) (hg : modeL held g.tx g.lock < g.mode) (hm : g.mode = 1 ∨ g.mode = 2) (h : blkG held p x = true) : blkG (holdL held g) p x = true := by
  unfold blkG at *
  rw [Bool.or_eq_true] at *
  rcases h with h | h
  · left
    obtain ⟨e, he, hc⟩ := List.any_eq_true.1 h
    rw [confG_iff] at hc
    obtain ⟨h1, h2, h3⟩ := hc
    refine List.any_eq_true.2 ?_
    by_cases hk : keyG e g = true
    · refine ⟨g, holdL_mem.2 (.inl rfl), ?_⟩
      simp only [keyG, decide_eq_true_eq] at hk
      have := modeL_some ha he hk.1 hk.2
      rw [confG_iff]
      exact ⟨fun e' => h1 (hk.1.trans e'), hk.2.symm.trans h2, by omega⟩
    · exact ⟨e, holdL_mem.2 (.inr ⟨he, hk⟩), by rw [confG_iff]; exact ⟨h1, h2, h3⟩⟩
  · right; exact h
theorem AllB.hold {held pre : List Grant} {g : Grant} (ha : AscG held) (hg : modeL held g.tx g.lock < g.mode) (hm : g.mode = 1 ∨ g.mode = 2) (h : AllB held pre) : AllB (holdL held g) pre := fun p x s e => blk_mono ha hg hm (h p x s e)
theorem InvL.hold {held pre r : List Grant} {g : Grant} (h : InvL held (pre ++ g :: r)) : InvL (holdL held g) (pre ++ r) := by
  have hg := h.wm g (by simp)
  have hwt := h.wt
  rw [List.pairwise_append, List.pairwise_cons] at hwt
  obtain ⟨w1, ⟨w2, w3⟩, w4⟩ := hwt
  refine ⟨holdL_asc h.asc g, fun e he => ?_, fun x hx => ?_, ?_⟩
  · rcases holdL_mem.1 he with rfl | ⟨he, _⟩
    · exact hg.2
    · exact h.hm e he
  · have hx' : x ∈ pre ++ g :: r := by
      rcases List.mem_append.1 hx with hx | hx
      · exact List.mem_append_left _ hx
      · exact List.mem_append_right _ (List.mem_cons_of_mem _ hx)
    have hne : g.tx ≠ x.tx := by
      rcases List.mem_append.1 hx with hx | hx
      · exact fun e => w4 x hx g (by simp) e.symm
      · exact w2 x hx
    rw [modeL_hold_ne h.asc (fun hc => hne hc.1)]
    exact h.wm x hx'
  · rw [List.pairwise_append]
    exact ⟨w1, w3, fun a ha b hb => w4 a ha b (by simp [hb])⟩
theorem sett_spec : ∀ (rest held pre : List Grant), InvL held (pre ++ rest) → AllB held pre →
    InvL (sett held pre rest).1 (sett held pre rest).2 ∧ AllB (sett held pre rest).1 (sett held pre rest).2 ∧ (sett held pre rest).1.length + (sett held pre rest).2.length ≤ held.length + (pre.length + rest.length) ∧ (sett held pre rest).2.length ≤ pre.length + rest.length := by
  intro rest
  induction rest with
  | nil =>
    intro held pre hi hb
    simp only [List.append_nil] at hi
    exact ⟨hi, hb, by simp [sett], by simp [sett]⟩
  | cons g r ih =>
    intro held pre hi hb
    by_cases hc : blkG held pre g = true
    · have e : sett held pre (g :: r) = sett held (pre ++ [g]) r := by show (if _ then _ else _) = _; rw [if_pos hc]
      rw [e]
      have := ih held (pre ++ [g]) (by rw [List.append_assoc]; exact hi) (hb.snoc hc)
      simp only [List.length_append, List.length_cons, List.length_nil] at this ⊢
      exact ⟨this.1, this.2.1, by omega, by omega⟩
    · have e : sett held pre (g :: r) = sett (holdL held g) pre r := by show (if _ then _ else _) = _; rw [if_neg hc]
      rw [e]
      have hg := hi.wm g (by simp)
      have := ih (holdL held g) pre hi.hold (hb.hold hi.asc hg.1 hg.2)
      have hl := holdL_len held g
      simp only [List.length_cons] at this ⊢
      exact ⟨this.1, this.2.1, by omega, by omega⟩

/-! ### valid tables -/
def grOK (g : Grant) : Prop := (1 ≤ g.tx ∧ g.tx ≤ 1073741824) ∧ (0 ≤ g.lock.page ∧ g.lock.page < 64) ∧ (0 ≤ g.lock.slot ∧ g.lock.slot < 16) ∧ (g.mode = 1 ∨ g.mode = 2)
structure LkOK (t : Locks) : Prop where
  cnt : t.held.length + t.waiting.length ≤ 1024
  hg : ∀ g ∈ t.held, grOK g
  asc : AscG t.held
  nc : ∀ a ∈ t.held, ∀ b ∈ t.held, confG a b = false
  wg : ∀ g ∈ t.waiting, grOK g ∧ modeL t.held g.tx g.lock < g.mode
  wt : t.waiting.Pairwise fun a b => a.tx ≠ b.tx
end Rv
