/- Chapter 8: what the program's plain functions answer: asking, taking away. -/
import Derived.Test.YtnlpkgamglhnbaaRvPLk2
set_option linter.unusedVariables false
set_option linter.unusedSimpArgs false
namespace Rv
open Go Go.RowKit Go.Proofs

/-! ### taking away -/
def dfL (p : Grant → Option Bool) : Nat → Int → Int → (List Grant) → Option (Int × (List Grant))
  | 0, _, _, _ => none
  | kk9 + 1, i6, j7, bx8 => (if j7 < ((bx8).length : Int) then (if 0 < bx8.length then (if (0 : Int) ≤ j7 ∧ j7 < (bx8.length : Int) then (if (0 : Int) ≤ j7 ∧ j7 < (bx8.length : Int) then ((p (gd bx8 j7)).bind fun (x14 : Bool) => (if (!x14) = true then (if (0 : Int) ≤ i6 ∧ i6 < (bx8.length : Int) then (if (0 : Int) ≤ i6 ∧ i6 < (bx8.length : Int) then dfL p kk9 (w64 (i6 + 1)) (w64 (j7 + 1)) (bx8.set (Int.toNat i6) (gd bx8 j7)) else none) else none) else dfL p kk9 i6 (w64 (j7 + 1)) bx8)) else none) else none) else none) else some (i6, bx8))
def dfR (p : Grant → Option Bool) (s_ : List Grant) : Option (List Grant) := ((ixR p s_).bind fun (x1 : Int) => (if x1 = (-1) then some s_ else ((dfL p FU x1 (w64 (x1 + 1)) s_).bind fun (s20 : (Int × (List Grant))) => (if 0 < s20.2.length then (if (0 : Int) ≤ s20.1 ∧ s20.1 < (s20.2.length : Int) then (if (0 : Int) ≤ s20.1 ∧ s20.1 < (s20.2.length : Int) ∧ s20.2.length ≤ (s20.2.length : Int) then (if (0 : Int) ≤ s20.1 ∧ s20.1 ≤ (s20.2.length : Int) ∧ s20.1 ≤ ((s20.2.take (Int.toNat s20.1)).length : Int) then some ((s20.2.take (Int.toNat s20.1)).take (Int.toNat s20.1)) else none) else none) else none) else none))))
theorem dfL_spec {p : Grant → Option Bool} {q : Grant → Bool} {s : List Grant} (hp : ∀ x ∈ s, p x = some (q x)) (hn : s.length ≤ 1000000) : ∀ (k i j : Nat) (bx : List Grant), bx.length = s.length → j ≤ s.length → i < j → bx.take i = (s.take j).filter (fun x => !q x) → bx.drop j = s.drop j → s.length - j < k →
    ∃ (i' : Nat) (bx' : List Grant), dfL p k (i : Int) (j : Int) bx = some ((i' : Int), bx') ∧ bx'.length = s.length ∧ i' < s.length ∧ bx'.take i' = s.filter (fun x => !q x) := by
  intro k
  induction k with
  | zero => intro i j bx h1 h2 h3 h4 h5 h6; omega
  | succ k ih =>
    intro i j bx h1 h2 h3 h4 h5 h6
    rw [dfL]
    by_cases hj : j < s.length
    · have hjb : j < bx.length := by omega
      rw [if_pos (by omega), if_pos (by omega), if_pos (inr_nat hjb), if_pos (inr_nat hjb), gd_nat hjb]
      have hbs : bx[j] = s[j] := by
        have e1 : (bx.drop j)[0]? = bx[j]? := by rw [List.getElem?_drop]; rfl
        have e2 : (s.drop j)[0]? = s[j]? := by rw [List.getElem?_drop]; rfl
        rw [h5, e2, List.getElem?_eq_getElem hj, List.getElem?_eq_getElem hjb] at e1
        exact (Option.some.inj e1).symm
      rw [hbs, hp _ (List.getElem_mem hj)]
      simp only [Option.bind_some]
      have hst : s.take (j + 1) = s.take j ++ [s[j]] := by rw [List.take_add_one, List.getElem?_eq_getElem hj]; rfl
      by_cases hc : q s[j] = true
      · rw [if_neg (by simp [hc]), w64_succ (by omega)]
        refine ih i (j + 1) bx h1 (by omega) (by omega) ?_ ?_ (by omega)
        · rw [h4, hst, List.filter_append]; simp [hc]
        · rw [← List.drop_drop, h5, List.drop_drop]
      · have hi : i < bx.length := by omega
        rw [if_pos (by simp [hc]), if_pos (inr_nat hi), if_pos (inr_nat hi), w64_succ (by omega), w64_succ (by omega), Int.toNat_natCast]
        refine ih (i + 1) (j + 1) _ (by simpa using h1) (by omega) (by omega) ?_ ?_ (by omega)
        · rw [hst, List.filter_append, ← h4, List.take_add_one, List.take_set_of_le (Nat.le_refl _), List.getElem?_set_self hi]
          simp [hc]
        · rw [List.drop_set_of_lt (by omega), ← List.drop_drop, h5, List.drop_drop]
    · have e : j = s.length := by omega
      subst e
      rw [if_neg (by omega)]
      refine ⟨i, bx, rfl, h1, by omega, ?_⟩
      rw [h4, List.take_length]
theorem df_eq {p : Grant → Option Bool} {q : Grant → Bool} {s : List Grant} (hp : ∀ x ∈ s, p x = some (q x)) (hn : s.length ≤ 1000000) : dfR p s = some (s.filter fun x => !q x) := by
  unfold dfR
  rcases ix_spec hp hn with ⟨j, h, h1, h2, h3⟩ | ⟨h1, h2⟩
  · rw [h3]
    simp only [Option.bind_some]
    rw [if_neg (by omega), w64_succ (by omega)]
    obtain ⟨i', bx', e, l1, l2, l3⟩ := dfL_spec hp hn FU j (j + 1) s rfl (by omega) (by omega) (by
      rw [List.take_add_one, List.getElem?_eq_getElem h, List.filter_append]
      simp only [Option.toList_some, List.filter_cons, h1, Bool.not_true, Bool.false_eq_true, if_false, List.filter_nil, List.append_nil]
      symm
      apply List.filter_eq_self.2
      intro x hx
      obtain ⟨j', hj'⟩ := List.getElem?_of_mem hx
      rw [List.getElem?_take] at hj'
      split at hj'
      · rename_i hlt
        rw [List.getElem?_eq_getElem (by omega)] at hj'
        cases hj'
        simpa using h2 j' hlt (by omega)
      · cases hj') rfl (by unfold FU; omega)
    rw [e]
    simp only [Option.bind_some]
    rw [if_pos (by omega), if_pos (by omega), if_pos (by omega), Int.toNat_natCast, if_pos (by rw [List.length_take]; omega), List.take_take, Nat.min_self, l3]
  · rw [h2]
    simp only [Option.bind_some, if_true]
    congr 1
    symm
    apply List.filter_eq_self.2
    intro x hx
    simpa using h1 x hx
theorem ixC1_eq (s : List Grant) : IndexFuncC1 s = ixR (fun x => locks_C1F x) s := by
  have : ∀ k i, IndexFuncC1.l1 s k i = ixL (fun x => locks_C1F x) s k i := by
    intro k
    induction k with
    | zero => intro i; rfl
    | succ k ih => intro i; rw [IndexFuncC1.l1.eq_2]; simp only [ih]; rfl
  rw [IndexFuncC1.eq_1, this]; rfl
theorem dfC1_eq {s : List Grant} (hn : s.length ≤ 1000000) : DeleteFuncC1 s = some s := by
  have : ∀ k i j b, DeleteFuncC1.l1 k i j b = dfL (fun x => locks_C1F x) k i j b := by
    intro k
    induction k with
    | zero => intros; rfl
    | succ k ih => intro i j b; rw [DeleteFuncC1.l1.eq_2]; simp only [ih]; rfl
  have h : DeleteFuncC1 s = dfR (fun x => locks_C1F x) s := by rw [DeleteFuncC1.eq_1, ixC1_eq]; simp only [this]; rfl
  rw [h, df_eq (q := fun _ => false) (fun x _ => by rw [locks_C1F.eq_1]) hn]
  simp
theorem ixC2_eq (s : List Grant) (f : Int) : IndexFuncC2 s f = ixR (fun x => locks_C2F x f) s := by
  have : ∀ k i, IndexFuncC2.l1 s f k i = ixL (fun x => locks_C2F x f) s k i := by
    intro k
    induction k with
    | zero => intro i; rfl
    | succ k ih => intro i; rw [IndexFuncC2.l1.eq_2]; simp only [ih]; rfl
  rw [IndexFuncC2.eq_1, this]; rfl
theorem dfC2_eq {s : List Grant} (hn : s.length ≤ 1000000) (f : Int) : DeleteFuncC2 s f = some (s.filter fun x => !decide (x.tx = f)) := by
  have : ∀ k i j b, DeleteFuncC2.l1 f k i j b = dfL (fun x => locks_C2F x f) k i j b := by
    intro k
    induction k with
    | zero => intros; rfl
    | succ k ih => intro i j b; rw [DeleteFuncC2.l1.eq_2]; simp only [ih]; rfl
  have h : DeleteFuncC2 s f = dfR (fun x => locks_C2F x f) s := by rw [DeleteFuncC2.eq_1, ixC2_eq]; simp only [this]; rfl
  rw [h, df_eq (q := fun x => decide (x.tx = f)) (fun x _ => by rw [locks_C2F.eq_1]) hn]
theorem ixD1_eq (s : List Grant) (f : Int) (l : Lock) : IndexFuncD1 s f l = ixR (fun x => locks_D1F x f l) s := by
  have : ∀ k i, IndexFuncD1.l1 s f l k i = ixL (fun x => locks_D1F x f l) s k i := by
    intro k
    induction k with
    | zero => intro i; rfl
    | succ k ih => intro i; rw [IndexFuncD1.l1.eq_2]; simp only [ih]; rfl
  rw [IndexFuncD1.eq_1, this]; rfl
theorem dfD1_eq {s : List Grant} (hn : s.length ≤ 1000000) (f : Int) (l : Lock) : DeleteFuncD1 s f l = some (s.filter fun x => !decide (x.tx = f ∧ x.lock = l)) := by
  have : ∀ k i j b, DeleteFuncD1.l1 f l k i j b = dfL (fun x => locks_D1F x f l) k i j b := by
    intro k
    induction k with
    | zero => intros; rfl
    | succ k ih => intro i j b; rw [DeleteFuncD1.l1.eq_2]; simp only [ih]; rfl
  have h : DeleteFuncD1 s f l = dfR (fun x => locks_D1F x f l) s := by rw [DeleteFuncD1.eq_1, ixD1_eq]; simp only [this]; rfl
  rw [h, df_eq (q := fun x => decide (x.tx = f ∧ x.lock = l)) (fun x _ => by rw [locks_D1F.eq_1]; by_cases h1 : x.tx = f <;> simp [h1]) hn]
theorem ixD2_eq (s : List Grant) : IndexFuncD2 s = ixR (fun x => locks_D2F x) s := by
  have : ∀ k i, IndexFuncD2.l1 s k i = ixL (fun x => locks_D2F x) s k i := by
    intro k
    induction k with
    | zero => intro i; rfl
    | succ k ih => intro i; rw [IndexFuncD2.l1.eq_2]; simp only [ih]; rfl
  rw [IndexFuncD2.eq_1, this]; rfl
theorem dfD2_eq {s : List Grant} (hn : s.length ≤ 1000000) : DeleteFuncD2 s = some s := by
  have : ∀ k i j b, DeleteFuncD2.l1 k i j b = dfL (fun x => locks_D2F x) k i j b := by
    intro k
    induction k with
    | zero => intros; rfl
    | succ k ih => intro i j b; rw [DeleteFuncD2.l1.eq_2]; simp only [ih]; rfl
  have h : DeleteFuncD2 s = dfR (fun x => locks_D2F x) s := by rw [DeleteFuncD2.eq_1, ixD2_eq]; simp only [this]; rfl
  rw [h, df_eq (q := fun _ => false) (fun x _ => by rw [locks_D2F.eq_1]) hn]
  simp
theorem ixR1_eq (s : List Grant) (f : Int) : IndexFuncR1 s f = ixR (fun x => locks_R1F x f) s := by
  have : ∀ k i, IndexFuncR1.l1 s f k i = ixL (fun x => locks_R1F x f) s k i := by
    intro k
    induction k with
    | zero => intro i; rfl
    | succ k ih => intro i; rw [IndexFuncR1.l1.eq_2]; simp only [ih]; rfl
  rw [IndexFuncR1.eq_1, this]; rfl
theorem dfR1_eq {s : List Grant} (hn : s.length ≤ 1000000) (f : Int) : DeleteFuncR1 s f = some (s.filter fun x => !decide (x.tx = f)) := by
  have : ∀ k i j b, DeleteFuncR1.l1 f k i j b = dfL (fun x => locks_R1F x f) k i j b := by
    intro k
    induction k with
    | zero => intros; rfl
    | succ k ih => intro i j b; rw [DeleteFuncR1.l1.eq_2]; simp only [ih]; rfl
  have h : DeleteFuncR1 s f = dfR (fun x => locks_R1F x f) s := by rw [DeleteFuncR1.eq_1, ixR1_eq]; simp only [this]; rfl
  rw [h, df_eq (q := fun x => decide (x.tx = f)) (fun x _ => by rw [locks_R1F.eq_1]) hn]

/-! ### the table's functions -/
open Classical in
noncomputable def waitA (t : Locks) (tx : Int) : Grant × Bool := match (if LkOK t then t.waiting.find? (fun g => decide (g.tx = tx)) else none) with | some g => (g, true) | none => (⟨0, ⟨0, 0⟩, 0⟩, false)
theorem find_ix {α : Type} {l : List α} {q : α → Bool} {j : Nat} (h : j < l.length) (h1 : q l[j] = true) (h2 : ∀ j', j' < j → ∀ h' : j' < l.length, ¬ q l[j'] = true) : l.find? q = some l[j] := by
  rw [List.find?_eq_some_iff_getElem]
  exact ⟨h1, j, h, rfl, fun k hk => by simpa using h2 k hk (by omega)⟩
theorem lkwaiting_eq {t : Locks} (hm : t.held.length ≤ 1000000) (hn : t.waiting.length ≤ 1000000) (tx : Int) : locks_Waiting t tx = some (waitA t tx) := by
  rw [locks_Waiting.eq_1, ixW_eq]
  have hp : ∀ x ∈ t.waiting, locks_WaitingF x tx = some (decide (x.tx = tx)) := fun x _ => by rw [locks_WaitingF.eq_1]
  unfold waitA
  rcases ix_spec (q := fun x => decide (x.tx = tx)) hp hn with ⟨j, h, h1, h2, h3⟩ | ⟨h1, h2⟩
  · rw [h3, find_ix h h1 h2]
    simp only [Option.bind_some]
    rw [if_neg (by omega), lkvalid_eq hm hn]
    simp only [Option.bind_some]
    by_cases hv : LkOK t
    · simp only [hv, decide_true, Bool.not_true, Bool.false_eq_true, if_false, if_true]
      rw [if_pos (inr_nat h), gd_nat h]
    · simp only [hv, decide_false, Bool.not_false, if_true, if_false]
  · rw [h2]
    simp only [Option.bind_some]
    rw [if_pos (by decide), List.find?_eq_none.2 (fun x hx => h1 x hx)]
    simp
def modeA (t : Locks) (tx : Int) (k : Lock) : Int := modeL t.held tx k
open Classical in
theorem lkmode_eq {t : Locks} (hm : t.held.length ≤ 1000000) (hn : t.waiting.length ≤ 1000000) (tx : Int) (k : Lock) : locks_Mode t tx k = some (if LkOK t then modeL t.held tx k else 0) := by
  rw [locks_Mode.eq_1, lkvalid_eq hm hn]
  simp only [Option.bind_some]
  by_cases hv : LkOK t
  · rw [if_pos hv, if_neg (by simp [hv]), mode1_eq hv.asc hm]; rfl
  · rw [if_neg hv, if_pos (by simp [hv])]
def placeL (t : Locks) (g : Grant) : Nat := if modeL t.held g.tx g.lock = 0 then t.waiting.length else t.waiting.findIdx fun x => decide (x.lock = g.lock ∧ modeL t.held x.tx x.lock = 0)
theorem placeL_le (t : Locks) (g : Grant) : placeL t g ≤ t.waiting.length := by
  unfold placeL
  split
  · exact Nat.le_refl _
  · exact List.findIdx_le_length
theorem findIdx_of {α : Type} {l : List α} {q : α → Bool} {j : Nat} (h : j < l.length) (h1 : q l[j] = true) (h2 : ∀ j', j' < j → ∀ h' : j' < l.length, ¬ q l[j'] = true) : l.findIdx q = j := by
  rw [List.findIdx_eq h]
  exact ⟨h1, fun k hk => by simpa using h2 k hk (by omega)⟩
theorem place_eq {t : Locks} (ha : AscG t.held) (hm : t.held.length ≤ 1000000) (hn : t.waiting.length ≤ 1000000) {g : Grant} (hg : ∀ x ∈ t.waiting, x.tx ≠ g.tx) : locks_place t g = some (placeL t g : Int) := by
  rw [locks_place.eq_1, mode1_eq ha hm]
  simp only [Option.bind_some]
  unfold placeL
  by_cases h0 : modeL t.held g.tx g.lock = 0
  · rw [if_pos h0, if_pos h0]
  · rw [if_neg h0, if_neg h0]
    have := loopF (L := locks_place.l1 t g) (n := t.waiting.length) (fun i => ∃ h : i < t.waiting.length, t.waiting[i].lock = g.lock ∧ modeL t.held t.waiting[i].tx t.waiting[i].lock = 0) (fun i => (i : Int)) () (fun k i hi => by
      rw [locks_place.l1.eq_2, if_pos (by omega), if_pos (inr_nat hi), gd_nat hi, if_pos (hg _ (List.getElem_mem hi)), mode1_eq ha hm]
      simp only [Option.bind_some]
      by_cases c1 : t.waiting[i].lock = g.lock
      · rw [if_pos c1]
        by_cases c2 : modeL t.held t.waiting[i].tx t.waiting[i].lock = 0
        · rw [if_pos c2]; exact .inl ⟨⟨hi, c1, c2⟩, rfl⟩
        · rw [if_neg c2, w64_succ (by omega)]; exact .inr ⟨fun h => c2 h.2.2, rfl⟩
      · rw [if_neg c1, w64_succ (by omega)]; exact .inr ⟨fun h => c1 h.2.1, rfl⟩) (fun k => by rw [locks_place.l1.eq_2, if_neg (by omega)]) FU 0 (by omega) (FU_lt hn 0)
    rcases this with ⟨j, _, h2, ⟨_, h3⟩, h4, h5⟩ | ⟨h1, h2⟩
    · have h5' : locks_place.l1 t g FU 0 = some (.inr (j : Int)) := h5
      rw [h5']
      simp only [Option.bind_some]
      rw [findIdx_of h2 (by simpa using h3) (fun j' q1 h' hq => h4 j' (by omega) q1 ⟨h', by simpa using hq⟩)]
    · have h2' : locks_place.l1 t g FU 0 = some (.inl ()) := h2
      rw [h2']
      simp only [Option.bind_some]
      rw [List.findIdx_eq_length.2]
      intro x hx
      obtain ⟨i, hi⟩ := List.getElem?_of_mem hx
      have hlt := lt_of_get hi
      rw [List.getElem?_eq_getElem hlt] at hi
      cases hi
      have := h1 i (by omega) hlt
      simp only [decide_eq_false_iff_not]
      exact fun hc => this ⟨hlt, hc⟩
theorem insL_mem {α : Type} {l : List α} {p : Nat} {g x : α} : x ∈ insL l p g ↔ x = g ∨ x ∈ l := by
  unfold insL
  rw [List.mem_append, List.mem_cons]
  constructor
  · rintro (h | h | h)
    · exact .inr (List.mem_of_mem_take h)
    · exact .inl h
    · exact .inr (List.mem_of_mem_drop h)
  · rintro (h | h)
    · exact .inr (.inl h)
    · rw [← List.take_append_drop p l, List.mem_append] at h
      rcases h with h | h
      · exact .inl h
      · exact .inr (.inr h)
theorem insL_pw {l : List Grant} (h : l.Pairwise fun a b => a.tx ≠ b.tx) (p : Nat) {g : Grant} (hg : ∀ x ∈ l, x.tx ≠ g.tx) : (insL l p g).Pairwise fun a b => a.tx ≠ b.tx := by
  unfold insL
  rw [← List.take_append_drop p l, List.pairwise_append] at h
  obtain ⟨h1, h2, h3⟩ := h
  rw [List.pairwise_append, List.pairwise_cons]
  refine ⟨h1, ⟨fun b hb e => hg b (List.mem_of_mem_drop hb) e.symm, h2⟩, fun a ha b hb => ?_⟩
  rcases List.mem_cons.1 hb with rfl | hb
  · exact hg a (List.mem_of_mem_take ha)
  · exact h3 a ha b hb
theorem LkOK.inv {t : Locks} (h : LkOK t) : InvL t.held t.waiting := ⟨h.asc, fun e he => (h.hg e he).2.2.2, fun x hx => ⟨(h.wg x hx).2, (h.wg x hx).1.2.2.2⟩, h.wt⟩
theorem LkOK.ask {t : Locks} (h : LkOK t) {g : Grant} (hg : grOK g) (hno : ∀ x ∈ t.waiting, x.tx ≠ g.tx) (hm : modeL t.held g.tx g.lock < g.mode) (p : Nat) : InvL t.held (insL t.waiting p g) := by
  refine ⟨h.asc, fun e he => (h.hg e he).2.2.2, fun x hx => ?_, insL_pw h.wt p hno⟩
  rcases insL_mem.1 hx with rfl | hx
  · exact ⟨hm, hg.2.2.2⟩
  · exact ⟨(h.wg x hx).2, (h.wg x hx).1.2.2.2⟩
abbrev askL (t : Locks) (g : Grant) : Locks := setL ⟨t.held, insL t.waiting (placeL t g) g⟩
open Classical in
noncomputable def reqL (t : Locks) (g : Grant) : Locks × Bool × Int :=
  if ¬ LkOK t then (⟨[], []⟩, false, 17) else if ¬ grOK g then (⟨[], []⟩, false, 1) else
  match t.waiting.find? (fun x => decide (x.tx = g.tx)) with
  | some w => if w = g then (t, false, 0) else (⟨[], []⟩, false, 15)
  | none => if g.mode ≤ modeL t.held g.tx g.lock then (t, true, 0) else if t.held.length + t.waiting.length = 1024 then (⟨[], []⟩, false, 21) else (askL t g, decide (g.mode ≤ modeL (askL t g).held g.tx g.lock), 0)
theorem askL_len {t : Locks} (h : LkOK t) {g : Grant} (hg : grOK g) (hno : ∀ x ∈ t.waiting, x.tx ≠ g.tx) (hm : modeL t.held g.tx g.lock < g.mode) : (askL t g).held.length + (askL t g).waiting.length ≤ t.held.length + (t.waiting.length + 1) ∧ AscG (askL t g).held := by
  have hs := sett_spec (insL t.waiting (placeL t g) g) t.held [] (h.ask hg hno hm _) (AllB.nil _)
  have hl := insL_len (placeL_le t g) g
  simp only [List.length_nil, Nat.zero_add] at hs
  obtain ⟨s1, s2, s3, s4⟩ := hs
  rw [hl] at s3
  exact ⟨s3, s1.asc⟩
theorem lkreq_eq {t : Locks} (hm : t.held.length ≤ 1000000) (hn : t.waiting.length ≤ 1000000) (g : Grant) : locks_Request t g = some (reqL t g) := by
  rw [locks_Request.eq_1, lkvalid_eq hm hn, valid1_eq, lkwaiting_eq hm hn]
  simp only [Option.bind_some]
  unfold reqL
  by_cases hv : LkOK t
  rotate_left
  · simp [hv]
  simp only [hv, decide_true, Bool.not_true, Bool.false_eq_true, if_false, not_true_eq_false]
  by_cases hg : grOK g
  rotate_left
  · simp [hg]
  simp only [hg, decide_true, Bool.not_true, Bool.false_eq_true, if_false, not_true_eq_false]
  unfold waitA
  simp only [hv, if_true]
  cases hf : t.waiting.find? (fun x => decide (x.tx = g.tx)) with
  | some w =>
    simp only [if_true, Option.bind_some]
    by_cases hw : w = g
    · simp [hw]
    · simp [hw]
  | none =>
    have hno : ∀ x ∈ t.waiting, x.tx ≠ g.tx := fun x hx => by simpa using List.find?_eq_none.1 hf x hx
    simp only [Bool.false_eq_true, if_false, Option.bind_some, mode1_eq hv.asc hm]
    by_cases c1 : g.mode ≤ modeL t.held g.tx g.lock
    · simp [c1]
    rw [if_neg c1, if_neg c1, w64_id (by omega)]
    have hcnt := hv.cnt
    by_cases c2 : t.held.length + t.waiting.length = 1024
    · rw [if_pos (by omega), if_pos c2]; rfl
    rw [if_neg (by omega), if_neg c2]
    simp only [Option.bind_some]
    have hown : locks_own t = some t := by rw [locks_own.eq_1, if_pos (by omega), if_pos (by omega)]
    rw [hown]
    simp only [Option.bind_some, place_eq hv.asc hm hn hno]
    have hpl := placeL_le t g
    rw [if_pos (by omega), Int.toNat_natCast]
    have hl := insL_len hpl g
    rw [settle_eq (t := ⟨t.held, insL t.waiting (placeL t g) g⟩) (hv.ask hg hno (by omega) _) (by show t.held.length + (insL t.waiting (placeL t g) g).length ≤ _; rw [hl]; omega)]
    simp only [Option.bind_some]
    obtain ⟨a1, a2⟩ := askL_len hv hg hno (by omega)
    rw [mode1_eq (t := askL t g) a2 (by omega)]
    rfl
/-- Without what a transaction has. -/
abbrev freeL (tx : Int) (l : List Grant) : List Grant := l.filter fun x => !decide (x.tx = tx)
abbrev dropL (tx : Int) (k : Lock) (l : List Grant) : List Grant := l.filter fun x => !decide (x.tx = tx ∧ x.lock = k)
theorem modeL_sub {l l' : List Grant} (ha : AscG l) (hs : l'.Sublist l) (hp : ∀ x ∈ l, 0 ≤ x.mode) (tx : Int) (k : Lock) : modeL l' tx k ≤ modeL l tx k := by
  have ha' : AscG l' := ha.sublist hs
  rcases modeL_cases l' ha' tx k with ⟨x, hx, h1, h2, h3⟩ | ⟨_, h2⟩
  · rw [h3, modeL_some ha (hs.subset hx) h1 h2]
    exact Int.le_refl _
  · rw [h2]
    rcases modeL_cases l ha tx k with ⟨x, hx, _, _, h3⟩ | ⟨_, h3⟩
    · rw [h3]; exact hp x hx
    · rw [h3]; exact Int.le_refl _
theorem LkOK.less {t : Locks} (h : LkOK t) {a b : List Grant} (ha : a.Sublist t.held) (hb : b.Sublist t.waiting) : InvL a b := by
  have hp : ∀ x ∈ t.held, 0 ≤ x.mode := fun x hx => by have := (h.hg x hx).2.2.2; omega
  refine ⟨h.asc.sublist ha, fun e he => (h.hg e (ha.subset he)).2.2.2, fun x hx => ⟨?_, (h.wg x (hb.subset hx)).1.2.2.2⟩, h.wt.sublist hb⟩
  have := modeL_sub h.asc ha hp x.tx x.lock
  have := (h.wg x (hb.subset hx)).2
  omega
theorem less_settle {t : Locks} (h : LkOK t) {a b : List Grant} (ha : a.Sublist t.held) (hb : b.Sublist t.waiting) : locks_settle ⟨a, b⟩ = some (setL ⟨a, b⟩) := by
  have h1 := ha.length_le
  have h2 := hb.length_le
  have := h.cnt
  exact settle_eq (t := ⟨a, b⟩) (h.less ha hb) (by show a.length + b.length ≤ _; omega)
open Classical in
theorem lkcancel_eq {t : Locks} (hm : t.held.length ≤ 1000000) (hn : t.waiting.length ≤ 1000000) (tx : Int) : locks_Cancel t tx = some (if LkOK t then setL ⟨t.held, freeL tx t.waiting⟩ else t) := by
  rw [locks_Cancel.eq_1, locks_withoutC.eq_1, lkvalid_eq hm hn]
  simp only [Option.bind_some]
  by_cases hv : LkOK t
  · rw [if_pos hv, if_neg (by simp [hv])]
    have hown : locks_own t = some t := by rw [locks_own.eq_1, if_pos (by omega), if_pos (by omega)]
    rw [hown]
    simp only [Option.bind_some, dfC1_eq hm, dfC2_eq hn]
    rw [less_settle hv (List.Sublist.refl _) List.filter_sublist]
    rfl
  · rw [if_neg hv, if_pos (by simp [hv])]; rfl
open Classical in
theorem lkdrop_eq {t : Locks} (hm : t.held.length ≤ 1000000) (hn : t.waiting.length ≤ 1000000) (tx : Int) (k : Lock) : locks_Drop t tx k = some (if LkOK t then setL ⟨dropL tx k t.held, t.waiting⟩ else t) := by
  rw [locks_Drop.eq_1, locks_withoutD.eq_1, lkvalid_eq hm hn]
  simp only [Option.bind_some]
  by_cases hv : LkOK t
  · rw [if_pos hv, if_neg (by simp [hv])]
    have hown : locks_own t = some t := by rw [locks_own.eq_1, if_pos (by omega), if_pos (by omega)]
    rw [hown]
    simp only [Option.bind_some, dfD1_eq hm, dfD2_eq hn]
    rw [less_settle hv List.filter_sublist (List.Sublist.refl _)]
    rfl
  · rw [if_neg hv, if_pos (by simp [hv])]; rfl
open Classical in
theorem lkrelease_eq {t : Locks} (hm : t.held.length ≤ 1000000) (hn : t.waiting.length ≤ 1000000) (tx : Int) : locks_Release t tx = some (if LkOK t then setL ⟨freeL tx t.held, freeL tx t.waiting⟩ else t) := by
  rw [locks_Release.eq_1, locks_withoutR.eq_1, lkvalid_eq hm hn]
  simp only [Option.bind_some]
  by_cases hv : LkOK t
  · rw [if_pos hv, if_neg (by simp [hv])]
    have hown : locks_own t = some t := by rw [locks_own.eq_1, if_pos (by omega), if_pos (by omega)]
    rw [hown]
    simp only [Option.bind_some, dfR1_eq hm, dfR1_eq hn]
    rw [less_settle hv List.filter_sublist List.filter_sublist]
    rfl
  · rw [if_neg hv, if_pos (by simp [hv])]; rfl
end Rv
