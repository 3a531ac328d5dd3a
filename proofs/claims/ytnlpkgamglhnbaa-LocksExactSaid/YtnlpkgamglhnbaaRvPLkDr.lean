/- Chapter 8: tables that are drawn. -/
import Derived.Test.YtnlpkgamglhnbaaRvPLkRef2
import Derived.Test.YtnlpkgamglhnbaaRvPCd
set_option linter.unusedVariables false
set_option linter.unusedSimpArgs false
namespace Rv
open Go Go.RowKit Go.Proofs

theorem grant2 {c : Codes} (hc : CdOK2 c) : ∃ g c', Codes_Grant c = some (g, c') ∧ grOK g ∧ Step c c' ∧ (c.at_ < c.l_.length → c.at_ < c'.at_) := by
  rw [Codes_Grant.eq_1]
  obtain ⟨a1, c1, e1, p1, q1, s1, t1⟩ := next2 hc (n := 5) (by decide) (by decide)
  obtain ⟨a2, c2, e2, p2, q2, s2, t2⟩ := next2 s1.1 (n := 2) (by decide) (by decide)
  obtain ⟨a3, c3, e3, p3, q3, s3, t3⟩ := next2 s2.1 (n := 2) (by decide) (by decide)
  obtain ⟨a4, c4, e4, p4, q4, s4, t4⟩ := next2 s3.1 (n := 2) (by decide) (by decide)
  rw [e1]
  simp only [Option.bind_some, e2, e3, e4]
  have h := ((s1.trans s2).trans s3).trans s4
  refine ⟨_, _, rfl, ?_, h, fun hl => ?_⟩
  · rw [w64_id (by omega), w64_id (by omega)]
    unfold grOK
    simp only
    omega
  · have := t1 hl
    have := s2.2.2
    have := s3.2.2
    have := s4.2.2
    omega
theorem setL_len {t : Locks} (h : LkOK t) {a b : List Grant} (ha : a.Sublist t.held) (hb : b.Sublist t.waiting) : (setL ⟨a, b⟩).held.length + (setL ⟨a, b⟩).waiting.length ≤ t.held.length + t.waiting.length := by
  have hs := (sett_spec b a [] (h.less ha hb) (AllB.nil _)).2.2.1
  have h1 := ha.length_le
  have h2 := hb.length_le
  simp only [List.length_nil, Nat.zero_add] at hs
  show (sett a [] b).1.length + (sett a [] b).2.length ≤ _
  omega
/-- What a request answers to a valid grant, where there is room. -/
theorem req_cases {t : Locks} (h : LkOK t) {g : Grant} (hg : grOK g) (hc : t.held.length + t.waiting.length < 1024) :
    (∃ w, t.waiting.find? (fun x => decide (x.tx = g.tx)) = some w ∧ w ∈ t.waiting ∧ w.tx = g.tx ∧ ((w = g ∧ reqL t g = (t, false, 0)) ∨ (w ≠ g ∧ reqL t g = (⟨[], []⟩, false, 15)))) ∨
    (t.waiting.find? (fun x => decide (x.tx = g.tx)) = none ∧ (∀ x ∈ t.waiting, x.tx ≠ g.tx) ∧
      ((g.mode ≤ modeL t.held g.tx g.lock ∧ reqL t g = (t, true, 0)) ∨ (modeL t.held g.tx g.lock < g.mode ∧ reqL t g = (askL t g, decide (g.mode ≤ modeL (askL t g).held g.tx g.lock), 0)))) := by
  unfold reqL
  rw [if_neg (by simpa using h), if_neg (by simpa using hg)]
  cases hf : t.waiting.find? (fun x => decide (x.tx = g.tx)) with
  | some w =>
    left
    have hm := List.mem_of_find?_eq_some hf
    have hp := List.find?_some hf
    simp only [decide_eq_true_eq] at hp
    refine ⟨w, rfl, hm, hp, ?_⟩
    by_cases hw : w = g
    · exact .inl ⟨hw, by simp [hw]⟩
    · exact .inr ⟨hw, by simp [hw]⟩
  | none =>
    right
    refine ⟨rfl, fun x hx => by simpa using List.find?_eq_none.1 hf x hx, ?_⟩
    by_cases c1 : g.mode ≤ modeL t.held g.tx g.lock
    · exact .inl ⟨c1, by simp [c1]⟩
    · refine .inr ⟨by omega, ?_⟩
      simp only
      rw [if_neg c1, if_neg (by omega)]
/-- A table that is settled. -/
structure TabOK (t : Locks) : Prop where
  ok : LkOK t
  all : AllB t.held t.waiting
theorem TabOK.req {t : Locks} (h : TabOK t) {g : Grant} (hg : grOK g) (hc : t.held.length + t.waiting.length < 1024) : (reqL t g).2.2 = 0 → TabOK (reqL t g).1 ∧ (reqL t g).1.held.length + (reqL t g).1.waiting.length ≤ t.held.length + t.waiting.length + 1 := by
  intro he
  rcases req_cases h.ok hg hc with ⟨w, _, _, _, ⟨_, e⟩ | ⟨_, e⟩⟩ | ⟨_, hno, ⟨_, e⟩ | ⟨hm, e⟩⟩
  · rw [e]; exact ⟨h, by show t.held.length + t.waiting.length ≤ _; omega⟩
  · rw [e] at he; cases he
  · rw [e]; exact ⟨h, by show t.held.length + t.waiting.length ≤ _; omega⟩
  · rw [e]
    have h1 := h.ok.asked hg hno hm hc
    have h2 := (askL_len h.ok hg hno hm).1
    exact ⟨⟨h1.1, h1.2⟩, by show (askL t g).held.length + (askL t g).waiting.length ≤ _; omega⟩
theorem tab_nil : TabOK ⟨[], []⟩ := ⟨⟨by simp, by simp, List.Pairwise.nil, by simp, by simp, List.Pairwise.nil⟩, AllB.nil _⟩
theorem TabOK.set {t : Locks} (h : TabOK t) {a b : List Grant} (ha : a.Sublist t.held) (hb : b.Sublist t.waiting) : TabOK (setL ⟨a, b⟩) := ⟨(h.ok.set ha hb).1, (h.ok.set ha hb).2⟩
theorem locks_l1 : ∀ (f k : Nat) (t : Locks) (c : Codes), CdOK2 c → TabOK t → t.held.length + t.waiting.length + k ≤ 1000 → k < f →
    ∃ t' c', Codes_Locks.l1 f (k : Int) t c = some (t', c') ∧ TabOK t' ∧ Step c c' ∧ t'.held.length + t'.waiting.length ≤ t.held.length + t.waiting.length + k := by
  intro f
  induction f with
  | zero => intro k t c _ _ _ h; omega
  | succ f ih =>
    intro k t c hc ht hn hk
    rw [Codes_Locks.l1.eq_2]
    cases k with
    | zero => rw [if_neg (by omega)]; exact ⟨t, c, rfl, ht, .refl hc, by omega⟩
    | succ k =>
      have hw : w64 (((k + 1 : Nat) : Int) - 1) = (k : Int) := by rw [w64_id (by omega)]; omega
      rw [if_pos (by omega), hw]
      have go : ∀ t1 c1, TabOK t1 → Step c c1 → t1.held.length + t1.waiting.length ≤ t.held.length + t.waiting.length + 1 → ∃ t' c', Codes_Locks.l1 f (k : Int) t1 c1 = some (t', c') ∧ TabOK t' ∧ Step c c' ∧ t'.held.length + t'.waiting.length ≤ t.held.length + t.waiting.length + (k + 1) := fun t1 c1 h1 h2 h3 => by
        obtain ⟨t', c', e, p1, p2, p3⟩ := ih k t1 c1 h2.1 h1 (by omega) (by omega)
        exact ⟨t', c', e, p1, h2.trans p2, by omega⟩
      obtain ⟨a, c1, e1, _, _, s1, _⟩ := next2 hc (n := 6) (by decide) (by decide)
      rw [e1]
      simp only [Option.bind_some]
      have hcnt := ht.ok.cnt
      by_cases h4 : a = 4
      · rw [if_pos h4]
        obtain ⟨b, c2, e2, _, _, s2, _⟩ := next2 s1.1 (n := 5) (by decide) (by decide)
        rw [e2]
        simp only [Option.bind_some]
        rw [rrelease_eq (by omega) (by omega), if_pos ht.ok]
        exact go _ _ (ht.set List.filter_sublist List.filter_sublist) (s1.trans s2) (by have := setL_len ht.ok (a := freeL (w64 (1 + b)) t.held) (b := freeL (w64 (1 + b)) t.waiting) List.filter_sublist List.filter_sublist; omega)
      rw [if_neg h4]
      by_cases h5 : a = 5
      · rw [if_pos h5]
        obtain ⟨b, c2, e2, _, _, s2, _⟩ := next2 s1.1 (n := 5) (by decide) (by decide)
        rw [e2]
        simp only [Option.bind_some]
        rw [rcancel_eq (by omega) (by omega), if_pos ht.ok]
        exact go _ _ (ht.set (List.Sublist.refl _) List.filter_sublist) (s1.trans s2) (by have := setL_len ht.ok (a := t.held) (b := freeL (w64 (1 + b)) t.waiting) (List.Sublist.refl _) List.filter_sublist; omega)
      rw [if_neg h5]
      obtain ⟨g, c2, e2, hg, s2, _⟩ := grant2 s1.1
      rw [e2]
      simp only [Option.bind_some]
      rw [rreq_eq (by omega) (by omega)]
      simp only [Option.bind_some]
      by_cases he : (reqL t g).2.2 = 0
      · rw [if_pos he]
        obtain ⟨r1, r2⟩ := ht.req hg (by omega) he
        exact go _ _ r1 (s1.trans s2) r2
      · rw [if_neg he]
        exact go _ _ ht (s1.trans s2) (by omega)
theorem locks2 {c : Codes} (hc : CdOK2 c) : ∃ t c', Codes_Locks c = some (t, c') ∧ TabOK t ∧ Step c c' ∧ t.held.length + t.waiting.length ≤ 20 := by
  rw [Codes_Locks.eq_1]
  obtain ⟨a, c1, e1, a0, a1, s1, _⟩ := next2 hc (n := 14) (by decide) (by decide)
  rw [e1]
  simp only [Option.bind_some]
  have ha : a = ((a.toNat : Nat) : Int) := by omega
  rw [ha]
  obtain ⟨t', c', e, p1, p2, p3⟩ := locks_l1 FU a.toNat ⟨[], []⟩ c1 s1.1 tab_nil (by simp; omega) (by unfold FU; omega)
  rw [e]
  exact ⟨t', c', rfl, p1, s1.trans p2, by simp at p3; omega⟩
end Rv
