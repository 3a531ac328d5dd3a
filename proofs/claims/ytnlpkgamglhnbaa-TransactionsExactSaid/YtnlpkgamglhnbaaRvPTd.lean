import Derived.Test.YtnlpkgamglhnbaaRvPTn
import Derived.Test.YtnlpkgamglhnbaaRvPCd
set_option linter.unusedVariables false
set_option linter.unusedSimpArgs false
namespace Rv
open Go Go.RowKit Go.Proofs

theorem gd_kind {a : Int} (h0 : 0 ≤ a) (h1 : a < 9) : (0 : Int) ≤ a ∧ a < (([1, 1, 1, 2, 2, 4, 3, 5, 7] : List Int).length : Int) := ⟨h0, by simpa using h1⟩
theorem tmod_two {a n : Int} (h0 : 0 ≤ a) (h1 : a < 2) (hn : 0 < n) (hn' : n ≤ 10000) : (0 : Int) ≤ w64 (w64 (n - 1) - Int.tmod a n) ∧ w64 (w64 (n - 1) - Int.tmod a n) < n := by
  have h2 : 0 ≤ Int.tmod a n := Int.tmod_nonneg _ h0
  have h3 : Int.tmod a n < n := Int.tmod_lt_of_pos _ hn
  rw [w64_id (x := n - 1) (by omega), w64_id (by omega)]
  omega
theorem next_entry {l : List Tx} (hl : SmB l) (id lsn : Int) (h0 : 1 ≤ lsn) (h1 : lsn ≤ 256) {c : Codes} (hc : CdOK2 c) : ∃ e c', law12_next l id lsn c = some (e, c') ∧ CdOK2 c' := by
  have hn := hl.n
  obtain ⟨a, c1, e1, a0, a1, s1, _⟩ := next2 hc (n := 9) (by decide) (by decide)
  rw [law12_next.eq_1, e1]
  simp only [Option.bind_some]
  rw [if_pos (gd_kind a0 a1), rFind_eq]
  have fin : ∀ (s : AEntry) (c' : Codes), CdOK2 c' → ∃ e c'', ((some (s, c') : Option (AEntry × Codes)).bind fun (s24 : (AEntry × Codes)) => (((if s24.1.kind_ = 7 then some (⟨s24.1.lsn, s24.1.kind_, 0, 0, s24.1.prevPage, s24.1.ref, s24.1.change, s24.1.blob⟩ : AEntry) else some s24.1)).bind fun (s28 : AEntry) => ((Codes_Next 12 s24.2).bind fun (x29 : (Int × Codes)) => (if x29.1 = 0 then ((Codes_Next lsn x29.2).bind fun (x31 : (Int × Codes)) => some ((⟨s28.lsn, s28.kind_, s28.tx, x31.1, s28.prevPage, s28.ref, s28.change, s28.blob⟩ : AEntry), x31.2)) else some (s28, x29.2))))) = some (e, c'') ∧ CdOK2 c'' := fun s c' hc' => by
    obtain ⟨b, c2, e2, _, _, s2, _⟩ := next2 hc' (n := 12) (by decide) (by decide)
    obtain ⟨d, c3, e3, _, _, s3, _⟩ := next2 s2.1 (n := lsn) h0 h1
    simp only [Option.bind_some, ite_someX]
    rw [e2]
    simp only [Option.bind_some]
    by_cases hb : b = 0
    · rw [if_pos hb, e3]; exact ⟨_, _, rfl, s3.1⟩
    · rw [if_neg hb]; exact ⟨_, _, rfl, s2.1⟩
  rcases find_spec (l := l) (by omega) id with ⟨j, hj, hid, _, h3⟩ | ⟨_, h2⟩
  · rw [h3]
    simp only [Option.bind_some]
    have p0 : (0 : Int) ≤ (j : Int) := by omega
    have p1 := inr_nat hj
    have hp := (hl.p _ (gd_mem hj)).1
    simp only [if_pos p0, if_pos p1, Option.bind_some]
    by_cases k : gd ([1, 1, 1, 2, 2, 4, 3, 5, 7] : List Int) a = 2
    · rw [if_pos k]
      by_cases c0 : 0 < ((gd l (j : Int)).pending.length : Int)
      · rw [if_pos c0]
        obtain ⟨b, c2, e2, b0, b1, s2, _⟩ := next2 s1.1 (n := 2) (by decide) (by decide)
        rw [e2]
        simp only [Option.bind_some]
        rw [if_pos (by omega), if_pos (tmod_two b0 b1 c0 (by omega))]
        exact fin _ _ s2.1
      · rw [if_neg c0]
        exact fin _ _ s1.1
    · rw [if_neg k]
      exact fin _ _ s1.1
  · rw [h2]
    simp only [Option.bind_some]
    have n0 : ¬ ((0 : Int) ≤ -1) := by decide
    simp only [if_neg n0, Option.bind_some]
    by_cases k : gd ([1, 1, 1, 2, 2, 4, 3, 5, 7] : List Int) a = 2
    · rw [if_pos k]
      exact fin _ _ s1.1
    · rw [if_neg k]
      exact fin _ _ s1.1
theorem table_l1 : ∀ (n : Nat) (l : List Tx) (lsn k : Int) (c : Codes), SmB l → 0 ≤ lsn → 0 ≤ k → lsn + k ≤ 20 → CdOK2 c → k < n → ∃ l' lsn' c', law12_table.l1 n l lsn k c = some (l', lsn', c') ∧ SmB l' ∧ 0 ≤ lsn' ∧ lsn' ≤ 20 ∧ CdOK2 c' := by
  intro n
  induction n with
  | zero => intro l lsn k c _ _ _ _ _ h; omega
  | succ n ih =>
    intro l lsn k c hl h0 h1 h2 hc hk
    have hn : l.length ≤ 1000 := by have := hl.n; omega
    rw [law12_table.l1.eq_2]
    by_cases ck : 0 < k
    rotate_left
    · rw [if_neg ck]; exact ⟨_, _, _, rfl, hl, h0, by omega, hc⟩
    obtain ⟨a, c1, e1, _, _, s1, _⟩ := next2 hc (n := 4) (by decide) (by decide)
    obtain ⟨b, c2, e2, _, _, s2, _⟩ := next2 s1.1 (n := 6) (by decide) (by decide)
    rw [if_pos ck, e1]
    simp only [Option.bind_some]
    rw [e2]
    simp only [Option.bind_some]
    have hkw : w64 (k - 1) = k - 1 := w64_id (by omega)
    have hlw : w64 (lsn + 1) = lsn + 1 := w64_id (by omega)
    rw [hkw, hlw]
    by_cases b0 : b = 0
    · obtain ⟨r, _, er, hr⟩ := begin_ok hn (w64 (1 + a))
      rw [if_pos b0, er]
      simp only [Option.bind_some]
      by_cases q : r.2 = 0
      · rw [if_pos q]; exact ih _ _ _ _ hr h0 (by omega) (by omega) s2.1 (by omega)
      · rw [if_neg q]; exact ih _ _ _ _ hl h0 (by omega) (by omega) s2.1 (by omega)
    rw [if_neg b0]
    by_cases b1 : b = 1
    · obtain ⟨r, _, er, hr⟩ := save_ok hn (w64 (1 + a))
      rw [if_pos b1, er]
      simp only [Option.bind_some]
      by_cases q : r.2 = 0
      · rw [if_pos q]; exact ih _ _ _ _ hr h0 (by omega) (by omega) s2.1 (by omega)
      · rw [if_neg q]; exact ih _ _ _ _ hl h0 (by omega) (by omega) s2.1 (by omega)
    rw [if_neg b1]
    by_cases b2 : b = 2
    · obtain ⟨d, c3, e3, _, _, s3, _⟩ := next2 s2.1 (n := 2) (by decide) (by decide)
      obtain ⟨r, _, er, hr⟩ := back_ok hn (w64 (1 + a)) d
      rw [if_pos b2, e3]
      simp only [Option.bind_some]
      rw [er]
      simp only [Option.bind_some]
      by_cases q : r.2 = 0
      · rw [if_pos q]; exact ih _ _ _ _ hr h0 (by omega) (by omega) s3.1 (by omega)
      · rw [if_neg q]; exact ih _ _ _ _ hl h0 (by omega) (by omega) s3.1 (by omega)
    rw [if_neg b2]
    obtain ⟨e, c3, e3, s3⟩ := next_entry hl (w64 (1 + a)) (lsn + 1) (by omega) (by omega) s2.1
    obtain ⟨r, _, er, hr⟩ := note_ok hn e
    rw [e3]
    simp only [Option.bind_some]
    rw [er]
    simp only [Option.bind_some]
    by_cases q : r.2 = 0
    · rw [if_pos q]; exact ih _ _ _ _ hr (by omega) (by omega) (by omega) s3 (by omega)
    · rw [if_neg q]; exact ih _ _ _ _ hl h0 (by omega) (by omega) s3 (by omega)
theorem table_ok {c : Codes} (hc : CdOK2 c) : ∃ l lsn c', law12_table c = some (l, lsn, c') ∧ SmB l ∧ 0 ≤ lsn ∧ lsn ≤ 20 ∧ CdOK2 c' := by
  obtain ⟨a, c1, e1, a0, a1, s1, _⟩ := next2 hc (n := 20) (by decide) (by decide)
  obtain ⟨l, lsn, c', e2, h1, h2, h3, h4⟩ := table_l1 FU [] 0 a c1 .nil (by omega) a0 (by omega) s1.1 (by unfold FU; omega)
  rw [law12_table.eq_1, e1]
  simp only [Option.bind_some]
  rw [e2]
  exact ⟨l, lsn, c', rfl, h1, h2, h3, h4⟩
theorem SmB.sm_set {l : List Tx} (h : SmB l) {t : Tx} (ht : t.pending.length ≤ 10001 ∧ t.saves.length ≤ 10001) (i : Nat) : Sm (l.set i t) := by
  refine ⟨by have := h.n; simp; omega, fun x hx => ?_⟩
  rcases List.mem_or_eq_of_mem_set hx with hx | rfl
  · have := h.p x hx; omega
  · omega
theorem SmB.sm_app {l : List Tx} (h : SmB l) {t : Tx} (ht : t.pending.length ≤ 10001 ∧ t.saves.length ≤ 10001) : Sm (l ++ [t]) := by
  refine ⟨by have := h.n; simp; omega, fun x hx => ?_⟩
  rcases List.mem_append.1 hx with hx | hx
  · have := h.p x hx; omega
  · rw [List.mem_singleton] at hx; subst hx; omega
theorem odd_ok {l : List Tx} (hl : SmB l) {c : Codes} (hc : CdOK2 c) : ∃ l' c', law12_odd l c = some (l', c') ∧ Sm l' ∧ CdOK2 c' := by
  have hn := hl.n
  have one : ∀ x : Int, ([x] : List Int).length = 1 := fun _ => rfl
  have oneT : ∀ x : Tx, ([x] : List Tx).length = 1 := fun _ => rfl
  rw [law12_odd.eq_1, if_pos (by omega)]
  simp only [one, oneT]
  have hb : l.length + 1 ≤ 1759218604441 := by omega
  have app : ∀ c', CdOK2 c' → ∃ l' c'', ((Codes_Next 6 c').bind fun (x3 : (Int × Codes)) => ((Codes_Next 5 x3.2).bind fun (x4 : (Int × Codes)) => (if (l).length + 1 ≤ 1759218604441 then some ((l ++ ([(⟨x3.1, x4.1, 0, 0, ([] : List Int), ([] : List Int)⟩ : Tx)] : List Tx)), x4.2) else none))) = some (l', c'') ∧ Sm l' ∧ CdOK2 c'' := fun c' hc' => by
    obtain ⟨a, c1, e1, _, _, s1, _⟩ := next2 hc' (n := 6) (by decide) (by decide)
    obtain ⟨b, c2, e2, _, _, s2, _⟩ := next2 s1.1 (n := 5) (by decide) (by decide)
    rw [e1]
    simp only [Option.bind_some]
    rw [e2]
    simp only [Option.bind_some]
    rw [if_pos hb]
    exact ⟨_, _, rfl, hl.sm_app ⟨by show 0 ≤ 10001; omega, by show 0 ≤ 10001; omega⟩, s2.1⟩
  by_cases z : (l.length : Int) = 0
  · rw [if_pos z]; exact app c hc
  rw [if_neg z]
  obtain ⟨a, c1, e1, _, _, s1, _⟩ := next2 hc (n := 6) (by decide) (by decide)
  rw [e1]
  simp only [Option.bind_some]
  by_cases a0 : a = 0
  · rw [if_pos a0]; exact app c1 s1.1
  rw [if_neg a0, if_pos (by omega)]
  obtain ⟨j, c2, e2, j0, j1, s2, _⟩ := next2 s1.1 (n := (l.length : Int)) (by omega) (by omega)
  obtain ⟨k, c3, e3, _, _, s3, _⟩ := next2 s2.1 (n := 6) (by decide) (by decide)
  rw [e2]
  simp only [Option.bind_some]
  have hj : 0 ≤ j ∧ j < (l.length : Int) := ⟨j0, j1⟩
  have hjm : gd l j ∈ l := by
    have := gd_mem (l := l) (i := j.toNat) (by omega)
    rwa [Int.toNat_of_nonneg j0] at this
  have hp := hl.p _ hjm
  simp only [if_pos hj]
  rw [e3]
  simp only [Option.bind_some]
  obtain ⟨y, c4, e4, s4⟩ := int2 s3.1
  obtain ⟨y5, c5, e5, _, _, s5, _⟩ := next2 s3.1 (n := 5) (by decide) (by decide)
  obtain ⟨y9, c9, e9, _, _, s9, _⟩ := next2 s3.1 (n := 9) (by decide) (by decide)
  have t1 : (gd l j).pending.length ≤ 17592186044416 := by omega
  have t2 : (gd l j).saves.length ≤ 17592186044416 := by omega
  have t3 : (gd l j).pending.length + 1 ≤ 17592186044416 := by omega
  have t4 : (gd l j).saves.length + 1 ≤ 17592186044416 := by omega
  by_cases k0 : k = 0
  · rw [if_pos k0, e4]; exact ⟨_, _, rfl, hl.sm_set ⟨by show (gd l j).pending.length ≤ _; omega, by show (gd l j).saves.length ≤ _; omega⟩ _, s4.1⟩
  rw [if_neg k0]
  by_cases k1 : k = 1
  · rw [if_pos k1, e5]; exact ⟨_, _, rfl, hl.sm_set ⟨by show (gd l j).pending.length ≤ _; omega, by show (gd l j).saves.length ≤ _; omega⟩ _, s5.1⟩
  rw [if_neg k1]
  by_cases k2 : k = 2
  · rw [if_pos k2, e4]; exact ⟨_, _, rfl, hl.sm_set ⟨by show (gd l j).pending.length ≤ _; omega, by show (gd l j).saves.length ≤ _; omega⟩ _, s4.1⟩
  rw [if_neg k2]
  by_cases k3 : k = 3
  · rw [if_pos k3, e9]; exact ⟨_, _, rfl, hl.sm_set ⟨by show (gd l j).pending.length ≤ _; omega, by show (gd l j).saves.length ≤ _; omega⟩ _, s9.1⟩
  rw [if_neg k3]
  by_cases k4 : k = 4
  · rw [if_pos k4, if_pos t1, e9]
    simp only [Option.bind_some]
    rw [if_pos t3]
    exact ⟨_, _, rfl, hl.sm_set ⟨by show ((gd l j).pending ++ [_]).length ≤ _; rw [List.length_append, one]; omega, by show (gd l j).saves.length ≤ _; omega⟩ _, s9.1⟩
  rw [if_neg k4]
  by_cases k5 : k = 5
  · rw [if_pos k5, if_pos t2, e9]
    simp only [Option.bind_some]
    rw [if_pos t4]
    exact ⟨_, _, rfl, hl.sm_set ⟨by show (gd l j).pending.length ≤ _; omega, by show ((gd l j).saves ++ [_]).length ≤ _; rw [List.length_append, one]; omega⟩ _, s9.1⟩
  rw [if_neg k5]
  exact ⟨_, _, rfl, hl.sm, s3.1⟩
end Rv
