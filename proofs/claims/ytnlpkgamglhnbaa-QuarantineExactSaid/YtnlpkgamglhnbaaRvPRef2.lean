/- Chapter 35: the document's own Mark; maps that are drawn. -/
import Derived.Test.YtnlpkgamglhnbaaRvPRef
import Derived.Test.YtnlpkgamglhnbaaRvLaw35c
set_option linter.unusedVariables false
set_option linter.unusedSimpArgs false
namespace Rv
open Go Go.RowKit Go.Proofs

theorem rmk1 {r : Remap} (ha : Asc r.bad) (hn : r.bad.length ≤ 1000000) (a : Int) : ∀ (k : Nat) (i : Int), 0 ≤ i → i ≤ lbd r.bad a → r.bad.length - i < k → ref35_Mark.l1 r a k i = some (lbd r.bad a : Int) := by
  have hlb := lbd_le r.bad a
  intro k
  induction k with
  | zero => intro i h0 h1 h4; omega
  | succ k ih =>
    intro i h0 h1 h4
    rw [ref35_Mark.l1_s]
    by_cases hi : i < r.bad.length
    · rw [if_pos hi, if_pos ⟨h0, hi⟩, bd_get]
      have hiff := lbd_iff ha (x := a) (k := i.toNat) (by omega)
      by_cases hc : r.bad.getD i.toNat 0 < a
      · rw [if_pos hc, w64_id (by omega)]
        have := hiff.1 hc
        exact ih _ (by omega) (by omega) (by omega)
      · rw [if_neg hc]
        have : ¬ i.toNat < lbd r.bad a := fun h => hc (hiff.2 h)
        congr 1; omega
    · rw [if_neg hi]; congr 1; omega
theorem take_succ_g {α : Type} {l : List α} {i : Nat} (h : i < l.length) (d : α) : l.take (i + 1) = l.take i ++ [l.getD i d] := by
  rw [List.take_add_one]; simp [h]
theorem pl_gd (l : List Place) (i : Int) : l.getD i.toNat ⟨0, 0⟩ = gd l i := rfl
theorem insL_endg {α : Type} (l : List α) (x : α) : insL l l.length x = l ++ [x] := by simp [insL]
theorem plInP_len {l : List Place} {p a : Int} : (plInP l p a).length ≤ l.length + 1 := by
  unfold plInP
  split
  · rw [List.length_set]; omega
  · have := lbd_le (pgl l) p
    rw [pgl_len] at this
    rw [insL_len this]; omega
theorem rmk2 {r : Remap} (hk : RmOK (rm r)) (hm : r.places.length ≤ 1000000) {page f : Int} {fl : List Int} (hfl : 0 < fl.length) (hf : gd fl 0 = f) (A B : Int) (C : List Int) : ∀ (k : Nat) (i : Int) (done : Bool) (Q : List Place), 0 ≤ i → i ≤ r.places.length →
    (i ≤ lbd (pgl r.places) page → done = false ∧ Q = r.places.take i.toNat) → (lbd (pgl r.places) page < i → done = true ∧ Q = (plInP r.places page f).take (i.toNat + if page ∈ pgl r.places then 0 else 1)) → r.places.length - i < k →
    ref35_Mark.l2 r page fl k done i ⟨A, B, Q, C⟩ = some (if lbd (pgl r.places) page < r.places.length then (true, ⟨A, B, plInP r.places page f, C⟩) else (false, ⟨A, B, r.places, C⟩)) := by
  have ha : Asc (pgl r.places) := pgs_asc hk
  have hlq := lbd_le (pgl r.places) page
  rw [pgl_len] at hlq
  have hlen := pgl_len r.places
  have hPL := plInP_len (l := r.places) (p := page) (a := f)
  intro k
  induction k with
  | zero => intro i done Q h0 h1 h2 h3 h4; omega
  | succ k ih =>
    intro i done Q h0 h1 h2 h3 h4
    rw [ref35_Mark.l2_s]
    have hmem := lbd_mem ha (x := page)
    rw [hlen] at hmem
    by_cases hi : i < r.places.length
    · have hcond : (0 : Int) ≤ i ∧ i < r.places.length := ⟨h0, hi⟩
      have hfc : (0 : Int) ≤ 0 ∧ (0 : Int) < fl.length := by omega
      have hQl : Q.length ≤ 1000001 := by
        rcases Int.lt_or_le (lbd (pgl r.places) page : Int) i with h | h
        · rw [(h3 h).2, List.length_take]; omega
        · rw [(h2 h).2, List.length_take]; omega
      have hiff := lbd_iff ha (x := page) (k := i.toNat) (by rw [hlen]; omega)
      rw [pgl_get] at hiff
      rw [if_pos hi]
      simp only [if_pos hcond, if_pos hfc, List.length_singleton]
      rcases Int.lt_trichotomy i (lbd (pgl r.places) page) with hlt | heq | hgt
      · obtain ⟨rfl, rfl⟩ := h2 (by omega)
        have hpp : (gd r.places i).page < page := hiff.2 (by omega)
        rw [if_neg (by simp), if_neg (by omega)]
        simp only [Option.bind_some]
        rw [if_pos (by omega), if_pos (by omega), w64_id (by omega)]
        refine ih _ _ _ (by omega) (by omega) (fun _ => ⟨rfl, ?_⟩) (fun h => by omega) (by omega)
        rw [show (i + 1).toNat = i.toNat + 1 by omega, take_succ_g (by omega) ⟨0, 0⟩, pl_gd]
      · obtain ⟨rfl, rfl⟩ := h2 (by omega)
        have hpp : ¬ (gd r.places i).page < page := fun h => by have := hiff.1 h; omega
        rw [if_neg (by simp), if_pos (by omega), if_pos (by omega)]
        simp only [Option.bind_some, hf]
        have hq : i.toNat = lbd (pgl r.places) page := by omega
        have hpg : page ∈ pgl r.places ↔ (gd r.places i).page = page := by
          rw [hmem, ← hq, pgl_get]
          exact ⟨fun h => h.2, fun h => ⟨by omega, h⟩⟩
        by_cases hin : page ∈ pgl r.places
        · rw [if_neg (fun h => h (hpg.1 hin)), w64_id (by omega)]
          refine ih _ _ _ (by omega) (by omega) (fun h => by omega) (fun _ => ⟨rfl, ?_⟩) (by omega)
          unfold plInP
          rw [if_pos hin, if_pos hin, ← hq, Nat.add_zero, show (i + 1).toNat = i.toNat + 1 by omega, take_succ_g (by rw [List.length_set]; omega) ⟨0, 0⟩, set_get (by omega), if_pos rfl]
          congr 1
          rw [List.take_set_of_le (Nat.le_refl _)]
        · rw [if_pos (fun h => hin (hpg.2 h)), if_pos (by simp only [List.length_append, List.length_take, List.length_singleton]; omega), w64_id (by omega)]
          refine ih _ _ _ (by omega) (by omega) (fun h => by omega) (fun _ => ⟨rfl, ?_⟩) (by omega)
          unfold plInP
          have hle : i.toNat ≤ r.places.length := by omega
          rw [if_neg hin, if_neg hin, ← hq, show (i + 1).toNat + 1 = i.toNat + 1 + 1 by omega, take_succ_g (by rw [insL_len hle]; omega) ⟨0, 0⟩, take_succ_g (by rw [insL_len hle]; omega) ⟨0, 0⟩, insL_get hle, insL_get hle, if_neg (by omega), if_pos rfl, if_neg (by omega), if_neg (by omega), Nat.add_sub_cancel, pl_gd]
          congr 2
          unfold insL
          rw [List.take_append_of_le_length (by simp; omega), List.take_take, Nat.min_self]
      · obtain ⟨rfl, rfl⟩ := h3 (by omega)
        have hpp : (gd r.places i).page ≠ page := fun h => by
          have h5 : ¬ (gd r.places i).page < page := by omega
          have h6 := ha (lbd (pgl r.places) page) i.toNat (by omega) (by rw [hlen]; omega)
          rw [pgl_get, h] at h6
          exact absurd ((lbd_iff ha (by rw [hlen]; omega)).1 h6) (Nat.lt_irrefl _)
        rw [if_pos rfl]
        simp only [Option.bind_some]
        rw [if_pos hpp, if_pos (by omega), w64_id (by omega)]
        refine ih _ _ _ (by omega) (by omega) (fun h => by omega) (fun _ => ⟨rfl, ?_⟩) (by omega)
        unfold plInP
        by_cases hin : page ∈ pgl r.places
        · rw [if_pos hin, if_pos hin, Nat.add_zero, Nat.add_zero, show (i + 1).toNat = i.toNat + 1 by omega, take_succ_g (l := r.places.set _ _) (by rw [List.length_set]; omega) ⟨0, 0⟩, set_get (by omega), if_neg (by omega), pl_gd]
        · have hle : lbd (pgl r.places) page ≤ r.places.length := by omega
          rw [if_neg hin, if_neg hin, show (i + 1).toNat + 1 = i.toNat + 1 + 1 by omega, take_succ_g (l := insL _ _ _) (i := i.toNat + 1) (by rw [insL_len hle]; omega) ⟨0, 0⟩, insL_get hle, if_neg (by omega), if_neg (by omega), Nat.add_sub_cancel, pl_gd]
    · rw [if_neg hi]
      have e : i = r.places.length := by omega
      subst e
      by_cases hq : lbd (pgl r.places) page < r.places.length
      · obtain ⟨rfl, rfl⟩ := h3 (by omega)
        rw [if_pos hq]
        congr 3
        rw [List.take_of_length_le]
        rw [Int.toNat_natCast]
        unfold plInP
        by_cases hin : page ∈ pgl r.places
        · rw [if_pos hin, if_pos hin, List.length_set]; omega
        · rw [if_neg hin, if_neg hin, insL_len (by omega)]; omega
      · obtain ⟨rfl, rfl⟩ := h2 (by omega)
        rw [if_neg hq, Int.toNat_natCast, List.take_length]
theorem rmark_eq {r : Remap} (hn : r.bad.length ≤ 1000000) (hm : r.places.length ≤ 1000000) (a : Int) : ref35_Mark r a = some (markR r a) := by
  rw [ref35_Mark.eq, rvalid_eq hn hm]
  simp only [Option.bind_some]
  unfold markR
  by_cases hk : RmOK (rm r)
  · have hr := hk.rng
    simp only at hr
    simp only [hk, decide_true, Bool.not_true, Bool.false_eq_true, if_false, not_true_eq_false]
    rw [w64_id (x := r.pages + r.spares) (by omega)]
    by_cases c1 : a < 0
    · rw [if_pos c1, if_pos (.inl c1)]
    rw [if_neg c1]
    by_cases c2 : r.pages + r.spares ≤ a
    · rw [if_pos c2, if_pos (.inr c2)]
    rw [if_neg c2, if_neg (by omega : ¬ (a < 0 ∨ r.pages + r.spares ≤ a)), has_eq hn]
    simp only [Option.bind_some, decide_eq_true_eq]
    by_cases c3 : a ∈ r.bad
    · rw [if_pos c3, if_pos c3]
    rw [if_neg c3, if_neg c3, rowner_eq hn hm]
    simp only [Option.bind_some]
    have hoo : (if (ownerQ (rm r) a).2 = true then some ((ownerQ (rm r) a).1, true) else some ((ownerQ (rm r) a).1, false)) = some (ownerQ (rm r) a) := by
      cases h : ownerQ (rm r) a with
      | mk x y => cases y <;> rfl
    rw [hoo, rfree_eq hk hn hm]
    simp only [Option.bind_some]
    have hlb := lbd_le r.bad a
    have hpos := rmk1 hk.as hn a FU 0 (by omega) (by omega) (by unfold FU; omega)
    have hcond : (0 : Int) ≤ (lbd r.bad a : Int) ∧ (lbd r.bad a : Int) ≤ r.bad.length := by omega
    have hbad : r.bad.take (lbd r.bad a) ++ [a] ++ r.bad.drop (lbd r.bad a) = insL r.bad (lbd r.bad a) a := by simp [insL]
    have l1 : (r.bad.take (lbd r.bad a)).length ≤ 17592186044416 := by simp only [List.length_take]; omega
    have l2 : (r.bad.take (lbd r.bad a)).length + ([a] : List Int).length ≤ 17592186044416 := by simp only [List.length_take, List.length_singleton]; omega
    have l3 : (r.bad.take (lbd r.bad a) ++ [a]).length + (r.bad.drop (lbd r.bad a)).length ≤ 17592186044416 := by simp only [List.length_append, List.length_take, List.length_drop, List.length_singleton]; omega
    by_cases c4 : (ownerQ (rm r) a).2 = false
    · rw [if_pos c4]
      simp only [c4, Bool.false_eq_true, if_false, Option.bind_some]
      rw [hpos]
      simp only [Option.bind_some, Int.toNat_natCast]
      simp only [if_pos hcond, if_pos l1, if_pos l2, if_pos l3]
      simp only [Bool.not_false, if_true]
      rw [if_pos (by omega), hbad]
    have c4' : (ownerQ (rm r) a).2 = true := by simpa using c4
    rw [if_neg c4]
    simp only [c4', if_true]
    by_cases c5 : (freeQ (rm r)).length = 0
    · rw [if_pos (by omega), if_pos c5]; rfl
    rw [if_neg (show ¬ ((freeQ (rm r)).length : Int) = 0 by omega), if_neg c5]
    simp only [Option.bind_some]
    rw [hpos]
    simp only [Option.bind_some, Int.toNat_natCast]
    simp only [if_pos hcond, if_pos l1, if_pos l2, if_pos l3]
    simp only [Bool.not_true, Bool.false_eq_true, if_false]
    rw [hbad, rmk2 hk hm (f := (freeQ (rm r)).getD 0 0) (by omega) rfl _ _ _ FU 0 false [] (by omega) (by omega) (fun _ => ⟨rfl, by simp⟩) (fun h => by omega) (by unfold FU; omega)]
    simp only [Option.bind_some]
    by_cases c6 : lbd (pgl r.places) (ownerQ (rm r) a).1 < r.places.length
    · simp only [c6, if_true, Bool.not_true, Bool.false_eq_true, if_false, Option.bind_some]
    · simp only [c6, if_false, Bool.not_false, if_true]
      rw [if_pos (by omega), if_pos (by simp only [List.length_singleton]; omega)]
      simp only [Option.bind_some]
      have hlp := lbd_le (pgl r.places) (ownerQ (rm r) a).1
      rw [pgl_len] at hlp
      have e : plInP r.places (ownerQ (rm r) a).1 ((freeQ (rm r)).getD 0 0) = r.places ++ [⟨(ownerQ (rm r) a).1, gd (freeQ (rm r)) 0⟩] := by
        unfold plInP
        rw [if_neg (fun h => by have := ((lbd_mem (pgs_asc hk)).1 h).1; rw [show (pgs (rm r)).length = r.places.length by simp] at this; exact c6 this), show lbd (pgl r.places) (ownerQ (rm r) a).1 = r.places.length by omega, insL_endg]
        rfl
      rw [e]
  · simp only [hk, decide_false, Bool.not_false, if_true, not_false_eq_true]
theorem rnew_same (p s : Int) : ref35_New p s = quarantine_New p s := by
  rw [ref35_New.eq, quarantine_New.eq, rvalid_eq (by simp) (by simp), valid_eq (by simp) (by simp)]
theorem new_any (p s : Int) : ∃ x, quarantine_New p s = some x ∧ x.1.bad = [] ∧ x.1.places = [] := by
  rw [quarantine_New.eq, valid_eq (by simp) (by simp)]
  simp only [Option.bind_some]
  split <;> exact ⟨_, rfl, rfl, rfl⟩
theorem markR_len (r : Remap) (a : Int) : (markR r a).1.bad.length ≤ r.bad.length + 1 ∧ (markR r a).1.places.length ≤ r.places.length + 1 := by
  have h1 := insL_len (lbd_le r.bad a) a
  have h2 := plInP_len (l := r.places) (p := (ownerQ (rm r) a).1) (a := (freeQ (rm r)).getD 0 0)
  unfold markR
  split
  · exact ⟨Nat.zero_le _, Nat.zero_le _⟩
  · split
    · exact ⟨Nat.zero_le _, Nat.zero_le _⟩
    · split
      · exact ⟨Nat.le_succ _, Nat.le_succ _⟩
      · split
        · exact ⟨by show (insL _ _ _).length ≤ _; omega, Nat.le_succ _⟩
        · split
          · exact ⟨Nat.zero_le _, Nat.zero_le _⟩
          · exact ⟨by show (insL _ _ _).length ≤ _; omega, h2⟩
/-! ### maps that are drawn -/
theorem draw_l1 : ∀ (f : Nat) (k : Int) (r : Remap) (c : Codes), 0 ≤ k → k ≤ 100 → RmOK (rm r) → CodesOK c → k < f → ∃ r' c', law35_draw.l1 f k r c = some (r', c') ∧ RmOK (rm r') ∧ CodesOK c' := by
  intro f
  induction f with
  | zero => intro k r c h0 h1 hk hc h4; omega
  | succ f ih =>
    intro k r c h0 h1 hk hc h4
    have hr := hk.rng
    simp only at hr
    rw [law35_draw.l1_s, w64_id (x := r.pages + r.spares) (by omega)]
    by_cases hi : 0 < k
    · obtain ⟨a, c', e1, a0, a1, hc'⟩ := next_spec hc (n := r.pages + r.spares) (by omega) (by omega)
      rw [if_pos hi, e1]
      simp only [Option.bind_some]
      rw [rmark_eq (by have := hk.blen; simp only at this; omega) (by have := hk.plen; simp at this; omega), w64_id (x := k - 1) (by omega)]
      simp only [Option.bind_some]
      rcases mark_spec hk a0 a1 with ⟨_, _, em⟩ | ⟨m2, em, hk2, _⟩
      · rw [em, if_neg (by decide)]
        exact ih _ _ _ (by omega) (by omega) hk hc' (by omega)
      · rw [em, if_pos rfl]
        exact ih _ _ _ (by omega) (by omega) hk2 hc' (by omega)
    · rw [if_neg hi]; exact ⟨r, c, rfl, hk, hc⟩
theorem int_spec {c : Codes} (hc : CodesOK c) : ∃ a c', Codes_Int c = some (a, c') ∧ CodesOK c' := by
  rw [Codes_Int.eq]
  obtain ⟨a, c1, e1, a0, a1, hc1⟩ := next_spec hc (n := 10) (by omega) (by omega)
  rw [e1]
  simp only [Option.bind_some]
  by_cases h1 : a = 0
  · rw [if_pos h1]
    obtain ⟨b, c2, e2, b0, b1, hc2⟩ := next_spec hc1 (n := 3) (by omega) (by omega)
    rw [e2]; exact ⟨_, _, rfl, hc2⟩
  rw [if_neg h1]
  by_cases h2 : a = 1
  · rw [if_pos h2]
    obtain ⟨b, c2, e2, b0, b1, hc2⟩ := next_spec hc1 (n := 16) (by omega) (by omega)
    rw [e2]
    simp only [Option.bind_some]
    rw [if_pos ⟨b0, b1⟩]
    exact ⟨_, _, rfl, hc2⟩
  rw [if_neg h2]
  obtain ⟨b, c2, e2, b0, b1, hc2⟩ := next_spec hc1 (n := 20) (by omega) (by omega)
  rw [e2]; exact ⟨_, _, rfl, hc2⟩
theorem draw_spec {c : Codes} (hc : CodesOK c) : ∃ r c', law35_draw c = some (r, c') ∧ r.bad.length ≤ 1000 ∧ r.places.length ≤ 1000 ∧ CodesOK c' := by
  rw [law35_draw.eq]
  obtain ⟨a, c1, e1, a0, a1, hc1⟩ := next_spec hc (n := 6) (by omega) (by omega)
  rw [e1]; simp only [Option.bind_some]
  obtain ⟨b, c2, e2, b0, b1, hc2⟩ := next_spec hc1 (n := 5) (by omega) (by omega)
  rw [e2]; simp only [Option.bind_some]
  rw [w64_id (x := 1 + a) (by omega), rnew_same, new_eq (by omega)]
  simp only [Option.bind_some]
  obtain ⟨d, c3, e3, d0, d1, hc3⟩ := next_spec hc2 (n := 6) (by omega) (by omega)
  rw [e3]; simp only [Option.bind_some]
  obtain ⟨r, c4, e4, hk, hc4⟩ := draw_l1 FU d ⟨1 + a, b, [], []⟩ c3 d0 (by omega) (rm0_ok (by omega)) hc3 (by unfold FU; omega)
  rw [e4]; simp only [Option.bind_some]
  have hbl : r.bad.length ≤ 64 := hk.blen
  have hpl : r.places.length ≤ 64 := by have := hk.plen; simpa using this
  obtain ⟨g, c5, e5, g0, g1, hc5⟩ := next_spec hc4 (n := 10) (by omega) (by omega)
  rw [e5]; simp only [Option.bind_some]
  by_cases h6 : g = 6
  · rw [if_pos h6]
    obtain ⟨x, c6, e6, x0, x1, hc6⟩ := next_spec hc5 (n := 8) (by omega) (by omega)
    rw [e6]; exact ⟨_, _, rfl, by show r.bad.length ≤ 1000; omega, by show r.places.length ≤ 1000; omega, hc6⟩
  rw [if_neg h6]
  by_cases h7 : g = 7
  · rw [if_pos h7, if_pos (by omega)]
    obtain ⟨x, c6, e6, x0, x1, hc6⟩ := next_spec hc5 (n := 12) (by omega) (by omega)
    rw [e6]; simp only [Option.bind_some]
    rw [if_pos (by simp only [List.length_singleton]; omega)]
    exact ⟨_, _, rfl, by simp only [List.length_append, List.length_singleton]; omega, by show r.places.length ≤ 1000; omega, hc6⟩
  rw [if_neg h7]
  by_cases h8 : g = 8
  · rw [if_pos h8, if_pos (by omega)]
    obtain ⟨x, c6, e6, x0, x1, hc6⟩ := next_spec hc5 (n := 6) (by omega) (by omega)
    rw [e6]; simp only [Option.bind_some]
    obtain ⟨y, c7, e7, y0, y1, hc7⟩ := next_spec hc6 (n := 12) (by omega) (by omega)
    rw [e7]; simp only [Option.bind_some]
    rw [if_pos (by simp only [List.length_singleton]; omega)]
    exact ⟨_, _, rfl, by show r.bad.length ≤ 1000; omega, by simp only [List.length_append, List.length_singleton]; omega, hc7⟩
  rw [if_neg h8]
  by_cases h9 : g = 9
  · rw [if_pos h9]
    obtain ⟨x, c6, e6, hc6⟩ := int_spec hc5
    rw [e6]; exact ⟨_, _, rfl, by show r.bad.length ≤ 1000; omega, by show r.places.length ≤ 1000; omega, hc6⟩
  rw [if_neg h9]
  exact ⟨_, _, rfl, by show r.bad.length ≤ 1000; omega, by show r.places.length ≤ 1000; omega, hc5⟩
/-! ### the law -/
theorem remap_eta (R : Remap) : (⟨R.pages, R.spares, R.places, R.bad⟩ : Remap) = R := rfl
theorem exact_l2 {n : Int} {x6 : Remap × Int} {x12 x13 : Remap × Codes} {t : Int} (hb : (gd ([x12.1, x13.1, x6.1] : List Remap) t).bad.length ≤ 1000) (hp : (gd ([x12.1, x13.1, x6.1] : List Remap) t).places.length ≤ 1000) : ∀ (f : Nat) (k : Int), -1 ≤ k → k ≤ 13 → 13 - k < f → law35_QuarantineExact.l2 n x6 x12 x13 t f k = some (.inl ()) := by
  intro f
  induction f with
  | zero => intro k h0 h1 h4; omega
  | succ f ih =>
    intro k h0 h1 h4
    rw [law35_QuarantineExact.l2_s]
    by_cases hi : k < 13
    · have ih' := ih (k + 1) (by omega) (by omega) (by omega)
      rw [if_pos hi, w64_id (x := k + 1) (by omega), ih']
      clear ih ih'
      generalize gd ([x12.1, x13.1, x6.1] : List Remap) t = R at *
      have hs : (if k = 12 then some n else some k) = some (if k = 12 then n else k) := by split <;> rfl
      have hn : R.bad.length ≤ 1000000 := by omega
      have hm : R.places.length ≤ 1000000 := by omega
      have hml := markR_len R (if k = 12 then n else k)
      rw [hs]
      simp only [Option.bind_some, where_eq hn hm, rwhere_eq hn hm, owner_eq hn hm, rowner_eq hn hm, mark_eq hn hm, rmark_eq hn hm]
      rw [if_neg (by simp), if_neg (by simp), if_neg (by simp), if_neg (by simp), if_neg (by simp), if_neg (by simp), same_refl (by omega) (by omega)]
      rfl
    · rw [if_neg hi]
theorem exact_l1 {n : Int} {x6 : Remap × Int} {x12 x13 : Remap × Codes} (hR : ∀ t : Int, (gd ([x12.1, x13.1, x6.1] : List Remap) t).bad.length ≤ 1000 ∧ (gd ([x12.1, x13.1, x6.1] : List Remap) t).places.length ≤ 1000) : ∀ (f : Nat) (t : Int), 0 ≤ t → t ≤ 3 → 3 - t < f → law35_QuarantineExact.l1 n x6 x12 x13 f t = some (.inl ()) := by
  intro f
  induction f with
  | zero => intro t h0 h1 h4; omega
  | succ f ih =>
    intro t h0 h1 h4
    rw [law35_QuarantineExact.l1_s]
    by_cases hi : t < 3
    · have ih' := ih (t + 1) (by omega) (by omega) (by omega)
      have hl2 := exact_l2 (n := n) (hR t).1 (hR t).2 FU (-1) (by omega) (by omega) (by unfold FU; omega)
      rw [if_pos (show t < (([x12.1, x13.1, x6.1] : List Remap).length : Int) from hi), if_pos (show (0 : Int) ≤ t ∧ t < (([x12.1, x13.1, x6.1] : List Remap).length : Int) from ⟨h0, hi⟩), w64_id (x := t + 1) (by omega), ih', hl2]
      have hb := hR t
      clear ih ih' hl2
      generalize gd ([x12.1, x13.1, x6.1] : List Remap) t = R at *
      have hn : R.bad.length ≤ 1000000 := by omega
      have hm : R.places.length ≤ 1000000 := by omega
      simp only [Option.bind_some, valid_eq hn hm, rvalid_eq hn hm, left_eq hn hm, rleft_eq hn hm]
      rw [if_neg (by simp), if_neg (by simp)]
    · rw [if_neg (show ¬ t < (([x12.1, x13.1, x6.1] : List Remap).length : Int) from hi)]
theorem law35_QuarantineExact_true (codes : List Int) (p s n : Int) (hw : ∀ x ∈ codes, (Lit.int .u8 x).wf = true) (hp : (Lit.int .i64 p).wf = true) (hs : (Lit.int .i64 s).wf = true) (hn : (Lit.int .i64 n).wf = true) : law35_QuarantineExact codes p s n = some true := by
  have hb : ∀ x : Int, (Lit.int .u8 x).wf = true → 0 ≤ x ∧ x ≤ 255 := fun x h => by simpa [Lit.wf, IntKind.min, IntKind.max, IntKind.signed, IntKind.bits] using h
  rw [law35_QuarantineExact.eq, law35_awake_true]
  simp only [Option.bind_some, Bool.not_true, Bool.false_eq_true, if_false]
  obtain ⟨c, e1, hc⟩ := new_codes (fun x hx => hb x (hw x hx))
  obtain ⟨x, e2, x1, x2⟩ := new_any p s
  rw [e1, rnew_same, e2]
  simp only [Option.bind_some]
  rw [if_neg (by simp), same_refl (by rw [x1]; simp) (by rw [x2]; simp)]
  simp only [Option.bind_some, Bool.not_true, Bool.false_eq_true, if_false]
  obtain ⟨r1, c1, e3, y1, y2, hc1⟩ := draw_spec hc
  rw [e3]; simp only [Option.bind_some]
  obtain ⟨r2, c2, e4, z1, z2, hc2⟩ := draw_spec hc1
  rw [e4]; simp only [Option.bind_some]
  rw [exact_l1 (fun t => ?_) FU 0 (by omega) (by omega) (by unfold FU; omega)]
  · rfl
  · simp only [gd]
    rcases h : t.toNat with _ | _ | _ | k
    · exact ⟨y1, y2⟩
    · exact ⟨z1, z2⟩
    · exact ⟨by show x.1.bad.length ≤ 1000; rw [x1]; simp, by show x.1.places.length ≤ 1000; rw [x2]; simp⟩
    · exact ⟨Nat.zero_le _, Nat.zero_le _⟩
end Rv
