/- Chapter 35: bad spares that nobody uses, in any order. -/
import Derived.Test.YtnlpkgamglhnbaaRvPSame
import Derived.Test.YtnlpkgamglhnbaaRvLaw35b
set_option linter.unusedVariables false
set_option linter.unusedSimpArgs false
namespace Rv
open Go Go.RowKit Go.Proofs

/-! ### maps of 4 pages in which spares alone are bad -/
def stA (n : Int) (L : List Int) : Remap := ⟨4, n, [], L⟩
structure LOK (n : Int) (L : List Int) : Prop where
  sc : Asc L
  bd : ∀ x ∈ L, 4 ≤ x ∧ x < 4 + n
theorem getD_mem {L : List Int} {k : Nat} (h : k < L.length) : L.getD k 0 ∈ L := mem_getD.2 ⟨k, h, rfl⟩
theorem cnt_none {l : List Int} {n : Int} (h : ∀ x ∈ l, n ≤ x) : cntL l n = 0 := by
  unfold cntL
  rw [List.length_eq_zero_iff, List.filter_eq_nil_iff]
  intro x hx; have := h x hx; simp; omega
theorem stA_ok {n : Int} {L : List Int} (hn : 1 ≤ n ∧ n ≤ 8) (h : LOK n L) : RmOK (rm (stA n L)) :=
  ⟨⟨by show (1 : Int) ≤ 4; decide, by show (4 : Int) ≤ 64; decide, by show 0 ≤ n; omega, by show n ≤ 16; omega, by show 4 + n ≤ 64; omega⟩, fun k hk => by have := h.bd _ (getD_mem hk); show 0 ≤ L.getD k 0 ∧ L.getD k 0 < 4 + n; omega, h.sc, fun k hk => absurd hk (by simp [stA]), fun i j _ hj => absurd hj (by simp [stA]), fun i j _ hj => absurd hj (by simp [stA]),
    by show cntL L 4 = _; rw [cnt_none (fun x hx => (h.bd x hx).1)]; rfl⟩
theorem LOK.ins {n : Int} {L : List Int} (h : LOK n L) {x : Int} (hx : x ∉ L) (h0 : 4 ≤ x) (h1 : x < 4 + n) : LOK n (insL L (lbd L x) x) :=
  ⟨h.sc.ins hx, fun y hy => by rcases mem_insL.1 hy with rfl | hy; exact ⟨h0, h1⟩; exact h.bd y hy⟩
theorem stA_len {n : Int} {L : List Int} (hn : 1 ≤ n ∧ n ≤ 8) (h : LOK n L) : (stA n L).bad.length ≤ 1000000 := by have := (stA_ok hn h).blen; simp only at this; omega
theorem stA_new {n : Int} {L : List Int} (hn : 1 ≤ n ∧ n ≤ 8) (h : LOK n L) {x : Int} (hx : x ∉ L) (h0 : 4 ≤ x) (h1 : x < 4 + n) : quarantine_Mark (stA n L) x = some (stA n (insL L (lbd L x) x), -1, 0) := by
  rw [mark_eq (stA_len hn h) (by simp [stA])]
  unfold markR
  have hk := stA_ok hn h
  rw [if_neg (fun h => h hk), if_neg (by show ¬ (x < 0 ∨ 4 + n ≤ x); omega), if_neg (show ¬ x ∈ (stA n L).bad from hx), if_pos (by rw [ownerQ_no hk (by omega) hx (by show ¬ x < 4; omega) (by simp [stA])])]
  rfl
theorem stA_old {n : Int} {L : List Int} (hn : 1 ≤ n ∧ n ≤ 8) (h : LOK n L) {x : Int} (hx : x ∈ L) : quarantine_Mark (stA n L) x = some (stA n L, -1, 0) := by
  rw [mark_eq (stA_len hn h) (by simp [stA])]
  unfold markR
  have hk := stA_ok hn h
  have := h.bd x hx
  rw [if_neg (fun h => h hk), if_neg (by show ¬ (x < 0 ∨ 4 + n ≤ x); omega), if_pos (show x ∈ (stA n L).bad from hx)]
theorem LOK.nil (n : Int) : LOK n [] := ⟨fun i j _ hj => absurd hj (by simp), fun x hx => by simp at hx⟩
/-- the walk up -/
theorem again_l1 {s n : Int} (hN : w64 (1 + Int.tmod (w64 s) 8) = n) (hn : 1 ≤ n ∧ n ≤ 8) : ∀ (f : Nat) (i : Int) (c : Codes) (L : List Int), 0 ≤ i → i ≤ n → CodesOK c → LOK n L → (∀ x ∈ L, x < 4 + i) → n - i < f →
    ∃ L', law35_QuarantineAgain.l1 s f i c (stA n L) = some (.inl (stA n L')) ∧ LOK n L' := by
  intro f
  induction f with
  | zero => intro i c L h0 h1 hc hL hx h4; omega
  | succ f ih =>
    intro i c L h0 h1 hc hL hx h4
    rw [law35_QuarantineAgain.l1_s, hN]
    by_cases hi : i < n
    · obtain ⟨a, c', e1, a0, a1, hc'⟩ := next_spec hc (n := 2) (by omega) (by omega)
      rw [if_pos hi, e1]
      simp only [Option.bind_some]
      rw [w64_id (x := i + 1) (by omega), w64_id (x := 4 + i) (by omega)]
      by_cases ha : a = 0
      · rw [if_pos ha]
        exact ih _ _ _ (by omega) (by omega) hc' hL (fun x h => by have := hx x h; omega) (by omega)
      · have hni : 4 + i ∉ L := fun h => by have := hx _ h; omega
        have hL' := hL.ins hni (by omega) (by omega)
        rw [if_neg ha, stA_new hn hL hni (by omega) (by omega)]
        simp only [Option.bind_some]
        rw [stA_old hn hL' (mem_insL.2 (.inl rfl))]
        simp only [Option.bind_some]
        rw [if_neg (by decide), if_neg (by decide), if_neg (by decide), if_neg (by decide), same_refl (stA_len hn hL') (by simp [stA])]
        simp only [Option.bind_some, Bool.not_true, Bool.false_eq_true, if_false]
        exact ih _ _ _ (by omega) (by omega) hc' hL' (fun x h => by rcases mem_insL.1 h with rfl | h; omega; have := hx x h; omega) (by omega)
    · rw [if_neg hi]; exact ⟨L, rfl, hL⟩
/-- is it bad -/
theorem again_l3 {a : Remap} (hm : a.bad.length ≤ 1000000) {i : Int} (hi : 0 ≤ i ∧ i ≤ 100) : ∀ (f : Nat) (b : Bool) (k : Int), 0 ≤ k → k ≤ a.bad.length → a.bad.length - k < f → (b = true ↔ ∃ j : Nat, (j : Int) < k ∧ a.bad.getD j 0 = 4 + i) →
    law35_QuarantineAgain.l3 a i f b k = some (decide (4 + i ∈ a.bad)) := by
  intro f
  induction f with
  | zero => intro b k h0 h1 h2 hb; omega
  | succ f ih =>
    intro b k h0 h1 h2 hb
    rw [law35_QuarantineAgain.l3_s]
    by_cases hk : k < a.bad.length
    · rw [if_pos hk, w64_id (x := k + 1) (by omega), w64_id (x := 4 + i) (by omega)]
      cases b with
      | true =>
        rw [if_pos rfl]
        refine ih _ _ (by omega) (by omega) (by omega) ⟨fun _ => ?_, fun _ => rfl⟩
        obtain ⟨j, h3, h4⟩ := hb.1 rfl
        exact ⟨j, by omega, h4⟩
      | false =>
        rw [if_neg (by decide), if_pos ⟨h0, hk⟩, bd_get]
        have hno : ∀ j : Nat, (j : Int) < k → a.bad.getD j 0 ≠ 4 + i := fun j h3 h4 => by have := hb.2 ⟨j, h3, h4⟩; cases this
        by_cases hc : a.bad.getD k.toNat 0 = 4 + i
        · rw [if_pos hc]
          exact ih _ _ (by omega) (by omega) (by omega) ⟨fun _ => ⟨k.toNat, by omega, hc⟩, fun _ => rfl⟩
        · rw [if_neg hc]
          refine ih _ _ (by omega) (by omega) (by omega) ⟨fun h => (by cases h), fun ⟨j, h3, h4⟩ => ?_⟩
          exfalso
          by_cases e : (j : Int) = k
          · exact hc (by rw [← h4]; congr 1; omega)
          · exact hno j (by omega) h4
    · rw [if_neg hk]
      congr 1
      rw [Bool.eq_iff_iff, hb, decide_eq_true_iff, mem_getD]
      constructor
      · rintro ⟨j, h3, h4⟩; exact ⟨j, by omega, h4⟩
      · rintro ⟨j, h3, h4⟩; exact ⟨j, by omega, h4⟩
/-- the walk down -/
theorem again_l2 {n : Int} {L : List Int} (hn : 1 ≤ n ∧ n ≤ 8) (hL : LOK n L) : ∀ (f : Nat) (i : Int) (M : List Int), -1 ≤ i → i < n → LOK n M → (∀ x, x ∈ M ↔ x ∈ L ∧ 4 + i < x) → i + 1 < f →
    law35_QuarantineAgain.l2 (stA n L) f i (stA n M) = some (stA n L) := by
  intro f
  induction f with
  | zero => intro i M h0 h1 hM hx h4; omega
  | succ f ih =>
    intro i M h0 h1 hM hx h4
    rw [law35_QuarantineAgain.l2_s]
    by_cases hi : 0 ≤ i
    · rw [if_pos hi, again_l3 (stA_len hn hL) ⟨hi, by omega⟩ FU false 0 (by omega) (by omega) (by have := stA_len hn hL; unfold FU; omega) ⟨fun h => (by cases h), fun ⟨j, h3, _⟩ => (by omega)⟩]
      simp only [Option.bind_some, decide_eq_true_eq]
      rw [w64_id (x := i - 1) (by omega), w64_id (x := 4 + i) (by omega)]
      by_cases hb : 4 + i ∈ L
      · have hni : 4 + i ∉ M := fun h => by have := ((hx _).1 h).2; omega
        rw [if_pos (show 4 + i ∈ (stA n L).bad from hb), stA_new hn hM hni (by omega) (by omega)]
        simp only [Option.bind_some]
        refine ih _ _ (by omega) (by omega) (hM.ins hni (by omega) (by omega)) (fun x => ?_) (by omega)
        rw [mem_insL, hx]
        constructor
        · rintro (rfl | ⟨h5, h6⟩)
          · exact ⟨hb, by omega⟩
          · exact ⟨h5, by omega⟩
        · rintro ⟨h5, h6⟩
          by_cases e : x = 4 + i
          · exact .inl e
          · exact .inr ⟨h5, by omega⟩
      · rw [if_neg (show ¬ 4 + i ∈ (stA n L).bad from hb)]
        refine ih _ _ (by omega) (by omega) hM (fun x => ?_) (by omega)
        rw [hx]
        constructor
        · rintro ⟨h5, h6⟩; exact ⟨h5, by omega⟩
        · rintro ⟨h5, h6⟩
          have : x ≠ 4 + i := fun e => hb (e ▸ h5)
          exact ⟨h5, by omega⟩
    · rw [if_neg hi]
      have e : M = L := by
        have h1 := pw_eq L M (asc_pw hM.sc) (asc_pw hL.sc) (fun x h => ((hx x).1 h).1)
        have h2 := pw_eq M L (asc_pw hL.sc) (asc_pw hM.sc) (fun x h => (hx x).2 ⟨h, by have := hL.bd x h; omega⟩)
        exact h1.2 (by omega)
      rw [e]
theorem cntL_succ : ∀ {l : List Int}, l.Pairwise (· < ·) → ∀ x, cntL l (x + 1) = cntL l x + if x ∈ l then 1 else 0 := by
  intro l
  induction l with
  | nil => intro _ x; rfl
  | cons y r ih =>
    intro h x
    rw [List.pairwise_cons] at h
    have h1 := ih h.2 x
    have hc : ∀ n, cntL (y :: r) n = (if y < n then 1 else 0) + cntL r n := fun n => by
      unfold cntL
      rw [List.filter_cons]
      by_cases e : y < n
      · rw [if_pos (decide_eq_true e), if_pos e, List.length_cons]; omega
      · rw [if_neg (by simpa using e), if_neg e]; omega
    rw [hc, hc, h1]
    have hm : x ∈ y :: r ↔ x = y ∨ x ∈ r := List.mem_cons
    have h2 : x ∈ r → y < x := fun hx => h.1 x hx
    by_cases e1 : x ∈ r
    · have := h2 e1
      rw [if_pos e1, if_pos (hm.2 (.inr e1)), if_pos (show y < x + 1 by omega), if_pos this]; omega
    · rw [if_neg e1]
      by_cases e2 : x = y
      · rw [if_pos (hm.2 (.inl e2)), if_pos (show y < x + 1 by omega), if_neg (show ¬ y < x by omega)]; omega
      · rw [if_neg (show ¬ x ∈ y :: r from fun h => by rcases hm.1 h with h | h; exact e2 h; exact e1 h)]
        by_cases e3 : y < x
        · rw [if_pos (show y < x + 1 by omega), if_pos e3]; omega
        · rw [if_neg (show ¬ y < x + 1 by omega), if_neg e3]; omega
theorem stA_free {n : Int} {L : List Int} (hn : 1 ≤ n ∧ n ≤ 8) (h : LOK n L) : ∀ m : Nat, (freeN (rm (stA n L)) m).length + cntL L (4 + m) = m := by
  intro m
  induction m with
  | zero => simp only [freeN, List.length_nil]; rw [cnt_none (fun x hx => by have := (h.bd x hx).1; omega)]
  | succ m ih =>
    have h1 := cntL_succ (asc_pw h.sc) (4 + (m : Int))
    rw [show (4 : Int) + ((m + 1 : Nat) : Int) = 4 + (m : Int) + 1 by omega, h1]
    have ha : 4 + (m : Int) ∉ ads (rm (stA n L)) := by simp [ads, stA]
    rw [show freeN (rm (stA n L)) (m + 1) = freeN (rm (stA n L)) m ++ (if 4 + (m : Int) ∉ ads (rm (stA n L)) ∧ 4 + (m : Int) ∉ L then [4 + (m : Int)] else []) from rfl, List.length_append]
    by_cases e : 4 + (m : Int) ∈ L
    · rw [if_pos e, if_neg (fun h => h.2 e), List.length_nil]; omega
    · rw [if_neg e, if_pos ⟨ha, e⟩, List.length_singleton]; omega
theorem law35_QuarantineAgain_true (codes : List Int) (s : Int) (hw : ∀ x ∈ codes, (Lit.int .u8 x).wf = true) (hs : (Lit.int .u8 s).wf = true) : law35_QuarantineAgain codes s = some true := by
  have hb : ∀ x : Int, (Lit.int .u8 x).wf = true → 0 ≤ x ∧ x ≤ 255 := fun x h => by simpa [Lit.wf, IntKind.min, IntKind.max, IntKind.signed, IntKind.bits] using h
  have hs' := hb s hs
  have hN : w64 (1 + Int.tmod (w64 s) 8) = 1 + s % 8 := by rw [w64_id (x := s) (by omega), Int.tmod_eq_emod_of_nonneg (by omega), w64_id (by omega)]
  have hn : 1 ≤ 1 + s % 8 ∧ 1 + s % 8 ≤ 8 := by omega
  rw [law35_QuarantineAgain.eq, law35_awake_true]
  simp only [Option.bind_some, Bool.not_true, Bool.false_eq_true, if_false, hN]
  generalize hgn : 1 + s % 8 = n at *
  obtain ⟨c, e1, hc⟩ := new_codes (fun x hx => hb x (hw x hx))
  rw [e1, new_eq (by omega)]
  simp only [Option.bind_some]
  obtain ⟨L, e2, hL⟩ := again_l1 hN hn FU 0 c [] (by omega) (by omega) hc (LOK.nil n) (fun x hx => by simp at hx) (by unfold FU; omega)
  rw [show (⟨4, n, [], []⟩ : Remap) = stA n [] from rfl, e2]
  simp only [Option.bind_some]
  rw [w64_id (x := n - 1) (by omega), again_l2 hn hL FU (n - 1) [] (by omega) (by omega) (LOK.nil n) (fun x => ⟨fun h => by simp at h, fun ⟨h5, h6⟩ => by have := (hL.bd x h5).2; omega⟩) (by unfold FU; omega)]
  simp only [Option.bind_some, if_true]
  rw [same_refl (stA_len hn hL) (by simp [stA])]
  simp only [Option.bind_some, if_true]
  rw [left_eq (stA_len hn hL) (by simp [stA]), if_pos (stA_ok hn hL)]
  have hl := (stA_ok hn hL).blen
  have hl : L.length ≤ 64 := hl
  show some (decide (_ = w64 (n - (L.length : Int)))) = _
  rw [w64_id (by omega)]
  congr 1
  rw [decide_eq_true_iff]
  have h1 := stA_free hn hL n.toNat
  rw [cnt_all (fun x hx => by have := (hL.bd x hx).2; omega)] at h1
  show ((freeN (rm (stA n L)) n.toNat).length : Int) = n - L.length
  omega
end Rv
