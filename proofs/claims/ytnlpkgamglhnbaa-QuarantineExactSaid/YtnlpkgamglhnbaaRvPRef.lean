/- Chapter 35: what the document's own functions answer: the same. -/
import Derived.Test.YtnlpkgamglhnbaaRvPSame
import Derived.Test.YtnlpkgamglhnbaaRvR35
set_option linter.unusedVariables false
set_option linter.unusedSimpArgs false
namespace Rv
open Go Go.RowKit Go.Proofs

theorem has1 {l : List Int} (hm : l.length ≤ 1000000) (n : Int) : ∀ (k : Nat) (i : Int), 0 ≤ i → i ≤ l.length → (∀ j : Nat, (j : Int) < i → l.getD j 0 ≠ n) → l.length - i < k → ref35_has.l1 l n k i = if n ∈ l then some (.inr true) else some (.inl ()) := by
  intro k
  induction k with
  | zero => intro i h0 h1 h2 h4; omega
  | succ k ih =>
    intro i h0 h1 h2 h4
    rw [ref35_has.l1_s]
    by_cases hi : i < l.length
    · rw [if_pos hi, if_pos ⟨h0, hi⟩, bd_get]
      by_cases hc : l.getD i.toNat 0 = n
      · rw [if_pos hc, if_pos (mem_getD.2 ⟨i.toNat, by omega, hc⟩)]
      · rw [if_neg hc, w64_id (by omega)]
        refine ih _ (by omega) (by omega) (fun j hj => ?_) (by omega)
        by_cases e : (j : Int) = i
        · have : j = i.toNat := by omega
          subst this; exact hc
        · exact h2 j (by omega)
    · rw [if_neg hi, if_neg (fun h => by obtain ⟨j, h3, h5⟩ := mem_getD.1 h; exact h2 j (by omega) h5)]
theorem has_eq {l : List Int} (hm : l.length ≤ 1000000) (n : Int) : ref35_has l n = some (decide (n ∈ l)) := by
  rw [ref35_has.eq, has1 hm n FU 0 (by omega) (by omega) (fun j h => by omega) (by unfold FU; omega)]
  by_cases h : n ∈ l
  · rw [if_pos h]; simp [h]
  · rw [if_neg h]; simp [h]
theorem rv1 {r : Remap} (hr : rngOK r) (hn : r.bad.length ≤ 1000000) : ∀ (k : Nat) (own i : Int), 0 ≤ i → i ≤ r.bad.length → 0 ≤ own → own ≤ i → VB1 (rm r) i own → r.bad.length - i < k →
    (∃ own' : Int, ref35_Valid.l1 r k own i = some (.inl own') ∧ VB1 (rm r) r.bad.length own' ∧ 0 ≤ own' ∧ own' ≤ r.bad.length) ∨ (ref35_Valid.l1 r k own i = some (.inr false) ∧ ¬ RmOK (rm r)) := by
  obtain ⟨q1, q2, q3, q4, q5⟩ := hr
  intro k
  induction k with
  | zero => intro own i h0 h1 h2 h3 hv h4; omega
  | succ k ih =>
    intro own i h0 h1 h2 h3 hv h4
    rw [ref35_Valid.l1_s]
    by_cases hi : i < r.bad.length
    · have hcond : (0 : Int) ≤ i ∧ i < r.bad.length := ⟨h0, hi⟩
      rw [if_pos hi]
      simp only [if_pos hcond, bd_get]
      by_cases c1 : r.bad.getD i.toNat 0 < 0
      · rw [if_pos c1]
        exact .inr ⟨rfl, fun hk => by have := hk.bd i.toNat (by show _ < r.bad.length; omega); (try simp only at this); omega⟩
      · rw [if_neg c1, w64_id (x := r.pages + r.spares) (by omega)]
        by_cases c2 : r.pages + r.spares ≤ r.bad.getD i.toNat 0
        · rw [if_pos c2]
          exact .inr ⟨rfl, fun hk => by have := hk.bd i.toNat (by show _ < r.bad.length; omega); (try simp only at this); omega⟩
        · rw [if_neg c2]
          have hrest : ∀ (h5 : 0 < i → ¬ r.bad.getD i.toNat 0 ≤ r.bad.getD (i - 1).toNat 0), (∃ own' : Int, (if r.bad.getD i.toNat 0 < r.pages then ref35_Valid.l1 r k (w64 (own + 1)) (w64 (i + 1)) else ref35_Valid.l1 r k own (w64 (i + 1))) = some (.inl own') ∧ VB1 (rm r) r.bad.length own' ∧ 0 ≤ own' ∧ own' ≤ r.bad.length) ∨ ((if r.bad.getD i.toNat 0 < r.pages then ref35_Valid.l1 r k (w64 (own + 1)) (w64 (i + 1)) else ref35_Valid.l1 r k own (w64 (i + 1))) = some (.inr false) ∧ ¬ RmOK (rm r)) := by
            intro h5
            rw [w64_id (x := own + 1) (by omega), w64_id (x := i + 1) (by omega)]
            by_cases c3 : r.bad.getD i.toNat 0 < r.pages
            · rw [if_pos c3]
              exact ih _ _ (by omega) (by omega) (by omega) (by omega) (hv.stepT h0 hi c1 c2 h5 c3) (by omega)
            · rw [if_neg c3]
              exact ih _ _ (by omega) (by omega) (by omega) (by omega) (hv.stepF h0 hi c1 c2 h5 c3) (by omega)
          by_cases c4 : 0 < i
          · rw [if_pos c4, w64_id (x := i - 1) (by omega), if_pos (show (0 : Int) ≤ i - 1 ∧ i - 1 < r.bad.length by omega)]
            by_cases c5 : r.bad.getD i.toNat 0 ≤ r.bad.getD (i - 1).toNat 0
            · rw [if_pos c5]
              exact .inr ⟨rfl, fun hk => by have := hk.as (i - 1).toNat i.toNat (by omega) (by show _ < r.bad.length; omega); (try simp only at this); omega⟩
            · rw [if_neg c5]
              exact hrest (fun _ => c5)
          · rw [if_neg c4]
            exact hrest (fun h => absurd h c4)
    · rw [if_neg hi]
      have : i = r.bad.length := by omega
      subst this
      exact .inl ⟨own, rfl, hv, h2, h3⟩
theorem rv3 {r : Remap} (hm : r.places.length ≤ 1000000) {i : Int} (hi : 0 ≤ i ∧ i < r.places.length) : ∀ (k : Nat) (j : Int), 0 ≤ j → j ≤ i → (∀ q : Nat, (q : Int) < j → (gd r.places q).address ≠ (gd r.places i).address) → i - j < k →
    (ref35_Valid.l3 r i k j = some (.inl ()) ∧ ∀ q : Nat, (q : Int) < i → (gd r.places q).address ≠ (gd r.places i).address) ∨ (ref35_Valid.l3 r i k j = some (.inr false) ∧ ∃ q : Nat, (q : Int) < i ∧ (gd r.places q).address = (gd r.places i).address) := by
  intro k
  induction k with
  | zero => intro j h0 h1 h2 h4; omega
  | succ k ih =>
    intro j h0 h1 h2 h4
    rw [ref35_Valid.l3_s]
    by_cases hj : j < i
    · rw [if_pos hj, if_pos (by omega)]
      by_cases hc : (gd r.places j).address = (gd r.places i).address
      · rw [if_pos hc]
        refine .inr ⟨rfl, j.toNat, by omega, ?_⟩
        rw [show ((j.toNat : Nat) : Int) = j by omega]; exact hc
      · rw [if_neg hc, w64_id (by omega)]
        refine ih _ (by omega) (by omega) (fun q hq => ?_) (by omega)
        by_cases e : (q : Int) = j
        · rw [e]; exact hc
        · exact h2 q (by omega)
    · rw [if_neg hj]
      exact .inl ⟨rfl, fun q hq => h2 q (by omega)⟩
theorem rv2 {r : Remap} (hr : rngOK r) (hn : r.bad.length ≤ 1000000) (hm : r.places.length ≤ 1000000) : ∀ (k : Nat) (i : Int) (f : Int → Bool), 0 ≤ i → i ≤ r.places.length → VP1 (rm r) i f → r.places.length - i < k →
    (∃ f', ref35_Valid.l2 r k i = some (.inl ()) ∧ VP1 (rm r) r.places.length f') ∨ (ref35_Valid.l2 r k i = some (.inr false) ∧ ¬ RmOK (rm r)) := by
  obtain ⟨q1, q2, q3, q4, q5⟩ := hr
  intro k
  induction k with
  | zero => intro i f h0 h1 hv h4; omega
  | succ k ih =>
    intro i f h0 h1 hv h4
    rw [ref35_Valid.l2_s]
    by_cases hi : i < r.places.length
    · rw [if_pos hi, if_pos ⟨h0, hi⟩]
      have hbad : RmOK (rm r) → _ := fun hk => hk.pp i.toNat (by simp; omega)
      simp only [pl_pg, pl_ad] at hbad
      have hasp : RmOK (rm r) → 0 < i → (gd r.places (i - 1)).page < (gd r.places i).page := fun hk h => by
        have := hk.pa (i - 1).toNat i.toNat (by omega) (by simp; omega)
        rwa [pl_pg, pl_pg] at this
      by_cases c1 : (gd r.places i).page < 0
      · rw [if_pos c1]; exact .inr ⟨rfl, fun hk => by have := hbad hk; omega⟩
      rw [if_neg c1]
      by_cases c2 : r.pages ≤ (gd r.places i).page
      · rw [if_pos c2]; exact .inr ⟨rfl, fun hk => by have := hbad hk; (try simp only at this); omega⟩
      rw [if_neg c2]
      have hrest : ∀ (h5 : 0 < i → ¬ (gd r.places i).page ≤ (gd r.places (i - 1)).page) (E : Option (Sum Unit Bool)), E = (if ((gd r.places i).address) < r.pages then some (Sum.inr false) else (if r.pages + r.spares ≤ ((gd r.places i).address) then some (Sum.inr false) else (if (gd r.places i).address ∈ r.bad then some (Sum.inr false) else (if (gd r.places i).page ∈ r.bad then some (Sum.inl ()) else some (Sum.inr false))))) →
          (∃ f', (E.bind fun (z : Sum Unit Bool) => match z with | .inl (s63 : Unit) => ((ref35_Valid.l3 r i FU 0).bind fun (z : Sum Unit Bool) => match z with | .inl (s71 : Unit) => ref35_Valid.l2 r k (w64 (i + 1)) | .inr r => some (Sum.inr r)) | .inr r => some (Sum.inr r)) = some (.inl ()) ∧ VP1 (rm r) r.places.length f') ∨
          ((E.bind fun (z : Sum Unit Bool) => match z with | .inl (s63 : Unit) => ((ref35_Valid.l3 r i FU 0).bind fun (z : Sum Unit Bool) => match z with | .inl (s71 : Unit) => ref35_Valid.l2 r k (w64 (i + 1)) | .inr r => some (Sum.inr r)) | .inr r => some (Sum.inr r)) = some (.inr false) ∧ ¬ RmOK (rm r)) := by
        intro h5 E hE
        subst hE
        by_cases c4 : (gd r.places i).address < r.pages
        · rw [if_pos c4]; exact .inr ⟨rfl, fun hk => by have := hbad hk; (try simp only at this); omega⟩
        rw [if_neg c4]
        by_cases c5 : r.pages + r.spares ≤ (gd r.places i).address
        · rw [if_pos c5]; exact .inr ⟨rfl, fun hk => by have := hbad hk; (try simp only at this); omega⟩
        rw [if_neg c5]
        by_cases c6 : (gd r.places i).address ∈ r.bad
        · rw [if_pos c6]; exact .inr ⟨rfl, fun hk => (hbad hk).2.2.2.2.2 c6⟩
        rw [if_neg c6]
        by_cases c3 : (gd r.places i).page ∈ r.bad
        · rw [if_pos c3]
          simp only [Option.bind_some]
          rcases rv3 hm ⟨h0, hi⟩ FU 0 (by omega) h0 (fun q hq => by omega) (by unfold FU; omega) with ⟨e3, hd⟩ | ⟨e3, q, hq, hd⟩
          · rw [e3]
            simp only [Option.bind_some]
            rw [w64_id (by omega)]
            have hfx : f (gd r.places i).address = false := by
              cases hx : f (gd r.places i).address with
              | false => rfl
              | true =>
                obtain ⟨q, hq, hqe⟩ := (hv.f _).1 hx
                have := pl_ad r.places (q : Int)
                rw [Int.toNat_natCast] at this
                exact absurd (this.symm.trans hqe) (hd q hq)
            refine ih (i + 1) (fun a => if a = ad (rm r).pl i.toNat then true else f a) (by omega) (by omega) ?_ (by omega)
            exact hv.step h0 (by simp; omega) (by rw [pl_pg]; exact c1) (by rw [pl_pg]; exact c2) (fun h => by rw [pl_pg, pl_pg]; exact h5 h) (by rw [pl_pg]; exact c3) (by rw [pl_ad]; exact c4) (by rw [pl_ad]; exact c5) (by rw [pl_ad]; exact c6) (by rw [pl_ad]; exact hfx)
          · rw [e3]
            refine .inr ⟨rfl, fun hk => ?_⟩
            have h6 := hk.pd q i.toNat (by omega) (by simp; omega)
            have h7 := pl_ad r.places (q : Int)
            rw [Int.toNat_natCast] at h7
            rw [pl_ad, h7] at h6
            exact h6 hd
        · rw [if_neg c3]; exact .inr ⟨rfl, fun hk => c3 (hbad hk).2.2.1⟩
      have hE : ∀ {E : Option (Sum Unit Bool)}, E = (if ((gd r.places i).address) < r.pages then some (Sum.inr false) else (if (w64 (r.pages + r.spares)) ≤ ((gd r.places i).address) then some (Sum.inr false) else ((ref35_has r.bad ((gd r.places i).address)).bind fun (x50 : Bool) => (if x50 = true then some (Sum.inr false) else ((ref35_has r.bad ((gd r.places i).page)).bind fun (x51 : Bool) => (if (!x51) = true then some (Sum.inr false) else some (Sum.inl ()))))))) →
          E = (if ((gd r.places i).address) < r.pages then some (Sum.inr false) else (if r.pages + r.spares ≤ ((gd r.places i).address) then some (Sum.inr false) else (if (gd r.places i).address ∈ r.bad then some (Sum.inr false) else (if (gd r.places i).page ∈ r.bad then some (Sum.inl ()) else some (Sum.inr false))))) := by
        intro E hE
        rw [hE, has_eq hn, has_eq hn, w64_id (by omega)]
        simp only [Option.bind_some, decide_eq_true_eq]
        by_cases c3 : (gd r.places i).page ∈ r.bad <;> simp [c3]
      by_cases c8 : 0 < i
      · rw [if_pos c8, w64_id (x := i - 1) (by omega), if_pos (show (0 : Int) ≤ i - 1 ∧ i - 1 < r.places.length by omega)]
        by_cases c9 : (gd r.places i).page ≤ (gd r.places (i - 1)).page
        · rw [if_pos c9]; exact .inr ⟨rfl, fun hk => by have := hasp hk c8; omega⟩
        · rw [if_neg c9]; exact hrest (fun _ => c9) _ (hE rfl)
      · rw [if_neg c8]; exact hrest (fun h => absurd h c8) _ (hE rfl)
    · rw [if_neg hi]
      have : i = r.places.length := by omega
      subst this
      exact .inl ⟨f, rfl, hv⟩
theorem rvalid_eq {r : Remap} (hn : r.bad.length ≤ 1000000) (hm : r.places.length ≤ 1000000) : ref35_Valid r = some (decide (RmOK (rm r))) := by
  rw [ref35_Valid.eq]
  by_cases c1 : r.pages < 1
  · rw [if_pos c1, decide_eq_false (fun hk => by have := hk.rng; simp only at this; omega)]
  rw [if_neg c1]
  by_cases c2 : 64 < r.pages
  · rw [if_pos c2, decide_eq_false (fun hk => by have := hk.rng; simp only at this; omega)]
  rw [if_neg c2]
  by_cases c3 : r.spares < 0
  · rw [if_pos c3, decide_eq_false (fun hk => by have := hk.rng; simp only at this; omega)]
  rw [if_neg c3]
  by_cases c4 : 16 < r.spares
  · rw [if_pos c4, decide_eq_false (fun hk => by have := hk.rng; simp only at this; omega)]
  rw [if_neg c4, w64_id (by omega)]
  by_cases c5 : 64 < r.pages + r.spares
  · rw [if_pos c5, decide_eq_false (fun hk => by have := hk.rng; simp only at this; omega)]
  rw [if_neg c5]
  have hr : rngOK r := ⟨by omega, by omega, by omega, by omega, by omega⟩
  rcases rv1 hr hn FU 0 0 (by omega) (by omega) (by omega) (by omega) (VB1.zero _) (by unfold FU; omega) with ⟨own, e1, hv, ho1, ho2⟩ | ⟨e1, hno⟩
  · rw [e1]
    simp only [Option.bind_some]
    have hb1 := hv.fin rfl
    rcases rv2 hr hn hm FU 0 (fun _ => false) (by omega) (by omega) (VP1.zero _) (by unfold FU; omega) with ⟨f, e2, hp⟩ | ⟨e2, hno⟩
    · rw [e2]
      simp only [Option.bind_some]
      have hfin := valid_fin (r := rm r) (own := own) (i := r.places.length) (f := f) hr hb1 hp (by simp)
      have : (own = ((rm r).pl.length : Int)) ↔ RmOK (rm r) := by
        simp only [resV] at hfin
        simpa using hfin
      simp only [List.length_map] at this
      congr 1
      rw [decide_eq_decide, ← this]
      exact eq_comm
    · rw [e2]
      simp only [Option.bind_some]
      rw [decide_eq_false hno]
  · rw [e1]
    simp only [Option.bind_some]
    rw [decide_eq_false hno]
/-! ### Where, Owner, free -/
theorem rw1 {r : Remap} (hk : RmOK (rm r)) (hm : r.places.length ≤ 1000000) (p : Int) : ∀ (k : Nat) (i : Int), 0 ≤ i → i ≤ r.places.length → (∀ j : Nat, (j : Int) < i → (gd r.places j).page ≠ p) → r.places.length - i < k →
    ref35_Where.l1 r p k i = if p ∈ pgs (rm r) then some (.inr (ad (rm r).pl (lbd (pgs (rm r)) p), 0)) else some (.inl ()) := by
  intro k
  induction k with
  | zero => intro i h0 h1 h2 h4; omega
  | succ k ih =>
    intro i h0 h1 h2 h4
    rw [ref35_Where.l1_s]
    have hpl : (pgs (rm r)).length = r.places.length := by simp
    by_cases hi : i < r.places.length
    · rw [if_pos hi, if_pos ⟨h0, hi⟩]
      by_cases hc : (gd r.places i).page = p
      · rw [if_pos hc, if_pos ⟨h0, hi⟩]
        have h5 := pgl_get r.places i
        have h6 := lbd_at (pgs_asc hk) (i := i.toNat) (by rw [hpl]; omega)
        have h7 : (pgs (rm r)).getD i.toNat 0 = p := h5.trans hc
        rw [h7] at h6
        rw [if_pos (mem_getD.2 ⟨i.toNat, by rw [hpl]; omega, h7⟩), h6, pl_ad]
      · rw [if_neg hc, w64_id (by omega)]
        refine ih _ (by omega) (by omega) (fun j hj => ?_) (by omega)
        by_cases e : (j : Int) = i
        · rw [e]; exact hc
        · exact h2 j (by omega)
    · rw [if_neg hi, if_neg (fun h => by
        obtain ⟨j, h3, h5⟩ := mem_getD.1 h
        rw [hpl] at h3
        have h6 := pgl_get r.places (j : Int)
        rw [Int.toNat_natCast] at h6
        exact h2 j (by omega) (h6.symm.trans h5))]
theorem rwhere_eq {r : Remap} (hn : r.bad.length ≤ 1000000) (hm : r.places.length ≤ 1000000) (p : Int) : ref35_Where r p = some (whereQ (rm r) p) := by
  rw [ref35_Where.eq, rvalid_eq hn hm]
  simp only [Option.bind_some]
  by_cases hk : RmOK (rm r)
  · simp only [hk, decide_true, Bool.not_true, Bool.false_eq_true, if_false]
    by_cases c1 : p < 0
    · rw [if_pos c1, whereQ_rng hk (.inl c1)]
    rw [if_neg c1]
    by_cases c2 : r.pages ≤ p
    · rw [if_pos c2, whereQ_rng hk (.inr c2)]
    rw [if_neg c2, rw1 hk hm p FU 0 (by omega) (by omega) (fun j h => by omega) (by unfold FU; omega)]
    by_cases c3 : p ∈ pgs (rm r)
    · rw [if_pos c3, whereQ_pl hk (by rintro (h | h); exact c1 h; exact c2 h) c3]; rfl
    · rw [if_neg c3, whereQ_own hk (by rintro (h | h); exact c1 h; exact c2 h) c3]; rfl
  · simp only [hk, decide_false, Bool.not_false, if_true]
    rw [whereQ_inv hk]
theorem ownerQ_false {r : Rm} {a : Int} (h : (ownerQ r a).2 = false) : ownerQ r a = (0, false) := by
  unfold ownerQ at h ⊢
  split
  · rfl
  · rename_i h0
    rw [if_neg h0] at h
    split
    · rename_i h1; rw [if_pos h1] at h; cases h
    · rename_i h1
      rw [if_neg h1] at h
      split
      · rename_i h2; rw [if_pos h2] at h; cases h
      · rfl
theorem owner_where {r : Rm} (hk : RmOK r) {a : Int} (h : (ownerQ r a).2 = true) : (whereQ r (ownerQ r a).1).1 = a := by
  by_cases c0 : ¬ RmOK r ∨ a < 0 ∨ a ∈ r.bad
  · rw [ownerQ_bad c0] at h; cases h
  have c1 : ¬ a < 0 := fun h => c0 (.inr (.inl h))
  have c2 : a ∉ r.bad := fun h => c0 (.inr (.inr h))
  by_cases c3 : a < r.pages
  · rw [ownerQ_own hk c1 c2 c3]
    rw [whereQ_own hk (by omega) (fun h => c2 ((pgs_iff hk c3).1 h))]
  · by_cases c4 : idxA r.pl a < r.pl.length
    · rw [ownerQ_pl hk c1 c2 c3 c4]
      have hp := hk.pp _ c4
      have hlen : (pgs r).length = r.pl.length := by simp
      have hlb : lbd (pgs r) (pg r.pl (idxA r.pl a)) = idxA r.pl a := by
        have := lbd_at (pgs_asc hk) (i := idxA r.pl a) (by rw [hlen]; exact c4)
        rwa [pgs_get] at this
      rw [whereQ_pl hk (by omega) ((pgs_iff hk hp.2.1).2 hp.2.2.1), hlb]
      exact idxA_spec c4
    · rw [ownerQ_no hk c1 c2 c3 c4] at h; cases h
theorem ro1 {r : Remap} (hk : RmOK (rm r)) (hn : r.bad.length ≤ 1000000) (hm : r.places.length ≤ 1000000) (a : Int) : ∀ (k : Nat) (i : Int), 0 ≤ i → i ≤ r.pages → (∀ j : Int, 0 ≤ j → j < i → (whereQ (rm r) j).1 ≠ a) → r.pages - i < k →
    ((ref35_Owner.l1 r a k i).bind fun (z : Sum Unit (Int × Bool)) => match z with | .inl (s11 : Unit) => some (0, false) | .inr r => some r) = some (ownerQ (rm r) a) := by
  have hr := hk.rng
  simp only at hr
  intro k
  induction k with
  | zero => intro i h0 h1 h2 h4; omega
  | succ k ih =>
    intro i h0 h1 h2 h4
    rw [ref35_Owner.l1_s]
    by_cases hi : i < r.pages
    · rw [if_pos hi, rvalid_eq hn hm]
      simp only [Option.bind_some, hk, decide_true, if_true]
      rw [rwhere_eq hn hm]
      simp only [Option.bind_some]
      by_cases hc : (whereQ (rm r) i).1 = a
      · rw [if_pos hc]
        obtain ⟨w, e1, _, _, _, e2⟩ := whereQ_spec hk h0 hi
        rw [e1] at hc
        have hc : w = a := hc
        rw [← hc, e2]; rfl
      · rw [if_neg hc, w64_id (by omega)]
        refine ih _ (by omega) (by omega) (fun j j0 hj => ?_) (by omega)
        by_cases e : j = i
        · rw [e]; exact hc
        · exact h2 j j0 (by omega)
    · rw [if_neg hi]
      have : (ownerQ (rm r) a).2 = false := by
        cases h : (ownerQ (rm r) a).2 with
        | false => rfl
        | true =>
          have h5 := ownerQ_rng hk h
          exact absurd (owner_where hk h) (h2 _ h5.1 (by have : (ownerQ (rm r) a).1 < r.pages := h5.2; omega))
      rw [ownerQ_false this]; rfl
theorem rowner_eq {r : Remap} (hn : r.bad.length ≤ 1000000) (hm : r.places.length ≤ 1000000) (a : Int) : ref35_Owner r a = some (ownerQ (rm r) a) := by
  rw [ref35_Owner.eq]
  by_cases hk : RmOK (rm r)
  · have hr := hk.rng
    simp only at hr
    exact ro1 hk hn hm a FU 0 (by omega) (by omega) (fun j h0 h1 => by omega) (by unfold FU; omega)
  · rw [ownerQ_bad (.inl hk), FU_pos, ref35_Owner.l1_s]
    by_cases hi : 0 < r.pages
    · rw [if_pos hi, rvalid_eq hn hm]
      simp only [Option.bind_some, hk, decide_false, Bool.false_eq_true, if_false]
    · rw [if_neg hi]; rfl
theorem own_ads {r : Rm} (hk : RmOK r) {x : Int} (h0 : r.pages ≤ x) (h1 : x ∉ r.bad) : (ownerQ r x).2 = true ↔ x ∈ ads r := by
  have hr := hk.rng
  by_cases c4 : idxA r.pl x < r.pl.length
  · rw [ownerQ_pl hk (by omega) h1 (by omega) c4]
    exact ⟨fun _ => ads_mem.2 ⟨_, by omega, idxA_spec c4⟩, fun _ => rfl⟩
  · rw [ownerQ_no hk (by omega) h1 (by omega) c4]
    exact ⟨fun h => (by cases h), fun h => absurd h (idxA_ads c4)⟩
theorem rf1 {r : Remap} (hk : RmOK (rm r)) (hn : r.bad.length ≤ 1000000) (hm : r.places.length ≤ 1000000) : ∀ (k : Nat) (out : List Int) (x : Int), r.pages ≤ x → x ≤ r.pages + r.spares → out = freeN (rm r) (x - r.pages).toNat → r.pages + r.spares - x < k →
    ref35_free.l1 r k out x = some (freeQ (rm r)) := by
  intro k
  have hr := hk.rng
  simp only at hr
  induction k with
  | zero => intro out x h0 h1 ho h4; omega
  | succ k ih =>
    intro out x h0 h1 ho h4
    rw [ref35_free.l1_s, w64_id (x := r.pages + r.spares) (by omega)]
    have hlen := freeN_len (rm r) (x - r.pages).toNat
    rw [← ho] at hlen
    by_cases hx : x < r.pages + r.spares
    · rw [if_pos hx, rowner_eq hn hm, has_eq hn, w64_id (x := x + 1) (by omega)]
      simp only [Option.bind_some]
      have hoo : (if (ownerQ (rm r) x).2 = true then some true else some false) = some (ownerQ (rm r) x).2 := by cases (ownerQ (rm r) x).2 <;> rfl
      rw [hoo]
      simp only [Option.bind_some]
      by_cases hd : x ∈ r.bad
      · rw [ownerQ_bad (.inr (.inr hd))]
        simp only [hd, decide_true, Bool.not_true, Bool.false_eq_true, if_false]
        refine ih _ _ (by omega) (by omega) ?_ (by omega)
        rw [ho]; exact (freeN_no (r := rm r) h0 (.inr hd)).symm
      · by_cases hc : x ∈ ads (rm r)
        · rw [(own_ads hk h0 hd).2 hc, if_pos rfl]
          refine ih _ _ (by omega) (by omega) ?_ (by omega)
          rw [ho]; exact (freeN_no (r := rm r) h0 (.inl hc)).symm
        · rw [if_neg (fun h => hc ((own_ads hk h0 hd).1 h))]
          simp only [hd, decide_false, Bool.not_false, if_true]
          rw [if_pos (by simp only [List.length_cons, List.length_nil]; omega)]
          refine ih _ _ (by omega) (by omega) ?_ (by omega)
          rw [ho]; exact (freeN_yes (r := rm r) h0 hc hd).symm
    · rw [if_neg hx, ho]
      have : x = r.pages + r.spares := by omega
      subst this
      show some (freeN (rm r) _) = some (freeN (rm r) _)
      congr 2; simp only; omega
theorem rfree_eq {r : Remap} (hk : RmOK (rm r)) (hn : r.bad.length ≤ 1000000) (hm : r.places.length ≤ 1000000) : ref35_free r = some (freeQ (rm r)) := by
  have hr := hk.rng
  simp only at hr
  rw [ref35_free.eq, rf1 hk hn hm FU [] r.pages (by omega) (by omega) (by simp [freeN]) (by unfold FU; omega)]
  rfl
theorem rleft_eq {r : Remap} (hn : r.bad.length ≤ 1000000) (hm : r.places.length ≤ 1000000) : ref35_Left r = some (if RmOK (rm r) then ((freeQ (rm r)).length : Int) else 0) := by
  rw [ref35_Left.eq, rvalid_eq hn hm]
  simp only [Option.bind_some]
  by_cases hk : RmOK (rm r)
  · simp only [hk, decide_true, Bool.not_true, Bool.false_eq_true, if_false, if_true]
    rw [rfree_eq hk hn hm]; rfl
  · simp only [hk, decide_false, Bool.not_false, if_true, if_false]
end Rv
