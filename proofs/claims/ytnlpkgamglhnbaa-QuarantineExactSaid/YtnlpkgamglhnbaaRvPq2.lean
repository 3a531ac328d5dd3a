/- Chapter 35: what the plain functions of the program answer, second part. -/
import Derived.Test.YtnlpkgamglhnbaaRvPq
set_option linter.unusedVariables false
set_option linter.unusedSimpArgs false
namespace Rv
open Go Go.RowKit Go.Proofs

abbrev pgl (l : List Place) : List Int := (l.map pp2).map Prod.fst
theorem pgl_get (l : List Place) (i : Int) : (pgl l).getD i.toNat 0 = (gd l i).page := by
  rw [pgs_get, pl_get]
theorem pgl_len (l : List Place) : (pgl l).length = l.length := by simp
def PgOK (l : List Place) : Prop := Asc (pgl l) ∧ l.length ≤ 1000000 ∧ ∀ k : Int, 0 ≤ k → k < l.length → 0 ≤ (gd l k).page ∧ (gd l k).page < 64
theorem bsP1 {l : List Place} (h : PgOK l) {x : Int} (hx : 0 ≤ x ∧ x < 64) : ∀ (k : Nat) (i j : Int), 0 ≤ i → i ≤ lbd (pgl l) x → (lbd (pgl l) x : Int) ≤ j → j ≤ l.length → j - i < k → BinarySearchFuncP.l1 l x k i j = some (lbd (pgl l) x : Int) := by
  obtain ⟨ha, hn, hb⟩ := h
  intro k
  induction k with
  | zero => intro i j h0 h1 h2 h3 h4; omega
  | succ k ih =>
    intro i j h0 h1 h2 h3 h4
    rw [BinarySearchFuncP.l1_s]
    by_cases hij : i < j
    · rw [if_pos hij]
      simp only [half_eq (i := i) (j := j) (by omega) (by omega)]
      rw [if_pos (by omega)]
      unfold quarantine_place1
      simp only [Option.bind_some]
      have hp := hb ((i + j) / 2) (by omega) (by omega)
      have hiff := lbd_iff ha (x := x) (k := ((i + j) / 2).toNat) (by rw [pgl_len]; omega)
      rw [pgl_get] at hiff
      rw [w64_id (x := (gd l ((i + j) / 2)).page - x) (by omega)]
      by_cases hc : (gd l ((i + j) / 2)).page < x
      · rw [if_pos (by omega), w64_id (by omega)]
        have := hiff.1 hc
        exact ih _ _ (by omega) (by omega) h2 h3 (by omega)
      · rw [if_neg (by omega)]
        have : ¬ ((i + j) / 2).toNat < lbd (pgl l) x := fun h => hc (hiff.2 h)
        exact ih _ _ h0 h1 (by omega) (by omega) (by omega)
    · rw [if_neg hij]
      congr 1; omega
theorem bsP_eq {l : List Place} (h : PgOK l) {x : Int} (hx : 0 ≤ x ∧ x < 64) : BinarySearchFuncP l x = some ((lbd (pgl l) x : Int), decide (x ∈ pgl l)) := by
  have hlb := lbd_le (pgl l) x
  rw [pgl_len] at hlb
  have hn := h.2.1
  rw [BinarySearchFuncP.eq, bsP1 h hx FU 0 _ (by omega) (by omega) (by omega) (by omega) (by unfold FU; omega)]
  simp only [Option.bind_some]
  have hm := lbd_mem h.1 (x := x)
  rw [pgl_len] at hm
  by_cases hc : (lbd (pgl l) x : Int) < l.length
  · rw [if_pos hc, if_pos (by omega)]
    unfold quarantine_place1
    simp only [Option.bind_some]
    have hp := h.2.2 (lbd (pgl l) x) (by omega) hc
    rw [w64_id (x := (gd l (lbd (pgl l) x : Int)).page - x) (by omega)]
    have hg := pgl_get l (lbd (pgl l) x : Int)
    rw [show ((lbd (pgl l) x : Int)).toNat = lbd (pgl l) x by omega] at hg
    congr 2
    rw [decide_eq_decide, hm, hg]
    constructor
    · intro e; exact ⟨by omega, by omega⟩
    · rintro ⟨_, e⟩; omega
  · rw [if_neg hc]
    congr 2
    rw [eq_comm, decide_eq_false_iff_not, hm]
    omega
theorem RmOK.pgOK {r : Remap} (hk : RmOK (rm r)) (hm : r.places.length ≤ 1000000) : PgOK r.places := by
  refine ⟨pgs_asc hk, hm, fun k h0 h1 => ?_⟩
  have := hk.pp k.toNat (by simp; omega)
  rw [pl_pg] at this
  have h2 := hk.rng
  simp only at this h2
  omega
theorem place_eq {r : Remap} (hk : RmOK (rm r)) (hm : r.places.length ≤ 1000000) {p : Int} (h0 : 0 ≤ p) (h1 : p < r.pages) : quarantine_place r p = some ((lbd (pgs (rm r)) p : Int), decide (p ∈ pgs (rm r))) := by
  have := hk.rng
  rw [quarantine_place.eq, bsP_eq (hk.pgOK hm) ⟨h0, by simp only at this; omega⟩]
  rfl
theorem where_eq {r : Remap} (hn : r.bad.length ≤ 1000000) (hm : r.places.length ≤ 1000000) (p : Int) : quarantine_Where r p = some (whereQ (rm r) p) := by
  rw [quarantine_Where.eq, valid_eq hn hm]
  simp only [Option.bind_some]
  by_cases hk : RmOK (rm r)
  · simp only [hk, decide_true, Bool.not_true, Bool.false_eq_true, if_false]
    by_cases c1 : p < 0
    · rw [if_pos c1, whereQ_rng hk (.inl c1)]
    rw [if_neg c1]
    by_cases c2 : r.pages ≤ p
    · rw [if_pos c2, whereQ_rng hk (.inr c2)]
    rw [if_neg c2, place_eq hk hm (by omega) (by omega)]
    simp only [Option.bind_some, decide_eq_true_eq]
    by_cases c3 : p ∈ pgs (rm r)
    · rw [if_pos c3, whereQ_pl hk (by rintro (h | h); exact c1 h; exact c2 h) c3]
      have h1 := ((lbd_mem (pgs_asc hk)).1 c3).1
      have h2 : (pgs (rm r)).length = r.places.length := by simp
      rw [if_pos (by omega)]
      have h3 := pl_ad r.places (lbd (pgs (rm r)) p : Int)
      rw [show ((lbd (pgs (rm r)) p : Int)).toNat = lbd (pgs (rm r)) p by omega] at h3
      rw [h3]
    · rw [if_neg c3, whereQ_own hk (by rintro (h | h); exact c1 h; exact c2 h) c3]
  · simp only [hk, decide_false, Bool.not_false, if_true]
    rw [whereQ_inv hk]
theorem ixF1 {l : List Place} (hm : l.length ≤ 1000000) (a : Int) : ∀ (k : Nat) (i : Int), 0 ≤ i → i ≤ l.length → (∀ j : Nat, (j : Int) < i → ad (l.map pp2) j ≠ a) → l.length - i < k →
    IndexFuncP.l1 l a k i = if idxA (l.map pp2) a < l.length then some (.inr (idxA (l.map pp2) a : Int)) else some (.inl ()) := by
  intro k
  induction k with
  | zero => intro i h0 h1 h2 h4; omega
  | succ k ih =>
    intro i h0 h1 h2 h4
    rw [IndexFuncP.l1_s]
    by_cases hi : i < l.length
    · rw [if_pos hi, if_pos ⟨h0, hi⟩]
      unfold quarantine_Owner1
      simp only [Option.bind_some, decide_eq_true_eq]
      by_cases hc : (gd l i).address = a
      · rw [if_pos hc]
        have := idxA_at (l := l.map pp2) (a := a) (i := i.toNat) (by simp; omega) (by rw [show ((l.map pp2).getD i.toNat (0, 0)).2 = ad (l.map pp2) i.toNat from rfl, pl_ad]; exact hc) (fun k hk => h2 k (by omega))
        rw [this, if_pos (by omega)]
        congr 2; omega
      · rw [if_neg hc, w64_id (by omega)]
        refine ih _ (by omega) (by omega) (fun j hj => ?_) (by omega)
        by_cases e : (j : Int) = i
        · have : j = i.toNat := by omega
          subst this
          rw [pl_ad]; exact hc
        · exact h2 j (by omega)
    · rw [if_neg hi]
      have := idxA_none (l := l.map pp2) (a := a) (fun k hk => h2 k (by simp at hk; omega))
      rw [this, if_neg (by simp)]
theorem ixF_eq {l : List Place} (hm : l.length ≤ 1000000) (a : Int) : IndexFuncP l a = some (if idxA (l.map pp2) a < l.length then (idxA (l.map pp2) a : Int) else -1) := by
  rw [IndexFuncP.eq, ixF1 hm a FU 0 (by omega) (by omega) (fun j h => by omega) (by unfold FU; omega)]
  split <;> rfl
theorem owner_eq {r : Remap} (hn : r.bad.length ≤ 1000000) (hm : r.places.length ≤ 1000000) (a : Int) : quarantine_Owner r a = some (ownerQ (rm r) a) := by
  rw [quarantine_Owner.eq, valid_eq hn hm]
  simp only [Option.bind_some, decide_eq_true_eq]
  by_cases hk : RmOK (rm r)
  · rw [if_pos hk]
    by_cases c1 : a < 0
    · rw [if_pos c1, ownerQ_bad (.inr (.inl c1))]
    rw [if_neg c1, bad_eq hk.as hn]
    simp only [Option.bind_some, decide_eq_true_eq]
    by_cases c2 : a ∈ r.bad
    · rw [if_pos c2, ownerQ_bad (.inr (.inr c2))]
    rw [if_neg c2]
    by_cases c3 : a < r.pages
    · rw [if_pos c3, ownerQ_own hk c1 c2 c3]
    rw [if_neg c3, ixF_eq hm]
    simp only [Option.bind_some]
    have hl : (rm r).pl.length = r.places.length := by simp
    by_cases c4 : idxA (r.places.map pp2) a < r.places.length
    · simp only [c4, if_true]
      rw [if_neg (by omega), if_pos (by omega), ownerQ_pl hk c1 c2 c3 (by simpa using c4)]
      have h3 := pl_pg r.places (idxA (r.places.map pp2) a : Int)
      rw [show ((idxA (r.places.map pp2) a : Int)).toNat = idxA (r.places.map pp2) a by omega] at h3
      rw [h3]
    · simp only [c4, if_false]
      rw [if_pos (by omega), ownerQ_no hk c1 c2 c3 (by simpa using c4)]
  · rw [if_neg hk, ownerQ_bad (.inl hk)]
/-! ### the free addresses -/
theorem fr1 {r : Remap} (hk : RmOK (rm r)) (hm : r.places.length ≤ 1000000) : ∀ (k : Nat) (i : Int) (bx : List Bool) (f : Int → Bool), 0 ≤ i → i ≤ r.places.length → bx.length = 64 → (∀ x, 0 ≤ x → x < 64 → gd bx x = f x) → UsedTo (rm r) i f → r.places.length - i < k →
    ∃ (bx' : List Bool) (f' : Int → Bool), quarantine_free.l1 r k i bx = some bx' ∧ bx'.length = 64 ∧ (∀ x, 0 ≤ x → x < 64 → gd bx' x = f' x) ∧ UsedTo (rm r) r.places.length f' := by
  intro k
  induction k with
  | zero => intro i bx f h0 h1 hb hf hv h4; omega
  | succ k ih =>
    intro i bx f h0 h1 hb hf hv h4
    rw [quarantine_free.l1_s]
    by_cases hi : i < r.places.length
    · have hp := hk.pp i.toNat (by simp; omega)
      rw [pl_ad] at hp
      have hr := hk.rng
      simp only at hp hr
      rw [if_pos hi, if_pos ⟨h0, hi⟩, if_pos (by omega), if_pos (by omega), w64_id (by omega)]
      refine ih _ _ (fun a => if a = ad (rm r).pl i.toNat then true else f a) (by omega) (by omega) (by simp [hb]) (fun x hx0 hx1 => ?_) (hv.step h0) (by omega)
      rw [gd_set (by omega) hx0, pl_ad, hf x hx0 hx1]
    · rw [if_neg hi]
      have : i = r.places.length := by omega
      subst this
      exact ⟨bx, f, rfl, hb, hf, hv⟩
theorem fr2 {r : Remap} (hk : RmOK (rm r)) (hn : r.bad.length ≤ 1000000) {bx : List Bool} {f : Int → Bool} (hb : bx.length = 64) (hf : ∀ x, 0 ≤ x → x < 64 → gd bx x = f x) (hu : ∀ x, f x = true ↔ x ∈ ads (rm r)) : ∀ (k : Nat) (out : List Int) (x : Int), r.pages ≤ x → x ≤ r.pages + r.spares → out = freeN (rm r) (x - r.pages).toNat → r.pages + r.spares - x < k →
    quarantine_free.l2 r bx k out x = some (freeQ (rm r)) := by
  intro k
  have hr := hk.rng
  simp only at hr
  induction k with
  | zero => intro out x h0 h1 ho h4; omega
  | succ k ih =>
    intro out x h0 h1 ho h4
    rw [quarantine_free.l2_s, w64_id (x := r.pages + r.spares) (by omega)]
    have hlen := freeN_len (rm r) (x - r.pages).toNat
    rw [← ho] at hlen
    by_cases hx : x < r.pages + r.spares
    · rw [if_pos hx, if_pos (by omega), if_pos (by omega), hf x (by omega) (by omega), w64_id (x := x + 1) (by omega)]
      by_cases hc : x ∈ ads (rm r)
      · rw [(hu x).2 hc, if_pos rfl]
        refine ih _ _ (by omega) (by omega) ?_ (by omega)
        rw [ho]; exact (freeN_no (r := rm r) h0 (.inl hc)).symm
      · rw [if_neg (fun h => hc ((hu x).1 h)), bad_eq hk.as hn]
        simp only [Option.bind_some]
        by_cases hd : x ∈ r.bad
        · simp only [hd, decide_true, Bool.not_true, Bool.false_eq_true, if_false]
          refine ih _ _ (by omega) (by omega) ?_ (by omega)
          rw [ho]; exact (freeN_no (r := rm r) h0 (.inr hd)).symm
        · simp only [hd, decide_false, Bool.not_false, if_true]
          rw [if_pos (by simp only [List.length_cons, List.length_nil]; omega)]
          refine ih _ _ (by omega) (by omega) ?_ (by omega)
          rw [ho]; exact (freeN_yes (r := rm r) h0 hc hd).symm
    · rw [if_neg hx, ho]
      have : x = r.pages + r.spares := by omega
      subst this
      show some (freeN (rm r) _) = some (freeN (rm r) _)
      congr 2; simp only; omega
theorem free_eq {r : Remap} (hk : RmOK (rm r)) (hn : r.bad.length ≤ 1000000) (hm : r.places.length ≤ 1000000) : quarantine_free r = some (freeQ (rm r)) := by
  have hr := hk.rng
  simp only at hr
  have hrep : ∀ x : Int, 0 ≤ x → x < 64 → gd (List.replicate 64 false) x = (fun _ => false) x := fun x h0 h1 => by
    simp only [gd, List.getD, List.getElem?_replicate]; split <;> rfl
  obtain ⟨bx, f, e1, hb, hf, hu⟩ := fr1 hk hm FU 0 (List.replicate 64 false) (fun _ => false) (by omega) (by omega) (by simp) hrep (UsedTo.zero _) (by unfold FU; omega)
  rw [quarantine_free.eq, e1]
  simp only [Option.bind_some]
  have hu' : ∀ x, f x = true ↔ x ∈ ads (rm r) := fun x => by
    rw [hu x, ads_mem]; simp
  rw [fr2 hk hn hb hf hu' FU [] r.pages (by omega) (by omega) (by simp [freeN]) (by unfold FU; omega)]
  rfl
theorem left_eq {r : Remap} (hn : r.bad.length ≤ 1000000) (hm : r.places.length ≤ 1000000) : quarantine_Left r = some (if RmOK (rm r) then ((freeQ (rm r)).length : Int) else 0) := by
  rw [quarantine_Left.eq, valid_eq hn hm]
  simp only [Option.bind_some]
  by_cases hk : RmOK (rm r)
  · simp only [hk, decide_true, Bool.not_true, Bool.false_eq_true, if_false, if_true]
    rw [free_eq hk hn hm]; rfl
  · simp only [hk, decide_false, Bool.not_false, if_true, if_false]
end Rv
