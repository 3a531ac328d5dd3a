/- Chapter 35: what the plain functions of the program answer. -/
import Derived.Test.YtnlpkgamglhnbaaRvQua
import Derived.Test.YtnlpkgamglhnbaaRvQ
set_option linter.unusedVariables false
set_option linter.unusedSimpArgs false
namespace Rv
open Go Go.RowKit Go.Proofs

theorem FU_pos : FU = 18446744073709551615 + 1 := rfl
theorem half_eq {i j : Int} (h0 : 0 ≤ i + j) (h1 : i + j ≤ 4000000000) : (w64 (Int.fdiv (IntKind.u64.wrap (w64 (i + j))) (2 ^ (min (Int.toNat 1) (IntKind.bits .u64))))) = (i + j) / 2 := by
  have e1 : (2 : Int) ^ (min (Int.toNat 1) (IntKind.bits .u64)) = 2 := by decide
  rw [e1, w64_id (x := i + j) (by omega), wrapu64_id h0 (by omega), Int.fdiv_eq_ediv_of_nonneg _ (by omega), w64_id (by omega)]
theorem less_eq (x y : Int) : cmp_Less x y = some (decide (x < y)) := by
  unfold cmp_Less cmp_isNaN
  simp
theorem slnan_eq (x : Int) : slices_isNaN x = some false := by unfold slices_isNaN; simp
theorem bs1 {l : List Int} (ha : Asc l) (hn : l.length ≤ 1000000) (x : Int) : ∀ (k : Nat) (i j : Int), 0 ≤ i → i ≤ lbd l x → (lbd l x : Int) ≤ j → j ≤ l.length → j - i < k → BinarySearch.l1 l x k i j = some (lbd l x : Int) := by
  intro k
  induction k with
  | zero => intro i j h0 h1 h2 h3 h4; omega
  | succ k ih =>
    intro i j h0 h1 h2 h3 h4
    rw [BinarySearch.l1_s]
    by_cases hij : i < j
    · rw [if_pos hij]
      simp only [half_eq (i := i) (j := j) (by omega) (by omega)]
      rw [if_pos (by omega), less_eq]
      simp only [Option.bind_some, decide_eq_true_eq]
      have hiff := lbd_iff ha (x := x) (k := ((i + j) / 2).toNat) (by omega)
      have hgd : gd l ((i + j) / 2) = l.getD ((i + j) / 2).toNat 0 := rfl
      rw [hgd]
      by_cases hc : l.getD ((i + j) / 2).toNat 0 < x
      · rw [if_pos hc, w64_id (by omega)]
        have := hiff.1 hc
        exact ih _ _ (by omega) (by omega) h2 h3 (by omega)
      · rw [if_neg hc]
        have : ¬ ((i + j) / 2).toNat < lbd l x := fun h => hc (hiff.2 h)
        exact ih _ _ h0 h1 (by omega) (by omega) (by omega)
    · rw [if_neg hij]
      congr 1; omega
theorem bs_eq {l : List Int} (ha : Asc l) (hn : l.length ≤ 1000000) (x : Int) : BinarySearch l x = some ((lbd l x : Int), decide (x ∈ l)) := by
  have hlb := lbd_le l x
  rw [BinarySearch.eq, bs1 ha hn x FU 0 _ (by omega) (by omega) (by omega) (by omega) (by unfold FU; omega)]
  simp only [Option.bind_some]
  by_cases h : (lbd l x : Int) < l.length
  · rw [if_pos h, if_pos (by omega)]
    have hg : gd l (lbd l x : Int) = l.getD (lbd l x) 0 := rfl
    rw [hg]
    by_cases hx : l.getD (lbd l x) 0 = x
    · rw [if_pos hx]
      have : x ∈ l := (lbd_mem ha).2 ⟨by omega, hx⟩
      simp [this]
    · rw [if_neg hx, if_pos (by omega), slnan_eq]
      have : x ∉ l := fun hm => hx ((lbd_mem ha).1 hm).2
      simp [this]
  · rw [if_neg h]
    have : x ∉ l := fun hm => by have := ((lbd_mem ha).1 hm).1; omega
    simp [this]
theorem bad_eq {r : Remap} (ha : Asc r.bad) (hn : r.bad.length ≤ 1000000) (x : Int) : quarantine_bad r x = some (decide (x ∈ r.bad)) := by
  rw [quarantine_bad.eq, bs_eq ha hn]; rfl

/-! ### the map, told with pairs -/
abbrev pp2 (p : Place) : Int × Int := (p.page, p.address)
abbrev rm (r : Remap) : Rm := ⟨r.pages, r.spares, r.places.map pp2, r.bad⟩
theorem pl_get (l : List Place) (i : Int) : ((l.map pp2).getD i.toNat (0, 0)) = pp2 (gd l i) := by
  simp only [gd, List.getD, List.getElem?_map]
  cases l[i.toNat]? <;> rfl
theorem pl_pg (l : List Place) (i : Int) : pg (l.map pp2) i.toNat = (gd l i).page := by show (List.getD _ _ ((0, 0) : Int × Int)).1 = _; rw [pl_get]
theorem pl_ad (l : List Place) (i : Int) : ad (l.map pp2) i.toNat = (gd l i).address := by show (List.getD _ _ ((0, 0) : Int × Int)).2 = _; rw [pl_get]
theorem bd_get (l : List Int) (i : Int) : gd l i = l.getD i.toNat 0 := rfl
def rngOK (r : Remap) : Prop := 1 ≤ r.pages ∧ r.pages ≤ 64 ∧ 0 ≤ r.spares ∧ r.spares ≤ 16 ∧ r.pages + r.spares ≤ 64

/-- the walk along the bad addresses -/
theorem v1 {r : Remap} (hr : rngOK r) (hn : r.bad.length ≤ 1000000) : ∀ (k : Nat) (own i : Int), 0 ≤ i → i ≤ r.bad.length → 0 ≤ own → own ≤ i → VB1 (rm r) i own → r.bad.length - i < k →
    (∃ own' : Int, quarantine_Valid.l1 r k own i = some (.inl own') ∧ VB1 (rm r) r.bad.length own' ∧ 0 ≤ own' ∧ own' ≤ r.bad.length) ∨ (quarantine_Valid.l1 r k own i = some (.inr false) ∧ ¬ RmOK (rm r)) := by
  obtain ⟨q1, q2, q3, q4, q5⟩ := hr
  intro k
  induction k with
  | zero => intro own i h0 h1 h2 h3 hv h4; omega
  | succ k ih =>
    intro own i h0 h1 h2 h3 hv h4
    rw [quarantine_Valid.l1_s]
    by_cases hi : i < r.bad.length
    · rw [if_pos hi, if_pos ⟨h0, hi⟩]
      simp only [bd_get]
      by_cases c1 : r.bad.getD i.toNat 0 < 0
      · rw [if_pos c1]
        exact .inr ⟨rfl, fun hk => by have := hk.bd i.toNat (by show _ < r.bad.length; omega); (try simp only at this); omega⟩
      · rw [if_neg c1, w64_id (by omega)]
        by_cases c2 : r.pages + r.spares ≤ r.bad.getD i.toNat 0
        · rw [if_pos c2]
          exact .inr ⟨rfl, fun hk => by have := hk.bd i.toNat (by show _ < r.bad.length; omega); (try simp only at this); omega⟩
        · rw [if_neg c2]
          have hrest : ∀ (h5 : 0 < i → ¬ r.bad.getD i.toNat 0 ≤ r.bad.getD (i - 1).toNat 0), (∃ own' : Int, (if r.bad.getD i.toNat 0 < r.pages then quarantine_Valid.l1 r k (w64 (own + 1)) (w64 (i + 1)) else quarantine_Valid.l1 r k own (w64 (i + 1))) = some (.inl own') ∧ VB1 (rm r) r.bad.length own' ∧ 0 ≤ own' ∧ own' ≤ r.bad.length) ∨ ((if r.bad.getD i.toNat 0 < r.pages then quarantine_Valid.l1 r k (w64 (own + 1)) (w64 (i + 1)) else quarantine_Valid.l1 r k own (w64 (i + 1))) = some (.inr false) ∧ ¬ RmOK (rm r)) := by
            intro h5
            rw [w64_id (x := own + 1) (by omega), w64_id (x := i + 1) (by omega)]
            by_cases c3 : r.bad.getD i.toNat 0 < r.pages
            · rw [if_pos c3]
              exact ih _ _ (by omega) (by omega) (by omega) (by omega) (hv.stepT h0 hi c1 c2 h5 c3) (by omega)
            · rw [if_neg c3]
              exact ih _ _ (by omega) (by omega) (by omega) (by omega) (hv.stepF h0 hi c1 c2 h5 c3) (by omega)
          by_cases c4 : 0 < i
          · rw [if_pos c4, w64_id (x := i - 1) (by omega), if_pos (by omega)]
            by_cases c5 : r.bad.getD i.toNat 0 ≤ r.bad.getD (i - 1).toNat 0
            · rw [if_pos c5]
              exact .inr ⟨rfl, fun hk => by have := hk.as (i - 1).toNat i.toNat (by omega) (by show _ < r.bad.length; omega); (try simp only at this); omega⟩
            · rw [if_neg c5]
              exact hrest (fun _ => c5)
          · rw [if_neg c4]
            exact hrest (fun h => absurd h c4)
    · rw [if_neg hi]
      have : i = r.bad.length := by omega
      subst this
      exact .inl ⟨own, rfl, hv, h2, h3⟩
/-- the walk along the places -/
theorem gd_set {l : List Bool} {i j : Int} {b : Bool} (hi : 0 ≤ i ∧ i < l.length) (hj : 0 ≤ j) : gd (l.set i.toNat b) j = if j = i then b else gd l j := by
  simp only [gd, List.getD, List.getElem?_set]
  by_cases e : j = i
  · subst e; rw [if_pos rfl, if_pos rfl, if_pos (by omega)]; rfl
  · rw [if_neg e, if_neg (by omega)]
theorem v2 {r : Remap} (hr : rngOK r) (hn : r.bad.length ≤ 1000000) (hm : r.places.length ≤ 1000000) (has : Asc r.bad) : ∀ (k : Nat) (i : Int) (bx : List Bool) (f : Int → Bool), 0 ≤ i → i ≤ r.places.length → bx.length = 64 → (∀ x, 0 ≤ x → x < 64 → gd bx x = f x) → VP1 (rm r) i f → r.places.length - i < k →
    (∃ f', quarantine_Valid.l2 r k i bx = some (.inl ()) ∧ VP1 (rm r) r.places.length f') ∨ (quarantine_Valid.l2 r k i bx = some (.inr false) ∧ ¬ RmOK (rm r)) := by
  obtain ⟨q1, q2, q3, q4, q5⟩ := hr
  intro k
  induction k with
  | zero => intro i bx f h0 h1 hb hf hv h4; omega
  | succ k ih =>
    intro i bx f h0 h1 hb hf hv h4
    rw [quarantine_Valid.l2_s]
    by_cases hi : i < r.places.length
    · rw [if_pos hi, if_pos ⟨h0, hi⟩]
      have hlen : ((rm r).pl.length : Int) = r.places.length := by simp
      have hbad : RmOK (rm r) → _ := fun hk => hk.pp i.toNat (by simp; omega)
      simp only [pl_pg, pl_ad] at hbad
      have hasp : RmOK (rm r) → 0 < i → (gd r.places (i - 1)).page < (gd r.places i).page := fun hk h => by
        have := hk.pa (i - 1).toNat i.toNat (by omega) (by simp; omega)
        rwa [pl_pg, pl_pg] at this
      by_cases c1 : (gd r.places i).page < 0
      · rw [if_pos c1]; exact .inr ⟨rfl, fun hk => by have := hbad hk; omega⟩
      rw [if_neg c1]
      by_cases c2 : r.pages ≤ (gd r.places i).page
      · rw [if_pos c2]; exact .inr ⟨rfl, fun hk => by have := hbad hk; (try simp only at this); omega⟩
      rw [if_neg c2]
      have hrest : ∀ (h5 : 0 < i → ¬ (gd r.places i).page ≤ (gd r.places (i - 1)).page), _ := fun h5 => by
        exact (show (∃ f', (((quarantine_bad r ((gd r.places i).page)).bind fun (x57 : Bool) => (if (!x57) = true then some (Sum.inr false) else (if ((gd r.places i).address) < r.pages then some (Sum.inr false) else (if (w64 (r.pages + r.spares)) ≤ ((gd r.places i).address) then some (Sum.inr false) else ((quarantine_bad r ((gd r.places i).address)).bind fun (x51 : Bool) => (if x51 = true then some (Sum.inr false) else (if (0 : Int) ≤ ((gd r.places i).address) ∧ ((gd r.places i).address) < (64 : Int) then (if (0 : Int) ≤ ((gd r.places i).address) ∧ ((gd r.places i).address) < (bx.length : Int) then (if (gd bx ((gd r.places i).address)) = true then some (Sum.inr false) else some (Sum.inl ())) else none) else none))))))).bind fun (z : Sum Unit Bool) => match z with | .inl _ => (if (0 : Int) ≤ ((gd r.places i).address) ∧ ((gd r.places i).address) < (64 : Int) then (if (0 : Int) ≤ ((gd r.places i).address) ∧ ((gd r.places i).address) < (bx.length : Int) then quarantine_Valid.l2 r k (w64 (i + 1)) (bx.set (Int.toNat ((gd r.places i).address)) true) else none) else none) | .inr r => some (Sum.inr r)) = some (.inl ()) ∧ VP1 (rm r) r.places.length f') ∨ (((quarantine_bad r ((gd r.places i).page)).bind fun (x57 : Bool) => (if (!x57) = true then some (Sum.inr false) else (if ((gd r.places i).address) < r.pages then some (Sum.inr false) else (if (w64 (r.pages + r.spares)) ≤ ((gd r.places i).address) then some (Sum.inr false) else ((quarantine_bad r ((gd r.places i).address)).bind fun (x51 : Bool) => (if x51 = true then some (Sum.inr false) else (if (0 : Int) ≤ ((gd r.places i).address) ∧ ((gd r.places i).address) < (64 : Int) then (if (0 : Int) ≤ ((gd r.places i).address) ∧ ((gd r.places i).address) < (bx.length : Int) then (if (gd bx ((gd r.places i).address)) = true then some (Sum.inr false) else some (Sum.inl ())) else none) else none))))))).bind fun (z : Sum Unit Bool) => match z with | .inl _ => (if (0 : Int) ≤ ((gd r.places i).address) ∧ ((gd r.places i).address) < (64 : Int) then (if (0 : Int) ≤ ((gd r.places i).address) ∧ ((gd r.places i).address) < (bx.length : Int) then quarantine_Valid.l2 r k (w64 (i + 1)) (bx.set (Int.toNat ((gd r.places i).address)) true) else none) else none) | .inr r => some (Sum.inr r)) = some (.inr false) ∧ ¬ RmOK (rm r) from by
          rw [bad_eq has hn]
          simp only [Option.bind_some, w64_id (x := r.pages + r.spares) (by omega)]
          by_cases c3 : (gd r.places i).page ∈ r.bad
          · simp only [c3, decide_true, Bool.not_true, Bool.false_eq_true, if_false]
            by_cases c4 : (gd r.places i).address < r.pages
            · rw [if_pos c4]; exact .inr ⟨rfl, fun hk => by have := hbad hk; (try simp only at this); omega⟩
            rw [if_neg c4]
            by_cases c5 : r.pages + r.spares ≤ (gd r.places i).address
            · rw [if_pos c5]; exact .inr ⟨rfl, fun hk => by have := hbad hk; (try simp only at this); omega⟩
            rw [if_neg c5, bad_eq has hn]
            simp only [Option.bind_some]
            by_cases c6 : (gd r.places i).address ∈ r.bad
            · simp only [c6, decide_true, if_true]; exact .inr ⟨rfl, fun hk => (hbad hk).2.2.2.2.2 c6⟩
            simp only [c6, decide_false, Bool.false_eq_true, if_false]
            rw [if_pos (by omega), if_pos (by omega), hf _ (by omega) (by omega)]
            cases c7 : f (gd r.places i).address with
            | true =>
              simp only [if_true]
              refine .inr ⟨rfl, fun hk => ?_⟩
              have := hv.dup hk h0 (by simp; omega)
              rw [pl_ad, c7] at this; cases this
            | false =>
              simp only [Bool.false_eq_true, if_false, Option.bind_some]
              rw [if_pos (by omega), if_pos (by omega), w64_id (by omega)]
              refine ih (i + 1) _ (fun a => if a = ad (rm r).pl i.toNat then true else f a) (by omega) (by omega) (by simp [hb]) (fun x hx0 hx1 => ?_) ?_ (by omega)
              · rw [gd_set (by omega) hx0, pl_ad, hf x hx0 hx1]
              · have h6 := hv.step h0 (by simp; omega) (by rw [pl_pg]; exact c1) (by rw [pl_pg]; exact c2) (fun h => by rw [pl_pg, pl_pg]; exact h5 h) (by rw [pl_pg]; exact c3) (by rw [pl_ad]; exact c4) (by rw [pl_ad]; exact c5) (by rw [pl_ad]; exact c6) (by rw [pl_ad]; exact c7)
                exact h6
          · simp only [c3, decide_false, Bool.not_false, if_true]
            exact .inr ⟨rfl, fun hk => c3 (hbad hk).2.2.1⟩)
      by_cases c8 : 0 < i
      · rw [if_pos c8, w64_id (x := i - 1) (by omega), if_pos (by omega)]
        by_cases c9 : (gd r.places i).page ≤ (gd r.places (i - 1)).page
        · rw [if_pos c9]; exact .inr ⟨rfl, fun hk => by have := hasp hk c8; omega⟩
        · rw [if_neg c9]; exact hrest (fun _ => c9)
      · rw [if_neg c8]; exact hrest (fun h => absurd h c8)
    · rw [if_neg hi]
      have : i = r.places.length := by omega
      subst this
      exact .inl ⟨f, rfl, hv⟩
theorem valid_eq {r : Remap} (hn : r.bad.length ≤ 1000000) (hm : r.places.length ≤ 1000000) : quarantine_Valid r = some (decide (RmOK (rm r))) := by
  rw [quarantine_Valid.eq]
  have no : ∀ {p : Prop}, p → ¬ (p ∧ ¬ p) := fun h h2 => h2.2 h
  by_cases c1 : r.pages < 1
  · rw [if_pos c1, decide_eq_false (fun hk => by have := hk.rng; (try simp only at this); omega)]
  rw [if_neg c1]
  by_cases c2 : 64 < r.pages
  · rw [if_pos c2, decide_eq_false (fun hk => by have := hk.rng; (try simp only at this); omega)]
  rw [if_neg c2]
  by_cases c3 : r.spares < 0
  · rw [if_pos c3, decide_eq_false (fun hk => by have := hk.rng; (try simp only at this); omega)]
  rw [if_neg c3]
  by_cases c4 : 16 < r.spares
  · rw [if_pos c4, decide_eq_false (fun hk => by have := hk.rng; (try simp only at this); omega)]
  rw [if_neg c4, w64_id (by omega)]
  by_cases c5 : 64 < r.pages + r.spares
  · rw [if_pos c5, decide_eq_false (fun hk => by have := hk.rng; (try simp only at this); omega)]
  rw [if_neg c5]
  have hr : rngOK r := ⟨by omega, by omega, by omega, by omega, by omega⟩
  rcases v1 hr hn FU 0 0 (by omega) (by omega) (by omega) (by omega) (VB1.zero _) (by unfold FU; omega) with ⟨own, e1, hv, ho1, ho2⟩ | ⟨e1, hno⟩
  · rw [e1]
    simp only [Option.bind_some]
    have hb1 := hv.fin rfl
    have hrep : ∀ x : Int, 0 ≤ x → x < 64 → gd (List.replicate 64 false) x = (fun _ => false) x := fun x h0 h1 => by
      simp only [gd, List.getD, List.getElem?_replicate]; split <;> rfl
    rcases v2 hr hn hm hb1.2.1 FU 0 (List.replicate 64 false) (fun _ => false) (by omega) (by omega) (by simp) hrep (VP1.zero _) (by unfold FU; omega) with ⟨f, e2, hp⟩ | ⟨e2, hno⟩
    · rw [e2]
      simp only [Option.bind_some]
      have hfin := valid_fin (r := rm r) (own := own) (i := r.places.length) (f := f) hr hb1 hp (by simp)
      have : (own = ((rm r).pl.length : Int)) ↔ RmOK (rm r) := by
        simp only [resV] at hfin
        simpa using hfin
      simp only [List.length_map] at this
      simp only [this]
    · rw [e2]
      simp only [Option.bind_some]
      rw [decide_eq_false hno]
  · rw [e1]
    simp only [Option.bind_some]
    rw [decide_eq_false hno]
end Rv
