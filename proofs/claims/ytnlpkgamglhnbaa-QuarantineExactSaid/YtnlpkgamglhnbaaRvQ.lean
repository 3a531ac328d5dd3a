/- Chapter 35: maps of bad places, as plain values; what is computed of them. -/
import Derived.Test.YtnlpkgamglhnbaaRvRun
set_option linter.unusedVariables false
set_option linter.unusedSimpArgs false
namespace Rv
open Go Go.RowKit

/-- element of a list at a whole number -/
abbrev gi (l : List Int) (i : Int) : Int := l.getD i.toNat 0
abbrev IL (l : List Int) : Nat → List Cell := fun j => [I (l.getD j 0)]
def Asc (l : List Int) : Prop := ∀ i j, i < j → j < l.length → l.getD i 0 < l.getD j 0
/-- how many elements stand ahead of x -/
def lbd : List Int → Int → Nat
  | [], _ => 0
  | y :: r, x => if y < x then lbd r x + 1 else 0
theorem lbd_le (l : List Int) (x : Int) : lbd l x ≤ l.length := by
  induction l with
  | nil => simp [lbd]
  | cons y r ih => simp only [lbd, List.length_cons]; split <;> omega
theorem Asc.tail {y : Int} {r : List Int} (h : Asc (y :: r)) : Asc r := fun i j hij hj => by
  have := h (i + 1) (j + 1) (by omega) (by simp; omega)
  simpa using this
theorem lbd_iff {l : List Int} (ha : Asc l) {x : Int} {k : Nat} (hk : k < l.length) : l.getD k 0 < x ↔ k < lbd l x := by
  induction l generalizing k with
  | nil => simp at hk
  | cons y r ih =>
    cases k with
    | zero => simp only [List.getD_cons_zero, lbd]; split <;> simp [*]
    | succ k =>
      have hk' : k < r.length := by simpa using hk
      have h0 := ha 0 (k + 1) (by omega) (by simpa using hk')
      simp only [List.getD_cons_zero, List.getD_cons_succ] at h0
      simp only [List.getD_cons_succ, lbd]
      rw [ih ha.tail hk']
      split
      · omega
      · rename_i hn
        have := ih (k := k) ha.tail hk'
        constructor
        · intro h; have := this.2 h; omega
        · intro h; omega
theorem mem_getD {l : List Int} {x : Int} : x ∈ l ↔ ∃ k, k < l.length ∧ l.getD k 0 = x := by
  rw [List.mem_iff_getElem]
  constructor
  · rintro ⟨k, hk, e⟩; exact ⟨k, hk, by simp [List.getD, hk, e]⟩
  · rintro ⟨k, hk, e⟩; exact ⟨k, hk, by simpa [List.getD, hk] using e⟩
theorem lbd_mem {l : List Int} (ha : Asc l) {x : Int} : x ∈ l ↔ lbd l x < l.length ∧ l.getD (lbd l x) 0 = x := by
  constructor
  · intro hx
    obtain ⟨k, hk, e⟩ := mem_getD.1 hx
    have h1 : ¬ k < lbd l x := by rw [← lbd_iff ha hk, e]; omega
    rcases Nat.lt_or_ge (lbd l x) k with h2 | h2
    · have h3 := ha _ _ h2 hk
      have h4 : ¬ lbd l x < lbd l x := Nat.lt_irrefl _
      rw [← lbd_iff ha (by omega)] at h4
      omega
    · have : k = lbd l x := by omega
      subst this; exact ⟨hk, e⟩
  · rintro ⟨h1, h2⟩; exact mem_getD.2 ⟨_, h1, h2⟩
theorem bs_ok {l : List Int} {x i : Int} {r : Bool} (ha : Asc l) (hi : i = lbd l x) (hr : r = true ↔ (i < l.length ∧ l.getD i.toNat 0 = x)) : resV [.c (I i), .c (Bo r)] = .tup [.c (I (lbd l x)), .c (Bo (decide (x ∈ l)))] := by
  subst hi
  have : r = decide (x ∈ l) := by
    rw [Bool.eq_iff_iff, hr, decide_eq_true_iff, lbd_mem ha]
    simp [gi]
  rw [this]; rfl

/-- A map: pages, spares, places (page, address), bad addresses. -/
structure Rm where
  pages : Int
  spares : Int
  pl : List (Int × Int)
  bad : List Int
abbrev PL (l : List (Int × Int)) : Nat → List Cell := fun j => [I (l.getD j (0, 0)).1, I (l.getD j (0, 0)).2]
abbrev pg (l : List (Int × Int)) (i : Nat) : Int := (l.getD i (0, 0)).1
abbrev ad (l : List (Int × Int)) (i : Nat) : Int := (l.getD i (0, 0)).2
/-- A map as the program holds it. -/
abbrev rmA (r : Rm) (bp op bb ob : Nat) : AV := .o (.agg [I r.pages, I r.spares, .rd bp op r.pl.length 2, .rd bb ob r.bad.length 1])
structure RmV (h : Heap) (r : Rm) (bp op bb ob : Nat) : Prop where
  p : Sl h bp op 2 r.pl.length (PL r.pl)
  b : Sl h bb ob 1 r.bad.length (IL r.bad)
theorem RmV.app {h L : Heap} {r : Rm} {bp op bb ob : Nat} (hv : RmV h r bp op bb ob) : RmV (h ++ L) r bp op bb ob := ⟨hv.p.app, hv.b.app⟩
def cntL (l : List Int) (x : Int) : Nat := (l.filter fun y => decide (y < x)).length
structure RmOK (r : Rm) : Prop where
  rng : 1 ≤ r.pages ∧ r.pages ≤ 64 ∧ 0 ≤ r.spares ∧ r.spares ≤ 16 ∧ r.pages + r.spares ≤ 64
  bd : ∀ k, k < r.bad.length → 0 ≤ r.bad.getD k 0 ∧ r.bad.getD k 0 < r.pages + r.spares
  as : Asc r.bad
  pp : ∀ k, k < r.pl.length → 0 ≤ pg r.pl k ∧ pg r.pl k < r.pages ∧ pg r.pl k ∈ r.bad ∧ r.pages ≤ ad r.pl k ∧ ad r.pl k < r.pages + r.spares ∧ ad r.pl k ∉ r.bad
  pa : ∀ i j, i < j → j < r.pl.length → pg r.pl i < pg r.pl j
  pd : ∀ i j, i < j → j < r.pl.length → ad r.pl i ≠ ad r.pl j
  cnt : cntL r.bad r.pages = r.pl.length
noncomputable instance (r : Rm) : Decidable (RmOK r) := Classical.propDecidable _
/-- What the walk along the bad addresses has seen. -/
structure VB1 (r : Rm) (i own : Int) : Prop where
  bd : ∀ k : Nat, k < i → 0 ≤ r.bad.getD k 0 ∧ r.bad.getD k 0 < r.pages + r.spares
  as : ∀ a b : Nat, a < b → (b : Int) < i → r.bad.getD a 0 < r.bad.getD b 0
  own : own = cntL (r.bad.take i.toNat) r.pages
theorem VB1.zero (r : Rm) : VB1 r 0 0 := ⟨fun k h => by omega, fun a b _ h => by omega, by simp [cntL]⟩
theorem take_succ' {l : List Int} {i : Nat} (h : i < l.length) : l.take (i + 1) = l.take i ++ [l.getD i 0] := by
  rw [List.take_add_one]
  simp [h]
theorem VB1.step {r : Rm} {i own : Int} (hv : VB1 r i own) (h0 : 0 ≤ i) (hi : i < r.bad.length) (h1 : 0 ≤ r.bad.getD i.toNat 0) (h2 : r.bad.getD i.toNat 0 < r.pages + r.spares) (h3 : 0 < i → r.bad.getD (i - 1).toNat 0 < r.bad.getD i.toNat 0) :
    VB1 r (i + 1) (if r.bad.getD i.toNat 0 < r.pages then own + 1 else own) := by
  refine ⟨fun k hk => ?_, fun a b hab hb => ?_, ?_⟩
  · by_cases e : (k : Int) = i
    · have : k = i.toNat := by omega
      subst this; exact ⟨h1, h2⟩
    · exact hv.bd k (by omega)
  · by_cases e : (b : Int) = i
    · have : b = i.toNat := by omega
      subst this
      have h4 := h3 (by omega)
      by_cases e2 : a = (i - 1).toNat
      · subst e2; exact h4
      · have := hv.as a (i - 1).toNat (by omega) (by omega)
        omega
    · exact hv.as a b hab (by omega)
  · rw [hv.own, show (i + 1).toNat = i.toNat + 1 by omega, take_succ' (by omega)]
    simp only [cntL, List.filter_append, List.length_append, List.filter_cons, List.filter_nil]
    split
    · rename_i e; rw [if_pos (decide_eq_true e)]; simp
    · rename_i e; rw [if_neg (by simpa using e)]; simp
theorem VB1.stepT {r : Rm} {i own : Int} (hv : VB1 r i own) (h0 : 0 ≤ i) (hi : i < r.bad.length) (h1 : ¬ r.bad.getD i.toNat 0 < 0) (h2 : ¬ r.pages + r.spares ≤ r.bad.getD i.toNat 0) (h3 : 0 < i → ¬ r.bad.getD i.toNat 0 ≤ r.bad.getD (i - 1).toNat 0) (h4 : r.bad.getD i.toNat 0 < r.pages) : VB1 r (i + 1) (own + 1) := by
  have := hv.step h0 hi (by omega) (by omega) (fun h => by have := h3 h; omega)
  rwa [if_pos h4] at this
theorem VB1.stepF {r : Rm} {i own : Int} (hv : VB1 r i own) (h0 : 0 ≤ i) (hi : i < r.bad.length) (h1 : ¬ r.bad.getD i.toNat 0 < 0) (h2 : ¬ r.pages + r.spares ≤ r.bad.getD i.toNat 0) (h3 : 0 < i → ¬ r.bad.getD i.toNat 0 ≤ r.bad.getD (i - 1).toNat 0) (h4 : ¬ r.bad.getD i.toNat 0 < r.pages) : VB1 r (i + 1) own := by
  have := hv.step h0 hi (by omega) (by omega) (fun h => by have := h3 h; omega)
  rwa [if_neg h4] at this
theorem VB1.fin {r : Rm} {i own : Int} (hv : VB1 r i own) (hi : i = r.bad.length) : (∀ k, k < r.bad.length → 0 ≤ r.bad.getD k 0 ∧ r.bad.getD k 0 < r.pages + r.spares) ∧ Asc r.bad ∧ own = cntL r.bad r.pages := by
  subst hi
  refine ⟨fun k hk => hv.bd k (by omega), fun a b hab hb => hv.as a b hab (by omega), ?_⟩
  have := hv.own
  simpa using this
/-- What the walk along the places has seen. -/
structure VP1 (r : Rm) (i : Int) (f : Int → Bool) : Prop where
  pp : ∀ k : Nat, k < i → 0 ≤ pg r.pl k ∧ pg r.pl k < r.pages ∧ pg r.pl k ∈ r.bad ∧ r.pages ≤ ad r.pl k ∧ ad r.pl k < r.pages + r.spares ∧ ad r.pl k ∉ r.bad
  pa : ∀ a b : Nat, a < b → (b : Int) < i → pg r.pl a < pg r.pl b
  pd : ∀ a b : Nat, a < b → (b : Int) < i → ad r.pl a ≠ ad r.pl b
  f : ∀ x, f x = true ↔ ∃ k : Nat, (k : Int) < i ∧ ad r.pl k = x
theorem VP1.zero (r : Rm) : VP1 r 0 (fun _ => false) := ⟨fun k h => by omega, fun a b _ h => by omega, fun a b _ h => by omega, fun x => ⟨fun h => by simp at h, fun ⟨k, h, _⟩ => by omega⟩⟩
theorem VP1.step {r : Rm} {i : Int} {f : Int → Bool} (hv : VP1 r i f) (h0 : 0 ≤ i) (hi : i < r.pl.length) (h1 : ¬ pg r.pl i.toNat < 0) (h2 : ¬ r.pages ≤ pg r.pl i.toNat) (h3 : 0 < i → ¬ pg r.pl i.toNat ≤ pg r.pl (i - 1).toNat) (h4 : pg r.pl i.toNat ∈ r.bad)
    (h5 : ¬ ad r.pl i.toNat < r.pages) (h6 : ¬ r.pages + r.spares ≤ ad r.pl i.toNat) (h7 : ¬ ad r.pl i.toNat ∈ r.bad) (h8 : f (ad r.pl i.toNat) = false) :
    VP1 r (i + 1) (fun a => if a = ad r.pl i.toNat then true else f a) := by
  have hx : ∀ k : Nat, (k : Int) < i + 1 → k = i.toNat ∨ (k : Int) < i := fun k h => by omega
  refine ⟨fun k hk => ?_, fun a b hab hb => ?_, fun a b hab hb => ?_, fun x => ?_⟩
  · rcases hx k hk with rfl | h
    · exact ⟨by omega, by omega, h4, by omega, by omega, h7⟩
    · exact hv.pp k h
  · rcases hx b hb with rfl | h
    · have h9 := h3 (by omega)
      by_cases e2 : a = (i - 1).toNat
      · subst e2; omega
      · have := hv.pa a (i - 1).toNat (by omega) (by omega)
        omega
    · exact hv.pa a b hab h
  · rcases hx b hb with rfl | h
    · intro e
      have := (hv.f (ad r.pl i.toNat)).2 ⟨a, by omega, e⟩
      rw [h8] at this; cases this
    · exact hv.pd a b hab h
  · constructor
    · intro h
      split at h
      · rename_i e; exact ⟨i.toNat, by omega, e.symm⟩
      · obtain ⟨k, hk, e⟩ := (hv.f x).1 h; exact ⟨k, by omega, e⟩
    · rintro ⟨k, hk, e⟩
      rcases hx k hk with rfl | h
      · rw [if_pos e.symm]
      · split
        · rfl
        · exact (hv.f x).2 ⟨k, h, e⟩
theorem valid_fin {r : Rm} {own i : Int} {f : Int → Bool} (hr : 1 ≤ r.pages ∧ r.pages ≤ 64 ∧ 0 ≤ r.spares ∧ r.spares ≤ 16 ∧ r.pages + r.spares ≤ 64) (h1 : (∀ k, k < r.bad.length → 0 ≤ r.bad.getD k 0 ∧ r.bad.getD k 0 < r.pages + r.spares) ∧ Asc r.bad ∧ own = cntL r.bad r.pages)
    (hp : VP1 r i f) (hi : i = r.pl.length) : resV [.c (Bo (decide (own = r.pl.length)))] = VB (decide (RmOK r)) := by
  subst hi
  have : (own = r.pl.length) ↔ RmOK r := by
    rw [h1.2.2]
    constructor
    · intro h; exact ⟨hr, h1.1, h1.2.1, fun k hk => hp.pp k (by omega), fun a b hab hb => hp.pa a b hab (by omega), fun a b hab hb => hp.pd a b hab (by omega), by omega⟩
    · intro h; have := h.cnt; omega
  simp only [resV, this]
theorem res_false {p : Prop} [Decidable p] (h : ¬ p) : resV [.c (Bo false)] = VB (decide p) := by simp [resV, h]
theorem res_true {p : Prop} [Decidable p] (h : p) : resV [.c (Bo true)] = VB (decide p) := by simp [resV, h]
theorem VP1.dup {r : Rm} {i : Int} {f : Int → Bool} (hv : VP1 r i f) (hk : RmOK r) (h0 : 0 ≤ i) (hi : i < r.pl.length) : f (ad r.pl i.toNat) = false := by
  cases e : f (ad r.pl i.toNat) with
  | false => rfl
  | true =>
    obtain ⟨k, h1, h2⟩ := (hv.f _).1 e
    exact absurd h2 (hk.pd k i.toNat (by omega) (by omega))

theorem RmV.fz {h h' : Heap} {r : Rm} {bp op bb ob : Nat} (hv : RmV h r bp op bb ob) (hf : Fz h h') : RmV h' r bp op bb ob := ⟨hv.p.fz hf, hv.b.fz hf⟩
abbrev pgs (r : Rm) : List Int := r.pl.map Prod.fst
theorem pgs_get (l : List (Int × Int)) (k : Nat) : (l.map Prod.fst).getD k 0 = (l.getD k (0, 0)).1 := by
  simp only [List.getD, List.getElem?_map]
  cases l[k]? <;> rfl
theorem pgs_asc {r : Rm} (hk : RmOK r) : Asc (pgs r) := fun i j hij hj => by
  rw [pgs_get, pgs_get]; exact hk.pa i j hij (by simpa using hj)
/-- where a page lies -/
noncomputable def whereQ (r : Rm) (p : Int) : Int × Int :=
  if ¬ RmOK r then (0, 48) else if p < 0 ∨ r.pages ≤ p then (0, 1) else if p ∈ pgs r then (ad r.pl (lbd (pgs r) p), 0) else (p, 0)
/-- who lies at an address -/
def idxA (l : List (Int × Int)) (a : Int) : Nat := l.findIdx (fun p => p.2 == a)
theorem idxA_at {l : List (Int × Int)} {a : Int} {i : Nat} (hi : i < l.length) (h : (l.getD i (0, 0)).2 = a) (hn : ∀ k, k < i → (l.getD k (0, 0)).2 ≠ a) : idxA l a = i := by
  unfold idxA
  rw [List.findIdx_eq hi]
  refine ⟨by simp [List.getD, hi] at h; simp [h], fun j hj => ?_⟩
  have := hn j hj
  have hj' : j < l.length := by omega
  simp [List.getD, hj'] at this
  simpa using this
theorem idxA_none {l : List (Int × Int)} {a : Int} (hn : ∀ k, k < l.length → (l.getD k (0, 0)).2 ≠ a) : idxA l a = l.length := by
  unfold idxA
  rw [List.findIdx_eq_length]
  intro x hx
  obtain ⟨k, hk, e⟩ := List.mem_iff_getElem.1 hx
  have := hn k hk
  simp [List.getD, hk] at this
  subst e; simpa using this
theorem idxA_spec {l : List (Int × Int)} {a : Int} (h : idxA l a < l.length) : (l.getD (idxA l a) (0, 0)).2 = a := by
  have := List.findIdx_getElem (w := h)
  simp only [idxA] at h ⊢
  simp [List.getD, h]
  simpa using this
noncomputable def ownerQ (r : Rm) (a : Int) : Int × Bool :=
  if ¬ RmOK r ∨ a < 0 ∨ a ∈ r.bad then (0, false) else if a < r.pages then (a, true) else if idxA r.pl a < r.pl.length then (pg r.pl (idxA r.pl a), true) else (0, false)

theorem ownerQ_bad {r : Rm} {a : Int} (h : ¬ RmOK r ∨ a < 0 ∨ a ∈ r.bad) : ownerQ r a = (0, false) := if_pos h
theorem ownerQ_own {r : Rm} {a : Int} (h1 : RmOK r) (h2 : ¬ a < 0) (h3 : ¬ a ∈ r.bad) (h4 : a < r.pages) : ownerQ r a = (a, true) := by
  unfold ownerQ; rw [if_neg (fun h => by rcases h with h | h | h <;> contradiction), if_pos h4]
theorem ownerQ_pl {r : Rm} {a : Int} (h1 : RmOK r) (h2 : ¬ a < 0) (h3 : ¬ a ∈ r.bad) (h4 : ¬ a < r.pages) (h5 : idxA r.pl a < r.pl.length) : ownerQ r a = (pg r.pl (idxA r.pl a), true) := by
  unfold ownerQ; rw [if_neg (fun h => by rcases h with h | h | h <;> contradiction), if_neg h4, if_pos h5]
theorem ownerQ_no {r : Rm} {a : Int} (h1 : RmOK r) (h2 : ¬ a < 0) (h3 : ¬ a ∈ r.bad) (h4 : ¬ a < r.pages) (h5 : ¬ idxA r.pl a < r.pl.length) : ownerQ r a = (0, false) := by
  unfold ownerQ; rw [if_neg (fun h => by rcases h with h | h | h <;> contradiction), if_neg h4, if_neg h5]
theorem whereQ_inv {r : Rm} {a : Int} (h : ¬ RmOK r) : whereQ r a = (0, 48) := if_pos h
theorem whereQ_rng {r : Rm} {a : Int} (h : RmOK r) (h1 : a < 0 ∨ r.pages ≤ a) : whereQ r a = (0, 1) := by unfold whereQ; rw [if_neg (fun h2 => h2 h), if_pos h1]
theorem whereQ_pl {r : Rm} {a : Int} (h : RmOK r) (h1 : ¬ (a < 0 ∨ r.pages ≤ a)) (h2 : a ∈ pgs r) : whereQ r a = (ad r.pl (lbd (pgs r) a), 0) := by unfold whereQ; rw [if_neg (fun h2 => h2 h), if_neg h1, if_pos h2]
theorem whereQ_own {r : Rm} {a : Int} (h : RmOK r) (h1 : ¬ (a < 0 ∨ r.pages ≤ a)) (h2 : ¬ a ∈ pgs r) : whereQ r a = (a, 0) := by unfold whereQ; rw [if_neg (fun h2 => h2 h), if_neg h1, if_neg h2]

abbrev ads (r : Rm) : List Int := r.pl.map Prod.snd
theorem ads_mem {r : Rm} {a : Int} : a ∈ ads r ↔ ∃ k : Nat, (k : Int) < r.pl.length ∧ ad r.pl k = a := by
  simp only [ads, List.mem_map]
  constructor
  · rintro ⟨p, hp, rfl⟩
    obtain ⟨k, hk, e⟩ := List.mem_iff_getElem.1 hp
    exact ⟨k, by omega, by simp [ad, List.getD, hk, e]⟩
  · rintro ⟨k, hk, e⟩
    have hk' : k < r.pl.length := by omega
    exact ⟨r.pl[k], List.getElem_mem hk', by simpa [ad, List.getD, hk'] using e⟩
def UsedTo (r : Rm) (i : Int) (f : Int → Bool) : Prop := ∀ x, f x = true ↔ ∃ k : Nat, (k : Int) < i ∧ ad r.pl k = x
theorem UsedTo.zero (r : Rm) : UsedTo r 0 (fun _ => false) := fun x => ⟨fun h => by simp at h, fun ⟨k, h, _⟩ => by omega⟩
theorem UsedTo.step {r : Rm} {i : Int} {f : Int → Bool} (hv : UsedTo r i f) (h0 : 0 ≤ i) : UsedTo r (i + 1) (fun a => if a = ad r.pl i.toNat then true else f a) := fun x => by
  have hx : ∀ k : Nat, (k : Int) < i + 1 → k = i.toNat ∨ (k : Int) < i := fun k h => by omega
  constructor
  · intro h
    have h : (if x = ad r.pl i.toNat then true else f x) = true := h
    split at h
    · rename_i e; exact ⟨i.toNat, by omega, e.symm⟩
    · obtain ⟨k, hk, e⟩ := (hv x).1 h; exact ⟨k, by omega, e⟩
  · rintro ⟨k, hk, e⟩
    show (if x = ad r.pl i.toNat then true else f x) = true
    rcases hx k hk with rfl | h
    · rw [if_pos e.symm]
    · split
      · rfl
      · exact (hv x).2 ⟨k, h, e⟩
/-- the free addresses among the first m spare ones -/
def freeN (r : Rm) : Nat → List Int
  | 0 => []
  | m + 1 => freeN r m ++ (if r.pages + m ∉ ads r ∧ r.pages + m ∉ r.bad then [r.pages + (m : Int)] else [])
def freeQ (r : Rm) : List Int := freeN r r.spares.toNat
theorem freeN_len (r : Rm) (m : Nat) : (freeN r m).length ≤ m := by
  induction m with
  | zero => simp [freeN]
  | succ m ih => simp only [freeN, List.length_append]; split <;> simp <;> omega
theorem freeN_yes {r : Rm} {x : Int} (h0 : r.pages ≤ x) (h1 : x ∉ ads r) (h2 : x ∉ r.bad) : freeN r (x + 1 - r.pages).toNat = freeN r (x - r.pages).toNat ++ [x] := by
  rw [show (x + 1 - r.pages).toNat = (x - r.pages).toNat + 1 by omega]
  simp only [freeN, show r.pages + ((x - r.pages).toNat : Int) = x by omega]
  rw [if_pos ⟨h1, h2⟩]
theorem freeN_no {r : Rm} {x : Int} (h0 : r.pages ≤ x) (h1 : x ∈ ads r ∨ x ∈ r.bad) : freeN r (x + 1 - r.pages).toNat = freeN r (x - r.pages).toNat := by
  rw [show (x + 1 - r.pages).toNat = (x - r.pages).toNat + 1 by omega]
  simp only [freeN, show r.pages + ((x - r.pages).toNat : Int) = x by omega]
  rw [if_neg (fun h => by rcases h1 with h1 | h1; exact h.1 h1; exact h.2 h1), List.append_nil]
theorem flatI_get {l : List Int} {j : Nat} (hj : j < l.length) : ((l.map I).drop (j * 1)).take 1 = [I (l.getD j 0)] := by
  rw [Nat.mul_one, List.drop_eq_getElem_cons (by simpa using hj)]
  simp [List.getD, hj]
end Rv
