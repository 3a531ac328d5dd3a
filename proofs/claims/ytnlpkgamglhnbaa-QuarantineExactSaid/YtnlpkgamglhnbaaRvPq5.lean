/- Chapter 35: what marking does; each page lies somewhere good, and nobody else there. -/
import Derived.Test.YtnlpkgamglhnbaaRvPq4
set_option linter.unusedVariables false
set_option linter.unusedSimpArgs false
namespace Rv
open Go Go.RowKit Go.Proofs

theorem asc_pw {l : List Int} (ha : Asc l) : l.Pairwise (· < ·) := by
  rw [List.pairwise_iff_getElem]
  intro i j hi hj hij
  have := ha i j hij hj
  simpa [List.getD, hi, hj] using this
theorem pw_eq : ∀ (B A : List Int), A.Pairwise (· < ·) → B.Pairwise (· < ·) → (∀ x ∈ A, x ∈ B) → A.length ≤ B.length ∧ (A.length = B.length → A = B) := by
  intro B
  induction B with
  | nil =>
    intro A _ _ h
    cases A with
    | nil => exact ⟨Nat.le_refl _, fun _ => rfl⟩
    | cons x A => exact absurd (h x (List.mem_cons_self ..)) (by simp)
  | cons y B ih =>
    intro A hA hB h
    cases A with
    | nil => exact ⟨by simp, fun e => by simp at e⟩
    | cons x A =>
      rw [List.pairwise_cons] at hA hB
      by_cases e : x = y
      · subst e
        have := ih A hA.2 hB.2 (fun z hz => by
          have h1 := h z (List.mem_cons_of_mem _ hz)
          rcases List.mem_cons.1 h1 with h2 | h2
          · have := hA.1 z hz; omega
          · exact h2)
        exact ⟨by simp only [List.length_cons]; omega, fun e => by simp only [List.length_cons] at e; rw [this.2 (by omega)]⟩
      · have hx : x ∈ B := by
          rcases List.mem_cons.1 (h x (List.mem_cons_self ..)) with h2 | h2
          · exact absurd h2 e
          · exact h2
        have := ih (x :: A) (List.pairwise_cons.2 hA) hB.2 (fun z hz => by
          rcases List.mem_cons.1 (h z hz) with h2 | h2
          · exfalso
            have h3 := hB.1 x hx
            rcases List.mem_cons.1 hz with h4 | h4
            · omega
            · have := hA.1 z h4; omega
          · exact h2)
        have h3 := this.1
        simp only [List.length_cons] at h3 ⊢
        exact ⟨by omega, fun e => by omega⟩
theorem pgs_eq {r : Rm} (hk : RmOK r) : pgs r = r.bad.filter fun y => decide (y < r.pages) := by
  refine (pw_eq _ _ (asc_pw (pgs_asc hk)) ((asc_pw hk.as).filter _) fun x hx => ?_).2 ?_
  · obtain ⟨k, hk1, hk2⟩ := mem_getD.1 hx
    rw [pgs_get] at hk2
    have := hk.pp k (by simpa using hk1)
    rw [show pg r.pl k = x from hk2] at this
    exact List.mem_filter.2 ⟨this.2.2.1, decide_eq_true this.2.1⟩
  · have := hk.cnt
    unfold cntL at this
    rw [this]; simp
theorem pgs_iff {r : Rm} (hk : RmOK r) {x : Int} (h : x < r.pages) : x ∈ pgs r ↔ x ∈ r.bad := by
  rw [pgs_eq hk, List.mem_filter]
  exact ⟨fun h => h.1, fun h' => ⟨h', decide_eq_true h⟩⟩
theorem lbd_at {l : List Int} (ha : Asc l) {i : Nat} (hi : i < l.length) : lbd l (l.getD i 0) = i := by
  have h1 : ¬ i < lbd l (l.getD i 0) := fun h => by have := (lbd_iff ha hi).2 h; omega
  rcases Nat.lt_or_ge (lbd l (l.getD i 0)) i with h | h
  · have h2 := ha _ _ h hi
    have := (lbd_iff ha (x := l.getD i 0) (by omega)).1 h2
    omega
  · omega
theorem whereQ_spec {r : Rm} (hk : RmOK r) {id : Int} (h0 : 0 ≤ id) (h1 : id < r.pages) : ∃ w, whereQ r id = (w, 0) ∧ 0 ≤ w ∧ w < r.pages + r.spares ∧ w ∉ r.bad ∧ ownerQ r w = (id, true) := by
  have hr := hk.rng
  by_cases hp : id ∈ pgs r
  · have hl := (lbd_mem (pgs_asc hk)).1 hp
    have hlen : lbd (pgs r) id < r.pl.length := by simpa using hl.1
    have hpg : pg r.pl (lbd (pgs r) id) = id := by
      have := hl.2; rwa [pgs_get] at this
    have hpp := hk.pp _ hlen
    refine ⟨_, whereQ_pl hk (by omega) hp, by omega, hpp.2.2.2.2.1, hpp.2.2.2.2.2, ?_⟩
    have hix : idxA r.pl (ad r.pl (lbd (pgs r) id)) = lbd (pgs r) id := idxA_at hlen rfl (fun k hk' => hk.pd k _ hk' hlen)
    rw [ownerQ_pl hk (by omega) hpp.2.2.2.2.2 (by omega) (by rw [hix]; exact hlen), hix, hpg]
  · have hb : id ∉ r.bad := fun h => hp ((pgs_iff hk h1).2 h)
    exact ⟨id, whereQ_own hk (by omega) hp, h0, by omega, hb, ownerQ_own hk (by omega) hb h1⟩
theorem idxA_ads {r : Rm} {a : Int} (h : ¬ idxA r.pl a < r.pl.length) : a ∉ ads r := fun h' => by
  obtain ⟨k, hk, e⟩ := ads_mem.1 h'
  apply h
  unfold idxA
  rw [List.findIdx_lt_length]
  have hk' : k < r.pl.length := by omega
  refine ⟨r.pl[k], List.getElem_mem hk', ?_⟩
  have : (r.pl.getD k (0, 0)).2 = a := e
  simp [List.getD, hk'] at this
  simpa using this
theorem map_insL {α β : Type} (g : α → β) (l : List α) (i : Nat) (x : α) : (insL l i x).map g = insL (l.map g) i (g x) := by simp [insL]
theorem mark_spec {r : Remap} (hk : RmOK (rm r)) {a : Int} (h0 : 0 ≤ a) (h1 : a < r.pages + r.spares) :
    ((ownerQ (rm r) a).2 = true ∧ (freeQ (rm r)).length = 0 ∧ markR r a = (rz, 0, 47)) ∨
    ∃ m, markR r a = (m, (if (ownerQ (rm r) a).2 = true then (ownerQ (rm r) a).1 else -1), 0) ∧ RmOK (rm m) ∧ a ∈ m.bad ∧ m.pages = r.pages ∧ m.spares = r.spares := by
  have hr := hk.rng
  simp only at hr
  unfold markR
  rw [if_neg (fun h => h hk), if_neg (by omega)]
  by_cases hb : a ∈ r.bad
  · rw [if_pos hb]
    refine .inr ⟨r, ?_, hk, hb, rfl, rfl⟩
    rw [ownerQ_bad (.inr (.inr hb))]; rfl
  rw [if_neg hb]
  by_cases ho : (ownerQ (rm r) a).2 = false
  · rw [if_pos ho]
    have hge : r.pages ≤ a := by
      rcases Int.lt_or_le a r.pages with h | h
      · rw [ownerQ_own hk (by omega) hb h] at ho; cases ho
      · exact h
    have hix : ¬ idxA (rm r).pl a < (rm r).pl.length := fun h => by
      rw [ownerQ_pl hk (by omega) hb (by show ¬ a < r.pages; omega) h] at ho; cases ho
    refine .inr ⟨⟨r.pages, r.spares, r.places, insL r.bad (lbd r.bad a) a⟩, ?_, hk.insBad hge h1 hb (idxA_ads hix), mem_insL.2 (.inl rfl), rfl, rfl⟩
    rw [ho]; rfl
  · rw [if_neg ho]
    have ho' : (ownerQ (rm r) a).2 = true := by simpa using ho
    by_cases hf : (freeQ (rm r)).length = 0
    · rw [if_pos hf]; exact .inl ⟨ho', hf, rfl⟩
    rw [if_neg hf]
    obtain ⟨f0, f1, f2, f3⟩ := freeQ_head hk hf
    generalize (freeQ (rm r)).getD 0 0 = f at *
    refine .inr ⟨⟨r.pages, r.spares, plInP r.places (ownerQ (rm r) a).1 f, insL r.bad (lbd r.bad a) a⟩, by rw [ho']; rfl, ?_, mem_insL.2 (.inl rfl), rfl, rfl⟩
    by_cases hge : a < r.pages
    · have e := ownerQ_own hk (by omega) hb hge
      rw [e]
      have hnp : a ∉ pgl r.places := fun h => hb ((pgs_iff hk hge).1 h)
      have := hk.insOwn h0 hge hb f0 f1 f3 f2
      have e2 : (plInP r.places a f).map pp2 = insL (r.places.map pp2) (lbd (pgs (rm r)) a) (a, f) := by
        unfold plInP
        rw [if_neg hnp, map_insL]
      simp only [rm, e2]
      exact this
    · have hix : idxA (rm r).pl a < (rm r).pl.length := by
        rcases Nat.lt_or_ge (idxA (rm r).pl a) (rm r).pl.length with h | h
        · exact h
        · rw [ownerQ_no hk (by omega) hb hge (by omega)] at ho'; cases ho'
      have e := ownerQ_pl hk (by omega) hb hge hix
      rw [e]
      have ha : ad (rm r).pl (idxA (rm r).pl a) = a := idxA_spec hix
      have hlen : (pgs (rm r)).length = (rm r).pl.length := by simp
      have hlb : lbd (pgs (rm r)) (pg (rm r).pl (idxA (rm r).pl a)) = idxA (rm r).pl a := by
        have := lbd_at (pgs_asc hk) (i := idxA (rm r).pl a) (by rw [hlen]; exact hix)
        rwa [pgs_get] at this
      have hin : pg (rm r).pl (idxA (rm r).pl a) ∈ pgl r.places := (pgs_iff hk (hk.pp _ hix).2.1).2 (hk.pp _ hix).2.2.1
      have := hk.setPl hix f0 f1 f3 f2
      rw [ha] at this
      have e2 : (plInP r.places (pg (rm r).pl (idxA (rm r).pl a)) f).map pp2 = (rm r).pl.set (idxA (rm r).pl a) (pg (rm r).pl (idxA (rm r).pl a), f) := by
        unfold plInP
        rw [if_pos hin, List.map_set]
        show _ = List.set _ _ _
        congr 1
      show RmOK ⟨r.pages, r.spares, (plInP r.places (pg (rm r).pl (idxA (rm r).pl a)) f).map pp2, _⟩
      rw [e2]
      exact this
end Rv
