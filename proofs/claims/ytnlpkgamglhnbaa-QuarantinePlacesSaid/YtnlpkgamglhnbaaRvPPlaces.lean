/- Chapter 35: every page lies at a good place of its own. -/
import Derived.Test.YtnlpkgamglhnbaaRvPq5
import Derived.Test.YtnlpkgamglhnbaaRvPSpares
set_option linter.unusedVariables false
set_option linter.unusedSimpArgs false
namespace Rv
open Go Go.RowKit Go.Proofs

structure CodesOK (c : Codes) : Prop where
  at0 : 0 ≤ c.at_
  at1 : c.at_ ≤ c.l_.length
  len : c.l_.length ≤ 200
  rng : ∀ i : Int, 0 ≤ i → i < c.l_.length → 0 ≤ gd c.l_ i ∧ gd c.l_ i ≤ 255
theorem new_codes {l : List Int} (h : ∀ x ∈ l, 0 ≤ x ∧ x ≤ 255) : ∃ c, New l 200 = some c ∧ CodesOK c := by
  have hg : ∀ (l : List Int), (∀ x ∈ l, 0 ≤ x ∧ x ≤ 255) → ∀ i : Int, 0 ≤ i → i < l.length → 0 ≤ gd l i ∧ gd l i ≤ 255 := fun l h i h0 h1 => by
    have : gd l i ∈ l := by
      have hi : i.toNat < l.length := by omega
      simp only [gd, List.getD, List.getElem?_eq_getElem hi, Option.getD_some]
      exact List.getElem_mem hi
    exact h _ this
  rw [New.eq]
  by_cases c : (200 : Int) < l.length
  · rw [if_pos c, if_pos (by omega)]
    refine ⟨_, rfl, Int.le_refl _, by simp, by simp; omega, ?_⟩
    exact hg _ fun x hx => h x (List.mem_of_mem_take hx)
  · rw [if_neg c]
    exact ⟨_, rfl, Int.le_refl _, by simp, by show l.length ≤ 200; omega, hg _ h⟩
theorem next_spec {c : Codes} (hc : CodesOK c) {n : Int} (h0 : 1 ≤ n) (h1 : n ≤ 256) : ∃ a c', Codes_Next n c = some (a, c') ∧ 0 ≤ a ∧ a < n ∧ CodesOK c' := by
  unfold Codes_Next
  rw [FU_pos, Codes_Next.r_s]
  by_cases c1 : (c.l_.length : Int) ≤ c.at_
  · rw [if_pos c1]; exact ⟨0, c, rfl, by omega, by omega, hc⟩
  rw [if_neg c1, if_neg (by omega), if_pos ⟨hc.at0, by omega⟩, if_neg (by omega), if_pos (by omega)]
  have hg := hc.rng c.at_ hc.at0 (by omega)
  have hl := hc.len
  have ha := hc.at0
  rw [w64_id (x := c.at_ + 1) (by omega), w64_id (x := gd c.l_ c.at_) (by omega), Int.tmod_eq_emod_of_nonneg (by omega)]
  refine ⟨_, _, rfl, Int.emod_nonneg _ (by omega), Int.emod_lt_of_pos _ (by omega), ?_⟩
  exact ⟨by show 0 ≤ c.at_ + 1; omega, by show c.at_ + 1 ≤ (c.l_.length : Int); omega, hc.len, hc.rng⟩
/-- the walk along the pages -/
theorem places_l2 {p s n m : Int} (hN : w64 (1 + Int.tmod (w64 p) 20) = n) (hS : Int.tmod (w64 s) 9 = m) {r : Remap} {mv : Int × Int} {ac : Int × Codes} (hk : RmOK (rm r)) (hpn : r.pages = n) (hsm : r.spares = m) (hab : ac.1 ∈ r.bad) : ∀ (f : Nat) (id : Int) (bx : List Bool), 0 ≤ id → id ≤ n → bx.length = (n + m).toNat →
    (∀ x, 0 ≤ x → x < n + m → gd bx x = true → ∃ j, j < id ∧ ownerQ (rm r) x = (j, true)) → n - id < f → law35_QuarantinePlaces.l2 p s ac (r, mv) f id bx = some (.inl ()) := by
  have hr := hk.rng
  simp only at hr
  have hbl : r.bad.length ≤ 1000000 := by have := hk.blen; simp only at this; omega
  have hpl : r.places.length ≤ 1000000 := by have := hk.plen; simp at this; omega
  intro f
  induction f with
  | zero => intro id bx h0 h1 h2 h3 h4; omega
  | succ f ih =>
    intro id bx h0 h1 h2 h3 h4
    rw [law35_QuarantinePlaces.l2_s, hN, hS]
    dsimp only
    by_cases hi : id < n
    · have hxl : (bx.length : Int) = n + m := by omega
      obtain ⟨w, e1, w0, w1, w2, w3⟩ := whereQ_spec hk h0 (by show id < r.pages; omega)
      have w1' : w < n + m := by have : w < r.pages + r.spares := w1; omega
      rw [if_pos hi, where_eq hbl hpl, e1]
      simp only [Option.bind_some]
      rw [if_pos (by omega), if_neg (by simp), if_neg (by omega), w64_id (by omega), if_neg (by omega), if_pos (by omega), if_pos (by omega)]
      rw [if_neg (fun e => by
        obtain ⟨j, hj, ho⟩ := h3 w w0 w1' e
        rw [w3] at ho
        cases ho; omega)]
      rw [if_neg (fun e => w2 (by rw [e]; exact hab)), if_pos (by omega), if_pos (by omega), owner_eq hbl hpl, w3]
      simp only [Option.bind_some, if_true]
      rw [if_neg (by simp), w64_id (x := id + 1) (by omega)]
      refine ih _ _ (by omega) (by omega) (by simp [h2]) (fun x hx0 hx1 e => ?_) (by omega)
      rw [gd_set (by omega) hx0] at e
      by_cases ex : x = w
      · exact ⟨id, by omega, ex ▸ w3⟩
      · rw [if_neg ex] at e
        obtain ⟨j, hj, ho⟩ := h3 x hx0 hx1 e
        exact ⟨j, by omega, ho⟩
    · rw [if_neg hi]
theorem places_l1 {p s n m : Int} (hN : w64 (1 + Int.tmod (w64 p) 20) = n) (hS : Int.tmod (w64 s) 9 = m) (hn : 1 ≤ n ∧ n ≤ 20) (hm : 0 ≤ m ∧ m ≤ 8) : ∀ (f : Nat) (k : Int) (c : Codes) (r : Remap), 0 ≤ k → k ≤ 100 → CodesOK c → RmOK (rm r) → r.pages = n → r.spares = m → k < f →
    ∃ r', law35_QuarantinePlaces.l1 p s f k c r = some (.inl r') ∧ RmOK (rm r') := by
  intro f
  induction f with
  | zero => intro k c r h0 h1 hc hk hpn hsm h4; omega
  | succ f ih =>
    intro k c r h0 h1 hc hk hpn hsm h4
    have hbl : r.bad.length ≤ 1000000 := by have := hk.blen; simp only at this; omega
    have hpl : r.places.length ≤ 1000000 := by have := hk.plen; simp at this; omega
    rw [law35_QuarantinePlaces.l1_s, hN, hS, w64_id (x := n + m) (by omega)]
    by_cases hi : 0 < k
    · obtain ⟨a, c', e1, a0, a1, hc'⟩ := next_spec hc (n := n + m) (by omega) (by omega)
      rw [if_pos hi, e1]
      simp only [Option.bind_some]
      rw [owner_eq hbl hpl, left_eq hbl hpl, if_pos hk, mark_eq hbl hpl]
      simp only [Option.bind_some]
      have hoo : (if (ownerQ (rm r) a).2 = true then some ((ownerQ (rm r) a).1, true) else some ((ownerQ (rm r) a).1, false)) = some (ownerQ (rm r) a) := by
        cases h : ownerQ (rm r) a with
        | mk x y => cases y <;> rfl
      rw [hoo]
      simp only [Option.bind_some]
      rw [w64_id (x := k - 1) (by omega)]
      rcases mark_spec hk a0 (by omega) with ⟨ho, hf, em⟩ | ⟨m2, em, hk2, hab, hp2, hs2⟩
      · rw [em]
        simp only [ho, hf, if_true]
        rw [if_neg (by simp)]
        exact ih _ _ _ (by omega) (by omega) hc' hk hpn hsm (by omega)
      · rw [em]
        simp only
        rw [if_neg (by decide)]
        have hmid : (if (0 : Int) ≠ 0 then some (Sum.inr false) else (if (ownerQ (rm r) a).2 = true then (if (if (ownerQ (rm r) a).2 = true then (ownerQ (rm r) a).1 else -1) ≠ (ownerQ (rm r) a).1 then some (Sum.inr false) else (if (ownerQ (rm r) a).2 = true then some (Sum.inl ()) else (if (if (ownerQ (rm r) a).2 = true then (ownerQ (rm r) a).1 else -1) ≠ (-1) then some (Sum.inr false) else some (Sum.inl ())))) else (if (ownerQ (rm r) a).2 = true then some (Sum.inl ()) else (if (if (ownerQ (rm r) a).2 = true then (ownerQ (rm r) a).1 else -1) ≠ (-1) then some (Sum.inr false) else some (Sum.inl ()))))) = (some (Sum.inl ()) : Option (Sum Unit Bool)) := by
          rw [if_neg (by decide)]
          by_cases h : (ownerQ (rm r) a).2 = true
          · rw [if_pos h, if_pos h, if_neg (by simp)]; simp [h]
          · rw [if_neg h, if_neg h, if_neg h, if_neg (by simp)]
        rw [hmid]
        simp only [Option.bind_some]
        rw [if_pos (by omega)]
        have h2 := places_l2 (p := p) (s := s) hN hS (r := m2) (mv := ((if (ownerQ (rm r) a).2 = true then (ownerQ (rm r) a).1 else -1), 0)) (ac := (a, c')) hk2 (by omega) (by omega) hab FU 0 (List.replicate (n + m).toNat false) (by omega) (by omega) (by simp) (fun x hx0 hx1 e => by
          simp only [gd, List.getD, List.getElem?_replicate] at e
          split at e <;> cases e) (by unfold FU; omega)
        rw [h2]
        simp only [Option.bind_some]
        exact ih _ _ _ (by omega) (by omega) hc' hk2 (by omega) (by omega) (by omega)
    · rw [if_neg hi]; exact ⟨r, rfl, hk⟩
theorem law35_QuarantinePlaces_true (codes : List Int) (p s : Int) (hw : ∀ x ∈ codes, (Lit.int .u8 x).wf = true) (hp : (Lit.int .u8 p).wf = true) (hs : (Lit.int .u8 s).wf = true) : law35_QuarantinePlaces codes p s = some true := by
  have hb : ∀ x : Int, (Lit.int .u8 x).wf = true → 0 ≤ x ∧ x ≤ 255 := fun x h => by simpa [Lit.wf, IntKind.min, IntKind.max, IntKind.signed, IntKind.bits] using h
  have hp' := hb p hp
  have hs' := hb s hs
  have hS : Int.tmod (w64 s) 9 = s % 9 := by rw [w64_id (by omega), Int.tmod_eq_emod_of_nonneg (by omega)]
  have hN : w64 (1 + Int.tmod (w64 p) 20) = 1 + p % 20 := by rw [w64_id (x := p) (by omega), Int.tmod_eq_emod_of_nonneg (by omega), w64_id (by omega)]
  have hn : 1 ≤ 1 + p % 20 ∧ 1 + p % 20 ≤ 20 := by omega
  have hm : 0 ≤ s % 9 ∧ s % 9 ≤ 8 := by omega
  unfold law35_QuarantinePlaces
  rw [law35_awake_true]
  simp only [Option.bind_some, Bool.not_true, Bool.false_eq_true, if_false, hN, hS]
  generalize hgn : 1 + p % 20 = n at *
  generalize hgm : s % 9 = m at *
  obtain ⟨c, e1, hc⟩ := new_codes (fun x hx => hb x (hw x hx))
  rw [e1, new_eq (by omega)]
  simp only [Option.bind_some]
  rw [if_neg (by simp)]
  obtain ⟨a, c', e2, a0, a1, hc'⟩ := next_spec hc (n := 12) (by omega) (by omega)
  rw [e2]
  simp only [Option.bind_some]
  obtain ⟨r', e3, hk⟩ := places_l1 hN hS hn hm FU a c' ⟨n, m, [], []⟩ a0 (by omega) hc' (rm0_ok (by omega)) rfl rfl (by unfold FU; omega)
  rw [e3]
  simp only [Option.bind_some]
  rw [valid_eq (by have := hk.blen; simp only at this; omega) (by have := hk.plen; simp at this; omega)]
  simp only [Option.bind_some, hk, decide_true]
end Rv
