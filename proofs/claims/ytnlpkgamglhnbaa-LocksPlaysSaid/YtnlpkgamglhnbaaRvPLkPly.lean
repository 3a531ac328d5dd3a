/- Chapter 8: what any requests leave. -/
import Derived.Test.YtnlpkgamglhnbaaRvPLkDr
import Derived.Test.YtnlpkgamglhnbaaRvLaw08p
import Derived.KernelRfl
import GoSem.Claim
set_option linter.unusedVariables false
set_option linter.unusedSimpArgs false
namespace Rv
open Go Go.RowKit Go.Proofs

theorem law08_awake_true : law08_awake = some true := by kernel_rfl
theorem lconf_eq (a b : Grant) : law08_conflict a b = some (confG a b) := by
  rw [law08_conflict.eq_1]
  unfold confG
  (repeat' split) <;> congr 1 <;> simp_all
theorem any_drop {l : List Grant} {p : Grant → Bool} {i : Nat} (hi : i < l.length) : (l.drop i).any p = (p l[i] || (l.drop (i + 1)).any p) := by
  rw [List.drop_eq_getElem_cons hi, List.any_cons]
theorem play_l3 {t : Locks} {w : Nat} (hw : w < t.waiting.length) (hm : t.held.length ≤ 1000000) : ∀ (f i : Nat) (kept : Bool), i ≤ t.held.length → t.held.length - i < f →
    law08_LocksPlays.l3 t (w : Int) f kept (i : Int) = some (kept || (t.held.drop i).any (confG · t.waiting[w])) := by
  intro f
  induction f with
  | zero => intro i kept h1 h2; omega
  | succ f ih =>
    intro i kept h1 h2
    rw [law08_LocksPlays.l3.eq_2]
    by_cases hi : i < t.held.length
    · rw [if_pos (by omega), if_pos (inr_nat hi), w64_succ (by omega), any_drop hi]
      cases kept with
      | true => rw [if_pos rfl, ih (i + 1) true (by omega) (by omega)]; simp
      | false =>
        rw [if_neg (by simp), gd_nat hi, gd_nat hw, lconf_eq]
        simp only [Option.bind_some]
        by_cases c : confG t.held[i] t.waiting[w] = true
        · rw [if_pos c, ih (i + 1) true (by omega) (by omega)]; simp [c]
        · rw [if_neg c, ih (i + 1) false (by omega) (by omega)]
          have c' : confG t.held[i] t.waiting[w] = false := by simpa using c
          simp [c']
    · have : i = t.held.length := by omega
      subst this
      rw [if_neg (by omega)]; simp
theorem play_l4 {t : Locks} {w : Nat} (hw : w < t.waiting.length) (hm : t.waiting.length ≤ 1000000) : ∀ (f i : Nat) (kept : Bool), i ≤ w → w - i < f →
    law08_LocksPlays.l4 t (w : Int) f kept (i : Int) = some (kept || ((t.waiting.take w).drop i).any (confG · t.waiting[w])) := by
  have hlen : (t.waiting.take w).length = w := by rw [List.length_take]; omega
  intro f
  induction f with
  | zero => intro i kept h1 h2; omega
  | succ f ih =>
    intro i kept h1 h2
    rw [law08_LocksPlays.l4.eq_2]
    simp only [Int.toNat_natCast]
    by_cases hi : i < w
    · have hi' : i < (t.waiting.take w).length := by omega
      rw [if_pos (by omega), if_pos (inr_nat hi'), w64_succ (by omega), any_drop hi']
      cases kept with
      | true => rw [if_pos rfl, ih (i + 1) true (by omega) (by omega)]; simp
      | false =>
        rw [if_neg (by simp), gd_nat hi', gd_nat hw, lconf_eq]
        simp only [Option.bind_some]
        by_cases c : confG (t.waiting.take w)[i] t.waiting[w] = true
        · rw [if_pos c, ih (i + 1) true (by omega) (by omega)]; rw [c]; simp
        · rw [if_neg c, ih (i + 1) false (by omega) (by omega)]
          have c' : confG (t.waiting.take w)[i] t.waiting[w] = false := by simpa using c
          rw [c']; simp
    · have : i = w := by omega
      subst this
      rw [if_neg (by omega), List.drop_eq_nil_of_le (by omega)]; simp
theorem play_l2 {t : Locks} (ht : TabOK t) : law08_LocksPlays.l2 t FU 0 = some (.inl ()) := by
  have hcnt := ht.ok.cnt
  have : ∀ (f w : Nat), w ≤ t.waiting.length → t.waiting.length - w < f → law08_LocksPlays.l2 t f (w : Int) = some (.inl ()) := by
    intro f
    induction f with
    | zero => intro w h1 h2; omega
    | succ f ih =>
      intro w h1 h2
      rw [law08_LocksPlays.l2.eq_2]
      by_cases hw : w < t.waiting.length
      · have e3 : law08_LocksPlays.l3 t (w : Int) FU false 0 = _ := play_l3 hw (by omega) FU 0 false (by omega) (by unfold FU; omega)
        have e4 : ∀ b, law08_LocksPlays.l4 t (w : Int) FU b 0 = _ := fun b => play_l4 hw (by omega) FU 0 b (by omega) (by unfold FU; omega)
        have hb := ht.all (t.waiting.take w) t.waiting[w] (t.waiting.drop (w + 1)) (by rw [← List.drop_eq_getElem_cons hw, List.take_append_drop])
        rw [if_pos (by omega), if_pos (inr_nat hw), e3]
        simp only [Option.bind_some]
        rw [if_pos (by omega), e4]
        simp only [Option.bind_some, Bool.false_or, List.drop_zero]
        unfold blkG at hb
        rw [hb, if_neg (by simp), w64_succ (by omega)]
        exact ih (w + 1) (by omega) (by omega)
      · rw [if_neg (by omega)]
  exact this FU 0 (by omega) (by unfold FU; omega)
theorem play_l1 : ∀ (f : Nat) (c : Codes) (t : Locks), CdOK2 c → TabOK t → (t.held.length + t.waiting.length : Int) ≤ c.at_ → (c.l_.length : Int) - c.at_ < f → (c.l_.length : Int) ≤ 1000 →
    law08_LocksPlays.l1 f c t = some (.inl ()) := by
  intro f
  induction f with
  | zero => intro c t hc ht h1 h2; have := hc.at1; omega
  | succ f ih =>
    intro c t hc ht h1 h2 h3
    rw [law08_LocksPlays.l1.eq_2, left2 hc]
    simp only [Option.bind_some]
    by_cases hl : (0 : Int) < (c.l_.length : Int) - c.at_
    rotate_left
    · rw [if_neg hl]
    obtain ⟨g, c1, e1, hg, s1, hlt⟩ := grant2 hc
    obtain ⟨a, c2, e2, _, _, s2, _⟩ := next2 s1.1 (n := 8) (by decide) (by decide)
    have hlt' := hlt (by omega)
    have hcnt := ht.ok.cnt
    have hs := s1.trans s2
    rw [if_pos hl, e1]
    simp only [Option.bind_some]
    rw [e2]
    simp only [Option.bind_some]
    -- behind each kind of step
    have go : ∀ t1 : Locks, TabOK t1 → (t1.held.length + t1.waiting.length : Int) ≤ t.held.length + t.waiting.length + 1 → ((locks_Valid t1).bind fun (x38 : Bool) => (if x38 = true then ((ref08_Valid t1).bind fun (x39 : Bool) => (if (!x39) = true then some (Sum.inr false) else ((law08_LocksPlays.l2 t1 FU 0).bind fun (z : Sum Unit Bool) => match z with | .inl (s72 : Unit) => law08_LocksPlays.l1 f c2 t1 | .inr r => some (Sum.inr r)))) else some (Sum.inr false))) = some (.inl ()) := fun t1 ht1 hn1 => by
      rw [lkvalid_true ht1.ok]
      simp only [Option.bind_some, if_true]
      rw [rvalid_true ht1.ok]
      simp only [Option.bind_some, Bool.not_true, Bool.false_eq_true, if_false]
      rw [play_l2 ht1]
      simp only [Option.bind_some]
      have h5 := hs.2.1
      have h6 := s2.2.2
      exact ih c2 t1 hs.1 ht1 (by omega) (by rw [h5]; omega) (by rw [h5]; exact h3)
    by_cases h5 : a = 5
    · rw [if_pos h5, lkcancel_eq (by omega) (by omega), if_pos ht.ok]
      simp only [Option.bind_some]
      exact go _ (ht.set (List.Sublist.refl _) List.filter_sublist) (by have := setL_len ht.ok (a := t.held) (b := freeL g.tx t.waiting) (List.Sublist.refl _) List.filter_sublist; omega)
    rw [if_neg h5]
    by_cases h6 : a = 6
    · rw [if_pos h6, lkdrop_eq (by omega) (by omega), if_pos ht.ok]
      simp only [Option.bind_some]
      exact go _ (ht.set List.filter_sublist (List.Sublist.refl _)) (by have := setL_len ht.ok (a := dropL g.tx g.lock t.held) (b := t.waiting) List.filter_sublist (List.Sublist.refl _); omega)
    rw [if_neg h6]
    by_cases h7 : a = 7
    · rw [if_pos h7, lkrelease_eq (by omega) (by omega), if_pos ht.ok]
      simp only [Option.bind_some]
      exact go _ (ht.set List.filter_sublist List.filter_sublist) (by have := setL_len ht.ok (a := freeL g.tx t.held) (b := freeL g.tx t.waiting) List.filter_sublist List.filter_sublist; omega)
    rw [if_neg h7, lkreq_eq (by omega) (by omega), rwaiting_eq (by omega) (by omega)]
    simp only [Option.bind_some]
    have hroom : t.held.length + t.waiting.length < 1024 := by have := hc.at1; omega
    have hok := ht.req hg hroom
    have hmodeq : ∀ t1 : Locks, TabOK t1 → locks_Mode t1 g.tx g.lock = some (modeL t1.held g.tx g.lock) := fun t1 h => by
      have := h.ok.cnt
      rw [lkmode_eq (by omega) (by omega), if_pos h.ok]
    rcases req_cases ht.ok hg hroom with ⟨w, hf, hw, hwt, ⟨hwg, e⟩ | ⟨_, e⟩⟩ | ⟨_, _, ⟨hm, e⟩ | ⟨hm, e⟩⟩
    · rw [e] at hok ⊢
      obtain ⟨k1, k2⟩ := hok rfl
      simp only
      rw [if_neg (by simp)]
      simp only [Option.bind_some, if_true]
      rw [hmodeq t ht]
      have hlt2 := (ht.ok.wg w hw).2
      rw [hwg] at hlt2
      have hd : decide (g.mode ≤ modeL t.held g.tx g.lock) = false := decide_eq_false (by omega)
      simp only [Option.bind_some, hd]
      rw [if_neg (by simp)]
      exact go t ht (by omega)
    · rw [e]
      simp only
      have hwa : (waitA t g.tx).2 = true := by
        unfold waitA
        rw [if_pos ht.ok, hf]
      rw [if_pos (by simp), if_pos trivial, hwa]
      rw [if_neg (by simp)]
      simp only [Option.bind_some]
      rw [if_neg (by decide)]
      exact go t ht (by omega)
    · rw [e] at hok ⊢
      simp only
      rw [if_neg (by simp)]
      simp only [Option.bind_some, if_true]
      rw [hmodeq t ht]
      have hd : decide (g.mode ≤ modeL t.held g.tx g.lock) = true := decide_eq_true hm
      simp only [Option.bind_some, hd]
      rw [if_neg (by simp)]
      exact go t ht (by omega)
    · rw [e] at hok ⊢
      obtain ⟨k1, k2⟩ := hok rfl
      have k1 : TabOK (askL t g) := k1
      have k2 : (askL t g).held.length + (askL t g).waiting.length ≤ t.held.length + t.waiting.length + 1 := k2
      generalize hA : askL t g = A at k1 k2 ⊢
      simp only
      rw [if_neg (by simp)]
      simp only [Option.bind_some, if_true]
      rw [hmodeq A k1]
      simp only [Option.bind_some]
      rw [if_neg (by simp)]
      exact go A k1 (by omega)
theorem law08_LocksPlays_true (codes : List Int) (hw : ∀ x ∈ codes, (Lit.int .u8 x).wf = true) : law08_LocksPlays codes = some true := by
  have hw' : ∀ x ∈ codes, 0 ≤ x ∧ x ≤ 255 := fun x hx => by simpa [Lit.wf, IntKind.min, IntKind.max, IntKind.signed, IntKind.bits] using hw x hx
  obtain ⟨c, ec, hc, h0, hl⟩ := new_codes2 hw' (n := 300) (by decide) (by decide)
  rw [law08_LocksPlays.eq_1, law08_awake_true]
  simp only [Option.bind_some, Bool.not_true, Bool.false_eq_true, if_false, ec]
  rw [play_l1 FU c ⟨[], []⟩ hc tab_nil (by rw [h0]; simp) (by unfold FU; omega) (by omega)]
  rfl
end Rv
