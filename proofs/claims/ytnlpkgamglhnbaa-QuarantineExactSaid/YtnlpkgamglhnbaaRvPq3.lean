/- Chapter 35: Mark and New. -/
import Derived.Test.YtnlpkgamglhnbaaRvPq2
set_option linter.unusedVariables false
set_option linter.unusedSimpArgs false
namespace Rv
open Go Go.RowKit Go.Proofs

abbrev rz : Remap := ⟨0, 0, [], []⟩
def plInP (l : List Place) (p a : Int) : List Place := if p ∈ pgl l then l.set (lbd (pgl l) p) ⟨p, a⟩ else insL l (lbd (pgl l) p) ⟨p, a⟩
noncomputable def markR (r : Remap) (a : Int) : Remap × Int × Int :=
  if ¬ RmOK (rm r) then (rz, 0, 48) else if a < 0 ∨ r.pages + r.spares ≤ a then (rz, 0, 1) else if a ∈ r.bad then (r, -1, 0)
  else if (ownerQ (rm r) a).2 = false then (⟨r.pages, r.spares, r.places, insL r.bad (lbd r.bad a) a⟩, -1, 0)
  else if (freeQ (rm r)).length = 0 then (rz, 0, 47)
  else (⟨r.pages, r.spares, plInP r.places (ownerQ (rm r) a).1 ((freeQ (rm r)).getD 0 0), insL r.bad (lbd r.bad a) a⟩, (ownerQ (rm r) a).1, 0)
theorem ownerQ_rng {r : Rm} {a : Int} (hk : RmOK r) (h : (ownerQ r a).2 = true) : 0 ≤ (ownerQ r a).1 ∧ (ownerQ r a).1 < r.pages := by
  unfold ownerQ at h ⊢
  split at h
  · cases h
  · rename_i h0
    rw [if_neg h0]
    split at h
    · rename_i h1
      rw [if_pos h1]
      have h2 : ¬ a < 0 := fun e => h0 (.inr (.inl e))
      exact ⟨by omega, h1⟩
    · rename_i h1
      rw [if_neg h1]
      split at h
      · rename_i h2
        rw [if_pos h2]
        have := hk.pp _ h2
        exact ⟨this.1, this.2.1⟩
      · cases h
theorem mark_eq {r : Remap} (hn : r.bad.length ≤ 1000000) (hm : r.places.length ≤ 1000000) (a : Int) : quarantine_Mark r a = some (markR r a) := by
  rw [quarantine_Mark.eq, valid_eq hn hm]
  simp only [Option.bind_some]
  unfold markR
  by_cases hk : RmOK (rm r)
  · have hr := hk.rng
    simp only at hr
    simp only [hk, decide_true, Bool.not_true, Bool.false_eq_true, if_false, not_true_eq_false]
    rw [w64_id (x := r.pages + r.spares) (by omega)]
    by_cases c1 : a < 0
    · rw [if_pos c1, if_pos (.inl c1)]
    rw [if_neg c1]
    by_cases c2 : r.pages + r.spares ≤ a
    · rw [if_pos c2, if_pos (.inr c2)]
    rw [if_neg c2, if_neg (by omega : ¬ (a < 0 ∨ r.pages + r.spares ≤ a)), bad_eq hk.as hn]
    simp only [Option.bind_some, decide_eq_true_eq]
    by_cases c3 : a ∈ r.bad
    · rw [if_pos c3, if_pos c3]
    rw [if_neg c3, if_neg c3, owner_eq hn hm, bs_eq hk.as hn]
    simp only [Option.bind_some]
    have hlb := lbd_le r.bad a
    rw [if_pos (by omega), if_pos (by omega)]
    by_cases c4 : (ownerQ (rm r) a).2 = false
    · rw [if_pos (by rw [c4]; rfl), if_pos c4, Int.toNat_natCast]
    have c4' : (ownerQ (rm r) a).2 = true := by simpa using c4
    rw [if_neg (by rw [c4']; decide), if_neg c4, free_eq hk hn hm]
    simp only [Option.bind_some]
    by_cases c5 : (freeQ (rm r)).length = 0
    · rw [if_pos (by omega), if_pos c5]
    have ho := ownerQ_rng hk c4'
    simp only at ho
    rw [if_neg (by omega), if_neg c5, place_eq hk hm ho.1 ho.2]
    simp only [Option.bind_some]
    rw [if_pos (by omega)]
    have hlp := lbd_le (pgs (rm r)) (ownerQ (rm r) a).1
    have hln : (pgs (rm r)).length = r.places.length := by simp
    rw [hln] at hlp
    simp only [Int.toNat_natCast]
    by_cases c6 : (ownerQ (rm r) a).1 ∈ pgs (rm r)
    · have h1 := ((lbd_mem (pgs_asc hk)).1 c6).1
      rw [hln] at h1
      simp only [c6, decide_true, Bool.not_true, Bool.false_eq_true, if_false, Option.bind_some]
      rw [if_pos (by omega), if_pos (by omega), if_pos (by omega), if_pos (by omega)]
      unfold plInP
      rw [if_pos c6]
      rfl
    · simp only [c6, decide_false, Bool.not_false, if_true]
      rw [if_pos (by omega)]
      simp only [Option.bind_some]
      have hil := insL_len hlp (⟨0, 0⟩ : Place)
      rw [if_pos (by rw [hil]; omega), if_pos (by omega), if_pos (by rw [hil]; omega), if_pos (by rw [hil]; omega), insL_set hlp]
      unfold plInP
      rw [if_neg c6]
      rfl
  · simp only [hk, decide_false, Bool.not_false, if_true, not_false_eq_true]
theorem rm0_ok {p s : Int} (h : 1 ≤ p ∧ p ≤ 64 ∧ 0 ≤ s ∧ s ≤ 16 ∧ p + s ≤ 64) : RmOK (rm ⟨p, s, [], []⟩) :=
  ⟨h, fun k hk => absurd hk (by simp), fun i j _ hj => absurd hj (by simp), fun k hk => absurd hk (by simp), fun i j _ hj => absurd hj (by simp), fun i j _ hj => absurd hj (by simp), rfl⟩
theorem new_eq {p s : Int} (h : 1 ≤ p ∧ p ≤ 64 ∧ 0 ≤ s ∧ s ≤ 16 ∧ p + s ≤ 64) : quarantine_New p s = some (⟨p, s, [], []⟩, 0) := by
  rw [quarantine_New.eq, valid_eq (by simp) (by simp)]
  simp only [Option.bind_some, rm0_ok h, decide_true, Bool.not_true, Bool.false_eq_true, if_false]
end Rv
