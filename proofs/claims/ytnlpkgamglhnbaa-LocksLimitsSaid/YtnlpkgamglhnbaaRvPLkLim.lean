/- Chapter 8: a table has no more grants than there may be. -/
import Derived.Test.YtnlpkgamglhnbaaRvPLk4
import Derived.Test.YtnlpkgamglhnbaaRvLaw08l
import Derived.KernelRfl
import GoSem.Claim
set_option linter.unusedVariables false
set_option linter.unusedSimpArgs false
namespace Rv
open Go Go.RowKit Go.Proofs

theorem law08_awake_true : law08_awake = some true := by kernel_rfl
def tG (i : Nat) : Grant := ⟨1 + ((i % 2 : Nat) : Int), ⟨((i / 2 / 16 : Nat) : Int), ((i / 2 % 16 : Nat) : Int)⟩, 1⟩
def tT (n : Nat) : List Grant := (List.range n).map tG
theorem tT_len (n : Nat) : (tT n).length = n := by simp [tT]
theorem tT_mem {n : Nat} {g : Grant} : g ∈ tT n ↔ ∃ i, i < n ∧ tG i = g := by simp [tT]
theorem tT_ok {n : Nat} (hn : n ≤ 1024) : LkOK ⟨tT n, []⟩ := by
  refine ⟨by simp [tT_len]; omega, fun g hg => ?_, ?_, fun a ha b hb => ?_, fun g hg => by simp at hg, List.Pairwise.nil⟩
  · obtain ⟨i, hi, rfl⟩ := tT_mem.1 hg
    refine ⟨⟨?_, ?_⟩, ⟨?_, ?_⟩, ⟨?_, ?_⟩, .inl rfl⟩ <;> simp only [tG] <;> omega
  · show AscG (tT n)
    unfold tT AscG
    rw [List.pairwise_map]
    refine List.pairwise_lt_range.imp fun {i j} hij => ?_
    rw [ltG_iff]
    unfold tG
    simp only
    omega
  · obtain ⟨i, _, rfl⟩ := tT_mem.1 ha
    obtain ⟨j, _, rfl⟩ := tT_mem.1 hb
    rw [Bool.eq_false_iff]
    intro hc
    have := (confG_iff.1 hc).2.2
    unfold tG at this
    simp at this
theorem tdiv_nat {i k : Nat} (hi : i ≤ 2000) : IntKind.i64.wrap (Int.tdiv (i : Int) (k : Int)) = ((i / k : Nat) : Int) := by
  rw [← Int.ofNat_tdiv]
  have h := Nat.div_le_self i k
  generalize i / k = q at h ⊢
  exact w64_id (by omega)
theorem tmod_nat {i k : Nat} : Int.tmod (i : Int) (k : Int) = ((i % k : Nat) : Int) := by rw [← Int.ofNat_tmod]
theorem lim_l1 {extra : Int} {n : Nat} (he : w64 (1022 + (Int.tmod (w64 extra) 3)) = (n : Int)) (hn : n ≤ 1024) : ∀ (k i : Nat), i ≤ n → n - i < k → law08_LocksLimits.l1 extra k (i : Int) ⟨tT i, []⟩ = some ⟨tT n, []⟩ := by
  intro k
  induction k with
  | zero => intro i h1 h2; omega
  | succ k ih =>
    intro i h1 h2
    rw [law08_LocksLimits.l1.eq_2, he]
    by_cases hi : i < n
    · have e1 : IntKind.i64.wrap (Int.tdiv (i : Int) 2) = ((i / 2 : Nat) : Int) := tdiv_nat (k := 2) (by omega)
      have e2 : IntKind.i64.wrap (Int.tdiv ((i / 2 : Nat) : Int) 16) = ((i / 2 / 16 : Nat) : Int) := tdiv_nat (k := 16) (by omega)
      have e3 : Int.tmod ((i / 2 : Nat) : Int) 16 = ((i / 2 % 16 : Nat) : Int) := tmod_nat
      have e4 : Int.tmod (i : Int) 2 = ((i % 2 : Nat) : Int) := tmod_nat
      rw [if_pos (by omega), e1, e2, e3, e4, w64_id (x := 1 + ((i % 2 : Nat) : Int)) (by omega), w64_succ (by omega)]
      have hl : (tT i).length = i := tT_len i
      simp only [List.length_cons, List.length_nil]
      rw [if_pos (by omega)]
      have : tT i ++ [(⟨1 + ((i % 2 : Nat) : Int), ⟨((i / 2 / 16 : Nat) : Int), ((i / 2 % 16 : Nat) : Int)⟩, 1⟩ : Grant)] = tT (i + 1) := by
        unfold tT; rw [List.range_succ, List.map_append]; rfl
      rw [this]
      exact ih (i + 1) (by omega) (by omega)
    · have : i = n := by omega
      subst this
      rw [if_neg (by omega)]
theorem law08_LocksLimits_true (extra : Int) (upgrade : Bool) (hx : (Lit.int .u8 extra).wf = true) : law08_LocksLimits extra upgrade = some true := by
  have hx' : 0 ≤ extra ∧ extra ≤ 255 := by simpa [Lit.wf, IntKind.min, IntKind.max, IntKind.signed, IntKind.bits] using hx
  obtain ⟨n, he, hn, hn2⟩ : ∃ n : Nat, w64 (1022 + (Int.tmod (w64 extra) 3)) = (n : Int) ∧ n ≤ 1024 ∧ 1022 ≤ n := by
    refine ⟨1022 + extra.toNat % 3, ?_, by omega, by omega⟩
    rw [w64_id (x := extra) (by omega), Int.tmod_eq_emod_of_nonneg (by omega), w64_id (by omega)]
    omega
  rw [law08_LocksLimits.eq_1, law08_awake_true]
  simp only [Option.bind_some, Bool.not_true, Bool.false_eq_true, if_false]
  have h1 : law08_LocksLimits.l1 extra FU 0 ⟨[], []⟩ = some ⟨tT n, []⟩ := lim_l1 he hn FU 0 (by omega) (by unfold FU; omega)
  rw [h1, he]
  simp only [Option.bind_some]
  have hok := tT_ok hn
  have hlen : (tT n).length = n := tT_len n
  have hm : (tT n).length ≤ 1000000 := by omega
  have hreq : ∀ g : Grant, grOK g → modeL (tT n) g.tx g.lock < g.mode → reqL ⟨tT n, []⟩ g = if n = 1024 then (⟨[], []⟩, false, 21) else (askL ⟨tT n, []⟩ g, decide (g.mode ≤ modeL (askL ⟨tT n, []⟩ g).held g.tx g.lock), 0) := fun g hg hmo => by
    unfold reqL
    rw [if_neg (by simpa using hok), if_neg (by simpa using hg)]
    simp only [List.find?_nil, List.length_nil, hlen, Nat.add_zero]
    rw [if_neg (by omega)]
  have hask : ∀ g : Grant, askL ⟨tT n, []⟩ g = ⟨(sett (tT n) [] [g]).1, (sett (tT n) [] [g]).2⟩ := fun g => by
    have h0 : placeL ⟨tT n, []⟩ g = 0 := by have := placeL_le ⟨tT n, []⟩ g; simpa using this
    show (⟨(sett (tT n) [] (insL [] (placeL ⟨tT n, []⟩ g) g)).1, _⟩ : Locks) = _
    rw [h0]; rfl
  have hval : ∀ g : Grant, grOK g → modeL (tT n) g.tx g.lock < g.mode → ¬ n = 1024 → locks_Valid (askL ⟨tT n, []⟩ g) = some true := fun g hg hmo hne => by
    have h2 := hok.asked hg (by simp) hmo (by simp only [List.length_nil, hlen]; omega)
    exact lkvalid_true h2.1
  cases upgrade with
  | false =>
    have hg : grOK ⟨3, ⟨0, 0⟩, 1⟩ := by unfold grOK; decide
    have hmo : modeL (tT n) 3 ⟨0, 0⟩ = 0 := modeL_none fun x hx hc => by
      obtain ⟨i, _, rfl⟩ := tT_mem.1 hx
      have := hc.1
      unfold tG at this
      simp only at this
      omega
    rw [if_neg (by simp)]
    simp only [Option.bind_some]
    rw [lkreq_eq (t := ⟨tT n, []⟩) hm (by simp), hreq _ hg (by rw [hmo]; decide)]
    simp only [Option.bind_some]
    by_cases hne : n = 1024
    · rw [if_pos hne]; simp [hne]
    · have hb : blkG (tT n) [] ⟨3, ⟨0, 0⟩, 1⟩ = false := by
        unfold blkG
        simp only [List.any_nil, Bool.or_false]
        apply List.any_eq_false.2
        intro x hx hc
        obtain ⟨i, _, rfl⟩ := tT_mem.1 hx
        have := (confG_iff.1 hc).2.2
        unfold tG at this
        simp at this
      have hst : sett (tT n) [] [⟨3, ⟨0, 0⟩, 1⟩] = (holdL (tT n) ⟨3, ⟨0, 0⟩, 1⟩, []) := by
        rw [sett, if_neg (by simp [hb])]; rfl
      have hmode : modeL (askL ⟨tT n, []⟩ ⟨3, ⟨0, 0⟩, 1⟩).held 3 ⟨0, 0⟩ = 1 := by
        rw [hask, hst]
        exact modeL_hold_self hok.asc ⟨3, ⟨0, 0⟩, 1⟩
      have hv := hval ⟨3, ⟨0, 0⟩, 1⟩ hg (by rw [hmo]; decide) hne
      have hd : decide ((1 : Int) ≤ 1) = true := by decide
      rw [if_neg hne, hmode, hd]
      simp only [if_true, Option.bind_some]
      rw [if_neg (show ¬ ((n : Int) = 1024) by omega)]
      simp [hv]
  | true =>
    have hg : grOK ⟨1, ⟨0, 0⟩, 2⟩ := by unfold grOK; decide
    have hmo : modeL (tT n) 1 ⟨0, 0⟩ = 1 := modeL_some hok.asc (x := tG 0) (tT_mem.2 ⟨0, by omega, rfl⟩) rfl rfl
    rw [if_pos rfl]
    simp only [Option.bind_some]
    rw [lkreq_eq (t := ⟨tT n, []⟩) hm (by simp), hreq _ hg (by rw [hmo]; decide)]
    simp only [Option.bind_some]
    by_cases hne : n = 1024
    · rw [if_pos hne]; simp [hne]
    · have hb : blkG (tT n) [] ⟨1, ⟨0, 0⟩, 2⟩ = true := by
        unfold blkG
        rw [Bool.or_eq_true]
        exact .inl (List.any_eq_true.2 ⟨tG 1, tT_mem.2 ⟨1, by omega, rfl⟩, by decide⟩)
      have hst : sett (tT n) [] [⟨1, ⟨0, 0⟩, 2⟩] = (tT n, [⟨1, ⟨0, 0⟩, 2⟩]) := by
        rw [sett, if_pos hb]; rfl
      have hmode : modeL (askL ⟨tT n, []⟩ ⟨1, ⟨0, 0⟩, 2⟩).held 1 ⟨0, 0⟩ = 1 := by
        rw [hask, hst]; exact hmo
      have hv := hval ⟨1, ⟨0, 0⟩, 2⟩ hg (by rw [hmo]; decide) hne
      have hd : decide ((2 : Int) ≤ 1) = false := by decide
      rw [if_neg hne, hmode, hd]
      simp only [Bool.false_eq_true, if_false, Option.bind_some]
      rw [if_neg (show ¬ ((n : Int) = 1024) by omega)]
      simp [hv]
end Rv
