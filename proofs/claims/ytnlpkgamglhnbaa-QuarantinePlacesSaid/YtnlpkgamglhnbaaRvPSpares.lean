/- Chapter 35: the spares are used up one by one. -/
import Derived.Test.YtnlpkgamglhnbaaRvPq3
import Derived.Test.YtnlpkgamglhnbaaRvLaw35
import Derived.KernelRfl
import GoSem.Claim
set_option linter.unusedVariables false
set_option linter.unusedSimpArgs false
namespace Rv
open Go Go.RowKit Go.Proofs

theorem law35_awake_true : law35_awake = some true := by kernel_rfl
abbrev rgI (k : Nat) : List Int := (List.range k).map fun i : Nat => (i : Int)
def stS (n s : Int) (k : Nat) : Remap := ⟨n, s, (List.range k).map fun i : Nat => ⟨(i : Int), n + (i : Int)⟩, rgI k⟩
theorem rgI_get {k j : Nat} (h : j < k) : (rgI k).getD j 0 = (j : Int) := by simp [List.getD, h]
theorem rgI_len (k : Nat) : (rgI k).length = k := by simp
theorem rgI_asc (k : Nat) : Asc (rgI k) := fun i j hij hj => by
  rw [rgI_len] at hj
  rw [rgI_get (by omega), rgI_get hj]; omega
theorem rgI_mem {k : Nat} {x : Int} : x ∈ rgI k ↔ 0 ≤ x ∧ x < k := by
  simp only [List.mem_map, List.mem_range]
  constructor
  · rintro ⟨i, hi, rfl⟩; omega
  · rintro ⟨h0, h1⟩; exact ⟨x.toNat, by omega, by omega⟩
theorem lbd_all {l : List Int} (ha : Asc l) {x : Int} (h : ∀ j, j < l.length → l.getD j 0 < x) : lbd l x = l.length := by
  have h1 := lbd_le l x
  rcases Nat.lt_or_ge (lbd l x) l.length with h2 | h2
  · have := (lbd_iff ha h2).1 (h _ h2); omega
  · omega
theorem rgI_lbd {k : Nat} {x : Int} (h : (k : Int) ≤ x) : lbd (rgI k) x = k := by
  rw [lbd_all (rgI_asc k) (fun j hj => by rw [rgI_len] at hj; rw [rgI_get hj]; omega), rgI_len]
theorem rgI_succ (k : Nat) : rgI (k + 1) = rgI k ++ [(k : Int)] := by simp [rgI, List.range_succ]
theorem stS_pgs (n s : Int) (k : Nat) : pgl (stS n s k).places = rgI k := by
  simp [pgl, stS, List.map_map, Function.comp_def]
theorem stS_pl_len (n s : Int) (k : Nat) : (stS n s k).places.length = k := by simp [stS]
theorem stS_pl {n s : Int} {k j : Nat} (h : j < k) : ((stS n s k).places.map pp2).getD j (0, 0) = ((j : Int), n + (j : Int)) := by
  simp [stS, List.getD, h]
theorem insL_end {α : Type} (l : List α) (x : α) : insL l l.length x = l ++ [x] := by simp [insL]
theorem cnt_all {l : List Int} {n : Int} (h : ∀ x ∈ l, x < n) : cntL l n = l.length := by
  unfold cntL
  rw [List.filter_eq_self.2 (fun x hx => decide_eq_true (h x hx))]
theorem stS_ok {n s : Int} {k : Nat} (hn : 1 ≤ n ∧ n ≤ 30) (hs : 0 ≤ s ∧ s ≤ 16) (h1 : (k : Int) ≤ n) (h2 : (k : Int) ≤ s) : RmOK (rm (stS n s k)) := by
  have hl : (rm (stS n s k)).pl.length = k := by simp [stS]
  have hg : ∀ j, j < k → (rm (stS n s k)).pl.getD j (0, 0) = ((j : Int), n + (j : Int)) := fun j hj => stS_pl hj
  refine ⟨⟨hn.1, by show n ≤ 64; omega, hs.1, hs.2, by show n + s ≤ 64; omega⟩, fun j hj => ?_, rgI_asc k, fun j hj => ?_, fun i j hij hj => ?_, fun i j hij hj => ?_, ?_⟩
  · have hj : j < k := by simpa [stS] using hj
    show 0 ≤ (rgI k).getD j 0 ∧ (rgI k).getD j 0 < n + s
    rw [rgI_get hj]; omega
  · rw [hl] at hj
    unfold pg ad
    rw [hg j hj]
    show 0 ≤ (j : Int) ∧ (j : Int) < n ∧ (j : Int) ∈ rgI k ∧ n ≤ n + (j : Int) ∧ n + (j : Int) < n + s ∧ n + (j : Int) ∉ rgI k
    rw [rgI_mem, rgI_mem]; omega
  · rw [hl] at hj
    unfold pg
    rw [hg i (by omega), hg j hj]
    show (i : Int) < (j : Int)
    omega
  · rw [hl] at hj
    unfold ad
    rw [hg i (by omega), hg j hj]
    show n + (i : Int) ≠ n + (j : Int)
    omega
  · show cntL (rgI k) n = _
    rw [hl, cnt_all (fun x hx => by have := rgI_mem.1 hx; omega), rgI_len]
theorem stS_ads {n s : Int} {k : Nat} {x : Int} : x ∈ ads (rm (stS n s k)) ↔ n ≤ x ∧ x < n + k := by
  simp only [ads, stS, List.map_map, List.mem_map, List.mem_range, Function.comp_def]
  constructor
  · rintro ⟨i, hi, rfl⟩; omega
  · rintro ⟨h0, h1⟩; exact ⟨(x - n).toNat, by omega, by omega⟩
theorem stS_free {n s : Int} {k : Nat} (h1 : (k : Int) ≤ n) : ∀ m : Nat, (m ≤ k → freeN (rm (stS n s k)) m = []) ∧ (k < m → ∃ t, freeN (rm (stS n s k)) m = (n + k) :: t ∧ t.length = m - k - 1) := by
  intro m
  induction m with
  | zero => exact ⟨fun _ => rfl, fun h => by omega⟩
  | succ m ih =>
    have hb : (rm (stS n s k)).pages + (m : Int) ∉ (rm (stS n s k)).bad := fun h => by
      have := rgI_mem.1 (show n + (m : Int) ∈ rgI k from h); omega
    have ha : (rm (stS n s k)).pages + (m : Int) ∈ ads (rm (stS n s k)) ↔ m < k := by
      rw [stS_ads]; show n ≤ n + (m : Int) ∧ n + (m : Int) < n + k ↔ _; omega
    refine ⟨fun h => ?_, fun h => ?_⟩
    · simp only [freeN]
      rw [ih.1 (by omega), if_neg (fun h2 => h2.1 (ha.2 (by omega)))]
      rfl
    · simp only [freeN]
      rw [if_pos ⟨fun h2 => by have := ha.1 h2; omega, hb⟩]
      by_cases e : m = k
      · subst e
        rw [ih.1 (Nat.le_refl _)]
        exact ⟨[], rfl, by simp⟩
      · obtain ⟨t, e1, e2⟩ := ih.2 (by omega)
        rw [e1]
        exact ⟨t ++ [(rm (stS n s k)).pages + (m : Int)], rfl, by simp; omega⟩
theorem stS_freeQ {n s : Int} {k : Nat} (h1 : (k : Int) ≤ n) (h0 : 0 ≤ s) : ((k : Int) = s → freeQ (rm (stS n s k)) = []) ∧ ((k : Int) < s → ∃ t, freeQ (rm (stS n s k)) = (n + k) :: t ∧ t.length = s.toNat - k - 1) := by
  have := stS_free (s := s) h1 s.toNat
  exact ⟨fun h => this.1 (by omega), fun h => this.2 (by omega)⟩
theorem stS_where {n s : Int} {k : Nat} (hn : 1 ≤ n ∧ n ≤ 30) (hs : 0 ≤ s ∧ s ≤ 16) (h1 : (k : Int) ≤ n) (h2 : (k : Int) ≤ s) {id : Int} (h3 : (k : Int) ≤ id) (h4 : id < n) : quarantine_Where (stS n s k) id = some (id, 0) := by
  rw [where_eq (by simp [stS]; omega) (by simp [stS]; omega), whereQ_own (stS_ok hn hs h1 h2) (by show ¬ (id < 0 ∨ n ≤ id); omega)]
  show id ∉ pgl (stS n s k).places
  rw [stS_pgs, rgI_mem]; omega
theorem stS_owner {n s : Int} {k : Nat} (hn : 1 ≤ n ∧ n ≤ 30) (hs : 0 ≤ s ∧ s ≤ 16) (h1 : (k : Int) ≤ n) (h2 : (k : Int) ≤ s) {id : Int} (h3 : (k : Int) ≤ id) (h4 : id < n) : ownerQ (rm (stS n s k)) id = (id, true) :=
  ownerQ_own (stS_ok hn hs h1 h2) (by omega) (fun h => by have := rgI_mem.1 (show id ∈ rgI k from h); omega) h4
theorem stS_bad {n s : Int} {k : Nat} {id : Int} (h3 : (k : Int) ≤ id) : id ∉ (stS n s k).bad := fun h => by have := rgI_mem.1 (show id ∈ rgI k from h); omega
theorem stS_full {n s : Int} {k : Nat} (hn : 1 ≤ n ∧ n ≤ 30) (hs : 0 ≤ s ∧ s ≤ 16) (h1 : (k : Int) ≤ n) (h2 : (k : Int) = s) {id : Int} (h3 : (k : Int) ≤ id) (h4 : id < n) : quarantine_Mark (stS n s k) id = some (rz, 0, 47) := by
  rw [mark_eq (by simp [stS]; omega) (by simp [stS]; omega)]
  unfold markR
  rw [if_neg (fun h => h (stS_ok hn hs h1 (by omega))), if_neg (by show ¬ (id < 0 ∨ n + s ≤ id); omega), if_neg (stS_bad h3), stS_owner hn hs h1 (by omega) h3 h4, if_neg (by simp), (stS_freeQ h1 hs.1).1 h2, if_pos List.length_nil]
theorem stS_mark {n s : Int} {k : Nat} (hn : 1 ≤ n ∧ n ≤ 30) (hs : 0 ≤ s ∧ s ≤ 16) (h1 : (k : Int) < n) (h2 : (k : Int) < s) : quarantine_Mark (stS n s k) k = some (stS n s (k + 1), (k : Int), 0) := by
  rw [mark_eq (by simp [stS]; omega) (by simp [stS]; omega)]
  unfold markR
  obtain ⟨t, e1, e2⟩ := (stS_freeQ (s := s) (k := k) (n := n) (by omega) hs.1).2 h2
  rw [if_neg (fun h => h (stS_ok hn hs (by omega) (by omega))), if_neg (by show ¬ ((k : Int) < 0 ∨ n + s ≤ (k : Int)); omega), if_neg (stS_bad (Int.le_refl _)), stS_owner hn hs (by omega) (by omega) (Int.le_refl _) h1, if_neg (by simp), e1, if_neg (by simp)]
  have hb : insL (stS n s k).bad (lbd (stS n s k).bad (k : Int)) (k : Int) = rgI (k + 1) := by
    show insL (rgI k) (lbd (rgI k) (k : Int)) (k : Int) = _
    rw [rgI_lbd (Int.le_refl _), rgI_succ]
    have := insL_end (rgI k) (k : Int)
    rwa [rgI_len] at this
  have hp : plInP (stS n s k).places (k : Int) (n + k) = (stS n s (k + 1)).places := by
    unfold plInP
    rw [stS_pgs, if_neg (by rw [rgI_mem]; omega), rgI_lbd (Int.le_refl _)]
    have := insL_end (stS n s k).places ⟨(k : Int), n + k⟩
    rw [stS_pl_len] at this
    rw [this]
    simp [stS, List.range_succ]
  simp only [List.getD_cons_zero, hb, hp]
  rfl
theorem spares_l1 {p s n m : Int} (hN : w64 (1 + Int.tmod (w64 p) 30) = n) (hS : Int.tmod (w64 s) 17 = m) (hn : 1 ≤ n ∧ n ≤ 30) (hm : 0 ≤ m ∧ m ≤ 16) : ∀ (f : Nat) (k : Nat) (id : Int), (k : Int) ≤ n → (k : Int) ≤ m → (k : Int) ≤ id → id ≤ n → ((k : Int) < m → (k : Int) = id) → n - id < f →
    law35_QuarantineSpares.l1 p s f k id (stS n m k) = some (.inl (min n m, stS n m (min n m).toNat)) := by
  intro f
  induction f with
  | zero => intro k id h1 h2 h3 h4 h5 h6; omega
  | succ f ih =>
    intro k id h1 h2 h3 h4 h5 h6
    rw [law35_QuarantineSpares.l1_s, hN, hS]
    by_cases hi : id < n
    · rw [if_pos hi, stS_where hn hm h1 h2 h3 hi]
      simp only [Option.bind_some]
      by_cases hk : (k : Int) < m
      · have := h5 hk
        subst this
        rw [stS_mark hn hm hi hk]
        simp only [Option.bind_some]
        rw [if_pos trivial, if_pos trivial, w64_id (by omega)]
        have := ih (k + 1) (k + 1) (by omega) (by omega) (by omega) (by omega) (fun _ => rfl) (by omega)
        simpa using this
      · rw [stS_full hn hm h1 (by omega) h3 hi]
        simp only [Option.bind_some]
        rw [if_neg (by decide), if_neg (by decide), if_neg (by omega), w64_id (by omega)]
        exact ih k _ h1 h2 (by omega) (by omega) (fun h => absurd h hk) (by omega)
    · rw [if_neg hi]
      have : (k : Int) = min n m := by omega
      rw [← this, Int.toNat_natCast]
theorem law35_QuarantineSpares_true (p s : Int) (hp : (Lit.int .u8 p).wf = true) (hs : (Lit.int .u8 s).wf = true) : law35_QuarantineSpares p s = some true := by
  have hp' : 0 ≤ p ∧ p ≤ 255 := by simpa [Lit.wf, IntKind.min, IntKind.max, IntKind.signed, IntKind.bits] using hp
  have hs' : 0 ≤ s ∧ s ≤ 255 := by simpa [Lit.wf, IntKind.min, IntKind.max, IntKind.signed, IntKind.bits] using hs
  have hS : Int.tmod (w64 s) 17 = s % 17 := by rw [w64_id (by omega), Int.tmod_eq_emod_of_nonneg (by omega)]
  have hN : w64 (1 + Int.tmod (w64 p) 30) = 1 + p % 30 := by rw [w64_id (x := p) (by omega), Int.tmod_eq_emod_of_nonneg (by omega), w64_id (by omega)]
  have hn : 1 ≤ 1 + p % 30 ∧ 1 + p % 30 ≤ 30 := by omega
  have hm : 0 ≤ s % 17 ∧ s % 17 ≤ 16 := by omega
  rw [law35_QuarantineSpares.eq, law35_awake_true]
  simp only [Option.bind_some, Bool.not_true, Bool.false_eq_true, if_false, hN, hS]
  generalize hgn : 1 + p % 30 = n at *
  generalize hgm : s % 17 = m at *
  rw [new_eq (by omega)]
  simp only [Option.bind_some]
  have h0 := spares_l1 hN hS hn hm FU 0 0 (by omega) (by omega) (by omega) (by omega) (fun _ => rfl) (by unfold FU; omega)
  have h1 : law35_QuarantineSpares.l1 p s FU 0 0 ⟨n, m, [], []⟩ = _ := h0
  rw [h1]
  simp only [Option.bind_some, if_true]
  have h2 : min n m = if m < n then m else n := by split <;> omega
  rw [if_pos h2, left_eq (by simp [stS]; omega) (by simp [stS]; omega), if_pos (stS_ok hn hm (by omega) (by omega))]
  have k0 : (((min n m).toNat : Nat) : Int) = min n m := by omega
  have k1 : (((min n m).toNat : Nat) : Int) ≤ n := by omega
  have k2 : min n m ≤ m := by omega
  have k3 : 0 ≤ min n m := by omega
  simp only [Option.bind_some]
  rw [w64_id (by omega)]
  congr 1
  rw [decide_eq_true_iff]
  clear h0 h1 h2 hN hS
  generalize (min n m).toNat = k at *
  generalize min n m = j at *
  rcases Int.lt_or_le j m with hlt | hge
  · have hk : (k : Int) < m := by omega
    obtain ⟨t, e1, e2⟩ := (stS_freeQ (n := n) (s := m) (k := k) k1 hm.1).2 hk
    rw [e1, List.length_cons, e2]; omega
  · have hk : (k : Int) = m := by omega
    rw [(stS_freeQ (n := n) (s := m) (k := k) k1 hm.1).1 hk, List.length_nil]; omega
end Rv
