/- Chapter 8: what the program's plain functions answer. -/
import Derived.Test.YtnlpkgamglhnbaaRvLk
import Derived.Test.YtnlpkgamglhnbaaRvLck3
set_option linter.unusedVariables false
set_option linter.unusedSimpArgs false
namespace Rv
open Go Go.RowKit Go.Proofs

/-! ### loops -/
theorem loopF {α β : Type} {L : Nat → Int → Option (Sum α β)} {n : Nat} (C : Nat → Prop) (f : Nat → β) (a : α)
    (st : ∀ (k i : Nat), i < n → (C i ∧ L (k + 1) (i : Int) = some (.inr (f i))) ∨ (¬ C i ∧ L (k + 1) (i : Int) = L k ((i + 1 : Nat) : Int)))
    (fin : ∀ k, L (k + 1) (n : Int) = some (.inl a)) : ∀ (k i : Nat), i ≤ n → n - i < k →
    (∃ j, i ≤ j ∧ j < n ∧ C j ∧ (∀ j', i ≤ j' → j' < j → ¬ C j') ∧ L k (i : Int) = some (.inr (f j))) ∨ ((∀ j, i ≤ j → j < n → ¬ C j) ∧ L k (i : Int) = some (.inl a)) := by
  intro k
  induction k with
  | zero => intro i _ h; omega
  | succ k ih =>
    intro i hi hk
    by_cases e : i = n
    · subst e
      exact .inr ⟨fun j h1 h2 => by omega, fin k⟩
    · rcases st k i (by omega) with ⟨hc, he⟩ | ⟨hc, he⟩
      · exact .inl ⟨i, Nat.le_refl _, by omega, hc, fun j' h1 h2 => by omega, he⟩
      · rw [he]
        rcases ih (i + 1) (by omega) (by omega) with ⟨j, h1, h2, h3, h4, h5⟩ | ⟨h1, h2⟩
        · refine .inl ⟨j, by omega, h2, h3, fun j' q1 q2 => ?_, h5⟩
          by_cases e : j' = i
          · subst e; exact hc
          · exact h4 j' (by omega) q2
        · refine .inr ⟨fun j q1 q2 => ?_, h2⟩
          by_cases e : j = i
          · subst e; exact hc
          · exact h1 j (by omega) q2
theorem FU_lt {n : Nat} (h : n ≤ 1000000) (i : Nat) : n - i < FU := by unfold FU; omega
theorem w64_succ {i : Nat} (h : i ≤ 10000000) : w64 ((i : Int) + 1) = ((i + 1 : Nat) : Int) := by rw [w64_id (by omega)]; rfl
theorem w64_pred {i : Nat} (h : 0 < i) (h' : i ≤ 10000000) : w64 ((i : Int) - 1) = ((i - 1 : Nat) : Int) := by rw [w64_id (by omega)]; omega
theorem gd_nat {α : Type} [Inhabited α] {l : List α} {i : Nat} (h : i < l.length) : gd l (i : Int) = l[i] := by simp [gd, List.getD, h]
theorem inr_nat {i n : Nat} (h : i < n) : (0 : Int) ≤ (i : Int) ∧ (i : Int) < (n : Int) := by omega

/-! ### single grants -/
theorem cmp_eq (x y : Int) : cmp_Compare x y = some (if x < y then -1 else if y < x then 1 else 0) := by
  unfold cmp_Compare cmp_isNaN
  simp
  (repeat' split) <;> rfl
theorem or3_eq (x y z : Int) : cmp_Or [x, y, z] = some (if x ≠ 0 then x else if y ≠ 0 then y else z) := by
  rw [cmp_Or.eq_1, show FU = 18446744073709551612 + 1 + 1 + 1 + 1 from rfl]
  have e1 : w64 (0 + 1) = 1 := by decide
  have e2 : w64 (1 + 1) = 2 := by decide
  have e3 : w64 (2 + 1) = 3 := by decide
  have g0 : gd [x, y, z] 0 = x := rfl
  have g1 : gd [x, y, z] 1 = y := rfl
  have g2 : gd [x, y, z] 2 = z := rfl
  have hl : (([x, y, z] : List Int).length : Int) = 3 := rfl
  rw [cmp_Or.l1.eq_2, hl, if_pos (by decide), if_pos (by decide), g0, e1]
  by_cases hx : x ≠ 0
  · rw [if_pos hx, if_pos hx]; rfl
  rw [if_neg hx, if_neg hx, cmp_Or.l1.eq_2, hl, if_pos (by decide), if_pos (by decide), g1, e2]
  by_cases hy : y ≠ 0
  · rw [if_pos hy, if_pos hy]; rfl
  rw [if_neg hy, if_neg hy, cmp_Or.l1.eq_2, hl, if_pos (by decide), if_pos (by decide), g2, e3]
  by_cases hz : z ≠ 0
  · rw [if_pos hz]; rfl
  rw [if_neg hz, cmp_Or.l1.eq_2, hl, if_neg (by decide)]
  have : z = 0 := by simpa using hz
  rw [this]; rfl
theorem order_eq (a b : Grant) : ∃ v, locks_order a b = some v ∧ (v < 0 ↔ ltG a b = true) ∧ (v = 0 ↔ keyG a b = true) ∧ (0 ≤ v ↔ ¬ ltG a b = true) := by
  rw [locks_order.eq_1, cmp_eq, cmp_eq, cmp_eq]
  simp only [Option.bind_some, or3_eq]
  refine ⟨_, rfl, ?_⟩
  rw [ltG_iff, keyG_iff]
  (repeat' split) <;> refine ⟨?_, ?_, ?_⟩ <;> omega
instance (g : Grant) : Decidable (grOK g) := by unfold grOK; exact inferInstance
theorem valid1_eq (g : Grant) : locks_valid1 g = some (decide (grOK g)) := by
  rw [locks_valid1.eq_1]
  (repeat' split) <;> congr 1 <;> (first | (symm; rw [decide_eq_true_iff]; unfold grOK; omega) | (symm; rw [decide_eq_false_iff_not]; unfold grOK; omega) | (apply decide_eq_decide.2; unfold grOK; omega))
theorem conflict_eq (a b : Grant) : locks_conflict a b = some (confG a b) := by
  rw [locks_conflict.eq_1]
  unfold confG
  (repeat' split) <;> congr 1 <;> simp_all

/-! ### the search -/
theorem halfL {i j : Int} (h0 : 0 ≤ i + j) (h1 : i + j ≤ 4000000000) : (w64 (Int.fdiv (IntKind.u64.wrap (w64 (i + j))) (2 ^ (min (Int.toNat 1) (IntKind.bits .u64))))) = (i + j) / 2 := by
  have e1 : (2 : Int) ^ (min (Int.toNat 1) (IntKind.bits .u64)) = 2 := by decide
  rw [e1, w64_id (x := i + j) (by omega), wrapu64_id h0 (by omega), Int.fdiv_eq_ediv_of_nonneg _ (by omega), w64_id (by omega)]
theorem bsg1 {l : List Grant} (ha : AscG l) (hn : l.length ≤ 1000000) (x : Grant) : ∀ (k : Nat) (i j : Int), 0 ≤ i → i ≤ lbG l x → (lbG l x : Int) ≤ j → j ≤ l.length → j - i < k → BinarySearchFuncG.l1 l x k i j = some (lbG l x : Int) := by
  intro k
  induction k with
  | zero => intro i j h0 h1 h2 h3 h4; omega
  | succ k ih =>
    intro i j h0 h1 h2 h3 h4
    rw [BinarySearchFuncG.l1.eq_2]
    by_cases hij : i < j
    · rw [if_pos hij]
      simp only [halfL (i := i) (j := j) (by omega) (by omega)]
      rw [if_pos (by omega)]
      obtain ⟨v, hv, h5, _, _⟩ := order_eq (gd l ((i + j) / 2)) x
      show ((locks_order (gd l ((i + j) / 2)) x).bind _) = _
      rw [hv]
      simp only [Option.bind_some]
      have hlt : ((i + j) / 2).toNat < l.length := by omega
      have hiff := lbG_iff ha (g := x) (List.getElem?_eq_getElem hlt)
      have hg : gd l ((i + j) / 2) = l[((i + j) / 2).toNat] := by simp [gd, List.getD, hlt]
      rw [hg] at h5
      by_cases hc : v < 0
      · rw [if_pos hc, w64_id (by omega)]
        have := hiff.1 (h5.1 hc)
        exact ih _ _ (by omega) (by omega) h2 h3 (by omega)
      · rw [if_neg hc]
        have : ¬ ((i + j) / 2).toNat < lbG l x := fun h => hc (h5.2 (hiff.2 h))
        exact ih _ _ h0 h1 (by omega) (by omega) (by omega)
    · rw [if_neg hij]
      congr 1; omega
theorem bsg_eq {l : List Grant} (ha : AscG l) (hn : l.length ≤ 1000000) (x : Grant) : BinarySearchFuncG l x = some ((lbG l x : Int), decide (∃ y ∈ l, keyG y x = true)) := by
  have hlb := lbG_le l x
  rw [BinarySearchFuncG.eq_1, bsg1 ha hn x FU 0 _ (by omega) (by omega) (by omega) (by omega) (by unfold FU; omega)]
  simp only [Option.bind_some]
  by_cases h : (lbG l x : Int) < l.length
  · have h' : lbG l x < l.length := by omega
    rw [if_pos h, if_pos (by omega), gd_nat h']
    obtain ⟨v, hv, _, h6, _⟩ := order_eq l[lbG l x] x
    rw [hv]
    simp only [Option.bind_some]
    congr 2
    apply decide_eq_decide.2
    rw [h6]
    constructor
    · intro hk; exact ⟨_, List.getElem_mem h', hk⟩
    · rintro ⟨y, hy, hk⟩
      rcases lbG_key ha (g := x) with ⟨z, hz, hkz⟩ | hno
      · rw [List.getElem?_eq_getElem h'] at hz
        cases hz; exact hkz
      · exact absurd hk (hno y hy)
  · rw [if_neg h]
    have : ¬ ∃ y ∈ l, keyG y x = true := by
      rintro ⟨y, hy, hk⟩
      rcases lbG_key ha (g := x) with ⟨z, hz, hkz⟩ | hno
      · have := lt_of_get hz; omega
      · exact hno y hy hk
    simp [this]
theorem find_eq {l : List Grant} (ha : AscG l) (hn : l.length ≤ 1000000) (tx : Int) (k : Lock) : locks_find l tx k = some ((lbG l ⟨tx, k, 0⟩ : Int), decide (∃ y ∈ l, keyG y ⟨tx, k, 0⟩ = true)) := by
  rw [locks_find.eq_1, bsg_eq ha hn]; rfl
theorem keyK {y : Grant} {tx : Int} {k : Lock} {m : Int} : keyG y ⟨tx, k, m⟩ = true ↔ y.tx = tx ∧ y.lock = k := by simp [keyG]
theorem mode1_eq {t : Locks} (ha : AscG t.held) (hn : t.held.length ≤ 1000000) (tx : Int) (k : Lock) : locks_mode1 t tx k = some (modeL t.held tx k) := by
  rw [locks_mode1.eq_1, find_eq ha hn]
  simp only [Option.bind_some]
  rcases lbG_key ha (g := ⟨tx, k, 0⟩) with ⟨z, hz, hkz⟩ | hno
  · have hlt := lt_of_get hz
    rw [if_pos (by simp only [decide_eq_true_eq]; exact ⟨z, List.mem_of_getElem? hz, hkz⟩), if_pos (inr_nat hlt), gd_nat hlt]
    rw [List.getElem?_eq_getElem hlt] at hz
    cases hz
    rw [keyK] at hkz
    rw [modeL_some ha (List.getElem_mem hlt) hkz.1 hkz.2]
  · rw [if_neg (by simp only [decide_eq_true_eq]; rintro ⟨y, hy, hk⟩; exact hno y hy hk)]
    rw [modeL_none fun x hx hc => hno x hx (keyK.2 hc)]

/-! ### searching by a condition, taking away -/
def ixL (p : Grant → Option Bool) (s : List Grant) : Nat → Int → Option (Sum Unit Int)
  | 0, _ => none
  | k + 1, t => (if t < (s.length : Int) then (if (0 : Int) ≤ t ∧ t < (s.length : Int) then ((p (gd s t)).bind fun (x5 : Bool) => (if x5 = true then some (Sum.inr t) else ixL p s k (w64 (t + 1)))) else none) else some (Sum.inl ()))
def ixR (p : Grant → Option Bool) (s : List Grant) : Option Int := ((ixL p s FU 0).bind fun (z : Sum Unit Int) => match z with | .inl (s9 : Unit) => some (-1) | .inr r => some r)
theorem ix_spec {p : Grant → Option Bool} {s : List Grant} {q : Grant → Bool} (hp : ∀ x ∈ s, p x = some (q x)) (hn : s.length ≤ 1000000) :
    (∃ j, ∃ h : j < s.length, q s[j] = true ∧ (∀ j', j' < j → ∀ h' : j' < s.length, ¬ q s[j'] = true) ∧ ixR p s = some (j : Int)) ∨ ((∀ x ∈ s, ¬ q x = true) ∧ ixR p s = some (-1)) := by
  have := loopF (L := ixL p s) (n := s.length) (fun i => ∃ h : i < s.length, q s[i] = true) (fun i => (i : Int)) () (fun k i hi => by
    have e : ixL p s (k + 1) (i : Int) = _ := rfl
    rw [show ixL p s (k + 1) (i : Int) = (if (i : Int) < (s.length : Int) then (if (0 : Int) ≤ (i : Int) ∧ (i : Int) < (s.length : Int) then ((p (gd s (i : Int))).bind fun (x5 : Bool) => (if x5 = true then some (Sum.inr (i : Int)) else ixL p s k (w64 ((i : Int) + 1)))) else none) else some (Sum.inl ())) from rfl]
    rw [if_pos (by omega), if_pos (inr_nat hi), gd_nat hi, hp _ (List.getElem_mem hi)]
    simp only [Option.bind_some]
    by_cases hc : q s[i] = true
    · rw [if_pos hc]; exact .inl ⟨⟨hi, hc⟩, rfl⟩
    · rw [if_neg hc, w64_succ (by omega)]; exact .inr ⟨fun h => hc h.2, rfl⟩) (fun k => by
    show (if (s.length : Int) < (s.length : Int) then _ else _) = _
    rw [if_neg (by omega)]) FU 0 (by omega) (FU_lt hn 0)
  rcases this with ⟨j, _, h2, ⟨h3, h3'⟩, h4, h5⟩ | ⟨h1, h2⟩
  · refine .inl ⟨j, h2, h3', fun j' q1 h' hq => h4 j' (by omega) q1 ⟨h', hq⟩, ?_⟩
    have h5' : ixL p s FU 0 = some (.inr (j : Int)) := h5
    simp only [ixR, h5', Option.bind_some]
  · refine .inr ⟨fun x hx hq => ?_, ?_⟩
    · obtain ⟨i, hi⟩ := List.getElem?_of_mem hx
      have hi' := lt_of_get hi
      rw [List.getElem?_eq_getElem hi'] at hi
      cases hi
      exact h1 i (by omega) hi' ⟨hi', hq⟩
    · have h2' : ixL p s FU 0 = some (.inl ()) := h2
      simp only [ixR, h2', Option.bind_some]
theorem ix_any {p : Grant → Option Bool} {s : List Grant} {q : Grant → Bool} (hp : ∀ x ∈ s, p x = some (q x)) (hn : s.length ≤ 1000000) : (ixR p s).bind (fun x => some (decide (0 ≤ x))) = some (s.any q) := by
  rcases ix_spec hp hn with ⟨j, h, h1, h2, h3⟩ | ⟨h1, h2⟩
  · rw [h3]
    have : s.any q = true := List.any_eq_true.2 ⟨_, List.getElem_mem h, h1⟩
    rw [this]; simp
  · rw [h2]
    have : s.any q = false := List.any_eq_false.2 h1
    rw [this]; rfl
theorem ixV_eq (s : List Grant) (f : Grant) : IndexFuncV s f = ixR (fun x => locks_ValidF x f) s := by
  have : ∀ k i, IndexFuncV.l1 s f k i = ixL (fun x => locks_ValidF x f) s k i := by
    intro k
    induction k with
    | zero => intro i; rfl
    | succ k ih => intro i; rw [IndexFuncV.l1.eq_2]; simp only [ih]; rfl
  rw [IndexFuncV.eq_1, this]; rfl
theorem ixW_eq (s : List Grant) (f : Int) : IndexFuncW s f = ixR (fun x => locks_WaitingF x f) s := by
  have : ∀ k i, IndexFuncW.l1 s f k i = ixL (fun x => locks_WaitingF x f) s k i := by
    intro k
    induction k with
    | zero => intro i; rfl
    | succ k ih => intro i; rw [IndexFuncW.l1.eq_2]; simp only [ih]; rfl
  rw [IndexFuncW.eq_1, this]; rfl
theorem ixK_eq (s : List Grant) (f : Locks) (g : Int) : IndexFuncK s f g = ixR (fun x => locks_blockedF x f g) s := by
  have : ∀ k i, IndexFuncK.l1 s f g k i = ixL (fun x => locks_blockedF x f g) s k i := by
    intro k
    induction k with
    | zero => intro i; rfl
    | succ k ih => intro i; rw [IndexFuncK.l1.eq_2]; simp only [ih]; rfl
  rw [IndexFuncK.eq_1, this]; rfl
theorem containsV_eq {s : List Grant} (hn : s.length ≤ 1000000) (g : Grant) : ContainsFuncV s g = some (s.any fun x => decide (x.tx = g.tx)) := by
  rw [ContainsFuncV.eq_1, ixV_eq]
  exact ix_any (fun x _ => by rw [locks_ValidF.eq_1]) hn
theorem blocked_eq {t : Locks} {i : Nat} (hi : i < t.waiting.length) (h1 : t.held.length ≤ 1000000) (h2 : t.waiting.length ≤ 1000000) : locks_blocked t (i : Int) = some (blkG t.held (t.waiting.take i) t.waiting[i]) := by
  have hF : ∀ x : Grant, locks_blockedF x t (i : Int) = some (confG x t.waiting[i]) := fun x => by
    rw [locks_blockedF.eq_1, if_pos (inr_nat hi), gd_nat hi, conflict_eq]; rfl
  have hC : ∀ s : List Grant, s.length ≤ 1000000 → ContainsFuncK s t (i : Int) = some (s.any fun x => confG x t.waiting[i]) := fun s hs => by
    rw [ContainsFuncK.eq_1, ixK_eq]
    exact ix_any (fun x _ => hF x) hs
  rw [locks_blocked.eq_1, hC _ h1]
  simp only [Option.bind_some]
  unfold blkG
  cases hh : t.held.any fun x => confG x t.waiting[i] with
  | true => rfl
  | false =>
    rw [if_neg (by simp), if_pos (by omega), Int.toNat_natCast, hC _ (by simp; omega)]
    rfl
end Rv
