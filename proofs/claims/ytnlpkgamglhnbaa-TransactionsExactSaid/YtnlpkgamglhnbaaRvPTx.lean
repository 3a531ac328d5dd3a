import Derived.Test.YtnlpkgamglhnbaaRvPTd
import Derived.KernelRfl
import GoSem.Claim
set_option linter.unusedVariables false
set_option linter.unusedSimpArgs false
namespace Rv
open Go Go.RowKit Go.Proofs

theorem law12_awake_true : law12_awake = some true := by kernel_rfl
theorem lback_true {X : List Tx} (h : X.length ≤ 1000) (k save : Int) : law12_back X k save = some true := by
  obtain ⟨r, e1, e2, hr⟩ := back_ok h k save
  rw [law12_back.eq_1, e1, e2]
  simp only [Option.bind_some, if_true]
  rw [same_self hr.sm]
  rfl
section
variable {raw : List Tx} {e : AEntry} {id : Int} {x5 : List Tx × Int × Codes} {x6 : List Tx × Codes} (hX : ∀ i : Int, 0 ≤ i → i < 3 → Sm (gd [raw, x5.1, x6.1] i))
include hX
theorem tx_l2 {i : Int} (h0 : 0 ≤ i) (h3 : i < 3) (x17 x19 : AEntry × Codes) : ∀ (k : Nat) (j : Int), 0 ≤ j → j ≤ 3 → 3 - j < k → law12_TransactionsExact.l2 raw e x5 x6 i x17 x19 k j = some (.inl ()) := by
  have hn : (gd [raw, x5.1, x6.1] i).length ≤ 1000 := (hX i h0 h3).n
  intro k
  induction k with
  | zero => intro j h1 h2 h4; omega
  | succ k ih =>
    intro j h1 h2 h4
    rw [law12_TransactionsExact.l2.eq_2]
    simp only [List.length_cons, List.length_nil]
    by_cases hj : j < 3
    · rw [if_pos (by omega), if_pos (by omega), w64_id (x := j + 1) (by omega), ih (j + 1) (by omega) (by omega) (by omega)]
      obtain ⟨r, e1, e2, hr⟩ := note_ok hn (gd [e, x17.1, x19.1] j)
      show ((transactions_Note (gd [raw, x5.1, x6.1] i) (gd [e, x17.1, x19.1] j)).bind fun (x24 : ((List Tx) × Int)) => ((ref12_Note (gd [raw, x5.1, x6.1] i) (gd [e, x17.1, x19.1] j)).bind fun (x25 : ((List Tx) × Int)) => _)) = _
      rw [e1, e2]
      simp only [Option.bind_some]
      rw [if_neg (fun h => h rfl), same_self hr.sm]
      simp only [Option.bind_some, Bool.not_true, Bool.false_eq_true, if_false]
    · rw [if_neg (by omega)]
theorem tx_chunk {i : Int} (h0 : 0 ≤ i) (h3 : i < 3) (y : Int) {rest : Option (Sum Unit Bool)} (X : List Tx) (hXe : X = gd [raw, x5.1, x6.1] i) : ((transactions_Begin X y).bind fun (x38 : ((List Tx) × Int)) => ((ref12_Begin X y).bind fun (x39 : ((List Tx) × Int)) => (if x38.2 ≠ x39.2 then some (Sum.inr false) else ((ref12_Same x38.1 x39.1).bind fun (x42 : Bool) => (if x42 = true then ((transactions_Find X y).bind fun (x43 : Int) => ((ref12_Find X y).bind fun (x44 : Int) => (if x43 ≠ x44 then some (Sum.inr false) else ((transactions_Remove X y).bind fun (x47 : (List Tx)) => ((ref12_Remove X y).bind fun (x48 : (List Tx)) => ((ref12_Same x47 x48).bind fun (x49 : Bool) => (if (!x49) = true then some (Sum.inr false) else ((transactions_Save X y).bind fun (x52 : ((List Tx) × Int)) => ((ref12_Save X y).bind fun (x53 : ((List Tx) × Int)) => (if x52.2 ≠ x53.2 then some (Sum.inr false) else ((ref12_Same x52.1 x53.1).bind fun (x56 : Bool) => (if (!x56) = true then some (Sum.inr false) else ((law12_back X y id).bind fun (x59 : Bool) => (if x59 = true then ((law12_back X y 0).bind fun (x60 : Bool) => (if x60 = true then ((law12_back X y 1).bind fun (x61 : Bool) => (if (!x61) = true then some (Sum.inr false) else rest)) else some (Sum.inr false))) else some (Sum.inr false))))))))))))))) else some (Sum.inr false)))))) = rest := by
  have hs : Sm X := by rw [hXe]; exact hX i h0 h3
  have hn := hs.n
  obtain ⟨r, e1, e2, hr⟩ := begin_ok hn y
  obtain ⟨s, f1, f2, hs'⟩ := save_ok hn y
  rw [e1, e2]
  simp only [Option.bind_some]
  rw [if_neg (fun h => h rfl), same_self hr.sm]
  simp only [Option.bind_some, if_true]
  rw [tfind_eq, rFind_eq]
  obtain ⟨z, hz⟩ : ∃ z, ref12_find X y = some z := by
    rcases find_spec (l := X) (by omega) y with ⟨j, _, _, _, h⟩ | ⟨_, h⟩ <;> exact ⟨_, h⟩
  rw [hz]
  simp only [Option.bind_some]
  rw [if_neg (fun h => h rfl), tremove_eq hn, rremoveT_eq hn]
  simp only [Option.bind_some]
  rw [same_self (hs.sub (rmv_sub _ _))]
  simp only [Option.bind_some, Bool.not_true, Bool.false_eq_true, if_false]
  rw [f1, f2]
  simp only [Option.bind_some]
  rw [if_neg (fun h => h rfl), same_self hs'.sm]
  simp only [Option.bind_some, Bool.not_true, Bool.false_eq_true, if_false]
  rw [lback_true hn, lback_true hn, lback_true hn]
  simp only [Option.bind_some, if_true, Bool.not_true, Bool.false_eq_true, if_false]
theorem tx_l3 {i : Int} (h0 : 0 ≤ i) (h3 : i < 3) (x33 : Int × Codes) : ∀ (k : Nat) (j : Int), 0 ≤ j → j ≤ 2 → 2 - j < k → law12_TransactionsExact.l3 raw id x5 x6 i x33 k j = some (.inl ()) := by
  intro k
  induction k with
  | zero => intro j h1 h2 h4; omega
  | succ k ih =>
    intro j h1 h2 h4
    rw [law12_TransactionsExact.l3.eq_2]
    simp only [List.length_cons, List.length_nil]
    by_cases hj : j < 2
    · rw [if_pos (by omega), if_pos (by omega), w64_id (x := j + 1) (by omega), ih (j + 1) (by omega) (by omega) (by omega)]
      exact tx_chunk hX h0 h3 (gd [id, w64 (1 + x33.1)] j) _ rfl
    · rw [if_neg (by omega)]
theorem tx_l1 (h5 : SmB x5.1) (hl0 : 0 ≤ x5.2.1) (hl1 : x5.2.1 ≤ 20) : ∀ (k : Nat) (i : Int) (c : Codes), CdOK2 c → 0 ≤ i → i ≤ 3 → 3 - i < k → law12_TransactionsExact.l1 raw e id x5 x6 k i c = some (.inl ()) := by
  intro k
  induction k with
  | zero => intro i c hc h1 h2 h4; omega
  | succ k ih =>
    intro i c hc h1 h2 h4
    rw [law12_TransactionsExact.l1.eq_2]
    simp only [List.length_cons, List.length_nil]
    by_cases hi : i < 3
    · obtain ⟨a1, c1, e1, _, _, s1, _⟩ := next2 hc (n := 4) (by decide) (by decide)
      have hw : w64 (x5.2.1 + 1) = x5.2.1 + 1 := w64_id (by omega)
      obtain ⟨y1, d1, f1, t1⟩ := next_entry h5 (w64 (1 + a1)) (x5.2.1 + 1) (by omega) (by omega) s1.1
      obtain ⟨a2, c2, e2, _, _, s2, _⟩ := next2 t1 (n := 4) (by decide) (by decide)
      obtain ⟨y2, d2, f2, t2⟩ := next_entry h5 (w64 (1 + a2)) (x5.2.1 + 1) (by omega) (by omega) s2.1
      obtain ⟨a3, c3, e3, _, _, s3, _⟩ := next2 t2 (n := 5) (by decide) (by decide)
      rw [if_pos (by omega), if_pos (by omega), w64_id (x := i + 1) (by omega), tvalid_eq, rvalidT_eq, hw]
      simp only [Option.bind_some]
      rw [if_neg (by simp), e1]
      simp only [Option.bind_some]
      rw [f1]
      simp only [Option.bind_some]
      rw [e2]
      simp only [Option.bind_some]
      rw [f2]
      simp only [Option.bind_some]
      rw [tx_l2 hX h1 hi _ _ FU 0 (by omega) (by omega) (by unfold FU; omega)]
      simp only [Option.bind_some]
      rw [e3]
      simp only [Option.bind_some]
      rw [tx_l3 hX h1 hi _ FU 0 (by omega) (by omega) (by unfold FU; omega)]
      simp only [Option.bind_some]
      exact ih (i + 1) c3 s3.1 (by omega) (by omega) (by omega)
    · rw [if_neg (by omega)]
end
theorem law12_TransactionsExact_true (codes : List Int) (raw : List Tx) (e : AEntry) (id : Int) (hw : ∀ x ∈ codes, (Lit.int .u8 x).wf = true) (hraw : raw.length ≤ maxLen ∧ ∀ x ∈ raw, (Lit.int .i64 x.id_).wf = true ∧ (Lit.int .i64 x.state).wf = true ∧ (Lit.int .i64 x.last).wf = true ∧ (Lit.int .i64 x.until_).wf = true ∧ (x.pending.length ≤ maxLen ∧ ∀ y ∈ x.pending, (Lit.int .i64 y).wf = true) ∧ (x.saves.length ≤ maxLen ∧ ∀ y ∈ x.saves, (Lit.int .i64 y).wf = true)) (_ : (Lit.int .i64 id).wf = true) : law12_TransactionsExact codes raw e id = some true := by
  have hw' : ∀ x ∈ codes, 0 ≤ x ∧ x ≤ 255 := fun x hx => by simpa [Lit.wf, IntKind.min, IntKind.max, IntKind.signed, IntKind.bits] using hw x hx
  obtain ⟨c, ec, hc, _, _⟩ := new_codes2 hw' (n := 260) (by decide) (by decide)
  obtain ⟨t, lsn, c1, e1, ht, l0, l1, hc1⟩ := table_ok hc
  obtain ⟨t2, c2, e2, hs2, hc2⟩ := odd_ok ht hc1
  rw [law12_TransactionsExact.eq_1, law12_awake_true]
  simp only [Option.bind_some, if_true]
  by_cases h1 : (30 : Int) < raw.length
  · rw [if_pos h1, decide_eq_true h1]
  rw [if_neg h1, ec]
  simp only [Option.bind_some]
  rw [e1]
  simp only [Option.bind_some]
  rw [e2]
  simp only [Option.bind_some]
  have hm : maxLen = 9223372036854775807 := by decide
  have hX : ∀ i : Int, 0 ≤ i → i < 3 → Sm (gd [raw, ((t, lsn, c1) : List Tx × Int × Codes).1, ((t2, c2) : List Tx × Codes).1] i) := fun i h0 h3 => by
    have : i = 0 ∨ i = 1 ∨ i = 2 := by omega
    rcases this with rfl | rfl | rfl
    · exact ⟨by show raw.length ≤ 1000; omega, fun x hx => by
        have := hraw.2 x hx
        rw [hm] at this
        exact ⟨this.2.2.2.2.1.1, this.2.2.2.2.2.1⟩⟩
    · exact ht.sm
    · exact hs2
  rw [tx_l1 (x5 := (t, lsn, c1)) (x6 := (t2, c2)) hX ht l0 l1 FU 0 c2 hc2 (by omega) (by omega) (by unfold FU; omega)]
  rfl
end Rv
