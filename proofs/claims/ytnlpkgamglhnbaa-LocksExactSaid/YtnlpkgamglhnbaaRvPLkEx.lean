/- Chapter 8: what requesting, cancelling, dropping and releasing does. -/
import Derived.Test.YtnlpkgamglhnbaaRvPLkDr
import Derived.Test.YtnlpkgamglhnbaaRvLaw08e
import Derived.KernelRfl
import GoSem.Claim
set_option linter.unusedVariables false
set_option linter.unusedSimpArgs false
namespace Rv
open Go Go.RowKit Go.Proofs

theorem law08_awake_true : law08_awake = some true := by kernel_rfl
abbrev Short (t : Locks) : Prop := t.held.length ≤ 1000 ∧ t.waiting.length ≤ 1000
theorem req_short {t : Locks} (h : Short t) (g : Grant) : (reqL t g).1.held.length ≤ 1000000 ∧ (reqL t g).1.waiting.length ≤ 1000000 := by
  have h0 : Short t → t.held.length ≤ 1000000 ∧ t.waiting.length ≤ 1000000 := fun h => ⟨by omega, by omega⟩
  unfold reqL
  by_cases hv : LkOK t
  rotate_left
  · rw [if_pos hv]; exact ⟨by simp, by simp⟩
  rw [if_neg (by simpa using hv)]
  by_cases hg : grOK g
  rotate_left
  · rw [if_pos hg]; exact ⟨by simp, by simp⟩
  rw [if_neg (by simpa using hg)]
  cases hf : t.waiting.find? (fun x => decide (x.tx = g.tx)) with
  | some w =>
    simp only
    split
    · exact h0 h
    · exact ⟨by simp, by simp⟩
  | none =>
    have hno : ∀ x ∈ t.waiting, x.tx ≠ g.tx := fun x hx => by simpa using List.find?_eq_none.1 hf x hx
    simp only
    by_cases c1 : g.mode ≤ modeL t.held g.tx g.lock
    · rw [if_pos c1]; exact h0 h
    rw [if_neg c1]
    split
    · exact ⟨by simp, by simp⟩
    · have h1 := (askL_len hv hg hno (by omega)).1
      exact ⟨by show (askL t g).held.length ≤ _; omega, by show (askL t g).waiting.length ≤ _; omega⟩
open Classical in
theorem set_short {t : Locks} (h : Short t) {a b : List Grant} (ha : a.Sublist t.held) (hb : b.Sublist t.waiting) : (if LkOK t then setL ⟨a, b⟩ else t).held.length ≤ 1000000 ∧ (if LkOK t then setL ⟨a, b⟩ else t).waiting.length ≤ 1000000 := by
  by_cases hv : LkOK t
  · rw [if_pos hv]
    have := setL_len hv ha hb
    exact ⟨by omega, by omega⟩
  · rw [if_neg hv]; exact ⟨by omega, by omega⟩
theorem same_refl {t : Locks} (h : t.held.length ≤ 1000000 ∧ t.waiting.length ≤ 1000000) : ref08_Same t t = some true := by
  rw [rsame_eq h.1 h.2]; simp
section
variable {X : Locks} (h : Short X) {rest : Option (Sum Unit Bool)}
include h
theorem ex_chunk2 (y : Grant) : ((locks_Request X y).bind fun (x31 : (Locks × Bool × Int)) => ((ref08_Request X y).bind fun (x32 : (Locks × Bool × Int)) => (if (!(x31.2.1 == x32.2.1)) = true then some (Sum.inr false) else (if x31.2.2 ≠ x32.2.2 then some (Sum.inr false) else ((ref08_Same x31.1 x32.1).bind fun (x37 : Bool) => (if x37 = true then ((locks_Mode X y.tx y.lock).bind fun (x38 : Int) => ((ref08_Mode X y.tx y.lock).bind fun (x39 : Int) => (if x38 ≠ x39 then some (Sum.inr false) else ((locks_Drop X y.tx y.lock).bind fun (x42 : Locks) => ((ref08_Drop X y.tx y.lock).bind fun (x43 : Locks) => ((ref08_Same x42 x43).bind fun (x44 : Bool) => (if (!x44) = true then some (Sum.inr false) else rest))))))) else some (Sum.inr false))))))) = rest := by
  have h1 : X.held.length ≤ 1000000 := by omega
  have h2 : X.waiting.length ≤ 1000000 := by omega
  rw [lkreq_eq h1 h2, rreq_eq h1 h2]
  simp only [Option.bind_some]
  rw [if_neg (by simp), if_neg (by simp), same_refl (req_short h y)]
  simp only [Option.bind_some, if_true]
  rw [lkmode_eq h1 h2, rmode_eq h1 h2]
  simp only [Option.bind_some]
  rw [if_neg (by simp), lkdrop_eq h1 h2, rdropT_eq h1 h2]
  simp only [Option.bind_some]
  rw [same_refl (set_short h List.filter_sublist (List.Sublist.refl _))]
  simp only [Option.bind_some, Bool.not_true, Bool.false_eq_true, if_false]
theorem ex_chunk3 (y : Int) : ((locks_Waiting X y).bind fun (x54 : (Grant × Bool)) => ((ref08_Waiting X y).bind fun (x55 : (Grant × Bool)) => (if ¬ x54.1 = x55.1 then some (Sum.inr false) else (if (!(x54.2 == x55.2)) = true then some (Sum.inr false) else ((locks_Cancel X y).bind fun (x60 : Locks) => ((ref08_Cancel X y).bind fun (x61 : Locks) => ((ref08_Same x60 x61).bind fun (x62 : Bool) => (if x62 = true then ((locks_Release X y).bind fun (x63 : Locks) => ((ref08_Release X y).bind fun (x64 : Locks) => ((ref08_Same x63 x64).bind fun (x65 : Bool) => (if (!x65) = true then some (Sum.inr false) else rest)))) else some (Sum.inr false))))))))) = rest := by
  have h1 : X.held.length ≤ 1000000 := by omega
  have h2 : X.waiting.length ≤ 1000000 := by omega
  rw [lkwaiting_eq h1 h2, rwaiting_eq h1 h2]
  simp only [Option.bind_some]
  rw [if_neg (by simp), if_neg (by simp), lkcancel_eq h1 h2, rcancel_eq h1 h2]
  simp only [Option.bind_some]
  rw [same_refl (set_short h (List.Sublist.refl _) List.filter_sublist)]
  simp only [Option.bind_some, if_true]
  rw [lkrelease_eq h1 h2, rrelease_eq h1 h2]
  simp only [Option.bind_some]
  rw [same_refl (set_short h List.filter_sublist List.filter_sublist)]
  simp only [Option.bind_some, Bool.not_true, Bool.false_eq_true, if_false]
end
section
variable {raw : Locks} {g : Grant} {tx : Int} {x11 x12 : Locks × Codes} (hX : ∀ i : Int, 0 ≤ i → i < 3 → Short (gd [raw, x11.1, x12.1] i))
include hX
theorem ex_l2 {i : Int} (h0 : 0 ≤ i) (h3 : i < 3) (x22 : Grant × Codes) (x23 x24 x25 x26 : Int × Codes) : ∀ (k : Nat) (j : Int), 0 ≤ j → j ≤ 3 → 3 - j < k → law08_LocksExact.l2 raw g x11 x12 i x22 x23 x24 x25 x26 k j = some (.inl ()) := by
  intro k
  induction k with
  | zero => intro j h1 h2 h4; omega
  | succ k ih =>
    intro j h1 h2 h4
    rw [law08_LocksExact.l2.eq_2]
    simp only [List.length_cons, List.length_nil]
    by_cases hj : j < 3
    · rw [if_pos (by omega), if_pos (by omega), w64_id (x := j + 1) (by omega)]
      rw [ih (j + 1) (by omega) (by omega) (by omega)]
      exact ex_chunk2 (hX i h0 h3) (gd _ j)
    · rw [if_neg (by omega)]
theorem ex_l3 {i : Int} (h0 : 0 ≤ i) (h3 : i < 3) (x49 : Int × Codes) : ∀ (k : Nat) (j : Int), 0 ≤ j → j ≤ 2 → 2 - j < k → law08_LocksExact.l3 raw tx x11 x12 i x49 k j = some (.inl ()) := by
  intro k
  induction k with
  | zero => intro j h1 h2 h4; omega
  | succ k ih =>
    intro j h1 h2 h4
    rw [law08_LocksExact.l3.eq_2]
    simp only [List.length_cons, List.length_nil]
    by_cases hj : j < 2
    · rw [if_pos (by omega), if_pos (by omega), w64_id (x := j + 1) (by omega)]
      rw [ih (j + 1) (by omega) (by omega) (by omega)]
      exact ex_chunk3 (hX i h0 h3) (gd _ j)
    · rw [if_neg (by omega)]
theorem ex_l1 : ∀ (k : Nat) (i : Int) (c : Codes), CdOK2 c → 0 ≤ i → i ≤ 3 → 3 - i < k → law08_LocksExact.l1 raw g tx x11 x12 k i c = some (.inl ()) := by
  intro k
  induction k with
  | zero => intro i c hc h1 h2 h4; omega
  | succ k ih =>
    intro i c hc h1 h2 h4
    rw [law08_LocksExact.l1.eq_2]
    simp only [List.length_cons, List.length_nil]
    by_cases hi : i < 3
    · obtain ⟨y1, c1, e1, _, s1, _⟩ := grant2 hc
      obtain ⟨y2, c2, e2, s2⟩ := int2 s1.1
      obtain ⟨y3, c3, e3, s3⟩ := int2 s2.1
      obtain ⟨y4, c4, e4, _, _, s4, _⟩ := next2 s3.1 (n := 3) (by decide) (by decide)
      obtain ⟨y5, c5, e5, _, _, s5, _⟩ := next2 s4.1 (n := 4) (by decide) (by decide)
      obtain ⟨y6, c6, e6, _, _, s6, _⟩ := next2 s5.1 (n := 5) (by decide) (by decide)
      have hsh := hX i h1 hi
      rw [if_pos (by omega), if_pos (by omega), w64_id (x := i + 1) (by omega)]
      show ((locks_Valid (gd [raw, x11.1, x12.1] i)).bind fun (x18 : Bool) => ((ref08_Valid (gd [raw, x11.1, x12.1] i)).bind fun (x19 : Bool) => _)) = _
      rw [lkvalid_eq (by omega) (by omega), rvalid_eq (by omega) (by omega)]
      simp only [Option.bind_some]
      rw [if_neg (by simp), e1]
      simp only [Option.bind_some]
      rw [e2]
      simp only [Option.bind_some]
      rw [e3]
      simp only [Option.bind_some]
      rw [e4]
      simp only [Option.bind_some]
      rw [e5]
      simp only [Option.bind_some]
      rw [ex_l2 hX h1 hi _ _ _ _ _ FU 0 (by omega) (by omega) (by unfold FU; omega)]
      simp only [Option.bind_some]
      rw [e6]
      simp only [Option.bind_some]
      rw [ex_l3 hX h1 hi _ FU 0 (by omega) (by omega) (by unfold FU; omega)]
      simp only [Option.bind_some]
      exact ih (i + 1) c6 s6.1 (by omega) (by omega) (by omega)
    · rw [if_neg (by omega)]
end
theorem odd2 {t : Locks} {c : Codes} (hc : CdOK2 c) (ht : t.held.length + t.waiting.length ≤ 500) : ∃ t' c', law08_odd t c = some (t', c') ∧ Short t' ∧ CdOK2 c' := by
  rw [law08_odd.eq_1]
  obtain ⟨g, c1, e1, _, s1, _⟩ := grant2 hc
  obtain ⟨a, c2, e2, _, _, s2, _⟩ := next2 s1.1 (n := 4) (by decide) (by decide)
  rw [e1]
  simp only [Option.bind_some]
  rw [e2]
  simp only [Option.bind_some]
  have go : ∀ (g' : Grant) (c' : Codes), CdOK2 c' → ∃ t' c'', ((some (g', c') : Option (Grant × Codes)).bind fun (s9 : (Grant × Codes)) => ((Codes_Next 2 s9.2).bind fun (x10 : (Int × Codes)) => (if x10.1 = 0 then (if t.held.length ≤ 4398046511104 then (if (t.held).length + ([s9.1] : List Grant).length ≤ 4398046511104 then some ((⟨(t.held ++ ([s9.1] : List Grant)), t.waiting⟩ : Locks), x10.2) else none) else none) else (if t.waiting.length ≤ 4398046511104 then (if (t.waiting).length + ([s9.1] : List Grant).length ≤ 4398046511104 then some ((⟨t.held, (t.waiting ++ ([s9.1] : List Grant))⟩ : Locks), x10.2) else none) else none)))) = some (t', c'') ∧ Short t' ∧ CdOK2 c'' := fun g' c' hc' => by
    obtain ⟨b, c3, e3, _, _, s3, _⟩ := next2 hc' (n := 2) (by decide) (by decide)
    simp only [Option.bind_some]
    rw [e3]
    simp only [Option.bind_some, List.length_cons, List.length_nil]
    by_cases hb : b = 0
    · rw [if_pos hb, if_pos (by omega), if_pos (by omega)]
      exact ⟨_, _, rfl, ⟨by simp; omega, by show t.waiting.length ≤ 1000; omega⟩, s3.1⟩
    · rw [if_neg hb, if_pos (by omega), if_pos (by omega)]
      exact ⟨_, _, rfl, ⟨by show t.held.length ≤ 1000; omega, by simp; omega⟩, s3.1⟩
  by_cases ha : a = 0
  · rw [if_pos ha]
    obtain ⟨y, c3, e3, s3⟩ := int2 s2.1
    obtain ⟨z, c4, e4, _, _, s4, _⟩ := next2 s3.1 (n := 4) (by decide) (by decide)
    rw [e3]
    simp only [Option.bind_some]
    rw [e4]
    exact go _ _ s4.1
  · rw [if_neg ha]
    exact go _ _ s2.1
theorem law08_LocksExact_true (codes : List Int) (raw : Locks) (g : Grant) (tx : Int) (hw : ∀ x ∈ codes, (Lit.int .u8 x).wf = true) (_ : (Lit.int .i64 tx).wf = true) : law08_LocksExact codes raw g tx = some true := by
  have hw' : ∀ x ∈ codes, 0 ≤ x ∧ x ≤ 255 := fun x hx => by simpa [Lit.wf, IntKind.min, IntKind.max, IntKind.signed, IntKind.bits] using hw x hx
  obtain ⟨c, ec, hc, _, _⟩ := new_codes2 hw' (n := 200) (by decide) (by decide)
  obtain ⟨t, c1, e1, ht, s1, hl1⟩ := locks2 hc
  obtain ⟨t2, c2, e2, hs2, hc2⟩ := odd2 (t := t) s1.1 (by omega)
  rw [law08_LocksExact.eq_1, law08_awake_true]
  simp only [Option.bind_some, if_true]
  by_cases h1 : (30 : Int) < raw.held.length
  · rw [if_pos h1, if_pos h1]
  rw [if_neg h1]
  by_cases h2 : (30 : Int) < raw.waiting.length
  · rw [if_pos h2, if_neg h1]
    simp [h2]
  rw [if_neg h2, ec]
  simp only [Option.bind_some]
  rw [e1]
  simp only [Option.bind_some]
  rw [e2]
  simp only [Option.bind_some]
  have hX : ∀ i : Int, 0 ≤ i → i < 3 → Short (gd [raw, ((t, c1) : Locks × Codes).1, ((t2, c2) : Locks × Codes).1] i) := fun i h0 h3 => by
    have : i = 0 ∨ i = 1 ∨ i = 2 := by omega
    rcases this with rfl | rfl | rfl
    · show raw.held.length ≤ 1000 ∧ raw.waiting.length ≤ 1000; omega
    · show t.held.length ≤ 1000 ∧ t.waiting.length ≤ 1000; omega
    · exact hs2
  rw [ex_l1 (x11 := (t, c1)) (x12 := (t2, c2)) hX FU 0 c2 hc2 (by omega) (by omega) (by unfold FU; omega)]
  rfl
end Rv
