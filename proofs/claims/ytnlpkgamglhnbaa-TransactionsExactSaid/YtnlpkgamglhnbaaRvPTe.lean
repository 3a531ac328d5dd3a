import Derived.Test.YtnlpkgamglhnbaaRvLaw12e
set_option linter.unusedVariables false
set_option linter.unusedSimpArgs false
namespace Rv
open Go Go.RowKit Go.Proofs

theorem ite_someX {α : Type} {p : Prop} [Decidable p] {a b : α} : (if p then some a else some b) = some (if p then a else b) := by split <;> rfl
theorem ite_bindX {α β : Type} {p : Prop} [Decidable p] {a b : Option α} {f : α → Option β} : (if p then a else b).bind f = if p then a.bind f else b.bind f := by split <;> rfl
theorem cell_eq (c : ACell) : change_ValidCell c = ref02_ValidCell c := by rw [change_ValidCell.eq_1, ref02_ValidCell.eq_1]
abbrev cellB (c : ACell) : Bool := if (c.data.size : Int) ≤ 12 then (if c.set_ = true then true else (c.data).toList == (({ data := #[] } : ByteArray)).toList) else false
theorem cellB_eq (c : ACell) : ref02_ValidCell c = some (cellB c) := by
  rw [ref02_ValidCell.eq_1]; simp only [ite_someX]
abbrev chB (c : Change) : Bool := decide (0 ≤ c.page ∧ c.page < 64 ∧ 0 ≤ c.slot ∧ c.slot < 16 ∧ cellB c.before = true ∧ cellB c.after = true)
theorem ch_eq (c : Change) : change_Valid c = some (chB c) := by
  rw [change_Valid.eq_1, change_paged.eq_1]
  simp only [cell_eq, cellB_eq, Option.bind_some]
  by_cases h1 : 0 ≤ c.page <;> by_cases h2 : c.page < 64 <;> by_cases h3 : 0 ≤ c.slot <;> by_cases h4 : c.slot < 16 <;> cases h5 : cellB c.before <;> cases h6 : cellB c.after <;> simp [chB, h1, h2, h3, h4, h5, h6]
theorem rch_eq (c : Change) : ref03_Valid c = some (chB c) := by
  rw [ref03_Valid.eq_1]
  simp only [cellB_eq, Option.bind_some]
  by_cases h1 : 0 ≤ c.page <;> by_cases h2 : c.page < 64 <;> by_cases h3 : 0 ≤ c.slot <;> by_cases h4 : c.slot < 16 <;> cases h5 : cellB c.before <;> cases h6 : cellB c.after <;> simp [chB, h1, h2, h3, h4, h5, h6]
theorem blob_eq (b : ByteArray) : ((b).toList == (({ data := #[] } : ByteArray)).toList) = decide (b = ⟨#[]⟩) := by
  rw [ByteArray.toList_eq, ByteArray.toList_eq]
  rw [Bool.eq_iff_iff]
  simp only [beq_iff_eq, decide_eq_true_eq]
  constructor
  · intro h
    cases b with | mk d => cases d with | mk l => simp at h; subst h; rfl
  · rintro rfl; rfl
abbrev noCh : Change := ⟨0, 0, ⟨false, ⟨#[]⟩⟩, ⟨false, ⟨#[]⟩⟩⟩
/-- What stands ahead in every entry. -/
abbrev EH (e : AEntry) : Prop := 1 ≤ e.lsn ∧ e.lsn ≤ 1099511627776 ∧ (0 ≤ e.prevTx ∧ e.prevTx < e.lsn) ∧ (0 ≤ e.prevPage ∧ e.prevPage < e.lsn) ∧ (0 ≤ e.ref ∧ e.ref < e.lsn)
abbrev EK (e : AEntry) : Prop :=
  if e.kind_ = 1 then (1 ≤ e.tx ∧ e.tx ≤ 1073741824) ∧ e.ref = 0 ∧ e.blob = ⟨#[]⟩ ∧ chB e.change = true
  else if e.kind_ = 2 then (1 ≤ e.tx ∧ e.tx ≤ 1073741824) ∧ e.prevTx ≠ 0 ∧ e.blob = ⟨#[]⟩ ∧ (1 ≤ e.ref ∧ e.ref ≤ e.prevTx) ∧ chB e.change = true
  else if e.kind_ = 3 ∨ e.kind_ = 4 ∨ e.kind_ = 5 then (1 ≤ e.tx ∧ e.tx ≤ 1073741824) ∧ e.prevTx ≠ 0 ∧ e.prevPage = 0 ∧ e.ref = 0 ∧ e.blob = ⟨#[]⟩ ∧ e.change = noCh
  else if e.kind_ = 6 ∨ e.kind_ = 8 then e.tx = 0 ∧ e.prevTx = 0 ∧ e.prevPage = 0 ∧ e.ref = 0 ∧ e.change = noCh ∧ (e.blob.size : Int) ≤ 8192
  else if e.kind_ = 7 then e.tx = 0 ∧ e.prevTx = 0 ∧ e.prevPage = 0 ∧ e.blob = ⟨#[]⟩ ∧ e.change = ⟨e.change.page, 0, ⟨false, ⟨#[]⟩⟩, ⟨false, ⟨#[]⟩⟩⟩ ∧ (0 ≤ e.change.page ∧ e.change.page < 64)
  else False
theorem before_eq (n : Int) (e : AEntry) : entry_before n e = some (decide (0 ≤ n ∧ n < e.lsn)) := by
  rw [entry_before.eq_1]; by_cases h : 0 ≤ n <;> simp [h]
theorem rbefore_eq (n m : Int) : ref05_before n m = some (decide (0 ≤ n ∧ n < m)) := by
  rw [ref05_before.eq_1]; by_cases h : 0 ≤ n <;> simp [h]
theorem blob_len {b : ByteArray} (h : b = ⟨#[]⟩) : (b.size : Int) ≤ 8192 := by subst h; decide
open Classical in
theorem entry_ok (e : AEntry) : entry_Valid e = some (decide (EH e ∧ EK e)) := by
  have no : ∀ h : ¬ (EH e ∧ EK e), some false = some (decide (EH e ∧ EK e)) := fun h => by simp [h]
  rw [entry_Valid.eq_1]
  by_cases c1 : e.lsn < 1
  · rw [if_pos c1]; exact no fun h => by have := h.1; omega
  by_cases c2 : 1099511627776 < e.lsn
  · rw [if_neg c1, if_pos c2]; exact no fun h => by have := h.1; omega
  rw [if_neg c1, if_neg c2]
  by_cases c3 : e.kind_ < 1
  · rw [if_pos c3]; exact no fun h => by
      have := h.2
      unfold EK at this
      rw [if_neg (by omega), if_neg (by omega), if_neg (by omega), if_neg (by omega), if_neg (by omega)] at this
      exact this
  by_cases c4 : 8 < e.kind_
  · rw [if_neg c3, if_pos c4]; exact no fun h => by
      have := h.2
      unfold EK at this
      rw [if_neg (by omega), if_neg (by omega), if_neg (by omega), if_neg (by omega), if_neg (by omega)] at this
      exact this
  rw [if_neg c3, if_neg c4, before_eq, before_eq, before_eq]
  simp only [Option.bind_some, decide_eq_true_eq]
  by_cases c5 : 0 ≤ e.prevTx ∧ e.prevTx < e.lsn
  rotate_left
  · rw [if_neg c5]; exact no fun h => c5 h.1.2.2.1
  by_cases c6 : 0 ≤ e.prevPage ∧ e.prevPage < e.lsn
  rotate_left
  · rw [if_pos c5, if_neg c6]; exact no fun h => c6 h.1.2.2.2.1
  by_cases c7 : 0 ≤ e.ref ∧ e.ref < e.lsn
  rotate_left
  · rw [if_pos c5, if_pos c6, if_pos (by rw [decide_eq_false c7]; rfl)]; exact no fun h => c7 h.1.2.2.2.2
  have hH : EH e := ⟨by omega, by omega, c5, c6, c7⟩
  rw [if_pos c5, if_pos c6, if_neg (by simp [c7])]
  simp only [hH, true_and, blob_eq, ch_eq, entry_rules1.eq_1, entry_rules2.eq_1, entry_rules3.eq_1, entry_none.eq_1, ite_bindX, ite_someX, Option.bind_some]
  have q : e.kind_ = 1 ∨ e.kind_ = 2 ∨ e.kind_ = 3 ∨ e.kind_ = 4 ∨ e.kind_ = 5 ∨ e.kind_ = 6 ∨ e.kind_ = 7 ∨ e.kind_ = 8 := by omega
  clear no
  have hb : e.blob = ⟨#[]⟩ → (e.blob.size : Int) ≤ 8192 := blob_len
  rcases q with k | k | k | k | k | k | k | k <;> simp only [k, EK] <;> grind
theorem entry_self (e : AEntry) (n r : Int) (ch : Change) (b : ByteArray) (a1 a2 a3 : Int) : (⟨e.lsn, n, a1, a2, a3, r, ch, b⟩ : AEntry) = e ↔ n = e.kind_ ∧ a1 = e.tx ∧ a2 = e.prevTx ∧ a3 = e.prevPage ∧ r = e.ref ∧ ch = e.change ∧ b = e.blob := by
  cases e; simp
theorem shape_ok (e : AEntry) : ∃ p, ref05_shape e = some p ∧ (0 ≤ e.prevTx → ((p.2 = true ∧ p.1 = e) ↔ EK e)) := by
  rw [ref05_shape.eq_1]
  simp only [rch_eq, ite_bindX, ite_someX, Option.bind_some]
  have hb : e.blob = ⟨#[]⟩ → (e.blob.size : Int) ≤ 8192 := blob_len
  refine ⟨_, rfl, fun h0 => ?_⟩
  simp only [EK]
  by_cases q : e.kind_ = 1 ∨ e.kind_ = 2 ∨ e.kind_ = 3 ∨ e.kind_ = 4 ∨ e.kind_ = 5 ∨ e.kind_ = 6 ∨ e.kind_ = 7 ∨ e.kind_ = 8
  · generalize chB e.change = ch
    rcases q with k | k | k | k | k | k | k | k <;> simp [k]
    · cases ch <;> by_cases a1 : 1 ≤ e.tx <;> by_cases a2 : e.tx ≤ 1073741824 <;> simp [a1, a2, entry_self, k] <;> grind
    · cases ch <;> by_cases a1 : 1 ≤ e.tx <;> by_cases a2 : e.tx ≤ 1073741824 <;> by_cases a3 : 0 < e.prevTx <;> by_cases a4 : 1 ≤ e.ref <;> by_cases a5 : e.ref ≤ e.prevTx <;> simp [a1, a2, a3, a4, a5, entry_self, k] <;> grind
    · by_cases a1 : 1 ≤ e.tx <;> by_cases a2 : e.tx ≤ 1073741824 <;> simp [a1, a2, entry_self, k] <;> grind
    · by_cases a1 : 1 ≤ e.tx <;> by_cases a2 : e.tx ≤ 1073741824 <;> simp [a1, a2, entry_self, k] <;> grind
    · by_cases a1 : 1 ≤ e.tx <;> by_cases a2 : e.tx ≤ 1073741824 <;> simp [a1, a2, entry_self, k] <;> grind
    · simp [entry_self, k] <;> grind
    · by_cases a1 : 0 ≤ e.change.page <;> simp [a1, entry_self, k] <;> grind
    · simp [entry_self, k] <;> grind
  · have n1 : ∀ n : Int, 1 ≤ n ∧ n ≤ 8 → e.kind_ ≠ n := fun n h h' => q (by omega)
    simp [n1]
open Classical in
theorem rentry_ok (e : AEntry) : ref05_Valid e = some (decide (EH e ∧ EK e)) := by
  obtain ⟨p, hp, hk⟩ := shape_ok e
  rw [ref05_Valid.eq_1, hp]
  simp only [rbefore_eq, Option.bind_some]
  by_cases c1 : p.2 = true
  rotate_left
  · have : ¬ (EH e ∧ EK e) := fun h => c1 ((hk h.1.2.2.1.1).2 h.2).1
    rw [if_neg c1]
    simp only [Option.bind_some]
    rw [if_neg (by decide), decide_eq_false this]
  rw [if_pos c1]
  simp only [Option.bind_some, if_true]
  by_cases c2 : p.1 = e
  rotate_left
  · have : ¬ (EH e ∧ EK e) := fun h => c2 ((hk h.1.2.2.1.1).2 h.2).2
    rw [if_neg c2, decide_eq_false this]
  have hK : 0 ≤ e.prevTx → EK e := fun h => (hk h).1 ⟨c1, c2⟩
  rw [if_pos c2]
  simp only [ite_someX, decide_eq_true_eq]
  by_cases hH : EH e
  · have ht : EH e ∧ EK e := ⟨hH, hK hH.2.2.1.1⟩
    have e1 : decide (EH e ∧ EK e) = true := decide_eq_true ht
    rw [e1, if_pos hH.1, if_pos hH.2.1, if_pos hH.2.2.1, if_pos hH.2.2.2.1, decide_eq_true hH.2.2.2.2]
  · have ht : ¬ (EH e ∧ EK e) := fun h => hH h.1
    have e1 : decide (EH e ∧ EK e) = false := decide_eq_false ht
    rw [e1]
    clear hK hk hp ht e1
    grind
theorem ek_tx {e : AEntry} (h : EH e ∧ EK e) (ht : e.tx ≠ 0) : 1 ≤ e.kind_ ∧ e.kind_ ≤ 5 ∧ 1 ≤ e.lsn ∧ e.lsn ≤ 1099511627776 := by
  obtain ⟨h1, h2⟩ := h
  refine ⟨?_, ?_, h1.1, h1.2.1⟩ <;> (simp only [EK] at h2; grind)
end Rv
