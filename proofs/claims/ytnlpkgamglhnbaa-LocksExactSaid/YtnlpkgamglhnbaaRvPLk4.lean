/- Chapter 8: tables stay valid. -/
import Derived.Test.YtnlpkgamglhnbaaRvPLk3
set_option linter.unusedVariables false
set_option linter.unusedSimpArgs false
namespace Rv
open Go Go.RowKit Go.Proofs

def NC (l : List Grant) : Prop := ∀ a ∈ l, ∀ b ∈ l, confG a b = false
theorem NC.hold {l : List Grant} (h : NC l) {g : Grant} (hg : ∀ e ∈ l, confG e g = false) : NC (holdL l g) := by
  intro a ha b hb
  rcases holdL_mem.1 ha with e1 | ⟨ha', _⟩ <;> rcases holdL_mem.1 hb with e2 | ⟨hb', _⟩
  · subst e1; subst e2; rw [Bool.eq_false_iff]; intro hc; exact (confG_iff.1 hc).1 rfl
  · subst e1; rw [confG_comm]; exact hg b hb'
  · subst e2; exact hg a ha'
  · exact h a ha' b hb'
theorem sett_ok : ∀ (rest held pre : List Grant), (∀ g ∈ held, grOK g) → NC held → (∀ g ∈ pre ++ rest, grOK g) →
    (∀ g ∈ (sett held pre rest).1, grOK g) ∧ NC (sett held pre rest).1 ∧ (∀ g ∈ (sett held pre rest).2, grOK g ∧ g ∈ pre ++ rest) := by
  intro rest
  induction rest with
  | nil => intro held pre h1 h2 h3; rw [List.append_nil] at h3 ⊢; exact ⟨h1, h2, fun g hg => ⟨h3 g hg, hg⟩⟩
  | cons g r ih =>
    intro held pre h1 h2 h3
    by_cases hc : blkG held pre g = true
    · rw [show sett held pre (g :: r) = sett held (pre ++ [g]) r from if_pos hc]
      have := ih held (pre ++ [g]) h1 h2 (by rw [List.append_assoc]; exact h3)
      rw [List.append_assoc] at this
      exact this
    · rw [show sett held pre (g :: r) = sett (holdL held g) pre r from if_neg hc]
      have hne : ∀ e ∈ held, confG e g = false := fun e he => by
        rw [Bool.eq_false_iff]
        intro hx
        refine hc ?_
        unfold blkG
        rw [Bool.or_eq_true]
        exact .inl (List.any_eq_true.2 ⟨e, he, hx⟩)
      obtain ⟨a1, a2, a3⟩ := ih (holdL held g) pre (fun x hx => by
        rcases holdL_mem.1 hx with rfl | ⟨hx, _⟩
        · exact h3 x (by simp)
        · exact h1 x hx) (h2.hold hne) (fun x hx => h3 x (by
        rcases List.mem_append.1 hx with h | h
        · exact List.mem_append_left _ h
        · exact List.mem_append_right _ (List.mem_cons_of_mem _ h)))
      exact ⟨a1, a2, fun x hx => ⟨(a3 x hx).1, by
        rcases List.mem_append.1 (a3 x hx).2 with h | h
        · exact List.mem_append_left _ h
        · exact List.mem_append_right _ (List.mem_cons_of_mem _ h)⟩⟩
theorem setL_ok {a b : List Grant} (hi : InvL a b) (h1 : ∀ g ∈ a, grOK g) (h2 : NC a) (h3 : ∀ g ∈ b, grOK g) (hn : a.length + b.length ≤ 1024) : LkOK (setL ⟨a, b⟩) ∧ AllB (setL ⟨a, b⟩).held (setL ⟨a, b⟩).waiting := by
  have hs := sett_spec b a [] hi (AllB.nil _)
  simp only [List.length_nil, Nat.zero_add] at hs
  obtain ⟨s1, s2, s3, s4⟩ := hs
  obtain ⟨a1, a2, a3⟩ := sett_ok b a [] h1 h2 h3
  exact ⟨⟨Nat.le_trans s3 hn, a1, s1.asc, a2, fun g hg => ⟨(a3 g hg).1, (s1.wm g hg).1⟩, s1.wt⟩, s2⟩
theorem LkOK.set {t : Locks} (h : LkOK t) {a b : List Grant} (ha : a.Sublist t.held) (hb : b.Sublist t.waiting) : LkOK (setL ⟨a, b⟩) ∧ AllB (setL ⟨a, b⟩).held (setL ⟨a, b⟩).waiting :=
  setL_ok (h.less ha hb) (fun g hg => h.hg g (ha.subset hg)) (fun x hx y hy => h.nc x (ha.subset hx) y (ha.subset hy)) (fun g hg => (h.wg g (hb.subset hg)).1) (by have h1 := ha.length_le; have h2 := hb.length_le; have := h.cnt; omega)
theorem LkOK.asked {t : Locks} (h : LkOK t) {g : Grant} (hg : grOK g) (hno : ∀ x ∈ t.waiting, x.tx ≠ g.tx) (hm : modeL t.held g.tx g.lock < g.mode) (hc : t.held.length + t.waiting.length < 1024) : LkOK (askL t g) ∧ AllB (askL t g).held (askL t g).waiting :=
  setL_ok (h.ask hg hno hm _) h.hg h.nc (fun x hx => by
    rcases insL_mem.1 hx with rfl | hx
    · exact hg
    · exact (h.wg x hx).1) (by rw [insL_len (placeL_le t g)]; omega)
theorem lkvalid_true {t : Locks} (h : LkOK t) : locks_Valid t = some true := by
  have := h.cnt
  rw [lkvalid_eq (by omega) (by omega)]
  simp [h]
end Rv
