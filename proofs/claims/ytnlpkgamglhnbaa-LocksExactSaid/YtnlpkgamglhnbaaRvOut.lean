/- Slices that a function makes itself: growing them by 'append', and handing them out to be read. -/
import Derived.Test.YtnlpkgamglhnbaaRvRun
set_option linter.unusedVariables false
set_option linter.unusedSimpArgs false
namespace Rv
open Go Go.RowKit
variable {P : Program} {N : Nat} {h : Heap}

/-! ### telling less of a result -/
theorem FnOK.wkRes {f : FuncId} {args : List AV} {Q : AV → Heap → Prop} (hf : FnOK P f args h (fun v h' => ∃ v', WkV v v' ∧ Q v' h')) : FnOK P f args h Q := by
  intro B0 μ w us hr hus
  refine Calls.mono (hf B0 μ w us hr hus) ?_
  rintro e w' ⟨u, v, h', μ', rfl, ⟨v', hw, hq⟩, hv, hp, hr', hb⟩
  exact ⟨u, v', h', μ', rfl, hq, hw.ok hv, hp, hr', hb⟩
/-- An object is nobody's own any more. -/
def frz (h : Heap) (b : Nat) : Heap := match h[b]? with
  | some ob => h.set b { ob with own := false }
  | none => h
theorem frz_len (h : Heap) (b : Nat) : (frz h b).length = h.length := by unfold frz; split <;> simp
theorem frz_get {h : Heap} {b k : Nat} {ob : AO} (hk : (frz h b)[k]? = some ob) : ∃ ob', h[k]? = some ob' ∧ ob.cells = ob'.cells ∧ ob.live = ob'.live ∧ (ob.own = true → ob'.own = true) := by
  unfold frz at hk
  split at hk
  · rename_i o ho
    rw [List.getElem?_set] at hk
    split at hk
    · rename_i e
      subst e
      split at hk
      · cases hk; exact ⟨o, ho, rfl, rfl, fun h => by cases h⟩
      · cases hk
    · exact ⟨ob, hk, rfl, rfl, fun h => h⟩
  · exact ⟨ob, hk, rfl, rfl, fun h => h⟩
theorem HR.frz {B0 : Pt} {μ : Mu} {h : Heap} {w : World} (hr : HR B0 μ h w) (b : Nat) : HR B0 μ (frz h b) w := by
  refine ⟨by rw [frz_len]; exact hr.len, hr.size, fun k ob hk hl => ?_, fun b1 b2 o1 o2 l1 l2 h1 h2 hl1 hl2 ho1 hne hm1 hm2 => ?_, hr.fz, fun b1 o1 l1 h1 hl1 ho1 hm1 q => by obtain ⟨o1', g1, _, g2, g3⟩ := frz_get h1; exact hr.nof b1 o1' l1 g1 (g2 ▸ hl1) (g3 ho1) hm1 q, hr.fp, fun b1 o1 l1 h1 hl1 hm1 => by obtain ⟨o1', g1, _, g2, g3⟩ := frz_get h1; exact hr.ns b1 o1' l1 g1 (g2 ▸ hl1) hm1⟩
  · obtain ⟨ob', h1, h2, h3, h4⟩ := frz_get hk
    obtain ⟨l, arr, T, fr, g1, g2, g3, g4⟩ := hr.ok k ob' h1 (h3 ▸ hl)
    exact ⟨l, arr, T, fr, g1, g2, by rw [h2]; exact g3, fun ho => by rw [h2]; exact g4 (h4 ho)⟩
  · obtain ⟨o1', g1, _, g2, g3⟩ := frz_get h1
    obtain ⟨o2', k1, _, k2, _⟩ := frz_get h2
    exact hr.inj b1 b2 o1' o2' l1 l2 g1 k1 (g2 ▸ hl1) (k2 ▸ hl2) (g3 ho1) hne hm1 hm2
theorem FnOK.frzRes {f : FuncId} {args : List AV} {Q : AV → Heap → Prop} (hf : FnOK P f args h (fun v h' => ∃ b, Q v (frz h' b))) : FnOK P f args h Q := by
  intro B0 μ w us hr hus
  refine Calls.mono (hf B0 μ w us hr hus) ?_
  rintro e w' ⟨u, v, h', μ', rfl, ⟨b, hq⟩, hv, hp, hr', hb⟩
  exact ⟨u, v, _, μ', rfl, hq, hv, hp, hr'.frz b, hb⟩
theorem frz_app {h G : Heap} {b : Nat} (hb : h.length ≤ b) : ∃ G', frz (h ++ G) b = h ++ G' := by
  unfold frz
  split
  · rename_i o ho
    refine ⟨G.set (b - h.length) { o with own := false }, ?_⟩
    rw [List.set_append_right _ _ hb]
  · exact ⟨G, rfl⟩
theorem frz_at {h : Heap} {b : Nat} {cs : List Cell} {own live : Bool} (hb : h[b]? = some ⟨cs, own, live⟩) : (frz h b)[b]? = some ⟨cs, false, live⟩ := by
  unfold frz
  rw [hb]
  simp only
  rw [List.getElem?_set_self (lt_of_get hb)]

/-! ### slices that grow -/
/-- Of a slice type: its element's cells, its zero, its bytes. -/
def SlT (P : Program) (t : TypeId) (k : Nat) (z : List Cell) (by_ : Nat) : Prop := ∃ e i, P.underlying t = some (.slice e) ∧ P.info? e = some i ∧ i.size = k ∧ i.bytes = by_ ∧ zeroOf P e = some z ∧ z.length = k ∧ 0 < k
def slt (P : Program) (t e : TypeId) (k b : Nat) : Bool := match P.underlying t, P.info? e with
  | some (.slice e'), some i => e' == e && i.size == k && i.bytes == b && decide (0 < k)
  | _, _ => false
theorem SlT.of {t e : TypeId} {k b : Nat} {z : List Cell} (h : slt P t e k b = true) (hz : zeroOf P e = some z) (hl : z.length = k) : SlT P t k z b := by
  unfold slt at h
  split at h
  · rename_i e' i he hi
    simp only [Bool.and_eq_true, beq_iff_eq, decide_eq_true_eq] at h
    obtain ⟨⟨⟨rfl, h1⟩, h2⟩, h3⟩ := h
    exact ⟨e', i, he, hi, h1, h2, hz, hl, h3⟩
  · cases h
def OutV (H : Heap) (base : Nat) (c : Cell) (k n : Nat) (cs : List Cell) : Prop :=
  cs.length = n * k ∧ ((c = .v (.slice none 0 0) ∧ n = 0) ∨ ∃ b ex, c = .sl b 0 n n k ex ∧ base ≤ b ∧ H[b]? = some ⟨cs, true, true⟩)
theorem OutV.nil {H : Heap} {base k : Nat} : OutV H base (.v (.slice none 0 0)) k 0 [] := ⟨by simp, .inl ⟨rfl, rfl⟩⟩
theorem OutV.app {H L : Heap} {base k n : Nat} {c : Cell} {cs : List Cell} (ho : OutV H base c k n cs) : OutV (H ++ L) base c k n cs := by
  obtain ⟨h1, h2⟩ := ho
  refine ⟨h1, ?_⟩
  rcases h2 with h2 | ⟨b, ex, h3, h4, h5⟩
  · exact .inl h2
  · exact .inr ⟨b, ex, h3, h4, old_get h5⟩
theorem OutV.low {H : Heap} {base base' k n : Nat} {c : Cell} {cs : List Cell} (ho : OutV H base c k n cs) (hb : base' ≤ base) : OutV H base' c k n cs := by
  obtain ⟨h1, h2⟩ := ho
  refine ⟨h1, ?_⟩
  rcases h2 with h2 | ⟨b, ex, h3, h4, h5⟩
  · exact .inl h2
  · exact .inr ⟨b, ex, h3, by omega, h5⟩
/-- A store into a box ahead of it leaves it. -/
theorem OutV.boxes {h L L' G : Heap} {k n : Nat} {c : Cell} {cs : List Cell} (ho : OutV (h ++ (L ++ G)) (h.length + L.length) c k n cs) (hl : L'.length = L.length) : OutV (h ++ (L' ++ G)) (h.length + L'.length) c k n cs := by
  obtain ⟨h1, h2⟩ := ho
  refine ⟨h1, ?_⟩
  rcases h2 with h2 | ⟨b, ex, h3, h4, h5⟩
  · exact .inl h2
  · refine .inr ⟨b, ex, h3, by omega, ?_⟩
    rw [List.getElem?_append_right (by omega), List.getElem?_append_right (by omega)] at h5 ⊢
    rw [hl]; exact h5
variable {ops : Array Oper} {l : List Oper} {Q : (Nat → AV) → Heap → Prop} {T0 : Nat → AV} {env : Env} {d : Nat} {ty : TypeId} {pos : String} {af : Array Edge} {g : Option (Nat × Bool)}
theorem e_lenO {t : TypeId} {x : Operand} {H : Heap} {base k n : Nat} {c : Cell} {cs : List Cell} {dst : Option Nat} {T : Nat → AV} (hx : aev T x = some (.o (.c c))) (ht : isSliceT P t = true) (ho : OutV H base c k n cs) : evOp P ⟨dst, .call ⟨.builtin .len, #[x], #[t]⟩, ty, pos, af, g⟩ T h = some (VI n, h) := by
  obtain ⟨e, he⟩ := isSliceT_ok ht
  have ha : argsA T [x] = some [.o (.c c)] := by simp only [argsA, hx]
  have hl : eLen P t (.o (.c c)) = some n := by
    rcases ho.2 with ⟨rfl, rfl⟩ | ⟨b, ex, rfl, _, _⟩
    · simp only [eLen, he]
    · simp only [eLen, he]
  simp only [evOp, ha, hl]
theorem src1 {h L : Heap} {i k : Nat} {ex own : Bool} {cs : List Cell} (hk : L[i]? = some ⟨cs, own, true⟩) (hl : cs.length = k) : srcCells (.sl (h.length + i) 0 1 1 k ex) k (h ++ L) = some (1, cs) := by
  simp only [srcCells, box_get hk, List.drop_zero, Nat.one_mul, true_and]
  rw [← hl, List.take_length, if_pos rfl]
/-- A grown slice, handed out to be read. -/
theorem OutV.out {h L : Heap} {c : Cell} {k n : Nat} {cs : List Cell} (ho : OutV (h ++ L) h.length c k n cs) (f : Nat → List Cell) (hf : ∀ j, j < n → (cs.drop (j * k)).take k = f j ∧ (f j).length = k) :
    ∃ b bf, WkV (.o (.c c)) (.o (.c (.rd b 0 n k))) ∧ (∃ G, frz (h ++ L) bf = h ++ G) ∧ Sl (frz (h ++ L) bf) b 0 k n f := by
  obtain ⟨h1, h2⟩ := ho
  rcases h2 with ⟨rfl, rfl⟩ | ⟨b, ex, rfl, h4, h5⟩
  · exact ⟨0, h.length, .c (.nl 0 0 k), frz_app (Nat.le_refl _), fun j hj => by omega⟩
  · refine ⟨b, b, .c (.sl b 0 n n k ex (Nat.le_refl _)), frz_app h4, fun j hj => ⟨_, frz_at h5, ⟨rfl, rfl⟩, ?_⟩⟩
    simpa using hf j hj
theorem FnOK.outRes {f : FuncId} {args : List AV} {k : Nat} {R : Nat → (Nat → List Cell) → Prop}
    (hf : FnOK P f args h (fun v h' => ∃ c L n cs fn, v = .o (.c c) ∧ h' = h ++ L ∧ OutV (h ++ L) h.length c k n cs ∧ (∀ j, j < n → (cs.drop (j * k)).take k = fn j ∧ (fn j).length = k) ∧ R n fn)) :
    FnOK P f args h (fun v h' => ∃ b G n fn, v = .o (.c (.rd b 0 n k)) ∧ h' = h ++ G ∧ Sl h' b 0 k n fn ∧ R n fn) := by
  intro B0 μ w us hr hus
  refine Calls.mono (hf B0 μ w us hr hus) ?_
  rintro e w' ⟨u, v, h', μ', rfl, ⟨c, L, n, cs, fn, rfl, rfl, ho, hfn, hR⟩, hv, hp, hr', hb⟩
  obtain ⟨b, bf, hw, ⟨G, hG⟩, hS⟩ := ho.out fn hfn
  exact ⟨u, _, frz (h ++ L) bf, μ', rfl, ⟨b, G, n, fn, rfl, hG, hS, hR⟩, hw.ok hv, hp, hr'.frz bf, hb⟩
end Rv
