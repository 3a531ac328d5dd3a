import Derived.Test.YtnlpkgamglhnbaaRvLib
set_option linter.unusedVariables false
set_option linter.unusedSimpArgs false
namespace Rv
open Go Go.RowKit

/-- What the call finds: no object of its own; all memory stays. -/
def mu0 (w : World) : Mu := ⟨[], fun B o => w.cell? ⟨B, o, none⟩⟩
def pt0 (w : World) : Pt := ⟨fun k => k < w.heap.size, fun B o => w.cell? ⟨B, o, none⟩, fun _ => False, fun _ h => h.elim⟩
theorem HR.zero (w : World) : HR (pt0 w) (mu0 w) [] w :=
  ⟨rfl, fun k h => h, fun b o hb => by simp at hb, fun b b' o o' l l' hb => by simp at hb, fun B o v h => h, fun b o l hb => by simp at hb, fun B o v h _ => h, fun b o l hb => by simp at hb⟩
theorem HR.keep {B0 : Pt} {μ : Mu} {h : Heap} {w w' : World} (hr : HR B0 μ h w) (hs : w.heap.size ≤ w'.heap.size) (hb : ∀ k, k < w.heap.size → w'.heap[k]? = w.heap[k]?) : HR B0 μ h w' := by
  have hlow : ∀ {B o : Nat} {v : Value}, μ.F B o = some v → B < w.heap.size := fun {B o v} e => by
    have := hr.fz B o v e
    exact World.block_lt_of_cell? w ⟨B, o, none⟩ this
  refine ⟨hr.len, fun k hk => Nat.lt_of_lt_of_le (hr.size k hk) hs, fun b ob hbb hl => ?_, hr.inj, fun C q v e => ?_, hr.nof, hr.fp, hr.ns⟩
  · obtain ⟨l, arr, T, fr, g1, g2, g3, g4⟩ := hr.ok b ob hbb hl
    have hlt : l.B < w.heap.size := by
      rcases Nat.lt_or_ge l.B w.heap.size with h' | h'
      · exact h'
      · rw [Array.getElem?_eq_none h'] at g2; cases g2
    exact ⟨l, arr, T, fr, g1, by rw [hb _ hlt]; exact g2, g3, g4⟩
  · have h1 := hr.fz C q v e
    have h2 := hlow e
    unfold World.cell? at h1 ⊢
    simp only [hb C h2]; exact h1
/-- cells that are values -/
def valC : Cell → Bool
  | .v _ => true
  | _ => false
def val1 : V1 → Bool
  | .c x => valC x
  | .agg cs => cs.all valC
def valA : AV → Bool
  | .o x => val1 x
  | .tup xs => xs.all val1
  | .top => false
theorem valC_ok {μ μ' : Mu} {c : Cell} {u : Value} (hf : valC c = true) (h : RC μ' c u) : RC μ c u := by
  cases c <;> first | exact h | cases hf
theorem val1_ok {μ μ' : Mu} {x : V1} {u : Value} (hf : val1 x = true) (h : R1 μ' x u) : R1 μ x u := by
  cases x with
  | c x => exact valC_ok hf h
  | agg cs =>
    obtain ⟨us, e, r⟩ := h
    exact ⟨us, e, r.1, fun i c v hc hv => valC_ok (List.all_eq_true.1 hf c (List.mem_of_getElem? hc)) (r.2 i c v hc hv)⟩
theorem valA_ok {μ μ' : Mu} {x : AV} {u : Value} (hf : valA x = true) (h : RV μ' x u) : RV μ x u := by
  cases x with
  | o x => exact val1_ok hf h
  | tup xs =>
    obtain ⟨us, e, r⟩ := h
    exact ⟨us, e, r.1, fun i c v hc hv => val1_ok (List.all_eq_true.1 hf c (List.mem_of_getElem? hc)) (r.2 i c v hc hv)⟩
  | top => trivial
/-- A value of the caller's, as a function that only reads takes it. -/
def BorC (h : Heap) (c c' : Cell) : Prop := ∀ (B0 : Pt) (μ : Mu) (w : World) (u : Value), HR B0 μ h w → RC μ c u → RC (mu0 w) c' u
def BorV (h : Heap) (a a' : AV) : Prop := ∀ (B0 : Pt) (μ : Mu) (w : World) (u : Value), HR B0 μ h w → RV μ a u → RV (mu0 w) a' u
theorem BorC.v {h : Heap} {x : Value} : BorC h (.v x) (.v x) := fun _ _ _ _ _ hr => hr
theorem fF {B0 : Pt} {μ : Mu} {h : Heap} {w : World} (hr : HR B0 μ h w) : ∀ B o v, μ.F B o = some v → (mu0 w).F B o = some v := fun B o v e => hr.fz B o v e
theorem BorC.l {h : Heap} {k : Nat} {xs : List (List Cell)} : BorC h (.L k xs) (.L k xs) := fun _ _ _ _ hr hc => LR.mono (fF hr) hc
theorem BorC.g {α : Type} {h : Heap} {b k n : Nat} {l : List α} {f : α → List Cell} {lv : Bool} (hb : h[b]? = some ⟨(l.map f).flatten, true, lv⟩) (hn : n = l.length) (hk : ∀ x, (f x).length = k) (hf : ∀ x, (f x).all isVL = true) : BorC h (.g b n k lv) (.L k (l.map f)) := by
  subst hn
  intro B0 μ w u hr hu
  have hlen : (l.map f).length = l.length := by simp
  cases lv with
  | false =>
    obtain ⟨h0, A, rfl⟩ := hu.1 rfl
    have : l = [] := List.eq_nil_of_length_eq_zero h0
    subst this
    exact LR.of (xs := []) (Nat.le_refl _) (fun _ => ⟨rfl, rfl⟩) (fun h => absurd rfl h)
  | true =>
    obtain ⟨l', c', hm, rfl, h1, h2⟩ := hu.2 rfl
    show LR _ _ _ _
    have key : LR (mu0 w).F k (l.map f) (.slice (some ⟨l'.B, l'.base, none⟩) (l.map f).length c') := by
      refine LR.of (by rw [hlen]; exact h1) (fun e => by cases e) fun _ => ⟨_, _, rfl, fun i ps hi => ?_⟩
      rw [List.getElem?_map, Option.map_eq_some_iff] at hi
      obtain ⟨x, hx, rfl⟩ := hi
      refine ⟨hk x, fun j c hc => ?_⟩
      have hj : j < (f x).length := lt_of_get hc
      have hdt := flat_at hk hx
      have hget : ((l.map f).flatten)[i * k + j]? = some c := by
        rw [← hdt, List.getElem?_take, List.getElem?_drop] at hc
        rw [if_pos (by rw [hk] at hj; exact hj)] at hc
        exact hc
      obtain ⟨val, g1, g2⟩ := hr.cell hb rfl hm (j := i * k + j) (c := c) hget
      refine ⟨val, by rw [Nat.add_assoc]; exact g1, ?_⟩
      have hvl := List.all_eq_true.1 (hf x) c (List.mem_of_getElem? hc)
      cases c with
      | v y => exact g2
      | L k' xs' => exact LR.mono (fF hr) g2
      | _ => cases hvl
    rw [hlen] at key
    exact key
theorem BorV.c {h : Heap} {c c' : Cell} (hc : BorC h c c') : BorV h (.o (.c c)) (.o (.c c')) := hc
theorem BorV.agg {h : Heap} {cs cs' : List Cell} (hc : R2 (BorC h) cs cs') : BorV h (.o (.agg cs)) (.o (.agg cs')) := by
  rintro B0 μ w u hr ⟨us, e, r⟩
  refine ⟨us, e, hc.1.symm.trans r.1, fun i c' v hc' hv => ?_⟩
  obtain ⟨c, h1, h2⟩ := hc.get' hc'
  exact h2 B0 μ w v hr (r.2 i c v h1 hv)
theorem FnOK.borrow {P : Program} {f : FuncId} {args args' : List AV} {v0 : AV} {h : Heap} (ha : R2 (BorV h) args args') (hf : FnOK P f args' [] (fun v h' => v = v0 ∧ h' = [])) (hv : valA v0 = true) : FnOK P f args h (fun v h' => v = v0 ∧ h' = h) := by
  intro B0 μ w us hr hus
  have hus' : R2 (RV (mu0 w)) args' us := ⟨ha.1.symm.trans hus.1, fun i x y hx hy => by
    obtain ⟨a, h1, h2⟩ := ha.get' hx
    exact h2 B0 μ w y hr (hus.2 i a y h1 hy)⟩
  refine Calls.mono (hf (pt0 w) (mu0 w) w us (HR.zero w) hus') ?_
  rintro e w' ⟨u, v, h', μ', rfl, ⟨rfl, rfl⟩, hvu, _, _, hb⟩
  have hk := hr.keep hb.size (fun k hk => hb.block k hk)
  exact ⟨u, _, h, μ, rfl, ⟨rfl, rfl⟩, valA_ok hv hvu, Mu.le_refl _, hk, hb.os, hb.tape, hb.output, hb.size, fun k hk' => hb.block k (hr.size k hk')⟩
theorem RgOK.weakT {P : Program} {N : Nat} {ops : Array Oper} {l : List Oper} {T T' : Nat → AV} {h : Heap} {Q : (Nat → AV) → Heap → Prop} (hw : ∀ t, WkV (T t) (T' t)) (hl : RgOK P N ops l T' h Q) : RgOK P N ops l T h Q :=
  fun B0 μ a w K hs hr hk => hl B0 μ a w K ⟨hs.1, fun t => (hw t).ok (hs.2 t)⟩ hr hk
theorem RgOK.sW {P : Program} {N : Nat} {ops : Array Oper} {l : List Oper} {h : Heap} {Q : (Nat → AV) → Heap → Prop} {T0 : Nat → AV} {env : Env} {d : Nat} {o : Oper} {v v' : AV} {h' : Heap} (hdst : o.dst = some d) (hw : wantA ops.toList (look T0 env) o = some true) (hd : decide (d < N) = true) (he : evOp P o (look T0 env) h = some (v, h')) (hk : WkV v v') (hl : RgOK P N ops l (look T0 ((d, v') :: env)) h' Q) : RgOK P N ops (o :: l) (look T0 env) h Q := by
  refine RgOK.s hdst hw hd he (RgOK.weakT (fun t => ?_) hl)
  unfold look
  split
  · exact hk
  · exact .refl _
theorem e_bldK {P : Program} {T : Nat → AV} {dst : Option Nat} {ty : TypeId} {pos : String} {af : Array Edge} {g : Option (Nat × Bool)} {h : Heap} {t : TypeId} {ps : Array (Nat × Operand)} {pl : List (Nat × V1)} {v : V1} (hp : partsA T ps.toList = some pl) (hb : eBuild P t pl = some v) : evOp P ⟨dst, .build t ps, ty, pos, af, g⟩ T h = some (.o v, h) := by
  simp only [evOp, hp, hb]
theorem e_ixK {P : Program} {T : Nat → AV} {dst : Option Nat} {ty : TypeId} {pos : String} {af : Array Edge} {g : Option (Nat × Bool)} {h : Heap} {t : TypeId} {x y : Operand} {cs : List Cell} {i n : Int} {v : AV} (hx : aev T x = some (.o (.agg cs))) (hy : aev T y = some (VI i)) (hi : i = n) (he : eIndexA P t cs n = some v) : evOp P ⟨dst, .index t x y, ty, pos, af, g⟩ T h = some (v, h) := by
  subst hi
  have h2 : sev T y = some (.int .i64 i) := by unfold sev; rw [hy]; rfl
  simp only [evOp, hx, h2, he]
end Rv
