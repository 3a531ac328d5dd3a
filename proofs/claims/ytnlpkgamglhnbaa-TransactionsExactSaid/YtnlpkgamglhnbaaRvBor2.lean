import Derived.Test.YtnlpkgamglhnbaaRvOwn
set_option linter.unusedVariables false
set_option linter.unusedSimpArgs false
namespace Rv
open Go Go.RowKit

def inBs (μ : Mu) (bs : List Nat) (B : Nat) : Prop := ∃ b ∈ bs, ∃ l, μ.ls[b]? = some l ∧ l.B = B
open Classical in
noncomputable def muB (μ : Mu) (bs : List Nat) (w : World) : Mu := ⟨bs.map fun b => (μ.ls[b]?).getD ⟨0, 0, 0⟩, fun B o => if inBs μ bs B then none else w.cell? ⟨B, o, none⟩⟩
theorem muB_in {μ : Mu} {bs : List Nat} {w : World} {B o : Nat} (h : inBs μ bs B) : (muB μ bs w).F B o = none := if_pos h
theorem muB_out {μ : Mu} {bs : List Nat} {w : World} {B o : Nat} (h : ¬ inBs μ bs B) : (muB μ bs w).F B o = w.cell? ⟨B, o, none⟩ := if_neg h
theorem muB_some {μ : Mu} {bs : List Nat} {w : World} {B o : Nat} {v : Value} (h : (muB μ bs w).F B o = some v) : w.cell? ⟨B, o, none⟩ = some v := by
  by_cases hc : inBs μ bs B
  · rw [muB_in hc] at h; cases h
  · rwa [muB_out hc] at h
def ptB (μ : Mu) (bs : List Nat) (w : World) : Pt := ⟨fun k => k < w.heap.size ∧ ¬ inBs μ bs k, fun B o => w.cell? ⟨B, o, none⟩, fun _ => False, fun _ h => h.elim⟩
/-- The boxes that are lent: whole objects of plain values. -/
def Lent (h : Heap) (bs : List Nat) (L : Heap) : Prop := bs.Nodup ∧ R2 (fun b o => h[b]? = some o ∧ o.live = true ∧ o.own = true ∧ o.cells.all valC = true) bs L
section
variable {B0 : Pt} {μ : Mu} {h : Heap} {w : World} {bs : List Nat} {L : Heap}
theorem Lent.loc (hL : Lent h bs L) (hr : HR B0 μ h w) {j b : Nat} (hj : bs[j]? = some b) : ∃ l, μ.ls[b]? = some l ∧ (muB μ bs w).ls[j]? = some l := by
  obtain ⟨o, _, h1, _⟩ := hL.2.get hj
  obtain ⟨l, hl⟩ := hr.locOf h1
  refine ⟨l, hl, ?_⟩
  show (bs.map _)[j]? = _
  rw [List.getElem?_map, hj]
  simp [hl]
theorem Lent.apart (hL : Lent h bs L) (hr : HR B0 μ h w) {x : Nat} {o : AO} {l : Loc} (hx : h[x]? = some o) (hlv : o.live = true) (hm : μ.ls[x]? = some l) (hn : x ∉ bs) : ¬ inBs μ bs l.B := by
  rintro ⟨b, hb, l', hl', e⟩
  obtain ⟨j, hj⟩ := List.getElem?_of_mem hb
  obtain ⟨o', _, h1, h2, h3, _⟩ := hL.2.get hj
  exact hr.inj b x o' o l' l h1 hx h2 hlv h3 (fun e => hn (e ▸ hb)) hl' hm e
theorem Lent.noF (hL : Lent h bs L) (hr : HR B0 μ h w) {B o : Nat} {v : Value} (e : μ.F B o = some v) : ¬ inBs μ bs B := by
  rintro ⟨b, hb, l', hl', rfl⟩
  obtain ⟨j, hj⟩ := List.getElem?_of_mem hb
  obtain ⟨o', _, h1, h2, h3, _⟩ := hL.2.get hj
  rw [hr.nof b o' l' h1 h2 h3 hl' o] at e
  cases e
theorem Lent.fF (hL : Lent h bs L) (hr : HR B0 μ h w) : ∀ B o v, μ.F B o = some v → (muB μ bs w).F B o = some v := fun B o v e => by
  rw [muB_out (hL.noF hr e)]
  exact hr.fz B o v e
theorem HR.lend (hr : HR B0 μ h w) (hL : Lent h bs L) : HR (ptB μ bs w) (muB μ bs w) L w := by
  have hget : ∀ {j : Nat} {o : AO}, L[j]? = some o → ∃ b, bs[j]? = some b ∧ h[b]? = some o ∧ o.live = true ∧ o.own = true ∧ o.cells.all valC = true := fun {j o} hj => hL.2.get' hj
  refine ⟨by show (bs.map _).length = _; rw [List.length_map]; exact hL.2.1, fun k hk => hk.1, fun j o hj hl => ?_, fun j j' o o' l l' hj hj' hl hl' ho hne hm hm' => ?_, fun B o v e => ?_, fun j o l hj hl ho hm q => ?_, fun B o v e _ => ?_, fun j o l hj hl hm hs => hs⟩
  · obtain ⟨b, hb, h1, h2, h3, h4⟩ := hget hj
    obtain ⟨l, k1, k2⟩ := hL.loc hr hb
    obtain ⟨l', arr, T, fr, g1, g2, g3, g4⟩ := hr.ok b o h1 h2
    obtain rfl : l' = l := by rw [k1] at g1; exact (Option.some.inj g1).symm
    obtain ⟨q1, q2, q3⟩ := g4 h3
    refine ⟨l', arr, T, fr, k2, g2, fun i c hc => ?_, fun _ => ⟨q1, fun hk => hk.2 ⟨b, List.mem_of_getElem? hb, l', k1, rfl⟩, q3⟩⟩
    obtain ⟨u, hu, hru⟩ := g3 i c hc
    exact ⟨u, hu, valC_ok (List.all_eq_true.1 h4 c (List.mem_of_getElem? hc)) hru⟩
  · obtain ⟨b, hb, h1, h2, h3, h4⟩ := hget hj
    obtain ⟨b', hb', k1, k2, k3, k4⟩ := hget hj'
    obtain ⟨l1, e1, e2⟩ := hL.loc hr hb
    obtain ⟨l2, e3, e4⟩ := hL.loc hr hb'
    rw [hm] at e2; obtain rfl := Option.some.inj e2
    rw [hm'] at e4; obtain rfl := Option.some.inj e4
    refine hr.inj b b' o o' l l' h1 k1 h2 k2 h3 (fun e => hne ?_) e1 e3
    subst e
    have hj1 := lt_of_get hb
    have hj2 := lt_of_get hb'
    exact (List.getElem?_inj hj1 hL.1).1 (hb.trans hb'.symm)
  · exact muB_some e
  · obtain ⟨b, hb, h1, h2, h3, h4⟩ := hget hj
    obtain ⟨l1, e1, e2⟩ := hL.loc hr hb
    rw [hm] at e2; obtain rfl := Option.some.inj e2
    exact muB_in ⟨b, List.mem_of_getElem? hb, l, e1, rfl⟩
  · exact muB_some e
theorem HR.lent {w' : World} {μ' : Mu} (hr : HR B0 μ h w) (hL : Lent h bs L) (hle : Mu.le (muB μ bs w) μ') (hr' : HR (ptB μ bs w) μ' L w') (hb : Bel (ptB μ bs w) w w') : HR B0 μ h w' := by
  have hlow : ∀ {B o : Nat} {v : Value}, μ.F B o = some v → B < w.heap.size := fun {B o v} e => by
    have := hr.fz B o v e
    exact World.block_lt_of_cell? w ⟨B, o, none⟩ this
  refine ⟨hr.len, fun k hk => Nat.lt_of_lt_of_le (hr.size k hk) hb.size, fun b ob hbb hl => ?_, hr.inj, fun C q v e => ?_, hr.nof, hr.fp, hr.ns⟩
  · obtain ⟨l, arr, T, fr, g1, g2, g3, g4⟩ := hr.ok b ob hbb hl
    have hlt : l.B < w.heap.size := by
      rcases Nat.lt_or_ge l.B w.heap.size with h' | h'
      · exact h'
      · rw [Array.getElem?_eq_none h'] at g2; cases g2
    by_cases hin : b ∈ bs
    · obtain ⟨j, hj⟩ := List.getElem?_of_mem hin
      obtain ⟨o, ho, h1, h2, h3, h4⟩ := hL.2.get hj
      rw [hbb] at h1; obtain rfl := Option.some.inj h1
      obtain ⟨l1, e1, e2⟩ := hL.loc hr hj
      rw [g1] at e1; obtain rfl := Option.some.inj e1
      obtain ⟨l2, arr', T', fr', k1, k2, k3, k4⟩ := hr'.ok j ob ho hl
      rw [pre_get hle e2] at k1; obtain rfl := Option.some.inj k1
      obtain ⟨q1, q2, q3⟩ := k4 h3
      refine ⟨l, arr', T', fr', g1, k2, fun i c hc => ?_, fun _ => ⟨q1, (g4 h3).2.1, q3⟩⟩
      obtain ⟨u, hu, hru⟩ := k3 i c hc
      exact ⟨u, hu, valC_ok (List.all_eq_true.1 h4 c (List.mem_of_getElem? hc)) hru⟩
    · refine ⟨l, arr, T, fr, g1, ?_, g3, g4⟩
      rw [hb.block l.B ⟨hlt, hL.apart hr hbb hl g1 hin⟩]; exact g2
  · have h1 := hr.fz C q v e
    have h2 := hlow e
    have h3 := hL.noF hr e
    unfold World.cell? at h1 ⊢
    simp only [hb.block C ⟨h2, h3⟩]; exact h1
end
def BorCB (h : Heap) (bs : List Nat) (c c' : Cell) : Prop := ∀ (B0 : Pt) (μ : Mu) (w : World) (u : Value) (L : Heap), HR B0 μ h w → Lent h bs L → RC μ c u → RC (muB μ bs w) c' u
def BorVB (h : Heap) (bs : List Nat) (a a' : AV) : Prop := ∀ (B0 : Pt) (μ : Mu) (w : World) (u : Value) (L : Heap), HR B0 μ h w → Lent h bs L → RV μ a u → RV (muB μ bs w) a' u
section
variable {h : Heap} {bs : List Nat}
theorem BorCB.v {x : Value} : BorCB h bs (.v x) (.v x) := fun _ _ _ _ _ _ _ hr => hr
theorem BorCB.l {k : Nat} {xs : List (List Cell)} : BorCB h bs (.L k xs) (.L k xs) := fun _ _ _ _ _ hr hL hc => LR.mono (hL.fF hr) hc
theorem BorCB.ptr {b j o : Nat} (hj : bs[j]? = some b) : BorCB h bs (.ptr b o) (.ptr j o) := fun B0 μ w u L hr hL hc => by
  obtain ⟨l, k1, k2⟩ := hL.loc hr hj
  obtain ⟨l', hl', e⟩ := hc
  rw [k1] at hl'; obtain rfl := Option.some.inj hl'
  exact ⟨l, k2, e⟩
theorem BorCB.fn {f : FuncId} {caps caps' : List (Nat × Nat)} (hc : R2 (fun p p' : Nat × Nat => p.2 = p'.2 ∧ bs[p'.1]? = some p.1) caps caps') : BorCB h bs (.fn f caps) (.fn f caps') := fun B0 μ w u L hr hL hu => by
  obtain ⟨us, e, r⟩ := hu
  refine ⟨us, e, hc.1.symm.trans r.1, fun i p' v hp' hv => ?_⟩
  obtain ⟨p, hp, h1, h2⟩ := hc.get' hp'
  obtain ⟨l, hl, e2⟩ := r.2 i p v hp hv
  obtain ⟨l', k1, k2⟩ := hL.loc hr h2
  rw [hl] at k1; obtain rfl := Option.some.inj k1
  exact ⟨l, k2, by rw [← h1]; exact e2⟩
theorem BorCB.g {α : Type} {b k n : Nat} {l : List α} {f : α → List Cell} {lv : Bool} (hb : h[b]? = some ⟨(l.map f).flatten, true, lv⟩) (hbs : b ∉ bs) (hn : n = l.length) (hk : ∀ x, (f x).length = k) (hf : ∀ x, (f x).all isVL = true) : BorCB h bs (.g b n k lv) (.L k (l.map f)) := by
  subst hn
  intro B0 μ w u L hr hL hu
  have hlen : (l.map f).length = l.length := by simp
  cases lv with
  | false =>
    obtain ⟨h0, A, rfl⟩ := hu.1 rfl
    have : l = [] := List.eq_nil_of_length_eq_zero h0
    subst this
    exact LR.of (xs := []) (Nat.le_refl _) (fun _ => ⟨rfl, rfl⟩) (fun h => absurd rfl h)
  | true =>
    obtain ⟨l', c', hm, rfl, h1, h2⟩ := hu.2 rfl
    have hap := hL.apart hr hb rfl hm hbs
    show LR _ _ _ _
    have key : LR (muB μ bs w).F k (l.map f) (.slice (some ⟨l'.B, l'.base, none⟩) (l.map f).length c') := by
      refine LR.of (by rw [hlen]; exact h1) (fun e => by cases e) fun _ => ⟨_, _, rfl, fun i ps hi => ?_⟩
      rw [List.getElem?_map, Option.map_eq_some_iff] at hi
      obtain ⟨x, hx, rfl⟩ := hi
      refine ⟨hk x, fun j c hc => ?_⟩
      have hj : j < (f x).length := lt_of_get hc
      have hdt := flat_at hk hx
      have hget : ((l.map f).flatten)[i * k + j]? = some c := by
        rw [← hdt, List.getElem?_take, List.getElem?_drop] at hc
        rw [if_pos (by rw [hk] at hj; exact hj)] at hc
        exact hc
      obtain ⟨val, g1, g2⟩ := hr.cell hb rfl hm (j := i * k + j) (c := c) hget
      refine ⟨val, ?_, ?_⟩
      · rw [muB_out hap, Nat.add_assoc]; exact g1
      have hvl := List.all_eq_true.1 (hf x) c (List.mem_of_getElem? hc)
      cases c with
      | v y => exact g2
      | L k' xs' => exact LR.mono (hL.fF hr) g2
      | _ => cases hvl
    rw [hlen] at key
    exact key
theorem BorVB.c {c c' : Cell} (hc : BorCB h bs c c') : BorVB h bs (.o (.c c)) (.o (.c c')) := hc
theorem BorVB.agg {cs cs' : List Cell} (hc : R2 (BorCB h bs) cs cs') : BorVB h bs (.o (.agg cs)) (.o (.agg cs')) := by
  rintro B0 μ w u L hr hL ⟨us, e, r⟩
  refine ⟨us, e, hc.1.symm.trans r.1, fun i c' v hc' hv => ?_⟩
  obtain ⟨c, h1, h2⟩ := hc.get' hc'
  exact h2 B0 μ w v L hr hL (r.2 i c v h1 hv)
theorem FnOK.borrowB {P : Program} {f : FuncId} {args args' : List AV} {v0 : AV} {L : Heap} (hL : Lent h bs L) (ha : R2 (BorVB h bs) args args') (hf : FnOK P f args' L (fun v h' => v = v0 ∧ h' = L)) (hv : valA v0 = true) : FnOK P f args h (fun v h' => v = v0 ∧ h' = h) := by
  intro B0 μ w us hr hus
  have hus' : R2 (RV (muB μ bs w)) args' us := ⟨ha.1.symm.trans hus.1, fun i x y hx hy => by
    obtain ⟨a, h1, h2⟩ := ha.get' hx
    exact h2 B0 μ w y L hr hL (hus.2 i a y h1 hy)⟩
  refine Calls.mono (hf (ptB μ bs w) (muB μ bs w) w us (hr.lend hL) hus') ?_
  rintro e w' ⟨u, v, h', μ', rfl, ⟨rfl, rfl⟩, hvu, hle, hr', hb⟩
  refine ⟨u, _, h, μ, rfl, ⟨rfl, rfl⟩, valA_ok hv hvu, Mu.le_refl _, hr.lent hL hle hr' hb, hb.os, hb.tape, hb.output, hb.size, fun k hk' => hb.block k ⟨hr.size k hk', ?_⟩⟩
  rintro ⟨b, hbb, l, hl, rfl⟩
  obtain ⟨j, hj⟩ := List.getElem?_of_mem hbb
  obtain ⟨o, _, h1, h2, h3, _⟩ := hL.2.get hj
  obtain ⟨l2, arr, T, fr, k1, k2, k3, k4⟩ := hr.ok b o h1 h2
  rw [hl] at k1; obtain rfl := Option.some.inj k1
  exact (k4 h3).2.1 hk'
theorem Lent.one {b : Nat} {cs : List Cell} (hb : h[b]? = some ⟨cs, true, true⟩) (hv : cs.all valC = true) : Lent h [b] [⟨cs, true, true⟩] := ⟨by simp, R2.cons ⟨hb, rfl, rfl, hv⟩ (R2.nil _)⟩
theorem Lent.two {b b' : Nat} {cs cs' : List Cell} (hne : b ≠ b') (hb : h[b]? = some ⟨cs, true, true⟩) (hb' : h[b']? = some ⟨cs', true, true⟩) (hv : cs.all valC = true) (hv' : cs'.all valC = true) : Lent h [b, b'] [⟨cs, true, true⟩, ⟨cs', true, true⟩] := ⟨by simp [hne], R2.cons ⟨hb, rfl, rfl, hv⟩ (R2.cons ⟨hb', rfl, rfl, hv'⟩ (R2.nil _))⟩
theorem Lent.nil : Lent h [] [] := ⟨by simp, R2.nil _⟩
end
end Rv
