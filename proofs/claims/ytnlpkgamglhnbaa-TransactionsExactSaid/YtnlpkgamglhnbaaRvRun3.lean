import Derived.Test.YtnlpkgamglhnbaaRvRun2
import Derived.Lib.Overlaps
import Derived.Lib.AppendZerosOnto
import Derived.Laws.Externs
set_option linter.unusedVariables false
set_option linter.unusedSimpArgs false
namespace Rv
open Go Go.RowKit
variable {P : Program} {N : Nat} {h : Heap}

/-- An object of one's own has as many cells as its block lends it. -/
theorem HR.ext {B0 : Pt} {μ : Mu} {h : Heap} {w : World} (hr : HR B0 μ h w) {b : Nat} {cs : List Cell} (hb : h[b]? = some ⟨cs, true, true⟩) {l : Loc} (hm : μ.ls[b]? = some l) {m : Nat} (hmc : cs.length + m ≤ l.cap) : HR B0 μ (h.set b ⟨cs ++ List.replicate m .any, true, true⟩) w := by
  have hlt := lt_of_get hb
  have hget : ∀ (x : Nat) (ob : AO), (h.set b ⟨cs ++ List.replicate m .any, true, true⟩)[x]? = some ob → ∃ ob', h[x]? = some ob' ∧ ob'.own = ob.own ∧ ob'.live = ob.live := fun x ob hx => by
    rw [List.getElem?_set] at hx
    split at hx
    · rename_i e
      subst e
      cases hx; exact ⟨_, hb, rfl, rfl⟩
    · exact ⟨ob, hx, rfl, rfl⟩
  refine ⟨by rw [List.length_set]; exact hr.len, hr.size, fun x ob hx hl => ?_, fun b1 b2 o1 o2 l1 l2 h1 h2 hl1 hl2 ho1 hne hm1 hm2 => ?_, hr.fz, fun b1 o1 l1 h1 hl1 ho1 hm1 q => by obtain ⟨o1', g1, g2, g3⟩ := hget b1 o1 h1; exact hr.nof b1 o1' l1 g1 (g3 ▸ hl1) (g2 ▸ ho1) hm1 q, hr.fp, fun b1 o1 l1 h1 hl1 hm1 => by obtain ⟨o1', g1, g2, g3⟩ := hget b1 o1 h1; exact hr.ns b1 o1' l1 g1 (g3 ▸ hl1) hm1⟩
  · by_cases e : x = b
    · subst e
      rw [List.getElem?_set_self hlt] at hx
      cases hx
      obtain ⟨l', arr, T, fr, g1, g2, g3, g4⟩ := hr.ok x _ hb rfl
      rw [hm] at g1; cases g1
      obtain ⟨k1, k2, k3, k4, k5⟩ := g4 rfl
      refine ⟨l, arr, T, fr, hm, g2, fun j c hc => ?_, fun _ => ⟨k1, k2, k3, by simp; omega, k5⟩⟩
      rcases Nat.lt_or_ge j cs.length with hj | hj
      · rw [List.getElem?_append_left hj] at hc; exact g3 j c hc
      · rw [List.getElem?_append_right hj, List.getElem?_replicate] at hc
        split at hc
        · rename_i hjm
          cases hc
          have hsz : l.base + j < arr.size := by omega
          exact ⟨arr[l.base + j], Array.getElem?_eq_getElem hsz, k5 _ (by simp)⟩
        · cases hc
    · rw [List.getElem?_set_ne (fun e' => e e'.symm)] at hx
      exact hr.ok x ob hx hl
  · obtain ⟨o1', g1, g2, g3⟩ := hget b1 o1 h1
    obtain ⟨o2', k1, k2, k3⟩ := hget b2 o2 h2
    exact hr.inj b1 b2 o1' o2' l1 l2 g1 k1 (g3 ▸ hl1) (k3 ▸ hl2) (g2 ▸ ho1) hne hm1 hm2
theorem FnOK.cap {f : FuncId} {b n c k : Nat} {cs : List Cell} {args : List AV} {Q : AV → Heap → Prop} (hb : h[b]? = some ⟨cs, true, true⟩) (hl : cs.length = n * k) (hn : n ≤ c)
    (hf : ∀ c', c ≤ c' → FnOK P f (.o (.c (.sl b 0 n c' k true)) :: args) (h.set b ⟨cs ++ List.replicate ((c' - n) * k) .any, true, true⟩) Q) : FnOK P f (.o (.c (.sl b 0 n c k false)) :: args) h Q := by
  intro B0 μ w us hr hus
  obtain ⟨u, hu, l, c', hm, rfl, h1, _, h3⟩ := hus.get (i := 0) rfl
  have hsame : R2 (RV μ) (.o (.c (.sl b 0 n c' k true)) :: args) us := by
    refine ⟨hus.1, fun i x y hx hy => ?_⟩
    cases i with
    | zero =>
      simp only [List.getElem?_cons_zero] at hx
      cases hx
      rw [hu] at hy; cases hy
      exact ⟨l, c', hm, rfl, Nat.le_refl _, fun _ => rfl, h3⟩
    | succ i => exact hus.2 (i + 1) x y (by simpa using hx) hy
  refine hf c' h1 B0 μ w us (hr.ext hb hm ?_) hsame
  rw [hl, ← Nat.add_mul]
  have : n + (c' - n) = c' := by omega
  rw [this]; omega

def Wk2 (v : AV) (h : Heap) (v' : AV) (h' : Heap) : Prop := ∀ (B0 : Pt) (μ : Mu) (w : World) (u : Value), HR B0 μ h w → RV μ v u → HR B0 μ h' w ∧ RV μ v' u
theorem Wk2.refl (v : AV) (h : Heap) : Wk2 v h v h := fun _ _ _ _ h1 h2 => ⟨h1, h2⟩
theorem HR.fewer {B0 : Pt} {μ : Mu} {h : Heap} {w : World} (hr : HR B0 μ h w) {b : Nat} {cs ds : List Cell} (hb : h[b]? = some ⟨cs ++ ds, true, true⟩) : HR B0 μ (h.set b ⟨cs, true, true⟩) w := by
  have hlt := lt_of_get hb
  have hget : ∀ (x : Nat) (ob : AO), (h.set b ⟨cs, true, true⟩)[x]? = some ob → ∃ ob', h[x]? = some ob' ∧ ob'.own = ob.own ∧ ob'.live = ob.live ∧ (∀ (j : Nat) (c : Cell), ob.cells[j]? = some c → ob'.cells[j]? = some c) ∧ ob.cells.length ≤ ob'.cells.length := fun x ob hx => by
    rw [List.getElem?_set] at hx
    split at hx
    · rename_i e
      subst e
      cases hx; exact ⟨_, hb, rfl, rfl, fun j c hc => by rw [List.getElem?_append_left (lt_of_get hc)]; exact hc, by simp⟩
    · exact ⟨ob, hx, rfl, rfl, fun _ _ h => h, Nat.le_refl _⟩
  refine ⟨by rw [List.length_set]; exact hr.len, hr.size, fun x ob hx hl => ?_, fun b1 b2 o1 o2 l1 l2 h1 h2 hl1 hl2 ho1 hne hm1 hm2 => ?_, hr.fz, fun b1 o1 l1 h1 hl1 ho1 hm1 q => by obtain ⟨o1', g1, g2, g3, _⟩ := hget b1 o1 h1; exact hr.nof b1 o1' l1 g1 (g3 ▸ hl1) (g2 ▸ ho1) hm1 q, hr.fp, fun b1 o1 l1 h1 hl1 hm1 => by obtain ⟨o1', g1, g2, g3, _⟩ := hget b1 o1 h1; exact hr.ns b1 o1' l1 g1 (g3 ▸ hl1) hm1⟩
  · obtain ⟨ob', g1, g2, g3, g4, g5⟩ := hget x ob hx
    obtain ⟨l, arr, T, fr, k1, k2, k3, k4⟩ := hr.ok x ob' g1 (g3 ▸ hl)
    refine ⟨l, arr, T, fr, k1, k2, fun j c hc => k3 j c (g4 j c hc), fun ho => ?_⟩
    obtain ⟨m1, m2, m3, m4, m5⟩ := k4 (g2 ▸ ho)
    exact ⟨m1, m2, m3, by omega, m5⟩
  · obtain ⟨o1', g1, g2, g3, _⟩ := hget b1 o1 h1
    obtain ⟨o2', k1, k2, k3, _⟩ := hget b2 o2 h2
    exact hr.inj b1 b2 o1' o2' l1 l2 g1 k1 (g3 ▸ hl1) (k3 ▸ hl2) (g2 ▸ ho1) hne hm1 hm2
variable {T : Nat → AV} {dst : Option Nat} {ty : TypeId} {pos : String} {af : Array Edge} {g : Option (Nat × Bool)}
theorem sliceF {t : TypeId} {k bb : Nat} {z : List Cell} (ht : SlT P t k z bb) : ∃ e i, P.underlying t = some (.slice e) ∧ P.info? e = some i ∧ i.size = k := by
  obtain ⟨e, i, h1, h2, h3, _⟩ := ht; exact ⟨e, i, h1, h2, h3⟩
theorem e_slo {t : TypeId} {k bb : Nat} {z : List Cell} {x lo : Operand} {b o n c : Nat} {ex : Bool} {i : Int} (ht : SlT P t k z bb) (hx : aev T x = some (.o (.c (.sl b o n c k ex)))) (hlo : aev T lo = some (VI i)) (hi : 0 ≤ i ∧ (i < n ∨ i = 0)) (hn : n ≤ c) : evOp P ⟨dst, .slice t x (some lo) none none, ty, pos, af, g⟩ T h = some (.o (.c (.sl b (o + i.toNat * k) (n - i.toNat) (c - i.toNat) k ex)), h) := by
  obtain ⟨e, inf, h1, h2, h3⟩ := sliceF ht
  have hs : sev T lo = some (.int .i64 i) := by unfold sev; rw [hlo]; rfl
  have ho : optA T (some lo) = some (some (.int .i64 i)) := by simp [optA, hs]
  have hb : bnd (some (.int .i64 i)) 0 n = some i.toNat := by simp only [bnd]; rw [if_pos (by omega)]
  have : eSliceC P t (.sl b o n c k ex) (some (.int .i64 i)) none none = some (.sl b (o + i.toNat * k) (n - i.toNat) (c - i.toNat) k ex) := by
    simp only [eSliceC, h1, h2, h3, if_true, eSlice, bnd.eq_1, hb]
    rw [if_pos (by omega)]
    by_cases e0 : i.toNat = 0
    · rw [if_pos e0, e0]; simp
    · rw [if_neg e0, if_pos (by omega)]
  have hno : optA T none = some none := rfl
  simp only [evOp, hx, ho, hno, this]
theorem e_slx {t : TypeId} {k bb : Nat} {z : List Cell} {x lo : Operand} {b o n c : Nat} {ex : Bool} {i : Int} (ht : SlT P t k z bb) (hx : aev T x = some (.o (.c (.sl b o n c k ex)))) (hlo : aev T lo = some (VI i)) (hi : 0 ≤ i ∧ i ≤ n) (hn : n ≤ c) : ∃ v, evOp P ⟨dst, .slice t x (some lo) none none, ty, pos, af, g⟩ T h = some (v, h) := by
  by_cases e0 : i < n ∨ i = 0
  · exact ⟨_, e_slo ht hx hlo ⟨hi.1, e0⟩ hn⟩
  · obtain ⟨e, inf, h1, h2, h3⟩ := sliceF ht
    have hs : sev T lo = some (.int .i64 i) := by unfold sev; rw [hlo]; rfl
    have ho : optA T (some lo) = some (some (.int .i64 i)) := by simp [optA, hs]
    have hb : bnd (some (.int .i64 i)) 0 n = some i.toNat := by simp only [bnd]; rw [if_pos (by omega)]
    have : eSliceC P t (.sl b o n c k ex) (some (.int .i64 i)) none none = some .emp := by
      simp only [eSliceC, h1, h2, h3, if_true, eSlice, bnd.eq_1, hb]
      rw [if_pos (by omega), if_neg (by omega), if_neg (by omega)]
    have hno : optA T none = some none := rfl
    exact ⟨.o (.c .emp), by simp only [evOp, hx, ho, hno, this]⟩
theorem e_shi {t : TypeId} {k bb : Nat} {z : List Cell} {x hx2 : Operand} {b o n c : Nat} {ex : Bool} {i : Int} (ht : SlT P t k z bb) (hx : aev T x = some (.o (.c (.sl b o n c k ex)))) (hhi : aev T hx2 = some (VI i)) (hi : 0 ≤ i ∧ i ≤ c) : evOp P ⟨dst, .slice t x none (some hx2) none, ty, pos, af, g⟩ T h = some (.o (.c (.sl b o i.toNat c k ex)), h) := by
  obtain ⟨e, inf, h1, h2, h3⟩ := sliceF ht
  have hs : sev T hx2 = some (.int .i64 i) := by unfold sev; rw [hhi]; rfl
  have ho : optA T (some hx2) = some (some (.int .i64 i)) := by simp [optA, hs]
  have hb : bnd (some (.int .i64 i)) n c = some i.toNat := by simp only [bnd]; rw [if_pos (by omega)]
  have : eSliceC P t (.sl b o n c k ex) none (some (.int .i64 i)) none = some (.sl b o i.toNat c k ex) := by
    simp only [eSliceC, h1, h2, h3, if_true, eSlice, hb]
    simp only [bnd]
    rw [if_pos (by omega)]
    simp
  have hno : optA T none = some none := rfl
  simp only [evOp, hx, ho, hno, this]
theorem e_cap {t : TypeId} {x : Operand} {b o n c k : Nat} (hx : aev T x = some (.o (.c (.sl b o n c k true)))) (ht : isSliceT P t = true) : evOp P ⟨dst, .call ⟨.builtin .cap, #[x], #[t]⟩, ty, pos, af, g⟩ T h = some (VI c, h) := by
  obtain ⟨e, he⟩ := isSliceT_ok ht
  have ha : argsA T [x] = some [.o (.c (.sl b o n c k true))] := by simp only [argsA, hx]
  have hl : eCap P t (.o (.c (.sl b o n c k true))) = some c := by simp only [eCap, he]
  simp only [evOp, ha, hl]
theorem e_lenS {t : TypeId} {x : Operand} {b o n c k : Nat} {ex : Bool} (hx : aev T x = some (.o (.c (.sl b o n c k ex)))) (ht : isSliceT P t = true) : evOp P ⟨dst, .call ⟨.builtin .len, #[x], #[t]⟩, ty, pos, af, g⟩ T h = some (VI n, h) := by
  obtain ⟨e, he⟩ := isSliceT_ok ht
  have ha : argsA T [x] = some [.o (.c (.sl b o n c k ex))] := by simp only [argsA, hx]
  have hl : eLen P t (.o (.c (.sl b o n c k ex))) = some n := by simp only [eLen, he]
  simp only [evOp, ha, hl]
theorem e_cpy {t t' : TypeId} {k bb : Nat} {z : List Cell} {dx x : Operand} {b o n c m : Nat} {ex : Bool} {xc : Cell} {cells xs : List Cell} (ht : SlT P t k z bb) (hd : aev T dx = some (.o (.c (.sl b o n c k ex)))) (hx : aev T x = some (.o (.c xc))) (hsrc : srcCells xc k h = some (m, xs)) (hb : h[b]? = some ⟨cells, true, true⟩) (hm : 0 < min m n) (hfit : o + min m n * k ≤ cells.length) :
    evOp P ⟨dst, .call ⟨.builtin .copy, #[dx, x], #[t, t']⟩, ty, pos, af, g⟩ T h = some (VI ((min m n : Nat) : Int), h.set b ⟨putCells cells o (xs.take (min m n * k)), true, true⟩) := by
  obtain ⟨e, inf, h1, h2, rfl⟩ := sliceF ht
  have ha : argsA T [dx, x] = some [.o (.c (.sl b o n c inf.size ex)), .o (.c xc)] := by simp only [argsA, hd, hx]
  have hc : eCopy P t (.sl b o n c inf.size ex) xc h = some (min m n, h.set b ⟨putCells cells o (xs.take (min m n * inf.size)), true, true⟩) := by
    simp only [eCopy, h1, h2, hsrc, hb]
    rw [if_neg (by omega), if_pos ⟨trivial, trivial, hfit⟩]
  simp only [evOp, ha, hc]
theorem e_app1 {t : TypeId} {k bb : Nat} {z : List Cell} {s x : Operand} {b n c m : Nat} {xc : Cell} {cells xs : List Cell} (ht : SlT P t k z bb) (hs : aev T s = some (.o (.c (.sl b 0 n c k true)))) (hx : aev T x = some (.o (.c xc))) (hsrc : srcCells xc k h = some (m, xs)) (hb : h[b]? = some ⟨cells, true, true⟩) (hm : 0 < m) (hn : n ≤ c) (hroom : n + m ≤ c) (hfit : (n + m) * k ≤ cells.length) :
    evOp P ⟨dst, .call ⟨.builtin .append, #[s, x], #[t, t]⟩, ty, pos, af, g⟩ T h = some (.o (.c (.sl b 0 (n + m) c k true)), h.set b ⟨putCells cells (n * k) xs, true, true⟩) := by
  obtain ⟨e, i, h1, h2, rfl, rfl, h5, h6, h7⟩ := ht
  have ha : argsA T [s, x] = some [.o (.c (.sl b 0 n c i.size true)), .o (.c xc)] := by simp only [argsA, hs, hx]
  have hc : eAppend P t (.sl b 0 n c i.size true) xc h = some (.sl b 0 (n + m) c i.size true, h.set b ⟨putCells cells (n * i.size) xs, true, true⟩) := by
    simp only [eAppend, h1, h2, h5, hsrc]
    rw [if_pos ⟨h6, h7⟩, if_pos ⟨trivial, hn⟩, if_neg (by omega)]
    simp only [hb, if_true]
    rw [if_pos hroom, if_pos ⟨trivial, by omega⟩]
    simp
  simp only [evOp, ha, if_true, hc]
theorem e_app2 {t : TypeId} {k bb : Nat} {z : List Cell} {s x : Operand} {b n c m : Nat} {xc : Cell} {cells xs : List Cell} (ht : SlT P t k z bb) (hs : aev T s = some (.o (.c (.sl b 0 n c k true)))) (hx : aev T x = some (.o (.c xc))) (hsrc : srcCells xc k h = some (m, xs)) (hb : h[b]? = some ⟨cells, true, true⟩) (hm : 0 < m) (hn : n ≤ c) (hroom : ¬ n + m ≤ c) (hbig : n + m ≤ 9223372036854775807 ∧ (n + m) * bb ≤ 140737488355328) (hl : n * k ≤ cells.length) :
    evOp P ⟨dst, .call ⟨.builtin .append, #[s, x], #[t, t]⟩, ty, pos, af, g⟩ T h = some (.o (.c (.sl h.length 0 (n + m) (n + m) k false)), h ++ [⟨cells.take (n * k) ++ xs, true, true⟩]) := by
  obtain ⟨e, i, h1, h2, rfl, rfl, h5, h6, h7⟩ := ht
  have ha : argsA T [s, x] = some [.o (.c (.sl b 0 n c i.size true)), .o (.c xc)] := by simp only [argsA, hs, hx]
  have hc : eAppend P t (.sl b 0 n c i.size true) xc h = some (.sl h.length 0 (n + m) (n + m) i.size false, h ++ [⟨cells.take (n * i.size) ++ xs, true, true⟩]) := by
    simp only [eAppend, h1, h2, h5, hsrc]
    rw [if_pos ⟨h6, h7⟩, if_pos ⟨trivial, hn⟩, if_neg (by omega)]
    simp only [hb, if_true]
    rw [if_neg hroom, if_pos ⟨hbig.1, hbig.2, by simp; omega⟩]
    simp
  simp only [evOp, ha, if_true, hc]
variable {ops : Array Oper} {l : List Oper} {Q : (Nat → AV) → Heap → Prop} {T0 : Nat → AV} {env : Env} {d : Nat} {o : Oper}
theorem RgOK.sx (hdst : o.dst = some d) (hw : wantA ops.toList (look T0 env) o = some true) (hd : decide (d < N) = true) (he : ∃ v, evOp P o (look T0 env) h = some (v, h)) (hl : ∀ v, RgOK P N ops l (look T0 ((d, v) :: env)) h Q) : RgOK P N ops (o :: l) (look T0 env) h Q := by
  obtain ⟨v, hv⟩ := he
  exact RgOK.s hdst hw hd hv (hl v)

/-- Two slices in two blocks, the second of which is plain memory: they do not overlap. -/
theorem overlaps_apart2 {P : Program} (w : World) (tS tR e : TypeId) (ht : P.underlying tS = some (.slice e)) (size : Nat) (hz : ∀ w, (Go.sizeOf e).run P w = .ok size w)
    (a b : Addr) (la ca lb cb : Nat) (hne : a.block ≠ b.block) (tA tB : TypeId) (kA kB : Nat)
    (hsa : w.shape? a.block = some (tA, kA)) (hsb : w.shape? b.block = some (tB, kB)) (hkA : kA ≠ 0)
    (hfb : w.frozen? b = false) (hfe : w.frozen? { block := b.block, off := kB } = false) :
    (Extern.SlicesOverlaps.overlaps #[tS, tS] #[tR] #[.slice (some a) la ca, .slice (some b) lb cb]).run P w = .ok (.bool false) w := by
  have hnb : (a.block != b.block) = true := by simpa using hne
  have hnb' : (a.block == b.block) = false := by simpa using hne
  have e1 : ∃ z, z = Extern.SlicesOverlaps.overlaps #[tS, tS] #[tR] #[.slice (some a) la ca, .slice (some b) lb cb] := ⟨_, rfl⟩
  obtain ⟨z, hz1⟩ := e1
  rw [← hz1]
  conv at hz1 =>
    rhs
    delta Extern.SlicesOverlaps.overlaps
    whnf
  subst hz1
  have hp : ∀ {α β : Type} (x : α) (f : α → Sem β), (pure x : Sem α).bind f = f x := fun _ _ => rfl
  by_cases h0 : la = 0 ∨ lb = 0 ∨ size = 0
  · simp [Sem.run, Sem.bind, hp, ht, hz, h0]
  · cases kA with
    | zero => exact absurd rfl hkA
    | succ kA =>
      cases hfa : w.frozen? a <;> cases hfa2 : w.frozen? { block := a.block, off := kA + 1 } <;>
      simp [Sem.bind, hp, ht, hz, h0, hnb, hnb', frozen, noView, viewAt, mayBeOne, stringish, shape, Sem.run, hsa, hsb, hfb, hfe, hfa, hfa2]
theorem RgOK.ovlL {f : FuncId} {t tR : TypeId} {x y : Operand} {k yb oy ny cy : Nat} {ex2 : Bool} {c0 : Cell} {c1 : List Cell} {cs2 : List Cell} {at_ : Array TypeId} {ty : TypeId} {pos : String} {af : Array Edge} {g : Option (Nat × Bool)}
    (hw : wantA ops.toList (look T0 env) ⟨some d, .call ⟨.value (.func f), #[x, y], at_⟩, ty, pos, af, g⟩ = some true) (hd : decide (d < N) = true)
    (hext : ∀ (args : Array Value) (w : World), (callFunc f args).run P w = ((Extern.SlicesOverlaps.overlaps #[t, t] #[tR] args).run P w).andThen fun v w' => .ok (.value v) w') (hel : ElF P t k)
    (hx : aev (look T0 env) x = some (.o (.c (.LC k [c0 :: c1])))) (hy : aev (look T0 env) y = some (.o (.c (.sl yb oy ny cy k ex2)))) (hby : h[yb]? = some ⟨cs2, true, true⟩) (hpos : 0 < cs2.length)
    (hl : RgOK P N ops l (look T0 ((d, VB false) :: env)) h Q) : RgOK P N ops (⟨some d, .call ⟨.value (.func f), #[x, y], at_⟩, ty, pos, af, g⟩ :: l) (look T0 env) h Q := by
  intro B0 μ a w K hs hr hk
  unfold wpList
  rw [wantA_ok hs hw]
  simp only [if_true]
  obtain ⟨e, inf, he, hinf, hsz⟩ := hel
  obtain ⟨hL, A1, e1'⟩ := (aev_ok hs.2 hx : RC μ (.LC k [c0 :: c1]) (a.eval x))
  obtain ⟨A, cc1, e1, hlc, hnil, hpos1⟩ := LR.addr hL
  obtain ⟨l2, c2, m2, e2, _⟩ := (aev_ok hs.2 hy : RC μ (.sl yb oy ny cy k ex2) (a.eval y))
  obtain ⟨l2', arr2, T2, fr2, n2, w2, q2, o2⟩ := hr.ok yb _ hby rfl
  rw [m2] at n2; cases n2
  obtain ⟨B1, off1, rfl, hel⟩ := hpos1 (by simp)
  obtain ⟨val, hF, _⟩ := (hel 0 (c0 :: c1) rfl).2 0 c0 rfl
  have hB : B1 ≠ l2.B := fun e => by
    have h0 := hr.nof yb _ l2 hby rfl rfl m2 (off1 + 0 * k + 0)
    rw [← e, hF] at h0; cases h0
  obtain ⟨arr1, T1, fr1, w1⟩ : ∃ arr1 T1 fr1, w.heap[B1]? = some (Obj.cells arr1 T1 fr1) := by
    have h1 := hr.fz _ _ _ hF
    unfold World.cell? at h1
    split at h1
    · rename_i arr T fr hw1; exact ⟨arr, T, fr, hw1⟩
    · cases h1
  have hk1 : arr1.size ≠ 0 := by
    have h1 := hr.fz _ _ _ hF
    simp only [World.cell?, w1] at h1
    have := (Array.getElem?_eq_some_iff.1 h1).1
    omega
  have hfr : ∀ o, w.frozen? ⟨l2.B, o, none⟩ = false := fun o => by obtain ⟨z2, _⟩ := o2 rfl; subst z2; simp [World.frozen?, w2]
  have hov := overlaps_apart2 (P := P) w t tR e he k (fun w => by rw [← hsz]; exact rv_sizeOf P e inf hinf w) ⟨B1, off1, none⟩ ⟨l2.B, l2.base + oy, none⟩ 1 cc1 ny c2 hB T1 T2 arr1.size arr2.size (by simp [World.shape?, w1]) (by simp [World.shape?, w2]) hk1 (hfr _) (hfr _)
  have hrun : (execOp a.eval (⟨some d, .call ⟨.value (.func f), #[x, y], at_⟩, ty, pos, af, g⟩ : Oper)).run P w = .ok (.value (.bool false)) w := by
    have hev : a.eval (.func f) = .func (.func f) #[] #[] := rfl
    simp only [execOp, resolve, hev, Deferred.ofValue, pure_bind, invoke]
    have h2 : (#[] ++ Array.map a.eval #[x, y] ++ #[] : Array Value) = #[.slice (some ⟨B1, off1, none⟩) 1 cc1, .slice (some ⟨l2.B, l2.base + oy, none⟩) ny c2] := by simp [e1, e2]
    rw [h2, hext, hov]
    rfl
  left
  show Oper.upon P _ a _ _ _
  rw [hrun]
  exact hl B0 μ _ w K (hs.put (d := some d) hd (v := VB false) ⟨rfl, rfl⟩) hr hk
theorem RgOK.appz {t tn : TypeId} {s x : Operand} {k bb b n c m : Nat} {z cells : List Cell} {kn : IntKind} {ty : TypeId} {pos : String} {af : Array Edge} {g : Option (Nat × Bool)} (ht : SlT P t k z bb) (htn : P.underlying tn = some (.int kn))
    (hw : wantA ops.toList (look T0 env) ⟨some d, .call ⟨.builtin .append, #[s, x], #[t, tn]⟩, ty, pos, af, g⟩ = some true) (hd : decide (d < N) = true)
    (hs' : aev (look T0 env) s = some (.o (.c (.sl b 0 n c k true)))) (hx : aev (look T0 env) x = some (VI m)) (hb : h[b]? = some ⟨cells, true, true⟩) (hm : 0 < m) (hroom : ¬ n + m ≤ c) (hbig : n + m ≤ 9223372036854775807 ∧ (n + m) * bb ≤ 140737488355328) (hlen : n * k ≤ cells.length) (hn : n ≤ c)
    (hl : RgOK P N ops l (look T0 ((d, .o (.c (.sl h.length 0 (n + m) (n + m) k false))) :: env)) (h ++ [⟨cells.take (n * k) ++ (List.replicate m z).flatten, true, true⟩]) Q) :
    RgOK P N ops (⟨some d, .call ⟨.builtin .append, #[s, x], #[t, tn]⟩, ty, pos, af, g⟩ :: l) (look T0 env) h Q := by
  intro B0 μ a w K hs hr hk
  unfold wpList
  rw [wantA_ok hs hw]
  simp only [if_true]
  obtain ⟨e, inf, he, hinf, rfl, rfl, hz, hzl, hpos⟩ := ht
  obtain ⟨inf', zv, hi', hzz, hzrel⟩ := zeroOf_ok hz
  obtain rfl : inf' = inf := by rw [hinf] at hi'; exact (Option.some.inj hi').symm
  obtain ⟨l1, c1, m1, e1, _, hex, hcap⟩ := (aev_ok hs.2 hs' : RC μ (.sl b 0 n c inf'.size true) (a.eval s))
  have hcc : c1 = c := hex rfl
  rw [hcc] at e1 hcap
  obtain ⟨e2, _⟩ := (aev_ok hs.2 hx : RC μ (I m) (a.eval x))
  obtain ⟨os, ho1, ho2, ho3⟩ := hr.cellsAt (n := n * inf'.size) (o := 0) hb rfl m1 rfl (by simp; omega)
  have hold := run_firstCells_some (P := P) w.drew inf'.size n ⟨l1.B, l1.base + 0, none⟩ n c os ho1 (by simpa using ho3)
  have hrun := Lib.run_append_grow_zeros (P := P) w t tn ty e inf' zv .i64 kn he htn hinf hzz (some ⟨l1.B, l1.base + 0, none⟩) n c os hold m hm hpos (by omega) (by omega) (by have := Nat.mul_le_mul_right inf'.bytes (show m ≤ n + m by omega); omega) (growslice_fits (by omega) hbig.2)
  have hzs : R2 (RC μ) (List.replicate m z).flatten (Builtin.zeroCells zv.cells m).toList := by have h0 := zeros_rel (hzrel μ) m (by omega); rw [hzl, ← show zv.cells.size = inf'.size by rw [← hzl, (hzrel μ).1]; simp] at h0; exact h0
  have hz2 : zv.cells.size = inf'.size := by rw [← hzl, (hzrel μ).1]; simp
  have ho2' : R2 (RC μ) (cells.take (n * inf'.size)) os := by simpa using ho2
  have ha := hr.drew.alloc (ho2'.append hzs) e (Builtin.zeroCells zv.cells (grownCap w (n + m) c e - (n + m))).toList (zeroCells_one (rel_one (hzrel μ)) _)
  obtain ⟨cst, hex2⟩ := exec_builtin (a := a) (o := ⟨some d, .call ⟨.builtin .append, #[s, x], #[t, tn]⟩, ty, pos, af, g⟩) rfl rfl
  have hargs : ((#[s, x] : Array Operand).toList.map a.eval).toArray = #[.slice (some ⟨l1.B, l1.base + 0, none⟩) n c, .int .i64 m] := by simp [e1, e2]
  have hb2 : (builtin .append #[t, tn] ty cst #[.slice (some ⟨l1.B, l1.base + 0, none⟩) n c, .int .i64 m]).run P w = .ok (.value (.slice (some ⟨w.heap.size, 0, none⟩) (n + m) (grownCap w (n + m) c e))) (w.drew.alloc (.cells (os.toArray ++ Builtin.zeroCells zv.cells m ++ Builtin.zeroCells zv.cells (grownCap w (n + m) c e - (n + m))) e)) := by
    simp only [builtin, Sem.run_bind, hrun, Result.andThen_ok]
    rfl
  have hex3 : (execOp a.eval (⟨some d, .call ⟨.builtin .append, #[s, x], #[t, tn]⟩, ty, pos, af, g⟩ : Oper)).run P w = .ok (.value (.slice (some ⟨w.heap.size, 0, none⟩) (n + m) (grownCap w (n + m) c e))) (w.drew.alloc (.cells (os.toArray ++ Builtin.zeroCells zv.cells m ++ Builtin.zeroCells zv.cells (grownCap w (n + m) c e - (n + m))) e)) := by
    rw [hex2]
    show (builtin .append #[t, tn] ty cst ((#[s, x] : Array Operand).toList.map a.eval).toArray).run P w = _
    rw [hargs]; exact hb2
  left
  show Oper.upon P _ a _ _ _
  rw [hex3]
  have hw2 : os.toArray ++ Builtin.zeroCells zv.cells m ++ Builtin.zeroCells zv.cells (grownCap w (n + m) c e - (n + m)) = (os ++ (Builtin.zeroCells zv.cells m).toList ++ (Builtin.zeroCells zv.cells (grownCap w (n + m) c e - (n + m))).toList).toArray := by apply Array.ext'; simp
  have hpre : Mu.le μ (Mu.add μ [⟨w.drew.heap.size, 0, (os ++ (Builtin.zeroCells zv.cells m).toList).length + (Builtin.zeroCells zv.cells (grownCap w (n + m) c e - (n + m))).toList.length⟩]) := Mu.le_add _ _
  have hr1 : HR B0 (Mu.add μ [⟨w.drew.heap.size, 0, (os ++ (Builtin.zeroCells zv.cells m).toList).length + (Builtin.zeroCells zv.cells (grownCap w (n + m) c e - (n + m))).toList.length⟩]) (h ++ [⟨cells.take (n * inf'.size) ++ (List.replicate m z).flatten, true, true⟩]) (w.drew.alloc (.cells (os.toArray ++ Builtin.zeroCells zv.cells m ++ Builtin.zeroCells zv.cells (grownCap w (n + m) c e - (n + m))) e)) := by
    rw [hw2]; exact ha
  have hval : RC (Mu.add μ [⟨w.drew.heap.size, 0, (os ++ (Builtin.zeroCells zv.cells m).toList).length + (Builtin.zeroCells zv.cells (grownCap w (n + m) c e - (n + m))).toList.length⟩]) (.sl h.length 0 (n + m) (n + m) inf'.size false) (.slice (some ⟨w.heap.size, 0, none⟩) (n + m) (grownCap w (n + m) c e)) := by
    refine ⟨_, grownCap w (n + m) c e, mu_last hr.len _, rfl, grownCap_ge _ _ _ _, nofun, ?_⟩
    have := grownCap_ge w (n + m) c e
    simp only [List.length_append, ho1, Array.length_toList, size_zeroCells, hz2, Nat.zero_add, ← Nat.add_mul]
    exact Nat.mul_le_mul_right _ (by omega)
  have hbel : Bel B0 w (w.drew.alloc (.cells (os.toArray ++ Builtin.zeroCells zv.cells m ++ Builtin.zeroCells zv.cells (grownCap w (n + m) c e - (n + m))) e)) := ((Bel.refl B0 w).drew).trans (Bel.new (w := w.drew) hr.size _)
  exact hl B0 _ _ _ K ((hs.mono hpre).put (d := some d) hd (v := .o (.c (.sl h.length 0 (n + m) (n + m) inf'.size false))) hval) hr1 fun a' w' T' h' μ' q1 q2 q3 q4 q5 q6 => hk a' w' T' h' μ' q1 q2 q3 (hpre.trans q4) q5 (hbel.trans q6)

def flatF (f : Nat → List Cell) (n : Nat) : List Cell := (List.range n).flatMap f
theorem flatF_succ (f : Nat → List Cell) (n : Nat) : flatF f (n + 1) = flatF f n ++ f n := by simp [flatF, List.range_succ]
theorem flatF_len {f : Nat → List Cell} {k n : Nat} (hf : ∀ j, j < n → (f j).length = k) : (flatF f n).length = n * k := by
  induction n with
  | zero => simp [flatF]
  | succ n ih => rw [flatF_succ, List.length_append, ih fun j hj => hf j (by omega), hf n (by omega), Nat.add_mul, Nat.one_mul]
theorem Sl.flat {b o k n : Nat} {f : Nat → List Cell} (hs : Sl h b o k n f) {ob : AO} (hb : h[b]? = some ob) : (ob.cells.drop o).take (n * k) = flatF f n := by
  induction n with
  | zero => simp [flatF]
  | succ n ih =>
    rw [flatF_succ, ← ih fun j hj => hs j (by omega)]
    obtain ⟨ob', h1, _, h3, _⟩ := hs n (by omega)
    rw [hb] at h1; cases h1
    rw [← h3, Nat.add_mul, Nat.one_mul, List.take_add, List.drop_drop]
theorem Sl.src {b o k n : Nat} {f : Nat → List Cell} (hs : Sl h b o k n f) : srcCells (.rd b o n k) k h = some (n, flatF f n) := by
  simp only [srcCells]
  by_cases h0 : n = 0
  · subst h0; rfl
  · rw [if_neg h0]
    obtain ⟨ob, h1, h2, _⟩ := hs 0 (by omega)
    have h3 := hs.flat h1
    have h4 : (flatF f n).length = n * k := flatF_len fun j hj => by obtain ⟨_, _, _, _, h5⟩ := hs j hj; exact h5
    simp only [h1]
    rw [h3, if_pos ⟨h2.1, trivial, h4⟩]
theorem RgOK.appE {t : TypeId} {k bb : Nat} {z : List Cell} {s x : Operand} {b n c m : Nat} {xc : Cell} {cells xs : List Cell} {ty : TypeId} {pos : String} {af : Array Edge} {g : Option (Nat × Bool)} (ht : SlT P t k z bb) (hw : wantA ops.toList (look T0 env) ⟨some d, .call ⟨.builtin .append, #[s, x], #[t, t]⟩, ty, pos, af, g⟩ = some true) (hd : decide (d < N) = true)
    (hs : aev (look T0 env) s = some (.o (.c (.sl b 0 n c k true)))) (hx : aev (look T0 env) x = some (.o (.c xc))) (hsrc : srcCells xc k h = some (m, xs)) (hb : h[b]? = some ⟨cells, true, true⟩) (hm : 0 < m) (hn : n ≤ c) (hfit : c * k ≤ cells.length) (hbig : n + m ≤ 9223372036854775807 ∧ (n + m) * bb ≤ 140737488355328)
    (h1 : n + m ≤ c → RgOK P N ops l (look T0 ((d, .o (.c (.sl b 0 (n + m) c k true))) :: env)) (h.set b ⟨putCells cells (n * k) xs, true, true⟩) Q)
    (h2 : ¬ n + m ≤ c → RgOK P N ops l (look T0 ((d, .o (.c (.sl h.length 0 (n + m) (n + m) k false))) :: env)) (h ++ [⟨cells.take (n * k) ++ xs, true, true⟩]) Q) :
    RgOK P N ops (⟨some d, .call ⟨.builtin .append, #[s, x], #[t, t]⟩, ty, pos, af, g⟩ :: l) (look T0 env) h Q := by
  have hnk : n * k ≤ cells.length := Nat.le_trans (Nat.mul_le_mul_right k hn) hfit
  by_cases hroom : n + m ≤ c
  · exact RgOK.s rfl hw hd (e_app1 ht hs hx hsrc hb hm hn hroom (Nat.le_trans (Nat.mul_le_mul_right k hroom) hfit)) (h1 hroom)
  · exact RgOK.s rfl hw hd (e_app2 ht hs hx hsrc hb hm hn hroom hbig hnk) (h2 hroom)

theorem putCells_mid : ∀ (b' a b c : List Cell), b.length = b'.length → putCells (a ++ (b ++ c)) a.length b' = a ++ (b' ++ c) := by
  intro b'
  induction b' with
  | nil => intro a b c hl; have : b = [] := List.eq_nil_of_length_eq_zero (by simpa using hl); subst this; rfl
  | cons y r ih =>
    intro a b c hl
    cases b with
    | nil => simp at hl
    | cons x b =>
      simp only [putCells, List.cons_append]
      have h1 : (a ++ x :: (b ++ c)).set a.length y = (a ++ [y]) ++ (b ++ c) := by simp
      rw [h1]
      have := ih (a ++ [y]) b c (by simpa using hl)
      simp only [List.length_append, List.length_cons, List.length_nil, Nat.zero_add] at this
      rw [this]; simp
theorem split3 {l : List Cell} {p q : Nat} (h : p + q ≤ l.length) : l = l.take p ++ ((l.drop p).take q ++ l.drop (p + q)) := by
  conv => lhs; rw [← List.take_append_drop p l, ← List.take_append_drop q (l.drop p), List.drop_drop]
theorem put_at {l xs : List Cell} {p : Nat} (h : p + xs.length ≤ l.length) : putCells l p xs = l.take p ++ (xs ++ l.drop (p + xs.length)) := by
  have h1 := split3 (l := l) (p := p) (q := xs.length) h
  have h2 := putCells_mid xs (l.take p) ((l.drop p).take xs.length) (l.drop (p + xs.length)) (by simp; omega)
  rw [← h1] at h2
  rw [List.length_take, Nat.min_eq_left (by omega)] at h2
  exact h2
theorem insEnd {cs ds xs : List Cell} {p k : Nat} (hp : cs.length = p) (hx : xs.length = k) (hd : k ≤ ds.length) : putCells (cs ++ ds) p xs = cs.take p ++ xs ++ cs.drop p ++ ds.drop k := by
  subst hp; subst hx
  rw [put_at (by simp; omega)]
  simp [List.drop_append]
theorem insMid {cs ds xs : List Cell} {p k : Nat} (hp : p ≤ cs.length) (hx : xs.length = k) (hd : k ≤ ds.length) : putCells (putCells (cs ++ ds) (p + k) (cs.drop p)) p xs = cs.take p ++ xs ++ cs.drop p ++ ds.drop k := by
  have h1 : putCells (cs ++ ds) (p + k) (cs.drop p) = (cs ++ ds).take (p + k) ++ (cs.drop p ++ ds.drop k) := by
    rw [put_at (by simp; omega)]
    congr 2
    rw [List.length_drop, show p + k + (cs.length - p) = cs.length + k by omega, List.drop_append]
    simp
  rw [h1, put_at (by simp; omega), hx]
  have h2 : ((cs ++ ds).take (p + k) ++ (cs.drop p ++ ds.drop k)).take p = cs.take p := by
    rw [List.take_append_of_le_length (by simp; omega), List.take_take, Nat.min_eq_left (by omega), List.take_append_of_le_length hp]
  have h3 : ((cs ++ ds).take (p + k) ++ (cs.drop p ++ ds.drop k)).drop (p + k) = cs.drop p ++ ds.drop k := List.drop_left' (by simp; omega)
  rw [h2, h3]; simp [List.append_assoc]
theorem insNew {cs ds zs xs : List Cell} {p k : Nat} (hp : p ≤ cs.length) (hx : xs.length = k) (hz : zs.length = cs.length - p + k) : putCells (putCells ((cs ++ ds).take p ++ zs) p xs) (p + k) (cs.drop p) = cs.take p ++ xs ++ cs.drop p := by
  have h0 : (cs ++ ds).take p = cs.take p := List.take_append_of_le_length hp
  rw [h0]
  have hl : (cs.take p).length = p := by simp; omega
  have h1 : putCells (cs.take p ++ zs) p xs = cs.take p ++ (xs ++ zs.drop k) := by
    rw [put_at (by simp; omega), hx, List.take_append_of_le_length (by omega), List.take_of_length_le (by omega), List.drop_append, List.drop_eq_nil_of_le (by omega), hl]
    simp
  rw [h1, put_at (by simp; omega)]
  have h2 : (cs.take p ++ (xs ++ zs.drop k)).take (p + k) = cs.take p ++ xs := by
    rw [← List.append_assoc, List.take_append_of_le_length (by simp; omega), List.take_of_length_le (by simp; omega)]
  have h3 : (cs.take p ++ (xs ++ zs.drop k)).drop (p + k + (cs.drop p).length) = [] := List.drop_eq_nil_of_le (by simp; omega)
  rw [h2, h3]; simp
end Rv
