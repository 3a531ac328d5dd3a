import Derived.Test.YtnlpkgamglhnbaaRvVal
set_option linter.unusedVariables false
set_option linter.unusedSimpArgs false
namespace Rv
open Go Go.RowKit
variable {P : Program} {N : Nat} {h : Heap}
def Tell3 (v : AV) (h : Heap) (v' : AV) (h' : Heap) : Prop := ∀ (B0 : Pt) (μ : Mu) (w : World) (u : Value), HR B0 μ h w → RV μ v u → ∃ μ', Mu.le μ μ' ∧ HR B0 μ' h' w ∧ RV μ' v' u
theorem FnOK.wk3 {f : FuncId} {args : List AV} {Q : AV → Heap → Prop} (hf : FnOK P f args h (fun v h' => ∃ v' h'', Tell3 v h' v' h'' ∧ Q v' h'')) : FnOK P f args h Q := by
  intro B0 μ w us hr hus
  refine Calls.mono (hf B0 μ w us hr hus) ?_
  rintro e w' ⟨u, v, h', μ', rfl, ⟨v', h'', hw, hq⟩, hv, hp, hr', hb⟩
  obtain ⟨μ2, g1, g2, g3⟩ := hw B0 μ' w' u hr' hv
  exact ⟨u, v', h'', μ2, rfl, hq, g3, hp.trans g1, g2, hb⟩
theorem HR.deadEq {B0 : Pt} {μ : Mu} {H H1 : Heap} {w : World} (hr : HR B0 μ H w) (hl : H1.length = H.length) (hd : ∀ (i : Nat) (o : AO), H1[i]? = some o → o.live = true → H[i]? = some o) : HR B0 μ H1 w :=
  ⟨hr.len.trans hl.symm, hr.size, fun b ob hb hlv => hr.ok b ob (hd b ob hb hlv) hlv, fun b b' o o' l l' h1 h2 hl1 hl2 ho hne hm hm' => hr.inj b b' o o' l l' (hd _ _ h1 hl1) (hd _ _ h2 hl2) hl1 hl2 ho hne hm hm', hr.fz, fun b o l h1 hl1 ho hm j => hr.nof b o l (hd _ _ h1 hl1) hl1 ho hm j, hr.fp, fun b o l h1 hl1 hm => hr.ns b o l (hd _ _ h1 hl1) hl1 hm⟩
theorem kill_len (H : Heap) (b : Nat) : (kill H b).length = H.length := by simp [kill]
theorem tellIn {H H0 : Heap} {b n c k : Nat} {ex : Bool} {cs ds : List Cell} (hb : H[b]? = some ⟨cs ++ ds, true, true⟩) (hl : cs.length = n * k) (hc : n ≤ c) (hlen : H0.length = H.length) (hd : ∀ (i : Nat) (o : AO), H0[i]? = some o → o.live = true → i ≠ b ∧ H[i]? = some o) :
    Tell3 (.o (.c (.sl b 0 n c k ex))) H (.o (.c (.g H.length n k true))) (H0 ++ [⟨cs, true, true⟩]) := by
  intro B0 μ w u hr hu
  obtain ⟨l, c', hm, rfl, h1, h2, h3⟩ := hu
  have htake : cs = ((cs ++ ds).drop 0).take (n * k) := by rw [List.drop_zero, ← hl, List.take_left]
  have hle : n * k ≤ c' * k := Nat.mul_le_mul_right k (by omega)
  have hsh := hr.share hb rfl rfl hm (o := 0) (n := n * k) (j := 0) (cs := cs) htake (by omega)
  simp only [List.replicate_zero, List.append_nil, Nat.add_zero, Nat.sub_zero] at hsh
  refine ⟨_, Mu.le_add _ _, ?_, ⟨nofun, fun _ => ⟨⟨l.B, l.base, l.cap⟩, c', mu_last hr.len _, by simp, by omega, by show c' * k ≤ l.cap; omega⟩⟩⟩
  refine hsh.deadEq (by simp [hlen, kill_len]) fun i o hi ho => ?_
  rcases Nat.lt_or_ge i H0.length with hlt | hge
  · rw [List.getElem?_append_left hlt] at hi
    obtain ⟨g1, g2⟩ := hd i o hi ho
    rw [List.getElem?_append_left (by rw [kill_len]; omega)]
    unfold kill
    rw [List.getElem?_modify_ne _ _ (fun e => g1 e.symm)]; exact g2
  · have e : i = H0.length := by
      have := lt_of_get hi
      simp at this
      omega
    subst e
    rw [hlen] at hi ⊢
    rw [← hlen] at hi
    simp at hi
    subst hi
    rw [← kill_len H b]; simp
theorem tellNew {H H0 : Heap} {n k : Nat} {ex : Bool} {cs : List Cell} (hlen : H0.length = H.length) (hd : ∀ (i : Nat) (o : AO), H0[i]? = some o → o.live = true → H[i]? = some o) :
    Tell3 (.o (.c (.sl H.length 0 n n k ex))) (H ++ [⟨cs, true, true⟩]) (.o (.c (.g H.length n k true))) (H0 ++ [⟨cs, true, true⟩]) := by
  intro B0 μ w u hr hu
  obtain ⟨l, c', hm, rfl, h1, h2, h3⟩ := hu
  refine ⟨μ, Mu.le_refl _, hr.deadEq (by simp [hlen]) fun i o hi ho => ?_, ⟨nofun, fun _ => ⟨l, c', hm, by simp, h1, by omega⟩⟩⟩
  rcases Nat.lt_or_ge i H0.length with hlt | hge
  · rw [List.getElem?_append_left hlt] at hi
    rw [List.getElem?_append_left (by omega)]; exact hd i o hi ho
  · rw [List.getElem?_append_right hge] at hi
    rw [List.getElem?_append_right (by omega), ← hlen]; exact hi
theorem tellG {H H0 : Heap} {b n k : Nat} {lv : Bool} (hlen : H0.length = H.length) (hd : ∀ (i : Nat) (o : AO), H0[i]? = some o → o.live = true → H[i]? = some o) :
    Tell3 (.o (.c (.g b n k lv))) H (.o (.c (.g b n k lv))) H0 := by
  intro B0 μ w u hr hu
  exact ⟨μ, Mu.le_refl _, hr.deadEq hlen hd, hu⟩
theorem lenN {HB L : Heap} {N0 n : Nat} (hN : HB.length = N0) (hn : L.length = n) : (HB ++ L).length = N0 + n := by rw [List.length_append, hN, hn]
theorem apnd {HB L L' X : Heap} (hL : L ++ X = L') : HB ++ L ++ X = HB ++ L' := by rw [List.append_assoc, hL]
theorem apndK {HB L L' X : Heap} {N0 j : Nat} (hN : HB.length = N0) (hL : (L.modify j fun o => { o with live := false }) ++ X = L') : kill (HB ++ L) (N0 + j) ++ X = HB ++ L' := by
  subst hN; rw [kill_app, List.append_assoc, hL]
/-- nil or not? -/
theorem RgOK.nilcmpL {ops : Array Oper} {l : List Oper} {Q : (Nat → AV) → Heap → Prop} {T0 : Nat → AV} {env : Env} {d : Nat} {t t' ty : TypeId} {x : Operand} {pos : String} {af : Array Edge} {g : Option (Nat × Bool)} {k : Nat} {xs : List (List Cell)} (hw : wantA ops.toList (look T0 env) ⟨some d, .binOp .eql t x (.const (.slice none 0 0)) t', ty, pos, af, g⟩ = some true) (hd : decide (d < N) = true) (hsl : isSliceT P t = true) (hx : aev (look T0 env) x = some (.o (.c (.L k xs))))
    (ht : xs = [] → RgOK P N ops l (look T0 ((d, VB true) :: env)) h Q) (hf : True → RgOK P N ops l (look T0 ((d, VB false) :: env)) h Q) : RgOK P N ops (⟨some d, .binOp .eql t x (.const (.slice none 0 0)) t', ty, pos, af, g⟩ :: l) (look T0 env) h Q := by
  intro B0 μ a w K hs hr hk
  obtain ⟨e, he⟩ := isSliceT_ok hsl
  unfold wpList
  rw [wantA_ok hs hw]
  simp only [if_true]
  obtain ⟨A, c', hA, h1, h2, h3⟩ := LR.addr (aev_ok hs.2 hx : RC μ (.L k xs) (a.eval x))
  have hrun : (execOp a.eval ⟨some d, .binOp .eql t x (.const (.slice none 0 0)) t', ty, pos, af, g⟩).run P w = .ok (.value (.bool A.isNone)) w := by
    have h4 := (nilCmp_ok P (op := .eql) (t := t) (A := A) (n := xs.length) (c := c') (r := .bool A.isNone) rfl hsl x (.const (.slice none 0 0)) w).1
    have e : execOp a.eval (⟨some d, .binOp .eql t x (.const (.slice none 0 0)) t', ty, pos, af, g⟩ : Oper) = (do pure (Next.value (← (do eqGuard .eql t x (.const (.slice none 0 0)) (.slice A xs.length c') (.slice none 0 0); binOp .eql t (.slice A xs.length c') (.slice none 0 0) : Sem Value)))) := by
      rw [← hA]; simp only [execOp]; rfl
    have hgen : ∀ (s : Sem Value) (u : Value), s.run P w = .ok u w → (do pure (Next.value (← s)) : Sem Next).run P w = .ok (.value u) w := fun s u hs => by simp [hs]
    rw [e]; exact hgen _ _ h4
  left
  show Oper.upon P _ a _ _ _
  rw [hrun]
  cases A with
  | none => exact ht (h2 rfl).1 B0 μ _ w K (hs.put (d := some d) hd (v := VB true) ⟨rfl, rfl⟩) hr hk
  | some A => exact hf trivial B0 μ _ w K (hs.put (d := some d) hd (v := VB false) ⟨rfl, rfl⟩) hr hk
theorem tellNil {H : Heap} {b k : Nat} {cs : List Cell} {own : Bool} : Tell3 (.o (.c (.v (.slice none 0 0)))) H (.o (.c (.g b 0 k false))) (H ++ [⟨cs, own, false⟩]) := by
  intro B0 μ w u hr hu
  obtain ⟨rfl, _⟩ := hu
  exact ⟨_, Mu.le_add μ [⟨0, 0, 0⟩], hr.dead _ rfl, ⟨fun _ => ⟨rfl, none, rfl⟩, nofun⟩⟩
theorem Tell3.refl (v : AV) (H : Heap) : Tell3 v H v H := fun B0 μ w u hr hu => ⟨μ, Mu.le_refl _, hr, hu⟩
theorem e_apC0 {α : Type} {f : α → List Cell} {T : Nat → AV} {dst : Option Nat} {ty : TypeId} {pos : String} {af : Array Edge} {g : Option (Nat × Bool)} {t : TypeId} {k bb q m : Nat} {z : List Cell} {s x : Operand} {xc : Cell} {lv : Bool} {ys : List α} {H : Heap} (ht : SlT P t k z bb) (hs : aev T s = some (.o (.c (.LC k [])))) (hx : aev T x = some (.o (.c xc))) (hsrc : srcCells xc k H = some (m, (ys.map f).flatten)) (hm : ys.length = m) (hb : m ≤ q) (hq : decide (q ≤ 9223372036854775807 ∧ q * bb ≤ 140737488355328) = true) (hlv : decide (0 < m) = lv) :
    evOp P ⟨dst, .call ⟨.builtin .append, #[s, x], #[t, t]⟩, ty, pos, af, g⟩ T H = some (.o (.c (.g H.length ys.length k lv)), H ++ [⟨(ys.map f).flatten, true, lv⟩]) := by
  have h1 := e_apC (P := P) (f := f) (T := T) (dst := dst) (ty := ty) (pos := pos) (af := af) (g := g) (xs := []) (ys := ys) (HB := H) (L := []) (n := 0) (L' := [⟨(ys.map f).flatten, true, lv⟩]) ht rfl hs hx (by simpa using hsrc) hm (.inl rfl) (by simpa using hb) hq hlv rfl rfl
  simpa using h1
def enumP : Nat → List (List Cell) → List (Nat × V1)
  | _, [] => []
  | n, c :: r => (n, .agg c) :: enumP (n + 1) r
theorem fill_enum {k : Nat} {z : List Cell} (hz : z.length = k) : ∀ (xs : List (List Cell)) (n : Nat) (pre : List Cell), (∀ c ∈ xs, c.length = k) → pre.length = n * k → fillA (fun j => some (j * k, k)) (pre ++ (List.replicate xs.length z).flatten) (enumP n xs) = some (pre ++ xs.flatten) := by
  intro xs
  induction xs with
  | nil => intro n pre _ _; simp [enumP, fillA]
  | cons c r ih =>
    intro n pre hl hp
    have hc : c.length = k := hl c (by simp)
    have hrep : (List.replicate (c :: r).length z).flatten = z ++ (List.replicate r.length z).flatten := by
      rw [List.length_cons, List.replicate_succ, List.flatten_cons]
    have hput : putCells (pre ++ (z ++ (List.replicate r.length z).flatten)) (n * k) c = pre ++ (c ++ (List.replicate r.length z).flatten) := by
      rw [← hp]; exact putCells_mid c pre z _ (hz.trans hc.symm)
    rw [hrep]
    show (if c.length = k ∧ n * k + c.length ≤ (pre ++ (z ++ (List.replicate r.length z).flatten)).length then fillA (fun j => some (j * k, k)) (putCells (pre ++ (z ++ (List.replicate r.length z).flatten)) (n * k) c) (enumP (n + 1) r) else none) = _
    rw [if_pos ⟨hc, by simp only [List.length_append]; omega⟩, hput, ← List.append_assoc, ih (n + 1) (pre ++ c) (fun c hc => hl c (by simp [hc])) (by rw [List.length_append, hp, hc, Nat.add_mul, Nat.one_mul])]
    simp
theorem chunk_of {k : Nat} : ∀ (xs : List (List Cell)), (∀ c ∈ xs, c.length = k) → chunk k xs.length xs.flatten = xs := by
  intro xs
  induction xs with
  | nil => intro _; rfl
  | cons c r ih =>
    intro hl
    have hc : c.length = k := hl c (by simp)
    have h1 : ∀ (n : Nat) (cs : List Cell), chunk k (n + 1) cs = cs.take k :: chunk k n (cs.drop k) := fun n cs => by
      simp only [chunk, List.range_succ_eq_map, List.map_cons, List.map_map, Nat.zero_mul, List.drop_zero]
      congr 1
      apply List.map_congr_left
      intro i _
      simp only [Function.comp, List.drop_drop]
      rw [show k + i * k = (i + 1) * k by rw [Nat.add_mul]; omega]
    rw [List.length_cons, h1, List.flatten_cons, ← hc, List.take_left, List.drop_left, hc, ih fun c hc => hl c (by simp [hc])]
theorem e_litF {P : Program} {T : Nat → AV} {dst : Option Nat} {ty : TypeId} {pos : String} {af : Array Edge} {g : Option (Nat × Bool)} {h : Heap} {t : TypeId} {k bb len : Nat} {z : List Cell} {ps : Array (Nat × Operand)} {xs ys : List (List Cell)} {nl : List (Nat × Nat)} (ht : SlT P t k z bb) (hnl : nlT P t = nl) (hp : partsA T ps.toList = some (enumP 0 xs)) (hlen : xs.length = len) (hk : xs.all (fun c => c.length == k) = true) (hsm : decide (len * k ≤ 16777216) = true) (hv : xs.all (fun c => c.all isVL) = true) (hx : xs.map (nlL nl) = ys) :
    evOp P ⟨dst, .buildSlice t len ps, ty, pos, af, g⟩ T h = some (.o (.c (.LC k ys)), h) := by
  subst hlen
  have hl : ∀ c ∈ xs, c.length = k := fun c hc => eq_of_beq (List.all_eq_true.1 hk c hc)
  have hzl : z.length = k := by obtain ⟨_, _, _, _, _, _, _, h6, _⟩ := ht; exact h6
  have hf := fill_enum hzl xs 0 [] hl (by simp)
  simp only [List.nil_append] at hf
  refine e_lit ht hnl hp hf hsm ?_ ?_
  · refine List.all_eq_true.2 fun c hc => ?_
    obtain ⟨ps', h1, h2⟩ := List.mem_flatten.1 hc
    exact List.all_eq_true.1 (List.all_eq_true.1 hv ps' h1) c h2
  · rw [chunk_of xs hl]; exact hx
theorem baEq (a b : ByteArray) : ((a == b) = true) = (a = b) := by
  obtain ⟨x⟩ := a
  obtain ⟨y⟩ := b
  apply propext
  rw [ByteArray.mk.injEq]
  show (x == y) = true ↔ x = y
  simp
section
variable {P : Program} {N : Nat} {h : Heap} {ops : Array Oper} {opl l : List Oper} {Q : (Nat → AV) → Heap → Prop} {QT : (Nat → AV) → Prop} {T0 : Nat → AV} {env : Env} {d : Nat} {o : Oper} {ty : TypeId} {pos : String} {af : Array Edge} {g : Option (Nat × Bool)} {x x' : Nat}
theorem RgOK.t (v : AV) {h' : Heap} (he : evOp P o (look T0 env) h = some (v, h')) (hl : RgOK P N ops l (look T0 ((d, v) :: env)) h' Q) (hdst : o.dst = some d := by exact rfl) (hw : wantA ops.toList (look T0 env) o = some true := by exact rfl) (hd : decide (d < N) = true := by exact rfl) : RgOK P N ops (o :: l) (look T0 env) h Q := RgOK.s hdst hw hd he hl
theorem RgOK.k (hl : RgOK P N ops l (look T0 ((d, undefA) :: env)) h Q) (hdst : o.dst = some d := by exact rfl) (hw : wantA ops.toList (look T0 env) o = some false := by exact rfl) (hd : decide (d < N) = true := by exact rfl) : RgOK P N ops (o :: l) (look T0 env) h Q := RgOK.sk hdst hw hd hl
theorem RgOK.m {v : AV} (he : env.find? (fun p => p.1 == x) = some (x', v)) (hl : RgOK P N ops l (look T0 ((d, v) :: env)) h Q) (hw : wantA ops.toList (look T0 env) ⟨some d, .move (.tmp x), ty, pos, af, g⟩ = some true := by exact rfl) (hd : decide (d < N) = true := by exact rfl) : RgOK P N ops (⟨some d, .move (.tmp x), ty, pos, af, g⟩ :: l) (look T0 env) h Q := RgOK.s rfl hw hd (e_mv (ev_t he)) hl
theorem RgOK.a {v : AV} (he : env.find? (fun p => p.1 == x) = some (x', v)) (hl : RgOK P N ops l (look T0 ((d, v) :: env)) h Q) (hw : wantA ops.toList (look T0 env) ⟨some d, .assign (.tmp x), ty, pos, af, g⟩ = some true := by exact rfl) (hd : decide (d < N) = true := by exact rfl) : RgOK P N ops (⟨some d, .assign (.tmp x), ty, pos, af, g⟩ :: l) (look T0 env) h Q := RgOK.s rfl hw hd (e_as (ev_t he)) hl
theorem DrOK.t (v : AV) (he : evOp P o (look T0 env) h = some (v, h)) (hl : DrOK P N opl h l (look T0 ((d, v) :: env)) QT) (hdst : o.dst = some d := by exact rfl) (hw : wantA opl (look T0 env) o = some true := by exact rfl) (hd : decide (d < N) = true := by exact rfl) : DrOK P N opl h (o :: l) (look T0 env) QT := DrOK.s hdst hw hd he hl
theorem DrOK.k (hl : DrOK P N opl h l (look T0 ((d, undefA) :: env)) QT) (hdst : o.dst = some d := by exact rfl) (hw : wantA opl (look T0 env) o = some false := by exact rfl) (hd : decide (d < N) = true := by exact rfl) : DrOK P N opl h (o :: l) (look T0 env) QT := DrOK.sk hdst hw hd hl
theorem DrOK.m {v : AV} (he : env.find? (fun p => p.1 == x) = some (x', v)) (hl : DrOK P N opl h l (look T0 ((d, v) :: env)) QT) (hw : wantA opl (look T0 env) ⟨some d, .move (.tmp x), ty, pos, af, g⟩ = some true := by exact rfl) (hd : decide (d < N) = true := by exact rfl) : DrOK P N opl h (⟨some d, .move (.tmp x), ty, pos, af, g⟩ :: l) (look T0 env) QT := DrOK.s rfl hw hd (e_mv (ev_t he)) hl
theorem DrOK.a {v : AV} (he : env.find? (fun p => p.1 == x) = some (x', v)) (hl : DrOK P N opl h l (look T0 ((d, v) :: env)) QT) (hw : wantA opl (look T0 env) ⟨some d, .assign (.tmp x), ty, pos, af, g⟩ = some true := by exact rfl) (hd : decide (d < N) = true := by exact rfl) : DrOK P N opl h (⟨some d, .assign (.tmp x), ty, pos, af, g⟩ :: l) (look T0 env) QT := DrOK.s rfl hw hd (e_as (ev_t he)) hl
variable {chain rest : List Nat} {F : Flo} {j : Nat}
theorem Dr2.p (v : AV) (he : evOp P o (look T0 env) h = some (v, h)) (hl : Dr2 P N opl chain rest F (look T0 ((d, v) :: env)) h Q) (hj : opl[j]? = some o := by exact rfl) (hc : chain.contains j = false := by exact rfl) (hdst : o.dst = some d := by exact rfl) (hw : wantA opl (look T0 env) o = some true := by exact rfl) (hd : decide (d < N) = true := by exact rfl) (hp : pureOp o = true := by exact rfl) : Dr2 P N opl chain (j :: rest) F (look T0 env) h Q := Dr2.s hj hc hdst hw hd hp he hl
theorem Dr2.q (v : AV) (he : evOp P o (look T0 env) h = some (v, h)) (hl : Dr2 P N opl chain rest ((j, o, look T0 env, v) :: F) (look T0 ((d, v) :: env)) h Q) (hj : opl[j]? = some o := by exact rfl) (hc : chain.contains j = false := by exact rfl) (hdst : o.dst = some d := by exact rfl) (hw : wantA opl (look T0 env) o = some true := by exact rfl) (hd : decide (d < N) = true := by exact rfl) (hp : pureOp o = false := by exact rfl) : Dr2 P N opl chain (j :: rest) F (look T0 env) h Q := Dr2.f hj hc hdst hw hd hp he hl
end
end Rv
