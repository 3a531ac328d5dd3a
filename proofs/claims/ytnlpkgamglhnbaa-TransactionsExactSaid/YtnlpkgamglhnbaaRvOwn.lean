import Derived.Test.YtnlpkgamglhnbaaRvDelS
set_option linter.unusedVariables false
set_option linter.unusedSimpArgs false
namespace Rv
open Go Go.RowKit

inductive TkC (b A : Nat) (lv : Bool) : Cell → Cell → Prop
  | refl (c : Cell) : TkC b A lv c c
  | g (n k : Nat) : TkC b A lv (.g b n k lv) (.g A n k lv)
inductive TkV (b A : Nat) (lv : Bool) : AV → AV → Prop
  | refl (a : AV) : TkV b A lv a a
  | c {x y : Cell} (h : TkC b A lv x y) : TkV b A lv (.o (.c x)) (.o (.c y))
  | agg {xs ys : List Cell} (h : R2 (TkC b A lv) xs ys) : TkV b A lv (.o (.agg xs)) (.o (.agg ys))
theorem take1 {B0 : Pt} {μ : Mu} {h : Heap} {w : World} (hr : HR B0 μ h w) {b : Nat} {lv : Bool} {cs : List Cell} (hb : h[b]? = some ⟨cs, true, lv⟩) :
    ∃ μ', Mu.le μ μ' ∧ HR B0 μ' (kill h b ++ [⟨cs, true, lv⟩]) w ∧ ∀ (c c' : Cell) (u : Value), TkC b h.length lv c c' → RC μ c u → RC μ' c' u := by
  cases lv with
  | false =>
    have hk := hr.kill b
    refine ⟨_, Mu.le_add μ [⟨0, 0, 0⟩], hk.dead _ rfl, fun c c' u hc hu => ?_⟩
    cases hc with
    | refl => exact RC.mono (Mu.le_add _ _) hu
    | g n k => exact ⟨hu.1, nofun⟩
  | true =>
    obtain ⟨l, hm⟩ := hr.locOf hb
    obtain ⟨l', arr, T, fr, g1, g2, g3, g4⟩ := hr.ok b _ hb rfl
    obtain rfl : l' = l := by rw [hm] at g1; exact (Option.some.inj g1).symm
    have hsh := hr.share hb rfl rfl hm (o := 0) (n := cs.length) (j := 0) (cs := cs) (by rw [List.drop_zero]; exact (List.take_length ..).symm) (by have := (g4 rfl).2.2.2.1; simp at this; omega)
    simp only [List.replicate_zero, List.append_nil, Nat.add_zero, Nat.sub_zero] at hsh
    refine ⟨_, Mu.le_add _ _, hsh, fun c c' u hc hu => ?_⟩
    cases hc with
    | refl => exact RC.mono (Mu.le_add _ _) hu
    | g n k =>
      refine ⟨nofun, fun _ => ?_⟩
      obtain ⟨l2, c', hl2, e, h1, h2⟩ := hu.2 rfl
      rw [hm] at hl2
      obtain rfl := Option.some.inj hl2
      exact ⟨⟨l'.B, l'.base, l'.cap⟩, c', mu_last hr.len _, e, h1, h2⟩
theorem TkV.ok {b A : Nat} {lv : Bool} {μ μ' : Mu} (hle : Mu.le μ μ') (hR : ∀ (c c' : Cell) (u : Value), TkC b A lv c c' → RC μ c u → RC μ' c' u) {x y : AV} (h : TkV b A lv x y) {u : Value} (hu : RV μ x u) : RV μ' y u := by
  cases h with
  | refl => exact RV.mono hle hu
  | c h => exact hR _ _ _ h hu
  | agg h =>
    obtain ⟨us, e, hr⟩ := hu
    refine ⟨us, e, h.1.symm.trans hr.1, fun i c' v hc' hv => ?_⟩
    obtain ⟨c, hc, hcc⟩ := h.get' hc'
    exact hR _ _ _ hcc (hr.2 i c v hc hv)
inductive Take : Heap → List AV → Heap → List AV → Prop
  | refl (h : Heap) (args : List AV) : Take h args h args
  | step {h : Heap} {args args' args2 : List AV} {H : Heap} {b : Nat} {lv : Bool} {cs : List Cell} (hb : h[b]? = some ⟨cs, true, lv⟩) (ha : R2 (TkV b h.length lv) args args') (ht : Take (kill h b ++ [⟨cs, true, lv⟩]) args' H args2) : Take h args H args2
theorem Take.ok {h : Heap} {args : List AV} {H : Heap} {args' : List AV} (ht : Take h args H args') : ∀ {B0 : Pt} {μ : Mu} {w : World} {us : List Value}, HR B0 μ h w → R2 (RV μ) args us → ∃ μ', Mu.le μ μ' ∧ HR B0 μ' H w ∧ R2 (RV μ') args' us := by
  induction ht with
  | refl h args => intro B0 μ w us hr hu; exact ⟨μ, Mu.le_refl _, hr, hu⟩
  | @step h args args1 args2 H b lv cs hb ha ht ih =>
    intro B0 μ w us hr hu
    obtain ⟨μ1, g1, g2, g3⟩ := take1 hr hb
    have hu1 : R2 (RV μ1) args1 us := ⟨ha.1.symm.trans hu.1, fun i x y hx hy => by
      obtain ⟨a, h1, h2⟩ := ha.get' hx
      exact h2.ok g1 g3 (hu.2 i a y h1 hy)⟩
    obtain ⟨μ2, k1, k2, k3⟩ := ih g2 hu1
    exact ⟨μ2, g1.trans k1, k2, k3⟩

theorem kill_ne {h : Heap} {b x : Nat} {o : AO} (hx : h[x]? = some o) (hne : x ≠ b) : (kill h b)[x]? = some o := by
  unfold kill
  rw [List.getElem?_modify_ne _ _ (fun e => hne e.symm)]; exact hx
theorem Take.low {h : Heap} {args : List AV} {H : Heap} {args' : List AV} (ht : Take h args H args') : ∀ {i : Nat} {o : AO}, i < h.length → H[i]? = some o → o.live = true → h[i]? = some o := by
  induction ht with
  | refl h args => intro i o _ ho _; exact ho
  | @step h args args1 args2 H b lv cs hb ha ht ih =>
    intro i o hi ho hl
    have h1 := ih (by rw [List.length_append, kill_len]; exact Nat.lt_of_lt_of_le hi (Nat.le_add_right _ _)) ho hl
    rw [List.getElem?_append_left (by rw [kill_len]; exact hi)] at h1
    exact (kill_get h1 hl).2

theorem kill_app2 {H L : Heap} {b : Nat} (hb : b < H.length) : kill (H ++ L) b = kill H b ++ L := by
  unfold kill
  apply List.ext_getElem?
  intro i
  rw [List.getElem?_modify]
  rcases Nat.lt_or_ge i H.length with hlt | hge
  · rw [List.getElem?_append_left hlt, List.getElem?_append_left (by simpa using hlt), List.getElem?_modify]
  · rw [List.getElem?_append_right hge, List.getElem?_append_right (by simpa using hge), List.length_modify]
    have : b ≠ i := by omega
    simp [this]
theorem Take.one {h : Heap} {args args' : List AV} {b : Nat} {lv : Bool} {cs : List Cell} (hb : h[b]? = some ⟨cs, true, lv⟩) (ha : R2 (TkV b h.length lv) args args') : Take h args (kill h b ++ [⟨cs, true, lv⟩]) args' := .step hb ha (.refl _ _)
theorem Take.two {h : Heap} {args args1 args' : List AV} {b b1 : Nat} {lv lv1 : Bool} {cs cs1 : List Cell} (hb : h[b]? = some ⟨cs, true, lv⟩) (hb1 : h[b1]? = some ⟨cs1, true, lv1⟩) (hne : b ≠ b1) (ha : R2 (TkV b h.length lv) args args1) (ha1 : R2 (TkV b1 (h.length + 1) lv1) args1 args') : Take h args (kill (kill h b) b1 ++ [⟨cs, true, lv⟩, ⟨cs1, true, lv1⟩]) args' := by
  have hlt := lt_of_get hb1
  have h1 : (kill h b ++ [⟨cs, true, lv⟩])[b1]? = some ⟨cs1, true, lv1⟩ := by
    rw [List.getElem?_append_left (by rw [kill_len]; exact hlt)]
    exact kill_ne hb1 (fun e => hne e.symm)
  have hl : (kill h b ++ [(⟨cs, true, lv⟩ : AO)]).length = h.length + 1 := by simp [kill_len]
  have h2 := Take.step h1 (args' := args') (by rw [hl]; exact ha1) (.refl _ _)
  rw [kill_app2 (by rw [kill_len]; exact hlt), List.append_assoc] at h2
  exact .step hb ha h2
variable {P : Program} {h : Heap}
theorem body_calls {n0 : Nat} {f : FuncId} {fn : Func} {c : Code} {args : List AV} {Q : AV → Heap → Prop} (hf : P.funcs[f]? = some fn) (hb : fn.body = some c) (hn : args.length ≤ fn.ntmps)
    (hc : CdOK P (n0 := n0) fn.ntmps c (initT args) h (fun e T' h' => (e = .normal ∨ e = .ret) ∧ ∃ l, resA P T' h' fn.results.toList = some l ∧ Q (resV l) h')) :
    ∀ (B0 : Pt) (μ : Mu) (w : World) (us : List Value), HR B0 μ h w → R2 (RV μ) args us →
    Calls P f us.toArray w (fun e w' => ∃ u v h' μ', e = .returned u ∧ Q v h' ∧ RV μ' v u ∧ Mu.leN n0 μ μ' ∧ HR B0 μ' h' w' ∧ Bel B0 w w') := by
  intro B0 μ w us hr hus
  refine calls_of_wp hf hb ?_
  have hs : SR fn.ntmps μ (initT args) { tmps := us.toArray ++ Array.replicate (fn.ntmps - us.toArray.size) undef, defers := [] } := by
    refine ⟨by simp [← hus.1]; omega, fun t => ?_⟩
    simp only [Act.eval, initT, Array.getD_eq_getD_getElem?]
    rcases Nat.lt_or_ge t us.length with hlt | hge
    · have h1 : t < args.length := hus.1 ▸ hlt
      rw [List.getElem?_eq_getElem h1, Array.getElem?_append_left (by simpa using hlt)]
      simp only [Option.getD_some]
      have := hus.2 t _ _ (List.getElem?_eq_getElem h1) (List.getElem?_eq_getElem hlt)
      simpa [hlt] using this
    · rw [List.getElem?_eq_none (by rw [hus.1]; exact hge)]
      have e : ((us.toArray ++ Array.replicate (fn.ntmps - us.toArray.size) undef)[t]?).getD undef = undef := by
        rw [Array.getElem?_append_right (by simpa using hge), Array.getElem?_replicate]
        split <;> rfl
      rw [e]
      exact R_undef
  refine wp_mono (hc B0 μ _ w hs hr) ?_
  intro e a' w' hp
  obtain ⟨T', h', μ', ⟨he, l, hl, hq⟩, hd, hs', hmN, hr', hb'⟩ := hp
  have hm0 : ∃ vs : List Value, R2 (R1 μ') l vs ∧ ∀ g : ResultVar → Sem Value, (∀ t, g (.tmp t) = pure (a'.tmps.getD t undef)) → (∀ x t, g (.cell x t) = (do loadVar t (← asAddr (a'.tmps.getD x undef)))) → (fn.results.mapM g : Sem (Array Value)).run P w' = .ok vs.toArray w' := by
    obtain ⟨vs, h1, h2⟩ := resA_ok hs'.2 hr' (fun | .tmp t => pure (a'.tmps.getD t undef) | .cell x t => do loadVar t (← asAddr (a'.tmps.getD x undef))) (fun _ => rfl) (fun _ _ => rfl) hl
    refine ⟨vs, h2, fun g g1 g2 => ?_⟩
    have e : g = (fun | .tmp t => pure (a'.tmps.getD t undef) | .cell x t => do loadVar t (← asAddr (a'.tmps.getD x undef))) := by
      funext x
      cases x with
      | tmp t => exact g1 t
      | cell x t => exact g2 x t
    rw [← Array.toArray_toList (xs := fn.results), List.mapM_toArray, e]
    simp only [Sem.run_map, h1, Result.andThen_ok]
  obtain ⟨vs, h2, hall⟩ := hm0
  have hres : ∃ u, (results fn a'.tmps).run P w' = .ok u w' ∧ RV μ' (resV l) u := by
    refine ⟨if hh : vs.toArray.size = 1 then vs.toArray[0] else .tuple vs.toArray, ?_, ?_⟩
    · unfold results
      rw [Sem.run_bind, hall _ (fun _ => rfl) (fun _ _ => rfl)]
      rfl
    · match l, h2 with
      | [], h2 =>
        have : vs = [] := List.eq_nil_of_length_eq_zero (by simpa using h2.1.symm)
        subst this
        exact ⟨#[], rfl, R2.nil _⟩
      | [v], h2 =>
        obtain ⟨u, rfl, hu⟩ : ∃ u, vs = [u] ∧ R1 μ' v u := by
          obtain ⟨k1, k2⟩ := h2
          match vs, k1 with
          | [u], _ => exact ⟨u, rfl, k2 0 _ _ rfl rfl⟩
        exact hu
      | v :: v2 :: r, h2 =>
        have hlen := h2.1
        rw [dif_neg (by simp at hlen ⊢; omega)]
        exact ⟨vs.toArray, rfl, h2⟩
  obtain ⟨u, hu1, hu2⟩ := hres
  rcases he with rfl | rfl
  · exact ⟨hd, u, hu1, u, resV l, h', μ', rfl, hq, hu2, hmN, hr', hb'⟩
  · exact ⟨hd, u, hu1, u, resV l, h', μ', rfl, hq, hu2, hmN, hr', hb'⟩
/-- A function that takes slices for itself; what it hands out may be its own (the objects L3). -/
theorem FnOK.bodyO {f : FuncId} {fn : Func} {c : Code} {args : List AV} {argsF : Nat → List AV} {L H0 : Heap} {Q : Nat → AV → Heap → Prop} (hf : P.funcs[f]? = some fn) (hb : fn.body = some c) {N : Nat} (hN : fn.ntmps = N) (hn : decide ((argsF h.length).length ≤ N) = true)
    (hl : H0.length = h.length) (ht : Take h args (H0 ++ L) (argsF h.length))
    (hc : ∀ H : Heap, Cl H → H = H0 → CdOK P (n0 := H.length) N c (look (initT (argsF H.length)) (argEnv (argsF H.length) 0)) (H ++ L) (fun e T' h' => (e = .normal ∨ e = .ret) ∧ ∃ l, resA P T' h' fn.results.toList = some l ∧
      ∃ HB L2 σ L3 v', h' = HB ++ L2 ∧ HB = H ∧ σ.Nodup ∧ MatchL H.length σ L2 σ L3 ∧ RenV H.length σ L2 (resV l) v' ∧ Q H.length v' L3)) : FnOK P f args h (fun v h' => ∃ L3, h' = H0 ++ L3 ∧ Q h.length v L3) := by
  subst hN
  revert ht hn
  rw [← hl]
  intro ht hn B0 μ w us hr hus
  obtain ⟨μ1, g1, g2, g3⟩ := ht.ok hr hus
  have hC : Cl H0 := by
    intro b ob hbb hlv cc hcc
    have hlt := lt_of_get hbb
    have h1 := ht.low (hl ▸ hlt) (by rw [List.getElem?_append_left hlt]; exact hbb) hlv
    rw [hl]
    exact hr.cl b ob h1 hlv cc hcc
  have hc1 := hc H0 hC rfl
  rw [← (argEnv_keep (argsF H0.length)).look] at hc1
  refine Calls.mono (body_calls (Q := fun v h' => ∃ HB L2 σ L3 v', h' = HB ++ L2 ∧ HB = H0 ∧ σ.Nodup ∧ MatchL H0.length σ L2 σ L3 ∧ RenV H0.length σ L2 v v' ∧ Q H0.length v' L3) hf hb (of_decide_eq_true hn) hc1 B0 μ1 w us g2 g3) ?_
  rintro e w' ⟨u, v, h', μ', rfl, ⟨HB, L2, σ, L3, v', rfl, rfl, hnd, hM, hv, hq⟩, hu, hp, hr', hbel⟩
  obtain ⟨μ2, k1, k2, k3⟩ := hr'.re hC hnd hM
  refine ⟨u, v', _, μ2, rfl, ⟨L3, rfl, hq⟩, hv.ok k3 hu, Mu.leN.full ?_, k2, hbel⟩
  rw [hr.len, ← hl]
  exact (g1.toN).trans (hp.trans k1)
section
variable {N : Nat} {ops : Array Oper} {l : List Oper} {Q : (Nat → AV) → Heap → Prop}
theorem RgOK.opW {o : Oper} {T T1 : Nat → AV} {v v' : AV} {h' h'' : Heap} (hwk : ∀ t, WkV (T t) (T1 t)) (hw : wantA ops.toList T o = some true) (hd : dstOk N o.dst = true) (he : evOp P o T1 h = some (v, h'))
    (hv : ∀ (B0 : Pt) (μ : Mu) (w : World) (u : Value), HR B0 μ h' w → RV μ v u → HR B0 μ h'' w ∧ RV μ v' u) (hl : RgOK P N ops l (updO T o.dst v') h'' Q) : RgOK P N ops (o :: l) T h Q := by
  intro B0 μ a w K hs hr hk
  unfold wpList
  rw [wantA_ok hs hw]
  simp only [if_true]
  obtain ⟨nx, w1, μ1, hrun, hval, hm, hr1, hb1⟩ := evOp_ok P he (fun t => (hwk t).ok (hs.2 t)) hr
  left
  have hdef : ∀ u, (a.put o.dst u).defers = a.defers := fun u => by cases o.dst <;> rfl
  rcases hval with ⟨u, rfl, hu⟩ | ⟨rfl, rfl⟩
  · show o.upon P a _ _ _
    rw [hrun]
    show wpList P ops K l (a.put o.dst u) w1
    obtain ⟨hr2, hu2⟩ := hv B0 μ1 w1 u hr1 hu
    exact hl B0 μ1 _ w1 K ((hs.mono hm).put hd hu2) hr2 fun a' w' T' h' μ' q1 q2 q3 q4 q5 q6 => hk a' w' T' h' μ' q1 (q2.trans (hdef u)) q3 (hm.trans q4) q5 (hb1.trans q6)
  · show o.upon P a _ _ _
    rw [hrun]
    show wpList P ops K l (a.put o.dst undef) w1
    obtain ⟨hr2, hu2⟩ := hv B0 μ1 w1 undef hr1 R_undef
    exact hl B0 μ1 _ w1 K ((hs.mono hm).put hd hu2) hr2 fun a' w' T' h' μ' q1 q2 q3 q4 q5 q6 => hk a' w' T' h' μ' q1 (q2.trans (hdef _)) q3 (hm.trans q4) q5 (hb1.trans q6)
def wkT (T : Nat → AV) (xs b n k : Nat) : Nat → AV := upd T xs (.o (.c (.sl b 0 n n k false)))
theorem wkT_ok {T : Nat → AV} {xs b n k : Nat} (hx : aev T (.tmp xs) = some (.o (.c (.g b n k true)))) (t : Nat) : WkV (T t) (wkT T xs b n k t) := by
  unfold wkT upd
  by_cases e : t = xs
  · subst e
    rw [if_pos rfl]
    have : T t = .o (.c (.g b n k true)) := Option.some.inj hx
    rw [this]; exact .c (.gsl b n k)
  · rw [if_neg e]; exact .refl _
theorem wkT_x {T : Nat → AV} {xs b n k : Nat} : aev (wkT T xs b n k) (.tmp xs) = some (.o (.c (.sl b 0 n n k false))) := by
  show some (upd T xs _ xs) = _
  unfold upd; rw [if_pos rfl]
theorem wkT_i {T : Nat → AV} {xs b n k : Nat} {y : Operand} {i : Int} (hx : aev T (.tmp xs) = some (.o (.c (.g b n k true)))) (hy : aev T y = some (VI i)) : aev (wkT T xs b n k) y = some (VI i) := by
  cases y with
  | tmp t =>
    show some (upd T xs _ t) = _
    unfold upd
    by_cases e : t = xs
    · subst e
      rw [hx] at hy; cases hy
    · rw [if_neg e]; exact hy
  | const c => exact hy
  | global g => exact hy
  | func f => exact hy
variable {T0 : Nat → AV} {env : Env} {d : Nat} {ty t : TypeId} {pos : String} {af : Array Edge} {g : Option (Nat × Bool)} {xs : Nat} {y : Operand} {b n k bb : Nat} {z : List Cell} {i : Int}
theorem RgOK.gtail {cs : List Cell} (hdst : (⟨some d, .slice t (.tmp xs) (some y) none none, ty, pos, af, g⟩ : Oper).dst = some d) (hw : wantA ops.toList (look T0 env) ⟨some d, .slice t (.tmp xs) (some y) none none, ty, pos, af, g⟩ = some true) (hd : decide (d < N) = true) (ht : SlT P t k z bb) (hx : aev (look T0 env) (.tmp xs) = some (.o (.c (.g b n k true)))) (hy : aev (look T0 env) y = some (VI i)) (hb : h[b]? = some ⟨cs, true, true⟩) (hi : 0 ≤ i ∧ i < n)
    (hl : RgOK P N ops l (look T0 ((d, .o (.c (.sl b (0 + i.toNat * k) (n - i.toNat) (n - i.toNat) k false))) :: env)) h Q) : RgOK P N ops (⟨some d, .slice t (.tmp xs) (some y) none none, ty, pos, af, g⟩ :: l) (look T0 env) h Q :=
  RgOK.opW (wkT_ok hx) hw hd (e_slo ht wkT_x (wkT_i hx hy) (by omega) (Nat.le_refl _)) (fun B0 μ w u hr hu => ⟨hr, hu⟩) hl
theorem takeMap {α : Type} {f : α → List Cell} {l : List α} {k : Nat} (hf : ∀ x, (f x).length = k) (i : Nat) (hi : i ≤ l.length) : ((l.map f).flatten).take (i * k) = ((l.take i).map f).flatten := by
  have h1 : (l.map f).flatten = ((l.take i).map f).flatten ++ ((l.drop i).map f).flatten := by rw [← List.flatten_append, ← List.map_append, List.take_append_drop]
  have h2 : ((l.take i).map f).flatten.length = i * k := by rw [lens_fl hf, List.length_take, Nat.min_eq_left hi]
  rw [h1, ← h2, List.take_left]
theorem set_app {HB L : Heap} {j : Nat} {x : AO} : (HB ++ L).set (HB.length + j) x = HB ++ L.set j x := by
  rw [List.set_append_right _ _ (by omega)]; simp
theorem RgOK.ghead {α : Type} {f : α → List Cell} {l0 : List α} {HB L L' : Heap} {N0 j : Nat} (hdst : (⟨some d, .slice t (.tmp xs) none (some y) none, ty, pos, af, g⟩ : Oper).dst = some d) (hw : wantA ops.toList (look T0 env) ⟨some d, .slice t (.tmp xs) none (some y) none, ty, pos, af, g⟩ = some true) (hd : decide (d < N) = true) (ht : SlT P t k z bb) (hN : HB.length = N0) (hx : aev (look T0 env) (.tmp xs) = some (.o (.c (.g (N0 + j) n k true)))) (hy : aev (look T0 env) y = some (VI i)) (hb : L[j]? = some ⟨(l0.map f).flatten, true, true⟩) (hf : ∀ x, (f x).length = k) (hi : 0 ≤ i ∧ i ≤ n ∧ i ≤ l0.length)
    (hL : L.set j ⟨((l0.take i.toNat).map f).flatten, true, true⟩ = L')
    (hl : RgOK P N ops l (look T0 ((d, .o (.c (.g (N0 + j) i.toNat k true))) :: env)) (HB ++ L') Q) : RgOK P N ops (⟨some d, .slice t (.tmp xs) none (some y) none, ty, pos, af, g⟩ :: l) (look T0 env) (HB ++ L) Q := by
  subst hN
  subst hL
  have hbH : (HB ++ L)[HB.length + j]? = some ⟨(l0.map f).flatten, true, true⟩ := by rw [List.getElem?_append_right (by omega)]; simpa using hb
  refine RgOK.opW (wkT_ok hx) hw hd (e_shi ht wkT_x (wkT_i hx hy) (by omega)) (fun B0 μ w u hr hu => ⟨?_, ?_⟩) hl
  · have h1 : (l0.map f).flatten = ((l0.take i.toNat).map f).flatten ++ ((l0.drop i.toNat).map f).flatten := by rw [← List.flatten_append, ← List.map_append, List.take_append_drop]
    rw [h1] at hbH
    rw [← set_app]; exact hr.fewer hbH
  · obtain ⟨l1, c', hm, rfl, h1, h2, h3⟩ := hu
    exact ⟨nofun, fun _ => ⟨l1, c', hm, by simp, by omega, by omega⟩⟩
theorem RgOK.gclear {α : Type} {f : α → List Cell} {l0 : List α} {HB L L' : Heap} {N0 j : Nat} (hdst : dstOk N none = true) (hw : wantA ops.toList (look T0 env) ⟨none, .call ⟨.builtin .clear, #[.tmp xs], #[t]⟩, ty, pos, af, g⟩ = some true) (ht : SlT P t k z bb) (hN : HB.length = N0) (hx : aev (look T0 env) (.tmp xs) = some (.o (.c (.sl (N0 + j) (0 + i.toNat * k) (n - i.toNat) (n - i.toNat) k false)))) (hb : L[j]? = some ⟨(l0.map f).flatten, true, true⟩) (hf : ∀ x, (f x).length = k) (hi : 0 ≤ i ∧ i < n ∧ (n : Int) ≤ l0.length)
    (hL : L.set j ⟨((l0.take i.toNat).map f).flatten, true, true⟩ = L')
    (hl : RgOK P N ops l (look T0 env) (HB ++ L') Q) : RgOK P N ops (⟨none, .call ⟨.builtin .clear, #[.tmp xs], #[t]⟩, ty, pos, af, g⟩ :: l) (look T0 env) (HB ++ L) Q := by
  subst hN
  subst hL
  have hbH : (HB ++ L)[HB.length + j]? = some ⟨(l0.map f).flatten, true, true⟩ := by rw [List.getElem?_append_right (by omega)]; simpa using hb
  have hlen : ((l0.map f).flatten).length = l0.length * k := lens_fl hf
  obtain ⟨e, inf, g1, g2, g3, g4, g5, g6, g7⟩ := id ht
  have hmul : i.toNat * k + (n - i.toNat) * k = n * k := by rw [← Nat.add_mul]; congr 1; omega
  have hle : n * k ≤ l0.length * k := Nat.mul_le_mul_right k (by omega)
  refine RgOK.opW (fun t => .refl _) hw hdst (e_clr ht hx hbH (by omega) (by rw [hlen]; omega)) (fun B0 μ w u hr hu => ⟨?_, hu⟩) hl
  rw [put_at (by rw [flat_rep_length, hlen, g6]; omega), Nat.zero_add, takeMap hf _ (by omega)] at hr
  have := hr.fewer (List.getElem?_set_self (lt_of_get hbH))
  rw [List.set_set, set_app] at this
  exact this
end

open Classical in
noncomputable def fzF (μ : Mu) (w : World) (l : Loc) (n : Nat) : Nat → Nat → Option Value := fun B q => match μ.F B q with
  | some v => some v
  | none => if B = l.B ∧ l.base ≤ q ∧ q < l.base + n then w.cell? ⟨B, q, none⟩ else none
theorem HR.fzObj {B0 : Pt} {μ : Mu} {h : Heap} {w : World} (hr : HR B0 μ h w) {b : Nat} {cs : List Cell} (hb : h[b]? = some ⟨cs, true, true⟩) {l : Loc} (hm : μ.ls[b]? = some l) :
    Mu.le μ ⟨μ.ls, fzF μ w l cs.length⟩ ∧ HR B0 ⟨μ.ls, fzF μ w l cs.length⟩ (Rv.kill h b) w ∧ ∀ (q : Nat) (c : Cell), cs[q]? = some c → ∃ u, fzF μ w l cs.length l.B (l.base + q) = some u ∧ RC μ c u := by
  have hF : ∀ B o v, μ.F B o = some v → fzF μ w l cs.length B o = some v := fun B o v e => by simp only [fzF, e]
  have hle : Mu.le μ ⟨μ.ls, fzF μ w l cs.length⟩ := ⟨List.prefix_refl _, hF⟩
  obtain ⟨l', arr, T, fr, g1, g2, g3, g4⟩ := hr.ok b _ hb rfl
  obtain rfl : l' = l := by rw [hm] at g1; exact (Option.some.inj g1).symm
  obtain ⟨k1, k2, k3, k4, k5⟩ := g4 rfl
  have hsome : ∀ B q v, fzF μ w l' cs.length B q = some v → μ.F B q = some v ∨ (B = l'.B ∧ w.cell? ⟨B, q, none⟩ = some v) := fun B q v e => by
    simp only [fzF] at e
    split at e
    · rename_i v' hv; left; rw [hv]; exact e
    · split at e
      · rename_i hc; exact .inr ⟨hc.1, e⟩
      · cases e
  refine ⟨hle, ⟨by rw [kill_len]; exact hr.len, hr.size, fun x o hx hl => ?_, fun x x' o o' l1 l2 hx hx' hl hl' ho hne h1 h2 => hr.inj x x' o o' l1 l2 (kill_get hx hl).2 (kill_get hx' hl').2 hl hl' ho hne h1 h2, fun B q v e => ?_, fun x o l1 hx hl ho h1 q => ?_, fun B q v e hp => ?_, fun x o l1 hx hl h1 => hr.ns x o l1 (kill_get hx hl).2 hl h1⟩, fun q c hq => ?_⟩
  · obtain ⟨_, hx'⟩ := kill_get hx hl
    obtain ⟨l1, a1, T1, f1, p1, p2, p3, p4⟩ := hr.ok x o hx' hl
    refine ⟨l1, a1, T1, f1, p1, p2, fun j c hc => ?_, p4⟩
    obtain ⟨u, hu, hru⟩ := p3 j c hc
    exact ⟨u, hu, RC.mono hle hru⟩
  · rcases hsome B q v e with e | ⟨_, e⟩
    · exact hr.fz B q v e
    · exact e
  · obtain ⟨hne, hx'⟩ := kill_get hx hl
    cases e : fzF μ w l' cs.length l1.B q with
    | none => exact e
    | some v =>
      rcases hsome _ _ _ e with e1 | ⟨e1, _⟩
      · rw [hr.nof x o l1 hx' hl ho h1 q] at e1; cases e1
      · exact absurd e1 (hr.inj x b o _ l1 l' hx' hb hl rfl ho hne h1 hm)
  · rcases hsome B q v e with e1 | ⟨e1, _⟩
    · exact hr.fp B q v e1 hp
    · exact absurd (e1 ▸ hp) k2
  · obtain ⟨u, hu, hru⟩ := g3 q c hq
    refine ⟨u, ?_, hru⟩
    have h0 := hr.nof b _ l' hb rfl rfl hm (l'.base + q)
    have hlt : q < cs.length := lt_of_get hq
    simp only [fzF, h0]
    rw [if_pos ⟨trivial, by omega, by omega⟩, cell_at g2]; exact hu
theorem HR.fzG {B0 : Pt} {μ : Mu} {h : Heap} {w : World} (hr : HR B0 μ h w) {α : Type} {b k n : Nat} {l : List α} {f : α → List Cell} {lv : Bool} (hb : h[b]? = some ⟨(l.map f).flatten, true, lv⟩) (hn : n = l.length) (hk : ∀ x, (f x).length = k) (hv : ∀ x, (f x).all isVL = true) {u : Value} (hu : RC μ (.g b n k lv) u) :
    ∃ μ', Mu.le μ μ' ∧ HR B0 μ' (Rv.kill h b) w ∧ RC μ' (.L k (l.map f)) u := by
  subst hn
  cases lv with
  | false =>
    obtain ⟨h0, A, rfl⟩ := hu.1 rfl
    have : l = [] := List.eq_nil_of_length_eq_zero h0
    subst this
    exact ⟨μ, Mu.le_refl _, hr.kill b, LR.of (xs := []) (Nat.le_refl _) (fun _ => ⟨rfl, rfl⟩) (fun h => absurd rfl h)⟩
  | true =>
    obtain ⟨l', c', hm, rfl, h1, h2⟩ := hu.2 rfl
    obtain ⟨g1, g2, g3⟩ := hr.fzObj hb hm
    refine ⟨_, g1, g2, ?_⟩
    have hlen : (l.map f).length = l.length := by simp
    have key : LR (fzF μ w l' (l.map f).flatten.length) k (l.map f) (.slice (some ⟨l'.B, l'.base, none⟩) (l.map f).length c') := by
      refine LR.of (by rw [hlen]; exact h1) (fun e => by cases e) fun _ => ⟨_, _, rfl, fun i ps hi => ?_⟩
      rw [List.getElem?_map, Option.map_eq_some_iff] at hi
      obtain ⟨x, hx, rfl⟩ := hi
      refine ⟨hk x, fun j c hc => ?_⟩
      have hj : j < (f x).length := lt_of_get hc
      have hdt := flat_at hk hx
      have hget : ((l.map f).flatten)[i * k + j]? = some c := by
        rw [← hdt, List.getElem?_take, List.getElem?_drop] at hc
        rw [if_pos (by rw [hk] at hj; exact hj)] at hc
        exact hc
      obtain ⟨u, q1, q2⟩ := g3 (i * k + j) c hget
      refine ⟨u, by rw [Nat.add_assoc]; exact q1, ?_⟩
      have hvl := List.all_eq_true.1 (hv x) c (List.mem_of_getElem? hc)
      have q3 := RC.mono g1 q2
      cases c with
      | v y => exact q3
      | L k' xs' => exact q3
      | _ => cases hvl
    rw [hlen] at key
    exact key
theorem RgOK.fz {N : Nat} {ops : Array Oper} {rest : List Oper} {Q : (Nat → AV) → Heap → Prop} {T0 : Nat → AV} {env : Env} {d d' N0 j n k : Nat} {α : Type} {l : List α} {f : α → List Cell} {lv : Bool} {HB L L' : Heap} (hN : HB.length = N0) (hx : env.find? (fun p => p.1 == d) = some (d', .o (.c (.g (N0 + j) n k lv)))) (hb : L[j]? = some ⟨(l.map f).flatten, true, lv⟩) (hn : n = l.length) (hk : ∀ x, (f x).length = k) (hv : ∀ x, (f x).all isVL = true)
    (hL : (L.modify j fun o => { o with live := false }) = L') (hl : RgOK P N ops rest (look T0 ((d, .o (.c (.L k (l.map f)))) :: env)) (HB ++ L') Q) : RgOK P N ops rest (look T0 env) (HB ++ L) Q := by
  subst hN
  subst hL
  intro B0 μ a w K hs hr hkK
  have hbH : (HB ++ L)[HB.length + j]? = some ⟨(l.map f).flatten, true, lv⟩ := by rw [List.getElem?_append_right (by omega)]; simpa using hb
  have hu : RV μ (.o (.c (.g (HB.length + j) n k lv))) (a.eval (.tmp d)) := by
    have := hs.2 d
    rw [look_find hx] at this
    exact this
  obtain ⟨μ', g1, g2, g3⟩ := hr.fzG hbH hn hk hv hu
  rw [kill_app] at g2
  refine hl B0 μ' a w K ⟨hs.1, fun t => ?_⟩ g2 fun a' w' T' h' μ2 q1 q2 q3 q4 q5 q6 => hkK a' w' T' h' μ2 q1 q2 q3 (g1.trans q4) q5 q6
  unfold look
  split
  · rename_i e; subst e; exact g3
  · exact RV.mono g1 (hs.2 t)
end Rv
