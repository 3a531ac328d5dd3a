import Derived.Test.YtnlpkgamglhnbaaRvStep
import Derived.Deep.LoopGhost
set_option linter.unusedVariables false
set_option linter.unusedSimpArgs false
namespace Rv
open Go Go.RowKit

def SR (N : Nat) (μ : Mu) (T : Nat → AV) (a : Act) : Prop := a.tmps.size = N ∧ TR μ T a
abbrev CQ := Exit → (Nat → AV) → Heap → Prop
def Post (n0 N : Nat) (B0 : Pt) (μ0 : Mu) (d0 : List Deferred) (w0 : World) (Q : CQ) : Exit → Act → World → Prop :=
  fun e a w => ∃ T h μ, Q e T h ∧ a.defers = d0 ∧ SR N μ T a ∧ Mu.leN n0 μ0 μ ∧ HR B0 μ h w ∧ Bel B0 w0 w
def CdOK (P : Program) {n0 : Nat} (N : Nat) (c : Code) (T : Nat → AV) (h : Heap) (Q : CQ) : Prop :=
  ∀ (B0 : Pt) (μ : Mu) (a : Act) (w : World), SR N μ T a → HR B0 μ h w → c.wp P (Post n0 N B0 μ a.defers w Q) a w
def FnOK (P : Program) (f : FuncId) (args : List AV) (h : Heap) (Q : AV → Heap → Prop) : Prop :=
  ∀ (B0 : Pt) (μ : Mu) (w : World) (us : List Value), HR B0 μ h w → R2 (RV μ) args us →
    Calls P f us.toArray w (fun e w' => ∃ u v h' μ', e = .returned u ∧ Q v h' ∧ RV μ' v u ∧ Mu.le μ μ' ∧ HR B0 μ' h' w' ∧ Bel B0 w w')

theorem TR.mono {μ μ' : Mu} {T : Nat → AV} {a : Act} (hm : Mu.le μ μ') (h : TR μ T a) : TR μ' T a := fun t => RV.mono hm (h t)
theorem SR.mono {N : Nat} {μ μ' : Mu} {T : Nat → AV} {a : Act} (hm : Mu.le μ μ') (h : SR N μ T a) : SR N μ' T a := ⟨h.1, h.2.mono hm⟩
def dstOk (N : Nat) : Option Nat → Bool
  | none => true
  | some d => decide (d < N)
theorem SR.put {N : Nat} {μ : Mu} {T : Nat → AV} {a : Act} (h : SR N μ T a) {d : Option Nat} (hd : dstOk N d = true) {v : AV} {u : Value} (hv : RV μ v u) : SR N μ (updO T d v) (a.put d u) := by
  cases d with
  | none => exact h
  | some d =>
    have hlt : d < a.tmps.size := by rw [h.1]; exact of_decide_eq_true hd
    refine ⟨by simp [Act.put, h.1], fun t => ?_⟩
    show RV μ (upd T d v t) ((a.tmps.setIfInBounds d u).getD t undef)
    unfold upd
    by_cases e : t = d
    · subst e
      rw [if_pos rfl]
      simp only [Array.getD_eq_getD_getElem?, Array.getElem?_setIfInBounds_self_of_lt hlt, Option.getD_some]
      exact hv
    · rw [if_neg e]
      have := h.2 t
      simp only [Act.eval, Array.getD_eq_getD_getElem?] at this ⊢
      rw [Array.getElem?_setIfInBounds_ne (fun e' => e e'.symm)]
      exact this
theorem R_undef {μ : Mu} : RV μ undefA undef := ⟨#[], rfl, R2.nil _⟩

theorem Post.mono {n0 N : Nat} {B0 : Pt} {μ0 μ1 : Mu} {d : List Deferred} {w0 w1 : World} {Q Q' : CQ} (hm : Mu.leN n0 μ0 μ1) (hb : Bel B0 w0 w1) (hq : ∀ e T h, Q e T h → Q' e T h) {e : Exit} {a : Act} {w : World} (hp : Post n0 N B0 μ1 d w1 Q e a w) : Post n0 N B0 μ0 d w0 Q' e a w := by
  obtain ⟨T, h, μ, h1, h2, h3, h4, h5, h6⟩ := hp
  exact ⟨T, h, μ, hq _ _ _ h1, h2, h3, hm.trans h4, h5, hb.trans h6⟩
theorem Post.here {n0 N : Nat} {B0 : Pt} {μ : Mu} {a : Act} {w : World} {Q : CQ} {e : Exit} {T : Nat → AV} {h : Heap} (hs : SR N μ T a) (hr : HR B0 μ h w) (hq : Q e T h) : Post n0 N B0 μ a.defers w Q e a w :=
  ⟨T, h, μ, hq, rfl, hs, Mu.leN_refl _ _, hr, Bel.refl _ _⟩

variable {P : Program} {n0 N : Nat} {T : Nat → AV} {h : Heap} {Q : CQ}

theorem CdOK.mono {c : Code} {Q' : CQ} (hc : CdOK P (n0 := n0) N c T h Q) (hq : ∀ e T h, Q e T h → Q' e T h) : CdOK P (n0 := n0) N c T h Q' :=
  fun B0 μ a w hs hr => wp_mono (hc B0 μ a w hs hr) fun e a' w' hp => hp.mono (Mu.leN_refl _ _) (Bel.refl _ _) hq
theorem CdOK.skip (hq : Q .normal T h) : CdOK P (n0 := n0) N .skip T h Q := fun B0 μ a w hs hr => wp_skip (Post.here hs hr hq)
theorem CdOK.ret (hq : Q .ret T h) : CdOK P (n0 := n0) N .ret T h Q := fun B0 μ a w hs hr => wp_ret (Post.here hs hr hq)
theorem CdOK.exit {id : Nat} (hq : Q (.exit id) T h) : CdOK P (n0 := n0) N (.exit id) T h Q := fun B0 μ a w hs hr => wp_exit (Post.here hs hr hq)
/-- What follows on the normal way. -/
def thenQ (k : (Nat → AV) → Heap → Prop) (Q : CQ) : CQ
  | .normal, T, h => k T h
  | e, T, h => Q e T h
theorem CdOK.seq {x y : Code} (hx : CdOK P (n0 := n0) N x T h (thenQ (fun T' h' => CdOK P (n0 := n0) N y T' h' Q) Q)) : CdOK P (n0 := n0) N (.seq x y) T h Q := by
  intro B0 μ a w hs hr
  refine wp_seq (wp_mono (hx B0 μ a w hs hr) ?_)
  intro e a' w' hp
  obtain ⟨T', h', μ', h1, h2, h3, h4, h5, h6⟩ := hp
  cases e with
  | normal =>
    show y.wp P _ a' w'
    refine wp_mono (h1 B0 μ' a' w' h3 h5) fun e a'' w'' hp => ?_
    have := hp.mono (Q' := Q) h4 h6 (fun _ _ _ h => h)
    rwa [h2] at this
  | exit id => exact ⟨T', h', μ', h1, h2, h3, h4, h5, h6⟩
  | goto l => exact ⟨T', h', μ', h1, h2, h3, h4, h5, h6⟩
  | ret => exact ⟨T', h', μ', h1, h2, h3, h4, h5, h6⟩
  | panic c => exact ⟨T', h', μ', h1, h2, h3, h4, h5, h6⟩
  | outgrown => exact ⟨T', h', μ', h1, h2, h3, h4, h5, h6⟩
theorem CdOK.cond {c : Operand} {x y : Code} {t : Bool} (hc : sev T c = some (.bool t)) (h' : CdOK P (n0 := n0) N (if t = true then x else y) T h Q) : CdOK P (n0 := n0) N (.cond c x y) T h Q := by
  intro B0 μ a w hs hr
  exact wp_cond (sev_ok hs.2 hc).1 (h' B0 μ a w hs hr)
theorem CdOK.cond_true {c : Operand} {x y : Code} (hc : sev T c = some (.bool true)) (h' : CdOK P (n0 := n0) N x T h Q) : CdOK P (n0 := n0) N (.cond c x y) T h Q := .cond hc h'
theorem CdOK.cond_false {c : Operand} {x y : Code} (hc : sev T c = some (.bool false)) (h' : CdOK P (n0 := n0) N y T h Q) : CdOK P (n0 := n0) N (.cond c x y) T h Q := .cond hc h'
def blockQ (id : Nat) (Q : CQ) : CQ
  | .exit id', T, h => if id' = id then Q .normal T h else Q (.exit id') T h
  | e, T, h => Q e T h
theorem CdOK.block {id : Nat} {c : Code} (hc : CdOK P (n0 := n0) N c T h (blockQ id Q)) : CdOK P (n0 := n0) N (.block id c) T h Q := by
  intro B0 μ a w hs hr
  refine wp_block (wp_mono (hc B0 μ a w hs hr) ?_)
  intro e a' w' hp
  obtain ⟨T', h', μ', h1, h2, h3, h4, h5, h6⟩ := hp
  cases e with
  | exit id' =>
    simp only [Exit.inBlock]
    simp only [blockQ] at h1
    split
    · rename_i he; rw [if_pos he] at h1; exact ⟨T', h', μ', h1, h2, h3, h4, h5, h6⟩
    · rename_i he; rw [if_neg he] at h1; exact ⟨T', h', μ', h1, h2, h3, h4, h5, h6⟩
  | normal => exact ⟨T', h', μ', h1, h2, h3, h4, h5, h6⟩
  | goto l => exact ⟨T', h', μ', h1, h2, h3, h4, h5, h6⟩
  | ret => exact ⟨T', h', μ', h1, h2, h3, h4, h5, h6⟩
  | panic c => exact ⟨T', h', μ', h1, h2, h3, h4, h5, h6⟩
  | outgrown => exact ⟨T', h', μ', h1, h2, h3, h4, h5, h6⟩
/-- A loop: an invariant that bears a number, which every round lowers. -/
theorem CdOK.loop {c : Code} (I : Nat → (Nat → AV) → Heap → Prop) (i0 : Nat) (h0 : I i0 T h)
    (round : ∀ n T h, I n T h → CdOK P (n0 := n0) N c T h (thenQ (fun T' h' => ∃ n', n' < n ∧ I n' T' h') Q)) : CdOK P (n0 := n0) N (.loop c) T h Q := by
  intro B0 μ a w hs hr
  refine wp_loop_ghost (fun n a' w' => ∃ T' h' μ', I n T' h' ∧ a'.defers = a.defers ∧ SR N μ' T' a' ∧ Mu.leN n0 μ μ' ∧ HR B0 μ' h' w' ∧ Bel B0 w w') i0 ⟨T, h, μ, h0, rfl, hs, Mu.leN_refl _ _, hr, Bel.refl _ _⟩ ?_
  rintro n a1 w1 ⟨T1, h1, μ1, hI, hd, hs1, hm1, hr1, hb1⟩
  refine wp_mono (round n T1 h1 hI B0 μ1 a1 w1 hs1 hr1) ?_
  intro e a2 w2 hp
  obtain ⟨T2, h2, μ2, g1, g2, g3, g4, g5, g6⟩ := hp
  cases e with
  | normal =>
    obtain ⟨n', hlt, hI'⟩ := g1
    exact ⟨n', hlt, T2, h2, μ2, hI', g2.trans hd, g3, hm1.trans g4, g5, hb1.trans g6⟩
  | exit id => exact ⟨T2, h2, μ2, g1, g2.trans hd, g3, hm1.trans g4, g5, hb1.trans g6⟩
  | goto l => exact ⟨T2, h2, μ2, g1, g2.trans hd, g3, hm1.trans g4, g5, hb1.trans g6⟩
  | ret => exact ⟨T2, h2, μ2, g1, g2.trans hd, g3, hm1.trans g4, g5, hb1.trans g6⟩
  | panic c => exact ⟨T2, h2, μ2, g1, g2.trans hd, g3, hm1.trans g4, g5, hb1.trans g6⟩
  | outgrown => exact ⟨T2, h2, μ2, g1, g2.trans hd, g3, hm1.trans g4, g5, hb1.trans g6⟩

/-- Is the operation wanted? -/
def wantA (ops : List Oper) (T : Nat → AV) (o : Oper) : Option Bool :=
  match o.guard with
  | none => some true
  | some (j, b) => match ops[j]? with
    | some oj => match oj.dst with
      | some d => match T d with
        | .o (.c (.v (.bool x))) => some (x == b)
        | .tup [] => some false
        | _ => none
      | none => none
    | none => none
theorem wantA_ok {ops : Array Oper} {a : Act} {μ : Mu} (hs : SR N μ T a) {o : Oper} {b : Bool} (hw : wantA ops.toList T o = some b) : Region.wanted o (yielded ops a.tmps) = b := by
  unfold wantA at hw
  unfold Region.wanted
  split at hw
  · rename_i hg
    obtain rfl := Option.some.inj hw
    simp [hg]
  · rename_i j want hg
    split at hw
    · rename_i oj hj
      split at hw
      · rename_i d hd
        have hj' : ops[j]? = some oj := by simpa using hj
        have ht := hs.2 d
        simp only [Act.eval, Array.getD_eq_getD_getElem?] at ht
        simp only [hg, yielded, hj', Option.bind_some, hd]
        split at hw
        · rename_i x hx
          obtain rfl := Option.some.inj hw
          rw [hx] at ht
          cases hq : a.tmps[d]? with
          | none => rw [hq] at ht; obtain ⟨e, _⟩ := ht; cases e
          | some u =>
            rw [hq] at ht
            obtain ⟨e, _⟩ := ht
            simp only [Option.getD_some] at e
            subst e
            simp
        · rename_i hx
          obtain rfl := Option.some.inj hw
          rw [hx] at ht
          obtain ⟨us, e, _⟩ := ht
          cases hq : a.tmps[d]? with
          | none => simp
          | some u =>
            rw [hq] at e
            simp only [Option.getD_some] at e
            subst e
            simp
        · cases hw
      · cases hw
    · cases hw

/-- The rest of a region. -/
def RgOK (P : Program) (N : Nat) (ops : Array Oper) (l : List Oper) (T : Nat → AV) (h : Heap) (Q : (Nat → AV) → Heap → Prop) : Prop :=
  ∀ (B0 : Pt) (μ : Mu) (a : Act) (w : World) (K : Exit → Act → World → Prop), SR N μ T a → HR B0 μ h w →
    (∀ a' w' T' h' μ', Q T' h' → a'.defers = a.defers → SR N μ' T' a' → Mu.le μ μ' → HR B0 μ' h' w' → Bel B0 w w' → K .normal a' w') → wpList P ops K l a w
theorem RgOK.nil {ops : Array Oper} {Q : (Nat → AV) → Heap → Prop} (hq : Q T h) : RgOK P N ops [] T h Q :=
  fun B0 μ a w K hs hr hk => hk a w T h μ hq rfl hs (Mu.le_refl _) hr (Bel.refl _ _)
theorem RgOK.skip {ops : Array Oper} {o : Oper} {l : List Oper} {Q : (Nat → AV) → Heap → Prop} (hw : wantA ops.toList T o = some false) (hd : dstOk N o.dst = true) (hl : RgOK P N ops l (updO T o.dst undefA) h Q) : RgOK P N ops (o :: l) T h Q := by
  intro B0 μ a w K hs hr hk
  unfold wpList
  rw [wantA_ok hs hw]
  simp only [Bool.false_eq_true, if_false]
  refine hl B0 μ (a.put o.dst undef) w K (hs.put hd R_undef) hr fun a' w' T' h' μ' q1 q2 => hk a' w' T' h' μ' q1 (q2.trans ?_)
  cases o.dst <;> rfl
theorem RgOK.op {ops : Array Oper} {o : Oper} {l : List Oper} {Q : (Nat → AV) → Heap → Prop} {v : AV} {h' : Heap} (hw : wantA ops.toList T o = some true) (hd : dstOk N o.dst = true) (he : evOp P o T h = some (v, h')) (hl : RgOK P N ops l (updO T o.dst v) h' Q) : RgOK P N ops (o :: l) T h Q := by
  intro B0 μ a w K hs hr hk
  unfold wpList
  rw [wantA_ok hs hw]
  simp only [if_true]
  obtain ⟨nx, w1, μ1, hrun, hval, hm, hr1, hb1⟩ := evOp_ok P he hs.2 hr
  left
  have hdef : ∀ u, (a.put o.dst u).defers = a.defers := fun u => by cases o.dst <;> rfl
  rcases hval with ⟨u, rfl, hu⟩ | ⟨rfl, rfl⟩
  · show o.upon P a _ _ _
    rw [hrun]
    show wpList P ops K l (a.put o.dst u) w1
    exact hl B0 μ1 _ w1 K ((hs.mono hm).put hd hu) hr1 fun a' w' T' h' μ' q1 q2 q3 q4 q5 q6 => hk a' w' T' h' μ' q1 (q2.trans (hdef u)) q3 (hm.trans q4) q5 (hb1.trans q6)
  · show o.upon P a _ _ _
    rw [hrun]
    show wpList P ops K l (a.put o.dst undef) w1
    exact hl B0 μ1 _ w1 K ((hs.mono hm).put hd R_undef) hr1 fun a' w' T' h' μ' q1 q2 q3 q4 q5 q6 => hk a' w' T' h' μ' q1 (q2.trans (hdef _)) q3 (hm.trans q4) q5 (hb1.trans q6)

/-- Has the function a body, and is it none that the model answers itself? -/
def plainFn (P : Program) (f : FuncId) : Bool := match P.funcs[f]? with
  | some fn => !(fn.name == "runtime.NumGoroutine") && fn.body.isSome
  | none => false
/-- The callee and what it is given. -/
def callA (T : Nat → AV) (o : Oper) : Option (FuncId × List AV) :=
  match o.op with
  | .call c => match c.callee with
    | .value x => match aev T x, argsA T c.args.toList with
      | some (.o (.c (.fn f caps))), some l => some (f, l ++ caps.map fun p => .o (.c (.ptr p.1 p.2)))
      | _, _ => none
    | _ => none
  | _ => none
theorem callA_ok {o : Oper} {f : FuncId} {l : List AV} (hc : callA T o = some (f, l)) (hp : plainFn P f = true) {μ : Mu} {a : Act} (ht : TR μ T a) (w : World) :
    ∃ us : List Value, (execOp a.eval o).run P w = .ok (.enter f us.toArray) w ∧ R2 (RV μ) l us := by
  unfold callA at hc
  split at hc
  · rename_i c hop
    split at hc
    · rename_i x hx
      split at hc
      · rename_i f' caps l' hf hl
        obtain ⟨rfl, rfl⟩ := Prod.mk.inj (Option.some.inj hc)
        obtain ⟨us, hu, hcaps⟩ := aev_ok ht hf
        have hargs := argsA_ok ht hl
        refine ⟨c.args.toList.map a.eval ++ us.toList, ?_, hargs.append ?_⟩
        · have h1 : c.args.map a.eval = (c.args.toList.map a.eval).toArray := by apply Array.ext'; simp
          have h2 : #[] ++ c.args.map a.eval ++ us = (c.args.toList.map a.eval ++ us.toList).toArray := by apply Array.ext'; simp
          unfold plainFn at hp
          split at hp
          · rename_i fn hfn
            simp only [Bool.and_eq_true, Bool.not_eq_true'] at hp
            have hb : fn.body.isNone = false := by cases hfb : fn.body <;> simp_all
            simp only [execOp, hop, resolve, hx, hu, Deferred.ofValue, pure_bind, invoke, h2, callFunc, Sem.run_bind, run_program, Result.andThen_ok, hfn, hp.1, Bool.false_eq_true, if_false, hb, Sem.run_pure]
          · cases hp
        · have hcp : R2 (RV μ) (caps.map fun p => AV.o (V1.c (.ptr p.1 p.2))) (us.toList.map id) := hcaps.map _ id fun p u hpu => hpu
          rwa [List.map_id] at hcp
      · cases hc
    · cases hc
  · cases hc
theorem RgOK.call {ops : Array Oper} {o : Oper} {l : List Oper} {Q : (Nat → AV) → Heap → Prop} {f : FuncId} {args : List AV} (hw : wantA ops.toList T o = some true) (hd : dstOk N o.dst = true) (hc : callA T o = some (f, args)) (hp : plainFn P f = true)
    (hf : FnOK P f args h (fun v h' => RgOK P N ops l (updO T o.dst v) h' Q)) : RgOK P N ops (o :: l) T h Q := by
  intro B0 μ a w K hs hr hk
  unfold wpList
  rw [wantA_ok hs hw]
  simp only [if_true]
  obtain ⟨us, hrun, hus⟩ := callA_ok hc hp hs.2 w
  left
  have hdef : ∀ u, (a.put o.dst u).defers = a.defers := fun u => by cases o.dst <;> rfl
  show o.upon P a _ _ _
  rw [hrun]
  refine Calls.mono (hf B0 μ w us hr hus) ?_
  rintro e w1 ⟨u, v, h1, μ1, rfl, hq, hv, hm, hr1, hb1⟩
  exact hq B0 μ1 _ w1 K ((hs.mono hm).put hd hv) hr1 fun a' w' T' h' μ' q1 q2 q3 q4 q5 q6 => hk a' w' T' h' μ' q1 (q2.trans (hdef u)) q3 (hm.trans q4) q5 (hb1.trans q6)
inductive WkV : AV → AV → Prop
  | refl (x : AV) : WkV x x
  | c {x y : Cell} (h : WkC x y) : WkV (.o (.c x)) (.o (.c y))
  | agg {xs ys : List Cell} (h : R2 WkC xs ys) : WkV (.o (.agg xs)) (.o (.agg ys))
theorem WkV.ok {μ : Mu} {x y : AV} (hw : WkV x y) {u : Value} (hx : RV μ x u) : RV μ y u := by
  cases hw with
  | refl => exact hx
  | c h => exact h.ok hx
  | agg h =>
    obtain ⟨us, rfl, h1⟩ := hx
    refine ⟨us, rfl, h.1.symm.trans h1.1, fun i c v hc hv => ?_⟩
    obtain ⟨c', hc', hr⟩ := h1.get' hv
    exact (h.2 i c' c hc' hc).ok hr
theorem R2.trans' {μ : Mu} {xs ys : List AV} {us : List Value} (h : R2 WkV xs ys) (hx : R2 (RV μ) xs us) : R2 (RV μ) ys us := by
  refine ⟨h.1.symm.trans hx.1, fun i c v hc hv => ?_⟩
  obtain ⟨c', hc', hr⟩ := hx.get' hv
  exact (h.2 i c' c hc' hc).ok hr
theorem FnOK.weak {f : FuncId} {args args' : List AV} {Q : AV → Heap → Prop} (hw : R2 WkV args args') (hf : FnOK P f args' h Q) : FnOK P f args h Q :=
  fun B0 μ w us hr hus => hf B0 μ w us hr (R2.trans' hw hus)

theorem CdOK.region {id : Nat} {ops : Array Oper} (hl : RgOK P N ops ops.toList T h (fun T' h' => Q .normal T' h')) : CdOK P (n0 := n0) N (.region id ops false) T h Q := by
  intro B0 μ a w hs hr
  exact wp_region_list (hl B0 μ a w _ hs hr fun a' w' T' h' μ' q1 q2 q3 q4 q5 q6 => ⟨T', h', μ', q1, q2, q3, q4.toN, q5, q6⟩)

def resA (P : Program) (T : Nat → AV) (h : Heap) : List ResultVar → Option (List V1)
  | [] => some []
  | .tmp t :: r => match T t, resA P T h r with
    | .o v, some l => some (v :: l)
    | _, _ => none
  | .cell t ty :: r => match T t, resA P T h r with
    | .o (.c (.ptr b o)), some l => match eLoad P ty b o h with
      | some (.o v) => some (v :: l)
      | _ => none
    | _, _ => none
def resV : List V1 → AV
  | [v] => .o v
  | l => .tup l
theorem resA_ok {a : Act} {μ : Mu} {B0 : Pt} {w : World} (ht : TR μ T a) (hr : HR B0 μ h w) (g : ResultVar → Sem Value) (g1 : ∀ t, g (.tmp t) = pure (a.tmps.getD t undef)) (g2 : ∀ x t, g (.cell x t) = (do loadVar t (← asAddr (a.tmps.getD x undef)))) : ∀ {rs : List ResultVar} {l : List V1}, resA P T h rs = some l →
    ∃ us : List Value, (rs.mapM g : Sem (List Value)).run P w = .ok us w ∧ R2 (R1 μ) l us := by
  intro rs
  induction rs with
  | nil => intro l hl; obtain rfl := Option.some.inj hl; exact ⟨[], rfl, R2.nil _⟩
  | cons x r ih =>
    intro l hl
    cases x with
    | tmp t =>
      simp only [resA] at hl
      split at hl
      · rename_i v l' hv hl'
        obtain rfl := Option.some.inj hl
        obtain ⟨us, h1, h2⟩ := ih hl'
        have := ht t
        rw [hv] at this
        exact ⟨a.tmps.getD t undef :: us, by simp only [List.mapM_cons, g1, Sem.run_bind, Sem.run_pure, Result.andThen_ok, h1], R2.cons this h2⟩
      · cases hl
    | cell t ty =>
      simp only [resA] at hl
      split at hl
      · rename_i b o l' hv hl'
        split at hl
        · rename_i v hld
          obtain rfl := Option.some.inj hl
          obtain ⟨us, h1, h2⟩ := ih hl'
          have hp := ht t
          rw [hv] at hp
          obtain ⟨u, h3, h4⟩ := eLoad_ok P hld hr hp
          obtain ⟨L, hm, e⟩ := hp
          simp only [Act.eval] at e
          simp only [Act.eval, e, Instr.loadAt, Instr.sureAddr, pure_bind] at h3
          exact ⟨u :: us, by simp only [List.mapM_cons, g2, Sem.run_bind, Sem.run_pure, Result.andThen_ok, h1, e, asAddr, h3], R2.cons h4 h2⟩
        · cases hl
      · cases hl
def initT (args : List AV) : Nat → AV := fun t => (args[t]?).getD undefA
theorem FnOK.of_body {f : FuncId} {fn : Func} {c : Code} {args : List AV} {Q : AV → Heap → Prop} (hf : P.funcs[f]? = some fn) (hb : fn.body = some c) (hn : args.length ≤ fn.ntmps)
    (hc : CdOK P (n0 := h.length) fn.ntmps c (initT args) h (fun e T' h' => (e = .normal ∨ e = .ret) ∧ ∃ l, resA P T' h' fn.results.toList = some l ∧ Q (resV l) h')) : FnOK P f args h Q := by
  intro B0 μ w us hr hus
  refine calls_of_wp hf hb ?_
  have hs : SR fn.ntmps μ (initT args) { tmps := us.toArray ++ Array.replicate (fn.ntmps - us.toArray.size) undef, defers := [] } := by
    refine ⟨by simp [← hus.1]; omega, fun t => ?_⟩
    simp only [Act.eval, initT, Array.getD_eq_getD_getElem?]
    rcases Nat.lt_or_ge t us.length with hlt | hge
    · have h1 : t < args.length := hus.1 ▸ hlt
      rw [List.getElem?_eq_getElem h1, Array.getElem?_append_left (by simpa using hlt)]
      simp only [Option.getD_some]
      have := hus.2 t _ _ (List.getElem?_eq_getElem h1) (List.getElem?_eq_getElem hlt)
      simpa [hlt] using this
    · rw [List.getElem?_eq_none (by rw [hus.1]; exact hge)]
      have e : ((us.toArray ++ Array.replicate (fn.ntmps - us.toArray.size) undef)[t]?).getD undef = undef := by
        rw [Array.getElem?_append_right (by simpa using hge), Array.getElem?_replicate]
        split <;> rfl
      rw [e]
      exact R_undef
  refine wp_mono (hc B0 μ _ w hs hr) ?_
  intro e a' w' hp
  obtain ⟨T', h', μ', ⟨he, l, hl, hq⟩, hd, hs', hmN, hr', hb'⟩ := hp
  have hm : Mu.le μ μ' := Mu.leN.full (by rw [hr.len]; exact hmN)
  have hm0 : ∃ vs : List Value, R2 (R1 μ') l vs ∧ ∀ g : ResultVar → Sem Value, (∀ t, g (.tmp t) = pure (a'.tmps.getD t undef)) → (∀ x t, g (.cell x t) = (do loadVar t (← asAddr (a'.tmps.getD x undef)))) → (fn.results.mapM g : Sem (Array Value)).run P w' = .ok vs.toArray w' := by
    obtain ⟨vs, h1, h2⟩ := resA_ok hs'.2 hr' (fun | .tmp t => pure (a'.tmps.getD t undef) | .cell x t => do loadVar t (← asAddr (a'.tmps.getD x undef))) (fun _ => rfl) (fun _ _ => rfl) hl
    refine ⟨vs, h2, fun g g1 g2 => ?_⟩
    obtain ⟨vs', h1', h2'⟩ := resA_ok hs'.2 hr' g g1 g2 hl
    have e : g = (fun | .tmp t => pure (a'.tmps.getD t undef) | .cell x t => do loadVar t (← asAddr (a'.tmps.getD x undef))) := by
      funext x
      cases x with
      | tmp t => exact g1 t
      | cell x t => exact g2 x t
    rw [← Array.toArray_toList (xs := fn.results), List.mapM_toArray, e]
    simp only [Sem.run_map, h1, Result.andThen_ok]
  obtain ⟨vs, h2, hall⟩ := hm0
  have hres : ∃ u, (results fn a'.tmps).run P w' = .ok u w' ∧ RV μ' (resV l) u := by
    refine ⟨if hh : vs.toArray.size = 1 then vs.toArray[0] else .tuple vs.toArray, ?_, ?_⟩
    · unfold results
      rw [Sem.run_bind, hall _ (fun _ => rfl) (fun _ _ => rfl)]
      rfl
    · match l, h2 with
      | [], h2 =>
        have : vs = [] := List.eq_nil_of_length_eq_zero (by simpa using h2.1.symm)
        subst this
        exact ⟨#[], rfl, R2.nil _⟩
      | [v], h2 =>
        obtain ⟨u, rfl, hu⟩ : ∃ u, vs = [u] ∧ R1 μ' v u := by
          obtain ⟨k1, k2⟩ := h2
          match vs, k1 with
          | [u], _ => exact ⟨u, rfl, k2 0 _ _ rfl rfl⟩
        exact hu
      | v :: v2 :: r, h2 =>
        have hlen := h2.1
        rw [dif_neg (by simp at hlen ⊢; omega)]
        exact ⟨vs.toArray, rfl, h2⟩
  obtain ⟨u, hu1, hu2⟩ := hres
  rcases he with rfl | rfl
  · exact ⟨hd, u, hu1, u, resV l, h', μ', rfl, hq, hu2, hm, hr', hb'⟩
  · exact ⟨hd, u, hu1, u, resV l, h', μ', rfl, hq, hu2, hm, hr', hb'⟩
theorem FnOK.mono {f : FuncId} {args : List AV} {Q Q' : AV → Heap → Prop} (hf : FnOK P f args h Q) (hq : ∀ v h', Q v h' → Q' v h') : FnOK P f args h Q' :=
  fun B0 μ w us hr hus => Calls.mono (hf B0 μ w us hr hus) fun e w' ⟨u, v, h', μ', h1, h2, h3⟩ => ⟨u, v, h', μ', h1, hq _ _ h2, h3⟩
end Rv
