import Derived.Test.YtnlpkgamglhnbaaRvOut
import Derived.Test.YtnlpkgamglhnbaaRvDraw3
import Derived.Laws.Cover3
set_option linter.unusedVariables false
set_option linter.unusedSimpArgs false
namespace Rv
open Go Go.RowKit
variable {P : Program} {N : Nat} {h : Heap} {opl : List Oper} {chain rest : List Nat} {F : Flo} {T0 : Nat → AV} {env : Env} {Q : (Nat → AV) → Heap → Prop} {j d : Nat} {o : Oper}

theorem Dr2.nil (hq : Q (look T0 env) h) : Dr2 P N opl chain [] F (look T0 env) h Q := hq
/-- one that looks at no memory -/
theorem Dr2.s {v : AV} (hj : opl[j]? = some o) (hc : chain.contains j = false) (hdst : o.dst = some d) (hw : wantA opl (look T0 env) o = some true) (hd : decide (d < N) = true) (hp : pureOp o = true) (he : evOp P o (look T0 env) h = some (v, h)) (hl : Dr2 P N opl chain rest F (look T0 ((d, v) :: env)) h Q) : Dr2 P N opl chain (j :: rest) F (look T0 env) h Q := by
  refine ⟨o, hj, ?_⟩
  rw [if_neg (by rw [hc]; simp)]
  refine ⟨v, ⟨by rw [hdst]; exact hd, .inr ⟨hw, .inl he⟩⟩, ?_⟩
  rw [if_pos hp, hdst]; exact hl
/-- one that looks at memory, and may float -/
theorem Dr2.f {v : AV} (hj : opl[j]? = some o) (hc : chain.contains j = false) (hdst : o.dst = some d) (hw : wantA opl (look T0 env) o = some true) (hd : decide (d < N) = true) (hp : pureOp o = false) (he : evOp P o (look T0 env) h = some (v, h)) (hl : Dr2 P N opl chain rest ((j, o, look T0 env, v) :: F) (look T0 ((d, v) :: env)) h Q) : Dr2 P N opl chain (j :: rest) F (look T0 env) h Q := by
  refine ⟨o, hj, ?_⟩
  rw [if_neg (by rw [hc]; simp)]
  refine ⟨v, ⟨by rw [hdst]; exact hd, .inr ⟨hw, .inl he⟩⟩, ?_⟩
  rw [if_neg (by rw [hp]; simp), hdst]; exact hl
theorem Dr2.fc {f : FuncId} {args args' : List AV} {v : AV} (hj : opl[j]? = some o) (hc : chain.contains j = false) (hdst : o.dst = some d) (hw : wantA opl (look T0 env) o = some true) (hd : decide (d < N) = true) (hp : pureOp o = false) (hcall : callA (look T0 env) o = some (f, args)) (hpl : plainFn P f = true) (hwk : R2 WkV args args') (hf : FnOK P f args' h (fun v' h' => v' = v ∧ h' = h))
    (hl : Dr2 P N opl chain rest ((j, o, look T0 env, v) :: F) (look T0 ((d, v) :: env)) h Q) : Dr2 P N opl chain (j :: rest) F (look T0 env) h Q := by
  refine ⟨o, hj, ?_⟩
  rw [if_neg (by rw [hc]; simp)]
  refine ⟨v, ⟨by rw [hdst]; exact hd, .inr ⟨hw, .inr ⟨f, args, hcall, hpl, hf.weak hwk⟩⟩⟩, ?_⟩
  rw [if_neg (by rw [hp]; simp), hdst]; exact hl
theorem Dr2.sk (hj : opl[j]? = some o) (hc : chain.contains j = false) (hdst : o.dst = some d) (hw : wantA opl (look T0 env) o = some false) (hd : decide (d < N) = true) (hp : pureOp o = true) (hl : Dr2 P N opl chain rest F (look T0 ((d, undefA) :: env)) h Q) : Dr2 P N opl chain (j :: rest) F (look T0 env) h Q := by
  refine ⟨o, hj, ?_⟩
  rw [if_neg (by rw [hc]; simp)]
  refine ⟨undefA, ⟨by rw [hdst]; exact hd, .inl ⟨hw, rfl⟩⟩, ?_⟩
  rw [if_pos hp, hdst]; exact hl
theorem Dr2.skf (hj : opl[j]? = some o) (hc : chain.contains j = false) (hdst : o.dst = some d) (hw : wantA opl (look T0 env) o = some false) (hd : decide (d < N) = true) (hp : pureOp o = false) (hl : Dr2 P N opl chain rest ((j, o, look T0 env, undefA) :: F) (look T0 ((d, undefA) :: env)) h Q) : Dr2 P N opl chain (j :: rest) F (look T0 env) h Q := by
  refine ⟨o, hj, ?_⟩
  rw [if_neg (by rw [hc]; simp)]
  refine ⟨undefA, ⟨by rw [hdst]; exact hd, .inl ⟨hw, rfl⟩⟩, ?_⟩
  rw [if_neg (by rw [hp]; simp), hdst]; exact hl
/-- one that changes the heap -/
theorem Dr2.c {v : AV} {h' : Heap} (hj : opl[j]? = some o) (hc : chain.contains j = true) (hdst : o.dst = some d) (hw : wantA opl (look T0 env) o = some true) (hd : decide (d < N) = true) (he : evOp P o (look T0 env) h = some (v, h')) (hs : Stab P N opl j h' F) (hl : Dr2 P N opl chain rest F (look T0 ((d, v) :: env)) h' Q) : Dr2 P N opl chain (j :: rest) F (look T0 env) h Q := by
  refine ⟨o, hj, ?_⟩
  rw [if_pos hc]
  refine ⟨by rw [hdst]; exact hd, .inr ⟨hw, .inl ⟨v, h', he, hs, ?_⟩⟩⟩
  rw [hdst]; exact hl
theorem Dr2.c0 {v : AV} {h' : Heap} (hj : opl[j]? = some o) (hc : chain.contains j = true) (hdst : o.dst = none) (hw : wantA opl (look T0 env) o = some true) (he : evOp P o (look T0 env) h = some (v, h')) (hs : Stab P N opl j h' F) (hl : Dr2 P N opl chain rest F (look T0 env) h' Q) : Dr2 P N opl chain (j :: rest) F (look T0 env) h Q := by
  refine ⟨o, hj, ?_⟩
  rw [if_pos hc]
  refine ⟨by rw [hdst]; rfl, .inr ⟨hw, .inl ⟨v, h', he, hs, ?_⟩⟩⟩
  rw [hdst]; exact hl
theorem Dr2.cl {f : FuncId} {args args' : List AV} {R : AV → Heap → Prop} (hj : opl[j]? = some o) (hc : chain.contains j = true) (hdst : o.dst = some d) (hw : wantA opl (look T0 env) o = some true) (hd : decide (d < N) = true) (hcall : callA (look T0 env) o = some (f, args)) (hpl : plainFn P f = true) (hwk : R2 WkV args args') (hf : FnOK P f args' h R)
    (hl : ∀ v h', R v h' → Stab P N opl j h' F ∧ Dr2 P N opl chain rest F (look T0 ((d, v) :: env)) h' Q) : Dr2 P N opl chain (j :: rest) F (look T0 env) h Q := by
  refine ⟨o, hj, ?_⟩
  rw [if_pos hc]
  refine ⟨by rw [hdst]; exact hd, .inr ⟨hw, .inr ⟨f, args, hcall, hpl, (hf.weak hwk).mono fun v h' hr => ?_⟩⟩⟩
  rw [hdst]; exact hl v h' hr
theorem Dr2.sd {p : Prop} [Decidable p] (hj : opl[j]? = some o) (hc : chain.contains j = false) (hdst : o.dst = some d) (hw : wantA opl (look T0 env) o = some true) (hd : decide (d < N) = true) (hp : pureOp o = true) (he : evOp P o (look T0 env) h = some (VB (decide p), h)) (ht : p → Dr2 P N opl chain rest F (look T0 ((d, VB true) :: env)) h Q) (hf : ¬ p → Dr2 P N opl chain rest F (look T0 ((d, VB false) :: env)) h Q) : Dr2 P N opl chain (j :: rest) F (look T0 env) h Q := by
  by_cases e : p
  · rw [decide_eq_true e] at he; exact Dr2.s hj hc hdst hw hd hp he (ht e)
  · rw [decide_eq_false e] at he; exact Dr2.s hj hc hdst hw hd hp he (hf e)
theorem Dr2.sb {b : Bool} (hj : opl[j]? = some o) (hc : chain.contains j = false) (hdst : o.dst = some d) (hw : wantA opl (look T0 env) o = some true) (hd : decide (d < N) = true) (hp : pureOp o = true) (he : evOp P o (look T0 env) h = some (VB b, h)) (ht : b = true → Dr2 P N opl chain rest F (look T0 ((d, VB true) :: env)) h Q) (hf : b = false → Dr2 P N opl chain rest F (look T0 ((d, VB false) :: env)) h Q) : Dr2 P N opl chain (j :: rest) F (look T0 env) h Q := by
  refine Dr2.s hj hc hdst hw hd hp he ?_
  cases b
  · exact hf rfl
  · exact ht rfl
theorem Stab.nil {p : Nat} : Stab P N opl p h [] := trivial
theorem Stab.m {p : Nat} {x : Nat} {T : Nat → AV} {v : AV} (hm : mk opl p x = true) (hs : Stab P N opl p h F) : Stab P N opl p h ((x, o, T, v) :: F) := ⟨.inl hm, hs⟩
theorem Stab.e {p : Nat} {x : Nat} {T : Nat → AV} {v : AV} (hd : dstOk N o.dst = true) (hw : wantA opl T o = some true) (he : evOp P o T h = some (v, h)) (hs : Stab P N opl p h F) : Stab P N opl p h ((x, o, T, v) :: F) := ⟨.inr ⟨hd, .inr ⟨hw, .inl he⟩⟩, hs⟩
theorem Stab.sk {p : Nat} {x : Nat} {T : Nat → AV} (hd : dstOk N o.dst = true) (hw : wantA opl T o = some false) (hs : Stab P N opl p h F) : Stab P N opl p h ((x, o, T, undefA) :: F) := ⟨.inr ⟨hd, .inl ⟨hw, rfl⟩⟩, hs⟩

theorem Stab.c {p : Nat} {x : Nat} {T : Nat → AV} {v : AV} {f : FuncId} {args args' : List AV} (hd : dstOk N o.dst = true) (hw : wantA opl T o = some true) (hcall : callA T o = some (f, args)) (hpl : plainFn P f = true) (hwk : R2 WkV args args') (hf : FnOK P f args' h (fun v' h' => v' = v ∧ h' = h)) (hs : Stab P N opl p h F) : Stab P N opl p h ((x, o, T, v) :: F) := ⟨.inr ⟨hd, .inr ⟨hw, .inr ⟨f, args, hcall, hpl, hf.weak hwk⟩⟩⟩, hs⟩
end Rv
