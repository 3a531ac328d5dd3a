import Derived.Test.YtnlpkgamglhnbaaRvRe
set_option linter.unusedVariables false
set_option linter.unusedSimpArgs false
namespace Rv
open Go Go.RowKit

def partV (P : Program) (t : TypeId) (cs : Array Value) (off : Nat) : Option Value :=
  match P.underlying t, P.info? t with
  | some d, some i => if isAggD d = true then some (.agg (cs.extract off (off + i.size))) else cs[off]?
  | _, _ => none
theorem partV_ok {P : Program} {t : TypeId} {cs : Array Value} {off : Nat} {v : Value} (h : partV P t cs off = some v) (w : World) : (part t cs off).run P w = .ok v w := by
  unfold partV at h
  split at h
  · rename_i d i hd hi
    split at h
    · rename_i ha
      obtain rfl := Option.some.inj h
      simp [part, rv_isAgg P t d hd, ha, rv_sizeOf P t i hi]
    · rename_i ha
      simp [part, rv_isAgg P t d hd, ha, h]
  · cases h

def eqFields (P : Program) (f : TypeId → Value → Value → Option Bool) : List Field → Array Value → Array Value → Option Bool
  | [], _, _ => some true
  | fd :: r, xs, ys =>
    if fd.name = "_" then eqFields P f r xs ys
    else match partV P fd.type xs fd.offset, partV P fd.type ys fd.offset with
      | some a, some b => match f fd.type a b with
        | some true => eqFields P f r xs ys
        | some false => some false
        | none => none
      | _, _ => none
def eqS (P : Program) : Nat → TypeId → Value → Value → Option Bool
  | 0, _, _, _ => none
  | d + 1, t, x, y => match P.underlying t, x, y with
    | some .bool, .bool a, .bool b => some (a == b)
    | some (.int _), .int k a, .int k' b => if k = k' then some (a == b) else none
    | some .string, .string a, .string b => some (a == b)
    | some (.struct fs), .agg xs, .agg ys => if P.stoodInHeld t = true then none else eqFields P (eqS P d) fs.toList xs ys
    | _, _, _ => none

theorem eqFields_ok {P : Program} (f : TypeId → Value → Value → Option Bool) (g : TypeId → Value → Value → Sem Bool) (w : World) (hfg : ∀ t a b r, f t a b = some r → (g t a b).run P w = .ok r w) (xs ys : Array Value) :
    ∀ {fs : List Field} {r : Bool}, eqFields P f fs xs ys = some r →
      (forIn fs ((none, ()) : Option Bool × Unit) (fun fd s => do
          if fd.name ≠ "_" then
            if !(← g fd.type (← part fd.type xs fd.offset) (← part fd.type ys fd.offset)) then pure (ForInStep.done (some false, ()))
            else pure (ForInStep.yield (none, ()))
          else pure (ForInStep.yield (none, ()))) : Sem (Option Bool × Unit)).run P w = .ok (if r = true then (none, ()) else (some false, ())) w := by
  intro fs
  induction fs with
  | nil => intro r h; obtain rfl := Option.some.inj h; simp
  | cons fd fr ih =>
    intro r h
    simp only [eqFields] at h
    simp only [List.forIn_cons]
    split at h
    · rename_i hn
      have := ih h
      simpa [hn] using this
    · rename_i hn
      split at h
      · rename_i a b ha hb
        have h1 := partV_ok ha w
        have h2 := partV_ok hb w
        split at h
        · rename_i hf
          have h3 := hfg _ _ _ _ hf
          have := ih h
          simpa [hn, h1, h2, h3] using this
        · rename_i hf
          have h3 := hfg _ _ _ _ hf
          obtain rfl := Option.some.inj h
          simp [hn, h1, h2, h3]
        · cases h
      · cases h

theorem eqS_ok {P : Program} (w : World) : ∀ (d : Nat) (t : TypeId) (x y : Value) (r : Bool), eqS P d t x y = some r → (Op.equalIn d t x y).run P w = .ok r w := by
  intro d
  induction d with
  | zero => intro t x y r h; cases h
  | succ d ih =>
    intro t x y r h
    simp only [eqS] at h
    split at h
    · rename_i hu
      obtain rfl := Option.some.inj h
      simp only [Op.equalIn, Sem.run_bind, run_underlying hu, Result.andThen_ok, Sem.run_pure]
    · rename_i hu
      split at h
      · rename_i hk
        obtain rfl := Option.some.inj h
        simp only [Op.equalIn, Sem.run_bind, run_underlying hu, Result.andThen_ok, hk, if_true, Sem.run_pure]
      · cases h
    · rename_i hu
      obtain rfl := Option.some.inj h
      simp only [Op.equalIn, Sem.run_bind, run_underlying hu, Result.andThen_ok, Sem.run_pure]
    · rename_i fs xs ys hu
      split at h
      · cases h
      · rename_i hs
        have := eqFields_ok (eqS P d) (Op.equalIn d) w (fun t a b r h => ih t a b r h) xs ys h
        simp only [Op.equalIn, Sem.run_bind, run_underlying hu, Result.andThen_ok, run_program, hs, Bool.false_eq_true, if_false]
        rw [← Array.forIn_toList]
        have e : ∀ (z : Sem (Option Bool × Unit)) (k : Option Bool × Unit → Sem Bool), z.run P w = .ok (if r = true then (none, ()) else (some false, ())) w → (k (if r = true then (none, ()) else (some false, ()))).run P w = .ok r w → (z.run P w).andThen (fun a w' => (k a).run P w') = .ok r w := by
          intro z k hz hk
          rw [hz]
          exact hk
        refine e _ _ this ?_
        cases r <;> rfl
    · cases h

/-- '==' and '!=' of two structs. -/
def eEqAgg (P : Program) (op : BinOp) (t : TypeId) (x y : Array Value) : Option Value :=
  if P.eqGuardType P.depth t = true then none else
  match op, eqS P Op.maxDepth t (.agg x) (.agg y) with
  | .eql, some r => some (.bool r)
  | .neq, some r => some (.bool (!r))
  | _, _ => none
theorem eEqAgg_ok {P : Program} {op : BinOp} {t : TypeId} {x y : Array Value} {r : Value} (h : eEqAgg P op t x y = some r) (X Y : Operand) (w : World) :
    (do eqGuard op t X Y (.agg x) (.agg y); binOp op t (.agg x) (.agg y) : Sem Value).run P w = .ok r w ∧ r.oneCell' = true := by
  unfold eEqAgg at h
  split at h
  · cases h
  · rename_i hg
    have hg' : P.eqGuardType P.depth t = false := by simpa using hg
    split at h
    · rename_i b hb
      obtain rfl := Option.some.inj h
      have h1 := eqS_ok w _ _ _ _ _ hb
      have e1 : binOp .eql t (.agg x) (.agg y) = (do pure (.bool (← Op.equal t (.agg x) (.agg y)))) := rfl
      refine ⟨?_, rfl⟩
      rw [e1]
      have e2 : (eqGuard .eql t X Y (.agg x) (.agg y)).run P w = .ok () w := by simp [eqGuard, hg']
      have e3 : (Op.equal t (.agg x) (.agg y)).run P w = .ok b w := h1
      simp [e2, e3]
    · rename_i b hb
      obtain rfl := Option.some.inj h
      have h1 := eqS_ok w _ _ _ _ _ hb
      have e1 : binOp .neq t (.agg x) (.agg y) = (do pure (.bool (!(← Op.equal t (.agg x) (.agg y))))) := rfl
      refine ⟨?_, rfl⟩
      rw [e1]
      have e2 : (eqGuard .neq t X Y (.agg x) (.agg y)).run P w = .ok () w := by simp [eqGuard, hg']
      have e3 : (Op.equal t (.agg x) (.agg y)).run P w = .ok b w := h1
      simp [e2, e3]
    · cases h
end Rv
