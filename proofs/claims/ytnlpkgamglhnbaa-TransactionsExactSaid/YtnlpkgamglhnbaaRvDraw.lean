import Derived.Test.YtnlpkgamglhnbaaRvCode
import Derived.Still
set_option linter.unusedVariables false
set_option linter.unusedSimpArgs false
namespace Rv
open Go Go.RowKit

def otmp : Operand → List Nat
  | .tmp t => [t]
  | _ => []
def opTmps : Op → List Nat
  | .move x | .assign x | .box _ x | .load _ x | .nilCheck x | .unOp _ _ x | .convert _ _ x | .fieldAddr _ x _ | .field _ x _ | .extract x _ => otmp x
  | .pick c a b => otmp c ++ otmp a ++ otmp b
  | .build _ ps | .buildSlice _ _ ps => ps.toList.flatMap fun p => otmp p.2
  | .store _ a v | .binOp _ _ a v _ | .makeSlice _ a v | .indexAddr _ a v | .index _ a v => otmp a ++ otmp v
  | .makeFunc _ first caps => first.toList.flatMap otmp ++ caps.toList.flatMap otmp
  | .slice _ x l h m => otmp x ++ l.toList.flatMap otmp ++ h.toList.flatMap otmp ++ m.toList.flatMap otmp
  | .call c => (match c.callee with | .value f => otmp f | _ => []) ++ c.args.toList.flatMap otmp
  | _ => []
section congr
variable {T T' : Nat → AV}
theorem aev_congr {x : Operand} (h : ∀ t ∈ otmp x, T t = T' t) : aev T x = aev T' x := by
  cases x with
  | tmp t => simp only [aev]; rw [h t (by simp [otmp])]
  | _ => rfl
theorem sev_congr {x : Operand} (h : ∀ t ∈ otmp x, T t = T' t) : sev T x = sev T' x := by unfold sev; rw [aev_congr h]
theorem optA_congr {x : Option Operand} (h : ∀ t ∈ x.toList.flatMap otmp, T t = T' t) : optA T x = optA T' x := by
  cases x with
  | none => rfl
  | some x => simp only [optA]; rw [sev_congr fun t ht => h t (by simpa using ht)]
theorem partsA_congr : ∀ {ps : List (Nat × Operand)}, (∀ t ∈ ps.flatMap fun p => otmp p.2, T t = T' t) → partsA T ps = partsA T' ps := by
  intro ps
  induction ps with
  | nil => intro _; rfl
  | cons p r ih =>
    intro h
    obtain ⟨i, x⟩ := p
    simp only [List.flatMap_cons, List.mem_append] at h
    simp only [partsA]
    rw [aev_congr fun t ht => h t (.inl ht), ih fun t ht => h t (.inr ht)]
theorem argsA_congr : ∀ {ps : List Operand}, (∀ t ∈ ps.flatMap otmp, T t = T' t) → argsA T ps = argsA T' ps := by
  intro ps
  induction ps with
  | nil => intro _; rfl
  | cons x r ih =>
    intro h
    simp only [List.flatMap_cons, List.mem_append] at h
    simp only [argsA]
    rw [aev_congr fun t ht => h t (.inl ht), ih fun t ht => h t (.inr ht)]
theorem capsA_congr : ∀ {ps : List Operand}, (∀ t ∈ ps.flatMap otmp, T t = T' t) → capsA T ps = capsA T' ps := by
  intro ps
  induction ps with
  | nil => intro _; rfl
  | cons x r ih =>
    intro h
    simp only [List.flatMap_cons, List.mem_append] at h
    simp only [capsA]
    rw [aev_congr fun t ht => h t (.inl ht), ih fun t ht => h t (.inr ht)]
theorem evOp_congr (P : Program) {o : Oper} (h : Heap) (ht : ∀ t ∈ opTmps o.op, T t = T' t) : evOp P o T h = evOp P o T' h := by
  cases hop : o.op with
  | move x => rw [hop] at ht; simp only [evOp, hop]; rw [aev_congr ht]
  | assign x => rw [hop] at ht; simp only [evOp, hop]; rw [aev_congr ht]
  | box e x => rw [hop] at ht; simp only [evOp, hop]; rw [aev_congr ht]
  | load e x => rw [hop] at ht; simp only [evOp, hop]; rw [aev_congr ht]
  | nilCheck x => rw [hop] at ht; simp only [evOp, hop]; rw [aev_congr ht]
  | unOp op e x => rw [hop] at ht; simp only [evOp, hop]; rw [sev_congr ht]
  | convert s d x => rw [hop] at ht; simp only [evOp, hop]; rw [sev_congr ht]
  | fieldAddr s x f => rw [hop] at ht; simp only [evOp, hop]; rw [aev_congr ht]
  | field s x f => rw [hop] at ht; simp only [evOp, hop]; rw [aev_congr ht]
  | extract x i => rw [hop] at ht; simp only [evOp, hop]; rw [aev_congr ht]
  | pick c a b =>
    rw [hop] at ht; simp only [opTmps, List.mem_append] at ht
    simp only [evOp, hop]
    rw [sev_congr fun t h => ht t (.inl (.inl h))]
    have ha := aev_congr (T := T) (T' := T') (x := a) fun t h => ht t (.inl (.inr h))
    have hb := aev_congr (T := T) (T' := T') (x := b) fun t h => ht t (.inr h)
    have hi : ∀ t : Bool, aev T (if t = true then a else b) = aev T' (if t = true then a else b) := fun t => by cases t <;> simp [ha, hb]
    simp only [hi]
  | build e ps => rw [hop] at ht; simp only [evOp, hop]; rw [partsA_congr ht]
  | buildSlice e n ps => rw [hop] at ht; simp only [evOp, hop]; rw [partsA_congr ht]
  | store e x y =>
    rw [hop] at ht; simp only [opTmps, List.mem_append] at ht
    simp only [evOp, hop]; rw [aev_congr fun t h => ht t (.inl h), aev_congr fun t h => ht t (.inr h)]
  | binOp op e x y e' =>
    rw [hop] at ht; simp only [opTmps, List.mem_append] at ht
    simp only [evOp, hop]; rw [aev_congr fun t h => ht t (.inl h), aev_congr fun t h => ht t (.inr h)]
  | makeSlice e x y =>
    rw [hop] at ht; simp only [opTmps, List.mem_append] at ht
    simp only [evOp, hop]; rw [sev_congr fun t h => ht t (.inl h), sev_congr fun t h => ht t (.inr h)]
  | indexAddr e x y =>
    rw [hop] at ht; simp only [opTmps, List.mem_append] at ht
    simp only [evOp, hop]; rw [aev_congr fun t h => ht t (.inl h), sev_congr fun t h => ht t (.inr h)]
  | index e x y =>
    rw [hop] at ht; simp only [opTmps, List.mem_append] at ht
    simp only [evOp, hop]; rw [aev_congr fun t h => ht t (.inl h), sev_congr fun t h => ht t (.inr h)]
  | makeFunc fn first caps =>
    rw [hop] at ht; simp only [opTmps, List.mem_append] at ht
    cases fn with
    | func f => simp only [evOp, hop]; rw [capsA_congr fun t h => ht t (.inr h)]
    | _ => simp [evOp, hop]
  | slice e x l hh m =>
    rw [hop] at ht; simp only [opTmps, List.mem_append] at ht
    simp only [evOp, hop]
    rw [aev_congr fun t h => ht t (.inl (.inl (.inl h))), optA_congr fun t h => ht t (.inl (.inl (.inr h))), optA_congr fun t h => ht t (.inl (.inr h)), optA_congr fun t h => ht t (.inr h)]
  | call c =>
    rw [hop] at ht; simp only [opTmps, List.mem_append] at ht
    simp only [evOp, hop]; rw [argsA_congr fun t h => ht t (.inr h)]
  | _ => simp [evOp, hop]
theorem callA_congr {o : Oper} (ht : ∀ t ∈ opTmps o.op, T t = T' t) : callA T o = callA T' o := by
  cases hop : o.op with
  | call c =>
    rw [hop] at ht; simp only [opTmps, List.mem_append] at ht
    simp only [callA, hop]
    cases hc : c.callee with
    | value x =>
      simp only [hc] at ht
      simp only
      rw [aev_congr fun t h => ht t (.inl h), argsA_congr fun t h => ht t (.inr h)]
    | _ => rfl
  | _ => simp [callA, hop]
end congr
/-- The slot of an operation's guard. -/
def guardTmp (ops : List Oper) (o : Oper) : List Nat := match o.guard with
  | none => []
  | some (j, _) => match ops[j]? with | some oj => oj.dst.toList | none => []
theorem wantA_congr {ops : List Oper} {o : Oper} {T T' : Nat → AV} (ht : ∀ t ∈ guardTmp ops o, T t = T' t) : wantA ops T o = wantA ops T' o := by
  unfold guardTmp at ht
  unfold wantA
  split at ht
  · rename_i hg; simp only [hg]
  · rename_i j b hg
    simp only [hg]
    cases hj : ops[j]? with
    | none => rfl
    | some oj =>
      simp only [hj] at ht ⊢
      cases hd : oj.dst with
      | none => rfl
      | some d => rw [hd] at ht; simp only; rw [ht d (by simp)]

def preds (o : Oper) : List Nat := (o.after.toList.filter (Region.binds .any)).map (·.on)
def maskOf (acc : List Nat) (l : List Nat) : Nat := l.foldl (fun s p => s ||| 2 ^ p ||| acc.getD p 0) 0
def masks : List Oper → List Nat → List Nat
  | [], acc => acc
  | o :: r, acc => masks r (acc ++ [maskOf acc (preds o)])
def names (ops : List Oper) (o : Oper) : List Nat := o.dst.toList ++ opTmps o.op ++ guardTmp ops o
/-- Two operations that share a slot are ordered; edges lead back. -/
def pairOk (ops : List Oper) (m : List Nat) (i j : Nat) (oi oj : Oper) : Bool :=
  !(oi.dst.toList.any (fun d => (names ops oj).contains d) || oj.dst.toList.any (fun d => (names ops oi).contains d)) || (m.getD j 0).testBit i
def rowOk (ops : List Oper) (m : List Nat) (j : Nat) (oj : Oper) : List Oper → Nat → Bool
  | [], _ => true
  | oi :: r, i => (if i < j then pairOk ops m i j oi oj else true) && rowOk ops m j oj r (i + 1)
def rowsOk (ops : List Oper) (m : List Nat) : List Oper → Nat → Bool
  | [], _ => true
  | oj :: r, j => (preds oj).all (· < j) && rowOk ops m j oj ops 0 && rowsOk ops m r (j + 1)
def drawChk (ops : Array Oper) : Bool := rowsOk ops.toList (masks ops.toList []) ops.toList 0

theorem maskOf_bit (acc : List Nat) (i : Nat) : ∀ (l : List Nat) (s : Nat), (l.foldl (fun s p => s ||| 2 ^ p ||| acc.getD p 0) s).testBit i = true → s.testBit i = true ∨ ∃ p ∈ l, i = p ∨ (acc.getD p 0).testBit i = true := by
  intro l
  induction l with
  | nil => intro s h; exact .inl h
  | cons p r ih =>
    intro s h
    simp only [List.foldl_cons] at h
    rcases ih _ h with h1 | ⟨q, hq, h1⟩
    · simp only [Nat.testBit_or, Bool.or_eq_true] at h1
      rcases h1 with (h1 | h1) | h1
      · exact .inl h1
      · refine .inr ⟨p, by simp, .inl ?_⟩
        rw [Nat.testBit_two_pow] at h1
        simpa using (of_decide_eq_true h1).symm
      · exact .inr ⟨p, by simp, .inr h1⟩
    · exact .inr ⟨q, by simp [hq], h1⟩
/-- What a mask tells, of a set that holds what comes before each of its own. -/
theorem masks_ok {ops : List Oper} (S : Nat → Prop) (hS : ∀ (j : Nat) (o : Oper), ops[j]? = some o → S j → ∀ p ∈ preds o, S p) :
    ∀ (l : List Oper) (acc : List Nat), (∀ j, l[j]? = ops[acc.length + j]?) → (∀ (j : Nat) (o : Oper), j < acc.length → ops[j]? = some o → (∀ p ∈ preds o, S p) → ∀ i, (acc.getD j 0).testBit i = true → S i) →
      ∀ (j : Nat) (o : Oper), ops[j]? = some o → (∀ p ∈ preds o, S p) → ∀ i, ((masks l acc).getD j 0).testBit i = true → S i := by
  intro l
  induction l with
  | nil =>
    intro acc hl hacc j o hj hp i hb
    rcases Nat.lt_or_ge j acc.length with hlt | hge
    · exact hacc j o hlt hj hp i hb
    · simp only [masks, List.getD, List.getElem?_eq_none hge, Option.getD_none, Nat.zero_testBit] at hb
      cases hb
  | cons x r ih =>
    intro acc hl hacc
    refine ih (acc ++ [maskOf acc (preds x)]) (fun j => by have := hl (j + 1); simp only [List.getElem?_cons_succ] at this; rw [this]; congr 1; simp; omega) ?_
    intro j o hlt hj hp i hb
    simp only [List.length_append, List.length_cons, List.length_nil, Nat.zero_add] at hlt
    rcases Nat.lt_or_ge j acc.length with h1 | h1
    · rw [List.getD, List.getElem?_append_left h1] at hb
      exact hacc j o h1 hj hp i hb
    · have e : j = acc.length := by omega
      subst e
      have hx : ops[acc.length]? = some x := by have := hl 0; simpa using this.symm
      rw [hx] at hj
      obtain rfl := Option.some.inj hj
      simp only [List.getD, List.getElem?_append_right (Nat.le_refl _), Nat.sub_self, List.getElem?_cons_zero, Option.getD_some] at hb
      rcases maskOf_bit acc i _ _ hb with h2 | ⟨p, hp1, h2⟩
      · simp at h2
      · have hSp := hp p hp1
        rcases h2 with rfl | h2
        · exact hSp
        · have hpl : p < acc.length := by
            rcases Nat.lt_or_ge p acc.length with h3 | h3
            · exact h3
            · simp [List.getD, List.getElem?_eq_none h3] at h2
          obtain ⟨op, hop⟩ : ∃ op, ops[p]? = some op := by
            have := lt_of_get hx
            exact ⟨ops[p]'(by omega), List.getElem?_eq_getElem _⟩
          exact hacc p op hpl hop (hS p op hop hSp) i h2
theorem rowOk_get {ops : List Oper} {m : List Nat} {j : Nat} {oj : Oper} : ∀ {l : List Oper} {k : Nat}, rowOk ops m j oj l k = true → ∀ (i : Nat) (oi : Oper), l[i]? = some oi → k + i < j → pairOk ops m (k + i) j oi oj = true := by
  intro l
  induction l with
  | nil => intro k _ i oi h; simp at h
  | cons x r ih =>
    intro k h i oi hi hlt
    simp only [rowOk, Bool.and_eq_true] at h
    cases i with
    | zero => simp at hi; subst hi; simp only [Nat.add_zero] at hlt ⊢; rw [if_pos hlt] at h; exact h.1
    | succ i =>
      simp only [List.getElem?_cons_succ] at hi
      have := ih h.2 i oi hi (by omega)
      rwa [show k + 1 + i = k + (i + 1) by omega] at this
theorem rowsOk_get {ops : List Oper} {m : List Nat} : ∀ {l : List Oper} {k : Nat}, rowsOk ops m l k = true → ∀ (j : Nat) (oj : Oper), l[j]? = some oj → (∀ p ∈ preds oj, p < k + j) ∧ rowOk ops m (k + j) oj ops 0 = true := by
  intro l
  induction l with
  | nil => intro k _ j oj h; simp at h
  | cons x r ih =>
    intro k h j oj hj
    simp only [rowsOk, Bool.and_eq_true] at h
    cases j with
    | zero => simp at hj; subst hj; exact ⟨fun p hp => by have := List.all_eq_true.1 h.1.1 p hp; simpa using this, by simpa using h.1.2⟩
    | succ j =>
      simp only [List.getElem?_cons_succ] at hj
      have := ih h.2 j oj hj
      rwa [show k + 1 + j = k + (j + 1) by omega] at this

def tsGo : List Oper → List AV → Nat → (Nat → Bool) → (Nat → AV) → (Nat → AV)
  | o :: r, v :: vs, k, S, T => tsGo r vs (k + 1) S (if S k = true then updO T o.dst v else T)
  | _, _, _, _, T => T
theorem updO_at {T T' : Nat → AV} {d : Option Nat} {v : AV} {t : Nat} (h : T t = T' t) : updO T d v t = updO T' d v t := by
  cases d with
  | none => exact h
  | some d => simp only [updO, upd]; rw [h]
theorem updO_other {T : Nat → AV} {d : Option Nat} {v : AV} {t : Nat} (h : d ≠ some t) : updO T d v t = T t := by
  cases d with
  | none => rfl
  | some d => simp only [updO, upd]; rw [if_neg fun e => h (by rw [e])]
theorem tsGo_agree (t : Nat) {S S' : Nat → Bool} : ∀ (l : List Oper) (vs : List AV) (k : Nat) (T T' : Nat → AV), (∀ (i : Nat) (o : Oper), l[i]? = some o → o.dst = some t → S (k + i) = S' (k + i)) → T t = T' t → tsGo l vs k S T t = tsGo l vs k S' T' t := by
  intro l
  induction l with
  | nil => intro vs k T T' _ h; cases vs <;> exact h
  | cons o r ih =>
    intro vs k T T' hS h
    cases vs with
    | nil => exact h
    | cons v vs =>
      simp only [tsGo]
      refine ih vs (k + 1) _ _ (fun i oi hi hd => by have := hS (i + 1) oi (by simpa using hi) hd; rwa [show k + (i + 1) = k + 1 + i by omega] at this) ?_
      by_cases hd : o.dst = some t
      · have := hS 0 o rfl hd
        simp only [Nat.add_zero] at this
        rw [this]
        split
        · exact updO_at h
        · exact h
      · have e1 : ∀ (T : Nat → AV) (b : Bool), (if b = true then updO T o.dst v else T) t = T t := fun T b => by
          split
          · exact updO_other hd
          · rfl
        rw [e1, e1]; exact h
/-- The text's order, step by step. -/
theorem tsGo_step : ∀ (l : List Oper) (vs : List AV) (k i : Nat) (T : Nat → AV) (o : Oper) (v : AV), l[i]? = some o → vs[i]? = some v →
    tsGo l vs k (fun x => decide (x < k + (i + 1))) T = updO (tsGo l vs k (fun x => decide (x < k + i)) T) o.dst v := by
  intro l
  induction l with
  | nil => intro vs k i T o v h; simp at h
  | cons x r ih =>
    intro vs k i T o v h hv
    cases vs with
    | nil => simp at hv
    | cons u vs =>
      cases i with
      | zero =>
        simp at h hv
        subst h; subst hv
        have none_left : ∀ (l : List Oper) (vs : List AV) (k' n : Nat) (T : Nat → AV), n ≤ k' → tsGo l vs k' (fun x => decide (x < n)) T = T := by
          intro l
          induction l with
          | nil => intro vs k' n T _; cases vs <;> rfl
          | cons y r ih => intro vs k' n T hn; cases vs with
            | nil => rfl
            | cons z vs => simp only [tsGo]; rw [if_neg (by simp; omega)]; exact ih vs (k' + 1) n T (by omega)
        simp only [tsGo]
        rw [if_pos (by simp), if_neg (by simp), none_left _ _ _ _ _ (by omega), none_left _ _ _ _ _ (by omega)]
      | succ i =>
        simp only [List.getElem?_cons_succ] at h hv
        simp only [tsGo]
        have := ih vs (k + 1) i (updO T x.dst u) o v h hv
        rw [if_pos (by simp), if_pos (by simp)]
        rw [show k + (i + 1 + 1) = k + 1 + (i + 1) by omega, show k + (i + 1) = k + 1 + i by omega]
        exact this
end Rv
