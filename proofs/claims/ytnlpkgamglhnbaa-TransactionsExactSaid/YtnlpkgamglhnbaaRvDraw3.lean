import Derived.Test.YtnlpkgamglhnbaaRvDraw2
set_option linter.unusedVariables false
set_option linter.unusedSimpArgs false
namespace Rv
open Go Go.RowKit

/-- An operation that looks at no memory. -/
def pureOp (o : Oper) : Bool := match o.op with
  | .move _ | .assign _ | .pick .. | .build .. | .buildSlice .. | .nilCheck _ | .binOp .. | .unOp .. | .convert .. | .makeFunc (.func _) _ _ | .slice .. | .fieldAddr .. | .field .. | .indexAddr .. | .index .. | .extract .. => true
  | .call c => match c.callee with
    | .builtin .len | .builtin .cap | .builtin .min | .builtin .max => true
    | _ => false
  | _ => false
theorem pure_ev {P : Program} {o : Oper} (hp : pureOp o = true) {T : Nat → AV} {h h1 h2 : Heap} {v : AV} (he : evOp P o T h = some (v, h1)) : evOp P o T h2 = some (v, h2) := by
  unfold pureOp at hp
  unfold evOp at he ⊢
  split at hp
  all_goals first
    | (cases hp; done)
    | skip
  all_goals rename_i hop; simp only [hop] at he ⊢
  all_goals first
    | (repeat' split at he) <;> first | (cases he; done) | (obtain ⟨rfl, rfl⟩ := Prod.mk.inj (Option.some.inj he); simp only [*]) | skip
  all_goals first
    | rfl
    | (simp only [*, if_true] at *; done)
    | (rename_i hc; simp only [hc] at hp; cases hp)
    | (rename_i hc _; simp only [hc] at hp; cases hp)
    | (rename_i hc _ _; simp only [hc] at hp; cases hp)
    | (rename_i hc _ _ _; simp only [hc] at hp; cases hp)
    | (rename_i hc _ _ _ _; simp only [hc] at hp; cases hp)
    | (rename_i hc _ _ _ _ _; simp only [hc] at hp; cases hp)
    | (rename_i hc _ _ _ _ _ _; simp only [hc] at hp; cases hp)
    | (rename_i hc _ _ _ _ _ _ _; simp only [hc] at hp; cases hp)

/-- The slots behind those operations of a set that have run. -/
def tsF : List Oper → Nat → (Nat → AV) → (Nat → Bool) → (Nat → AV) → (Nat → AV)
  | [], _, _, _, T => T
  | o :: r, k, vs, S, T => tsF r (k + 1) vs S (if S k = true then updO T o.dst (vs k) else T)
theorem tsF_agree (t : Nat) {S S' : Nat → Bool} {vs vs' : Nat → AV} : ∀ (l : List Oper) (k : Nat) (T T' : Nat → AV), (∀ (i : Nat) (o : Oper), l[i]? = some o → o.dst = some t → S (k + i) = S' (k + i) ∧ (S (k + i) = true → vs (k + i) = vs' (k + i))) → T t = T' t → tsF l k vs S T t = tsF l k vs' S' T' t := by
  intro l
  induction l with
  | nil => intro k T T' _ h; exact h
  | cons o r ih =>
    intro k T T' hS h
    simp only [tsF]
    refine ih (k + 1) _ _ (fun i oi hi hd => by have := hS (i + 1) oi (by simpa using hi) hd; rwa [show k + (i + 1) = k + 1 + i by omega] at this) ?_
    by_cases hd : o.dst = some t
    · have := hS 0 o rfl hd
      simp only [Nat.add_zero] at this
      rw [← this.1]
      cases hk : S k with
      | true => simp only [if_true]; rw [this.2 hk, hd]; simp [updO, upd]
      | false => simpa using h
    · have e1 : ∀ (T : Nat → AV) (b : Bool) (v : AV), (if b = true then updO T o.dst v else T) t = T t := fun T b v => by
        split
        · exact updO_other hd
        · rfl
      rw [e1, e1]; exact h
theorem tsF_none (t : Nat) {S : Nat → Bool} {vs : Nat → AV} : ∀ (l : List Oper) (k : Nat) (T : Nat → AV), (∀ (i : Nat) (o : Oper), l[i]? = some o → o.dst = some t → S (k + i) = false) → tsF l k vs S T t = T t := by
  intro l
  induction l with
  | nil => intro k T _; rfl
  | cons o r ih =>
    intro k T hS
    simp only [tsF]
    rw [ih (k + 1) _ fun i oi hi hd => by have := hS (i + 1) oi (by simpa using hi) hd; rwa [show k + (i + 1) = k + 1 + i by omega] at this]
    split
    · rename_i hk
      exact updO_other fun hd => by have := hS 0 o rfl hd; simp only [Nat.add_zero] at this; rw [hk] at this; cases this
    · rfl
theorem tsF_last (t : Nat) {S : Nat → Bool} {vs : Nat → AV} : ∀ (l : List Oper) (k i : Nat) (T : Nat → AV) (o : Oper), l[i]? = some o → o.dst = some t → S (k + i) = true → (∀ (j : Nat) (oj : Oper), i < j → l[j]? = some oj → oj.dst = some t → S (k + j) = false) → tsF l k vs S T t = vs (k + i) := by
  intro l
  induction l with
  | nil => intro k i T o h; simp at h
  | cons x r ih =>
    intro k i T o hi hd hs hl
    simp only [tsF]
    cases i with
    | zero =>
      simp at hi; subst hi
      simp only [Nat.add_zero] at hs ⊢
      rw [tsF_none t r (k + 1) _ fun j oj hj hdj => by have := hl (j + 1) oj (by omega) (by simpa using hj) hdj; rwa [show k + (j + 1) = k + 1 + j by omega] at this]
      rw [if_pos hs, hd]; simp [updO, upd]
    | succ i =>
      rw [show k + (i + 1) = k + 1 + i by omega] at hs ⊢
      exact ih (k + 1) i _ o (by simpa using hi) hd hs fun j oj hj hoj hdj => by have := hl (j + 1) oj (by omega) (by simpa using hoj) hdj; rwa [show k + (j + 1) = k + 1 + j by omega] at this

def mk (ops : List Oper) (j x : Nat) : Bool := ((masks ops []).getD j 0).testBit x
/-- A new object's own operation, that may run early: it names nothing, and nobody else fills its slot. -/
def isAl (ops : List Oper) (i : Nat) : Bool := match ops[i]? with
  | some o => (match o.op with | .alloc _ => true | _ => false) && o.guard.isNone && (match o.dst with
    | some d => (List.range ops.length).all fun j => j == i || (match ops[j]? with | some oj => oj.dst != some d | none => true)
    | none => false)
  | none => false
def alChk (P : Program) (N : Nat) (ops : List Oper) : Bool := ops.all fun o => match o.op with
  | .alloc e => (zeroOf P e).isSome && dstOk N o.dst
  | _ => true
/-- The order in which a region is walked: what changes the heap ('chain') as late as may be. -/
def ordGo (ops : List Oper) (chain : List Nat) : List Nat → List Nat → Bool
  | [], done => (List.range ops.length).all fun j => done.contains j
  | j :: rest, done => decide (j < ops.length) && !done.contains j && (match ops[j]? with | some o => (preds o).all fun p => done.contains p | none => false) &&
      (!chain.contains j || rest.all fun i => mk ops i j || (chain.contains i && isAl ops i)) && ordGo ops chain rest (j :: done)
def drawChk2 (ops : Array Oper) (ord chain : List Nat) : Bool := drawChk ops && ordGo ops.toList chain ord []
abbrev Flo := List (Nat × Oper × (Nat → AV) × AV)
def Stab (P : Program) (N : Nat) (ops : List Oper) (p : Nat) (h : Heap) : Flo → Prop
  | [] => True
  | (j, o, T, v) :: r => (mk ops p j = true ∨ StepOK P N ops h o T v) ∧ Stab P N ops p h r
theorem Stab.get {P : Program} {N : Nat} {ops : List Oper} {p : Nat} {h : Heap} : ∀ {F : Flo}, Stab P N ops p h F → ∀ {j o T v}, (j, o, T, v) ∈ F → mk ops p j = true ∨ StepOK P N ops h o T v := by
  intro F
  induction F with
  | nil => intro _ j o T v hm; cases hm
  | cons x r ih =>
    intro hs j o T v hm
    obtain ⟨j', o', T', v'⟩ := x
    rcases List.mem_cons.1 hm with e | hm
    · cases e; exact hs.1
    · exact ih hs.2 hm
def Dr2 (P : Program) (N : Nat) (ops : List Oper) (chain : List Nat) : List Nat → Flo → (Nat → AV) → Heap → ((Nat → AV) → Heap → Prop) → Prop
  | [], F, T, h, Q => Q T h
  | j :: rest, F, T, h, Q => ∃ o, ops[j]? = some o ∧
      if chain.contains j = true then dstOk N o.dst = true ∧ ((wantA ops T o = some false ∧ Dr2 P N ops chain rest F (updO T o.dst undefA) h Q) ∨ (wantA ops T o = some true ∧
        ((∃ v h', evOp P o T h = some (v, h') ∧ Stab P N ops j h' F ∧ Dr2 P N ops chain rest F (updO T o.dst v) h' Q) ∨
         ∃ f args, callA T o = some (f, args) ∧ plainFn P f = true ∧ FnOK P f args h (fun v h' => Stab P N ops j h' F ∧ Dr2 P N ops chain rest F (updO T o.dst v) h' Q))))
      else ∃ v, StepOK P N ops h o T v ∧ Dr2 P N ops chain rest (if pureOp o = true then F else (j, o, T, v) :: F) (updO T o.dst v) h Q

section
variable {P : Program} {N : Nat} {ops : List Oper} {chain : List Nat} {T0 : Nat → AV} {h : Heap} {Q : (Nat → AV) → Heap → Prop}
def setB (S : Nat → Bool) (i : Nat) : Nat → Bool := fun x => if x = i then true else S x
def setV (vs : Nat → AV) (i : Nat) (v : AV) : Nat → AV := fun x => if x = i then v else vs x
def Closed (ops : List Oper) (S : Nat → Bool) : Prop := ∀ (j : Nat) (o : Oper), ops[j]? = some o → S j = true → ∀ p ∈ preds o, S p = true
/-- Two operations that share a slot are ordered. -/
def Ordered (ops : List Oper) : Prop := (∀ (j : Nat) (o : Oper), ops[j]? = some o → ∀ p ∈ preds o, p < j) ∧ ∀ (i j : Nat) (oi oj : Oper), ops[i]? = some oi → ops[j]? = some oj → i < j → pairOk ops (masks ops []) i j oi oj = true
theorem Closed.mask {S : Nat → Bool} (hc : Closed ops S) {j : Nat} {o : Oper} (hj : ops[j]? = some o) (hp : ∀ p ∈ preds o, S p = true) {x : Nat} (hx : mk ops j x = true) : S x = true :=
  masks_ok (ops := ops) (fun x => S x = true) hc ops [] (by simp) (by simp) j o hj hp x hx
/-- what writes a slot that j names, and is not j, stands in j's mask, or has j in its own -/
theorem Ordered.pair (ho : Ordered ops) {i j : Nat} {oi oj : Oper} (hi : ops[i]? = some oi) (hj : ops[j]? = some oj) (hne : i ≠ j) {t : Nat} (ht : t ∈ names ops oj) (hd : oi.dst = some t) : (i < j ∧ mk ops j i = true) ∨ (j < i ∧ mk ops i j = true) := by
  rcases Nat.lt_or_ge i j with hlt | hge
  · have hp := ho.2 i j oi oj hi hj hlt
    have hcon : (oi.dst.toList.any (fun d => (names ops oj).contains d) || oj.dst.toList.any (fun d => (names ops oi).contains d)) = true := by rw [hd]; simp [ht]
    unfold pairOk at hp
    rw [hcon] at hp
    simp only [Bool.not_true, Bool.false_or] at hp
    exact .inl ⟨hlt, hp⟩
  · have hgt : j < i := by omega
    have hp := ho.2 j i oj oi hj hi hgt
    have hcon : (oj.dst.toList.any (fun d => (names ops oi).contains d) || oi.dst.toList.any (fun d => (names ops oj).contains d)) = true := by rw [hd]; simp [ht]
    unfold pairOk at hp
    rw [hcon] at hp
    simp only [Bool.not_true, Bool.false_or] at hp
    exact .inr ⟨hgt, hp⟩
/-- A ready operation finds its slots as the canonical ones: those behind its mask. -/
theorem canon (ho : Ordered ops) {S : Nat → Bool} (hc : Closed ops S) {vs vs' : Nat → AV} {j : Nat} {o : Oper} (hj : ops[j]? = some o) (hn : S j = false) (hp : ∀ p ∈ preds o, S p = true) (hv : ∀ x, S x = true → vs x = vs' x) (hmj : mk ops j j = false) :
    ∀ t ∈ names ops o, tsF ops 0 vs S T0 t = tsF ops 0 vs' (mk ops j) T0 t := by
  intro t ht
  refine tsF_agree t ops 0 T0 T0 (fun i oi hi hd => ?_) rfl
  simp only [Nat.zero_add]
  by_cases e : i = j
  · subst e; rw [hn, hmj]; exact ⟨rfl, fun h => by cases h⟩
  · rcases ho.pair hi hj e ht hd with ⟨_, hm⟩ | ⟨_, hm⟩
    · have := hc.mask hj hp hm
      rw [this, hm]; exact ⟨rfl, fun _ => hv i this⟩
    · have hSi : S i = false := by
        cases hx : S i with
        | false => rfl
        | true =>
          have := hc.mask hi (hc i oi hi hx) hm
          rw [hn] at this; cases this
      have hmi : mk ops j i = false := by
        cases hx : mk ops j i with
        | false => rfl
        | true =>
          have := hc.mask hj hp hx
          rw [hSi] at this; cases this
      rw [hSi, hmi]; exact ⟨rfl, fun h => by cases h⟩
/-- One more operation. -/
theorem more (ho : Ordered ops) {S : Nat → Bool} (hc : Closed ops S) {vs : Nat → AV} {j : Nat} {o : Oper} (hj : ops[j]? = some o) (hn : S j = false) (v : AV) (t : Nat) :
    tsF ops 0 (setV vs j v) (setB S j) T0 t = updO (tsF ops 0 vs S T0) o.dst v t := by
  by_cases hd : o.dst = some t
  · have h1 := tsF_last t (S := setB S j) (vs := setV vs j v) ops 0 j T0 o hj hd (by simp [setB]) (fun i oi hlt hi hdi => by
      simp only [Nat.zero_add, setB]
      rw [if_neg (by omega)]
      cases hx : S i with
      | false => rfl
      | true =>
        rcases ho.pair hi hj (by omega) (t := t) (by simp [names, hd]) hdi with ⟨h1, _⟩ | ⟨_, hm⟩
        · omega
        · have := hc.mask hi (hc i oi hi hx) hm
          rw [hn] at this; cases this)
    rw [h1, hd]; simp [updO, upd, setV]
  · rw [updO_other hd]
    refine tsF_agree t ops 0 T0 T0 (fun i oi hi hdi => ?_) rfl
    have hne : i ≠ j := fun e => by subst e; rw [hj] at hi; cases hi; exact hd hdi
    simp only [Nat.zero_add, setB, setV, if_neg hne]
    exact ⟨trivial, fun _ => trivial⟩

theorem mk_lt (ho : Ordered ops) {j x : Nat} {o : Oper} (hj : ops[j]? = some o) (hx : mk ops j x = true) : x < j :=
  masks_ok (ops := ops) (fun x => x < j) (fun j' o' hj' hlt p hp => by have := ho.1 j' o' hj' p hp; omega) ops [] (by simp) (by simp) j o hj (ho.1 j o hj) x hx
theorem mk_self (ho : Ordered ops) {j : Nat} {o : Oper} (hj : ops[j]? = some o) : mk ops j j = false := by
  cases hx : mk ops j j with
  | false => rfl
  | true => have := mk_lt ho hj hx; omega
abbrev inL (l : List Nat) : Nat → Bool := fun x => l.contains x
structure Inv (P : Program) (N : Nat) (ops : List Oper) (chain : List Nat) (T0 : Nat → AV) (pd : Nat → Prop) (listed : Nat → Bool) (doneL : List Nat) (vs : Nat → AV) (h : Heap) (F : Flo) : Prop where
  cl : Closed ops listed
  cd : Closed ops (inL doneL)
  sub : ∀ j, listed j = true → doneL.contains j = true ∨ pd j
  pdc : ∀ j, pd j → chain.contains j = true ∧ doneL.contains j = false
  pdl : ∀ j, pd j → listed j = true
  ch : ∀ j, doneL.contains j = true → chain.contains j = true → listed j = true
  st : ∀ (j : Nat) (o : Oper), ops[j]? = some o → doneL.contains j = true → listed j = false → StepOK P N ops h o (tsF ops 0 vs (mk ops j) T0) (vs j)
  fl : ∀ (j : Nat) (o : Oper), ops[j]? = some o → doneL.contains j = true → chain.contains j = false → pureOp o = false → ∃ Tj, (j, o, Tj, vs j) ∈ F ∧ ∀ t ∈ names ops o, Tj t = tsF ops 0 vs (mk ops j) T0 t
theorem ordGo_cons {j : Nat} {rest done : List Nat} (h : ordGo ops chain (j :: rest) done = true) : ∃ o, ops[j]? = some o ∧ done.contains j = false ∧ (∀ p ∈ preds o, done.contains p = true) ∧ (chain.contains j = true → ∀ i ∈ rest, mk ops i j = true ∨ (chain.contains i = true ∧ isAl ops i = true)) ∧ ordGo ops chain rest (j :: done) = true := by
  simp only [ordGo, Bool.and_eq_true, Bool.not_eq_true', Bool.or_eq_true, decide_eq_true_eq] at h
  obtain ⟨⟨⟨⟨h1, h2⟩, h3⟩, h4⟩, h5⟩ := h
  have ho : ops[j]? = some ops[j] := List.getElem?_eq_getElem h1
  rw [ho] at h3
  refine ⟨_, ho, h2, fun p hp => List.all_eq_true.1 h3 p hp, fun hc i hi => ?_, h5⟩
  rcases h4 with h4 | h4
  · rw [h4] at hc; cases hc
  · have := List.all_eq_true.1 h4 i hi
    simpa using this
theorem setB_in (l : List Nat) (j : Nat) : inL (j :: l) = setB (inL l) j := by
  funext x
  simp only [inL, setB, List.contains_cons]
  by_cases e : x = j
  · subst e; simp
  · rw [if_neg e]; have : (x == j) = false := by simpa using e
    rw [this, Bool.false_or]
/-- The canonical slots of what has been reckoned stay as they are. -/
theorem canon_keep (ho : Ordered ops) {doneL : List Nat} (hc : Closed ops (inL doneL)) {vs : Nat → AV} {j i : Nat} {oi : Oper} (hi : ops[i]? = some oi) (hd : ∀ p ∈ preds oi, doneL.contains p = true) (hj : doneL.contains j = false) (v : AV) (t : Nat) :
    tsF ops 0 (setV vs j v) (mk ops i) T0 t = tsF ops 0 vs (mk ops i) T0 t := by
  refine tsF_agree t ops 0 T0 T0 (fun x ox hx _ => ⟨rfl, fun hm => ?_⟩) rfl
  simp only [Nat.zero_add] at hm ⊢
  have := hc.mask hi hd hm
  simp only [setV]
  rw [if_neg fun e => by subst e; simp only [inL] at this; rw [hj] at this; cases this]
theorem adv (ho : Ordered ops) {pd : Nat → Prop} {listed : Nat → Bool} : ∀ (rest doneL : List Nat) (vs : Nat → AV) (F : Flo) (Tv : Nat → AV), ordGo ops chain rest doneL = true → Inv P N ops chain T0 pd listed doneL vs h F → (∀ t, Tv t = tsF ops 0 vs (inL doneL) T0 t) → Dr2 P N ops chain rest F Tv h Q →
    ∃ rest' doneL' vs' F' Tv', ordGo ops chain rest' doneL' = true ∧ Inv P N ops chain T0 pd listed doneL' vs' h F' ∧ (∀ t, Tv' t = tsF ops 0 vs' (inL doneL') T0 t) ∧ Dr2 P N ops chain rest' F' Tv' h Q ∧ (rest' = [] ∨ ∃ p r, rest' = p :: r ∧ chain.contains p = true) ∧ ∀ x, listed x = true → vs' x = vs x := by
  intro rest
  induction rest with
  | nil => intro doneL vs F Tv h1 h2 h3 h4; exact ⟨[], doneL, vs, F, Tv, h1, h2, h3, h4, .inl rfl, fun _ _ => rfl⟩
  | cons j rest ih =>
    intro doneL vs F Tv h1 h2 h3 h4
    cases hcj : chain.contains j with
    | true => exact ⟨j :: rest, doneL, vs, F, Tv, h1, h2, h3, h4, .inr ⟨j, rest, rfl, hcj⟩, fun _ _ => rfl⟩
    | false =>
      obtain ⟨o, hj, hnd, hpd, _, hgo⟩ := ordGo_cons h1
      obtain ⟨o', hj', h5⟩ := h4
      rw [hj] at hj'; cases hj'
      rw [if_neg (by rw [hcj]; simp)] at h5
      obtain ⟨v, hst, hdr⟩ := h5
      have hnl : listed j = false := by
        cases hx : listed j with
        | false => rfl
        | true =>
          rcases h2.sub j hx with this | this
          · rw [hnd] at this; cases this
          · rw [(h2.pdc j this).1] at hcj; cases hcj
      have hcan := canon (T0 := T0) ho h2.cd (vs := vs) (vs' := setV vs j v) hj hnd hpd (fun x hx => by simp only [setV]; rw [if_neg fun e => by subst e; simp only [inL] at hx; rw [hnd] at hx; cases hx]) (mk_self ho hj)
      have hvj : setV vs j v j = v := by simp [setV]
      have hclosed : Closed ops (inL (j :: doneL)) := by
        rw [setB_in]
        intro i oi hi hs p hp
        simp only [setB] at hs ⊢
        split
        · rfl
        · split at hs
          · rename_i e; subst e; rw [hj] at hi; cases hi; exact hpd p hp
          · exact h2.cd i oi hi hs p hp
      have hold : ∀ i, (j :: doneL).contains i = true → i ≠ j → doneL.contains i = true := fun i hi hne => by
        have := congrFun (setB_in doneL j) i
        simp only [inL, setB, if_neg hne] at this
        rw [← this]; exact hi
      obtain ⟨r', d', v', F', T', k1, k2, k3, k4, k5, k6⟩ := ih (j :: doneL) (setV vs j v) (if pureOp o = true then F else (j, o, Tv, v) :: F) (updO Tv o.dst v) hgo
        ⟨h2.cl, hclosed, fun i hi => by
            rcases h2.sub i hi with this | this
            · left; simp only [List.contains_cons]; rw [this, Bool.or_true]
            · exact .inr this, fun i hi => by
            have := h2.pdc i hi
            refine ⟨this.1, ?_⟩
            simp only [List.contains_cons, this.2, Bool.or_false]
            have : i ≠ j := fun e => by subst e; rw [this.1] at hcj; cases hcj
            simpa using this, h2.pdl, fun i hi hc => by
            by_cases e : i = j
            · subst e; rw [hcj] at hc; cases hc
            · exact h2.ch i (hold i hi e) hc,
          fun i oi hi hd hl => by
            by_cases e : i = j
            · subst e
              rw [hj] at hi; cases hi
              rw [hvj]
              exact hst.congr fun t ht => by rw [h3, hcan t ht]
            · have hdi := hold i hd e
              have h6 := h2.st i oi hi hdi hl
              have : setV vs j v i = vs i := by simp [setV, e]
              rw [this]
              exact h6.congr fun t _ => (canon_keep ho h2.cd hi (h2.cd i oi hi hdi) hnd v t).symm,
          fun i oi hi hd hc hp => by
            by_cases e : i = j
            · subst e
              rw [hj] at hi; cases hi
              refine ⟨Tv, ?_, fun t ht => by rw [h3, hcan t ht]⟩
              rw [if_neg (by rw [hp]; simp), hvj]
              exact List.mem_cons_self ..
            · have hdi := hold i hd e
              obtain ⟨Tj, g1, g2⟩ := h2.fl i oi hi hdi hc hp
              have : setV vs j v i = vs i := by simp [setV, e]
              rw [this]
              refine ⟨Tj, ?_, fun t ht => by rw [g2 t ht, canon_keep ho h2.cd hi (h2.cd i oi hi hdi) hnd v t]⟩
              split
              · exact g1
              · exact List.mem_cons_of_mem _ g1⟩
        (fun t => by rw [setB_in, more ho h2.cd hj hnd v t]; exact updO_at (h3 t)) hdr
      refine ⟨r', d', v', F', T', k1, k2, k3, k4, k5, fun x hx => ?_⟩
      rw [k6 x hx]
      simp only [setV]
      rw [if_neg fun e => by subst e; rw [hnl] at hx; cases hx]
end
section
variable {P : Program} {N : Nat} {ops : List Oper} {chain : List Nat} {T0 : Nat → AV} {h : Heap} {Q : (Nat → AV) → Heap → Prop}
theorem setB_closed {listed : Nat → Bool} (hc : Closed ops listed) {i : Nat} {oi : Oper} (hoi : ops[i]? = some oi) (hpi : ∀ p ∈ preds oi, listed p = true) : Closed ops (setB listed i) := by
  intro j oj hj hsj p hp
  simp only [setB] at hsj ⊢
  split
  · rfl
  · split at hsj
    · rename_i e; subst e; rw [hoi] at hj; cases hj; exact hpi p hp
    · exact hc j oj hj hsj p hp
/-- The next that changes the heap. -/
theorem inv_step (ho : Ordered ops) {pd pd' : Nat → Prop} {listed : Nat → Bool} {doneL : List Nat} {vs : Nat → AV} {h' h1 : Heap} {F : Flo} (hinv : Inv P N ops chain T0 pd listed doneL vs h' F) {i : Nat} {oi : Oper} (hoi' : ops[i]? = some oi) (hcp : chain.contains i = true)
    (hnd : doneL.contains i = false) (hpd : ∀ p ∈ preds oi, doneL.contains p = true) (hpi : ∀ p ∈ preds oi, listed p = true) (v : AV) (hstab : h1 = h' ∨ Stab P N ops i h1 F) (hpd' : ∀ j, pd' j ↔ pd j ∧ j ≠ i) : Inv P N ops chain T0 pd' (setB listed i) (i :: doneL) (setV vs i v) h1 F := by
  have hneq : ∀ x, x ≠ i → setV vs i v x = vs x := fun x hx => by simp [setV, hx]
  have hin2 : inL (i :: doneL) = setB (inL doneL) i := setB_in doneL i
  have hold : ∀ j, (i :: doneL).contains j = true → j ≠ i → doneL.contains j = true := fun j hj hne => by
    have := congrFun hin2 j
    simp only [inL, setB, if_neg hne] at this
    rw [← this]; exact hj
  refine ⟨setB_closed hinv.cl hoi' hpi, by rw [hin2]; exact setB_closed hinv.cd hoi' hpd, fun j hj => ?_, fun j hj => ?_, fun j hj => by (simp only [setB]; split <;> first | rfl | exact hinv.pdl j ((hpd' j).1 hj).1), fun j hj hcj => ?_, fun j oj hj hdj hlj => ?_, fun j oj hj hdj hcj hpj => ?_⟩
  · simp only [setB] at hj
    by_cases e : j = i
    · left; subst e; simp
    · rw [if_neg e] at hj
      rcases hinv.sub j hj with this | this
      · left; simp only [List.contains_cons]; rw [this, Bool.or_true]
      · exact .inr ((hpd' j).2 ⟨this, e⟩)
  · obtain ⟨h2, h3⟩ := (hpd' j).1 hj
    have := hinv.pdc j h2
    refine ⟨this.1, ?_⟩
    simp only [List.contains_cons, this.2, Bool.or_false]
    simpa using h3
  · simp only [setB]
    split
    · rfl
    · rename_i e; exact hinv.ch j (hold j hj e) hcj
  · simp only [setB] at hlj
    split at hlj
    · cases hlj
    · rename_i e
      have hdj' := hold j hdj e
      rw [hneq j e]
      have hkeep := canon_keep (T0 := T0) (vs := vs) ho hinv.cd hj (hinv.cd j oj hj hdj') hnd v
      have hstj := hinv.st j oj hj hdj' hlj
      have hncj : chain.contains j = false := by
        cases hx : chain.contains j with
        | false => rfl
        | true => have := hinv.ch j hdj' hx; rw [hlj] at this; cases this
      rcases hstab with rfl | hstab
      · exact hstj.congr fun t _ => (hkeep t).symm
      · cases hpj : pureOp oj with
        | true =>
          obtain ⟨q1, q2⟩ := hstj
          refine StepOK.congr (T := tsF ops 0 vs (mk ops j) T0) ⟨q1, ?_⟩ fun t _ => (hkeep t).symm
          rcases q2 with q2 | ⟨q2, q3⟩
          · exact .inl q2
          · refine .inr ⟨q2, ?_⟩
            rcases q3 with q3 | ⟨f, args, q3, _⟩
            · exact .inl (pure_ev hpj q3)
            · exfalso
              unfold callA at q3
              unfold pureOp at hpj
              split at q3
              · rename_i c hop
                simp only [hop] at hpj
                split at q3
                · rename_i hcc; simp only [hcc] at hpj; cases hpj
                · cases q3
              · cases q3
        | false =>
          obtain ⟨Tj, g1, g2⟩ := hinv.fl j oj hj hdj' hncj hpj
          rcases hstab.get g1 with g3 | g3
          · exfalso
            have := hinv.cl.mask hoi' hpi g3
            rw [hlj] at this; cases this
          · exact g3.congr fun t ht => by rw [g2 t ht, hkeep t]
  · by_cases e : j = i
    · subst e; rw [hcp] at hcj; cases hcj
    · have hdj' := hold j hdj e
      obtain ⟨Tj, g1, g2⟩ := hinv.fl j oj hj hdj' hcj hpj
      rw [hneq j e]
      exact ⟨Tj, g1, fun t ht => by rw [g2 t ht, canon_keep ho hinv.cd hj (hinv.cd j oj hj hdj') hnd v t]⟩
/-- A new object made early. -/
theorem inv_pend (ho : Ordered ops) {pd pd' : Nat → Prop} {listed : Nat → Bool} {doneL : List Nat} {vs : Nat → AV} {h' : Heap} {F : Flo} (hinv : Inv P N ops chain T0 pd listed doneL vs h' F) {i : Nat} {oi : Oper} (hoi' : ops[i]? = some oi) (hcp : chain.contains i = true)
    (hnd : doneL.contains i = false) (hpi : ∀ p ∈ preds oi, listed p = true) (v : AV) (hpd' : ∀ j, pd' j ↔ pd j ∨ j = i) : Inv P N ops chain T0 pd' (setB listed i) doneL (setV vs i v) h' F := by
  have hneq : ∀ x, x ≠ i → setV vs i v x = vs x := fun x hx => by simp [setV, hx]
  have hne : ∀ j, doneL.contains j = true → j ≠ i := fun j hj e => by subst e; rw [hnd] at hj; cases hj
  refine ⟨setB_closed hinv.cl hoi' hpi, hinv.cd, fun j hj => ?_, fun j hj => ?_, fun j hj => by (simp only [setB]; split <;> first | rfl | (rename_i e; exact hinv.pdl j (((hpd' j).1 hj).resolve_right e))), fun j hj hcj => ?_, fun j oj hj hdj hlj => ?_, fun j oj hj hdj hcj hpj => ?_⟩
  · simp only [setB] at hj
    by_cases e : j = i
    · exact .inr ((hpd' j).2 (.inr e))
    · rw [if_neg e] at hj
      rcases hinv.sub j hj with this | this
      · exact .inl this
      · exact .inr ((hpd' j).2 (.inl this))
  · rcases (hpd' j).1 hj with h2 | rfl
    · exact hinv.pdc j h2
    · exact ⟨hcp, hnd⟩
  · simp only [setB, if_neg (hne j hj)]; exact hinv.ch j hj hcj
  · simp only [setB, if_neg (hne j hdj)] at hlj
    rw [hneq j (hne j hdj)]
    exact (hinv.st j oj hj hdj hlj).congr fun t _ => (canon_keep (T0 := T0) (vs := vs) ho hinv.cd hj (hinv.cd j oj hj hdj) hnd v t).symm
  · obtain ⟨Tj, g1, g2⟩ := hinv.fl j oj hj hdj hcj hpj
    rw [hneq j (hne j hdj)]
    exact ⟨Tj, g1, fun t ht => by rw [g2 t ht, canon_keep ho hinv.cd hj (hinv.cd j oj hj hdj) hnd v t]⟩
end
open Classical in
noncomputable def ptOf (B : Pt) (bs : List Nat) : Pt := ⟨fun k => B.p k ∨ k ∈ bs, fun C o => if C ∈ bs then none else B.F0 C o, fun k => B.s k ∨ k ∈ bs, fun k h => h.imp (B.sp k) id⟩
theorem Bel.ofPt {B : Pt} {bs : List Nat} {w w' : World} (h : Bel (ptOf B bs) w w') : Bel B w w' := h.mono fun k hk => .inl hk
theorem HR.weak {B B' : Pt} {μ : Mu} {h : Heap} {w : World} (hr : HR B μ h w) (hp : ∀ k, B'.p k → B.p k) (hs : ∀ k, B'.s k → B.s k) (hF : ∀ C o v, B.F0 C o = some v → B'.p C → B'.F0 C o = some v) : HR B' μ h w :=
  ⟨hr.len, fun k hk => hr.size k (hp k hk), fun b o hb hl => by
    obtain ⟨l, arr, T, fr, g1, g2, g3, g4⟩ := hr.ok b o hb hl
    exact ⟨l, arr, T, fr, g1, g2, g3, fun ho => by obtain ⟨k1, k2, k3⟩ := g4 ho; exact ⟨k1, fun hk => k2 (hp _ hk), k3⟩⟩, hr.inj, hr.fz, hr.nof, fun C o v e hk => hF C o v (hr.fp C o v e (hp C hk)) hk, fun b o l hb hl hm hk => hr.ns b o l hb hl hm (hs _ hk)⟩
theorem HR.ofPt {B : Pt} {bs : List Nat} {μ : Mu} {h : Heap} {w : World} (hr : HR (ptOf B bs) μ h w) : HR B μ h w :=
  hr.weak (fun k hk => .inl hk) (fun k hk => .inl hk) fun C o v e _ => by
    simp only [ptOf] at e
    split at e
    · cases e
    · exact e
theorem HR.toPt {B : Pt} {μ : Mu} {h : Heap} {w : World} (hr : HR B μ h w) : HR (ptOf B []) μ h w :=
  hr.weak (fun k hk => hk.elim id fun h => by simp at h) (fun k hk => hk.elim id fun h => by simp at h) fun C o v e _ => by
    simp only [ptOf]; rw [if_neg (by simp)]; exact e
theorem HR.pend {B B' : Pt} {μ : Mu} {h : Heap} {w : World} (hr : HR B μ h w) (o : Obj) (hp : ∀ k, B'.p k → B.p k ∨ k = w.heap.size) (hs : ∀ k, B'.s k → B.s k ∨ k = w.heap.size) (hF : ∀ C o v, B.F0 C o = some v → C < w.heap.size → B'.p C → B'.F0 C o = some v) : HR B' μ h (w.alloc o) := by
  have hlt : ∀ {b : Nat} {ob : AO} {l : Loc}, h[b]? = some ob → ob.live = true → μ.ls[b]? = some l → l.B < w.heap.size := fun {b ob l} hb hl hm => by
    obtain ⟨l', arr, T', fr, hm', hh, _⟩ := hr.ok b ob hb hl
    obtain rfl : l' = l := by rw [hm] at hm'; exact (Option.some.inj hm').symm
    rcases Nat.lt_or_ge l'.B w.heap.size with h' | h'
    · exact h'
    · rw [Array.getElem?_eq_none h'] at hh; cases hh
  have hlow : ∀ {B o : Nat} {v : Value}, μ.F B o = some v → B < w.heap.size := fun {B o v} e => by
    have := hr.fz B o v e
    exact World.block_lt_of_cell? w ⟨B, o, none⟩ this
  have hsz : (w.alloc o).heap.size = w.heap.size + 1 := by simp
  refine ⟨hr.len, fun k hk => ?_, fun b ob hb hl => ?_, hr.inj, fun C q v e => ?_, hr.nof, fun C q v e hk => ?_, fun b ob l hb hl hm hk => ?_⟩
  · rw [hsz]
    rcases hp k hk with h1 | h1
    · have := hr.size k h1; omega
    · omega
  · obtain ⟨l, arr, T, fr, g1, g2, g3, g4⟩ := hr.ok b ob hb hl
    have hl2 := hlt hb hl g1
    exact ⟨l, arr, T, fr, g1, by rw [Below.heap_alloc _ _ _ hl2]; exact g2, g3, fun ho => by
      obtain ⟨k1, k2, k3⟩ := g4 ho
      exact ⟨k1, fun hk => by rcases hp _ hk with h1 | h1; exact k2 h1; omega, k3⟩⟩
  · have h1 := hr.fz C q v e
    have h2 := hlow e
    unfold World.cell? at h1 ⊢
    simp only [Below.heap_alloc w o C h2]; exact h1
  · have h2 := hlow e
    rcases hp C hk with h1 | h1
    · exact hF C q v (hr.fp C q v e h1) h2 hk
    · omega
  · have h2 := hlt hb hl hm
    rcases hs _ hk with h1 | h1
    · exact hr.ns b ob l hb hl hm h1
    · omega
theorem HR.adopt {B B' : Pt} {μ : Mu} {h : Heap} {w : World} (hr : HR B μ h w) {b : Nat} (hb : B.s b) (hp : ∀ k, B'.p k → B.p k) (hs : ∀ k, B'.s k → B.s k) (hF : ∀ C o v, B.F0 C o = some v → B'.p C → B'.F0 C o = some v) (hFb : ∀ o, B.F0 b o = none) (hnb : ¬ B'.p b)
    {us : Array Value} {T : TypeId} (hw : w.heap[b]? = some (Obj.cells us T (0, 0))) {cs : List Cell} (hcs : ∀ μ, R2 (RC μ) cs us.toList) :
    HR B' (Mu.add μ [⟨b, 0, us.size⟩]) (h ++ [⟨cs, true, true⟩]) w ∧ RV (Mu.add μ [⟨b, 0, us.size⟩]) (.o (.c (.ptr h.length 0))) (.pointer (some ⟨b, 0, none⟩)) := by
  have hr' := hr.weak hp hs hF
  have hlast : (Mu.add μ [⟨b, 0, us.size⟩]).ls[h.length]? = some ⟨b, 0, us.size⟩ := mu_last hr.len _
  have pre : Mu.le μ (Mu.add μ [⟨b, 0, us.size⟩]) := Mu.le_add _ _
  have hcase : ∀ {x : Nat} {o : AO} {l : Loc}, (h ++ [(⟨cs, true, true⟩ : AO)])[x]? = some o → (Mu.add μ [⟨b, 0, us.size⟩]).ls[x]? = some l → (h[x]? = some o ∧ μ.ls[x]? = some l ∧ x < h.length) ∨ (x = h.length ∧ o = ⟨cs, true, true⟩ ∧ l = ⟨b, 0, us.size⟩) := by
    intro x o l hx hm
    rcases Nat.lt_or_ge x h.length with hlt | hge
    · rw [List.getElem?_append_left hlt] at hx
      have hm : (μ.ls ++ [⟨b, 0, us.size⟩])[x]? = some l := hm
      rw [List.getElem?_append_left (hr.len ▸ hlt)] at hm
      exact .inl ⟨hx, hm, hlt⟩
    · have e : x = h.length := by
        have := lt_of_get hx
        simp at this
        omega
      subst e
      rw [hlast] at hm
      simp at hx
      exact .inr ⟨rfl, hx.symm, (Option.some.inj hm).symm⟩
  refine ⟨⟨by simp [Mu.add, hr.len], fun k hk => hr.size k (hp k hk), fun x o hx hl => ?_, fun x x' o o' l l' hx hx' hl hl' ho hne hm hm' => ?_, hr.fz, fun x o l hx hl ho hm j => ?_, hr'.fp, fun x o l hx hl hm hk => ?_⟩, ⟨_, hlast, rfl⟩⟩
  · rcases Nat.lt_or_ge x h.length with hlt | hge
    · rw [List.getElem?_append_left hlt] at hx
      obtain ⟨l, arr, T, fr, g1, g2, g3, g4⟩ := hr'.ok x o hx hl
      exact ⟨l, arr, T, fr, pre_get pre g1, g2, fun j c hc => by obtain ⟨u, hu, hru⟩ := g3 j c hc; exact ⟨u, hu, RC.mono pre hru⟩, g4⟩
    · have e : x = h.length := by
        have := lt_of_get hx
        simp at this
        omega
      subst e
      simp at hx
      subst hx
      refine ⟨_, us, T, (0, 0), hlast, hw, fun j c hc => ?_, fun _ => ⟨rfl, hnb, by simp, by have := (hcs μ).1; simp at this; simp only; omega, fun v hv => ?_⟩⟩
      · obtain ⟨u, hu, hru⟩ := (hcs (Mu.add μ [⟨b, 0, us.size⟩])).get hc
        exact ⟨u, by simpa using hu, hru⟩
      · obtain ⟨k, hk, e⟩ := List.mem_iff_getElem.1 hv
        obtain ⟨c, hc, hru⟩ := (hcs μ).get' (i := k) (y := v) (by rw [List.getElem?_eq_getElem hk, e])
        exact RC.one hru
  · rcases hcase hx hm with ⟨a1, a2, _⟩ | ⟨a1, _, a3⟩ <;> rcases hcase hx' hm' with ⟨b1, b2, _⟩ | ⟨b1, _, b3⟩
    · exact hr.inj x x' o o' l l' a1 b1 hl hl' ho hne a2 b2
    · subst b3; exact fun e => hr.ns x o l a1 hl a2 (by rw [e]; exact hb)
    · subst a3; exact fun e => hr.ns x' o' l' b1 hl' b2 (by rw [← e]; exact hb)
    · omega
  · rcases hcase hx hm with ⟨a1, a2, _⟩ | ⟨a1, _, a3⟩
    · exact hr.nof x o l a1 hl ho a2 j
    · subst a3
      show μ.F b j = none
      cases e : μ.F b j with
      | none => rfl
      | some v => have := hr.fp b j v e (B.sp b hb); rw [hFb] at this; cases this
  · rcases hcase hx hm with ⟨a1, a2, _⟩ | ⟨a1, _, a3⟩
    · exact hr'.ns x o l a1 hl a2 hk
    · subst a3; exact hnb (B'.sp _ hk)
theorem alloc_run (P : Program) {e : TypeId} {cs : List Cell} (hz : zeroOf P e = some cs) (w : World) : ∃ us : Array Value, (Instr.alloc e true (.tuple #[])).run P w = .ok (.pointer (some ⟨w.heap.size, 0, none⟩)) (w.alloc (.cells us e)) ∧ ∀ μ, R2 (RC μ) cs us.toList := by
  obtain ⟨i, z, hi, hzz, hrel⟩ := zeroOf_ok hz
  exact ⟨z.cells, by simp [Instr.alloc, zeroValue, typeInfo, hi, hzz, newVar, newRow], hrel⟩
/-- What is known of the new objects made early: operation and block. -/
def PendOK (P : Program) (N : Nat) (ops : List Oper) (B0 : Pt) (pend : List (Nat × Nat)) (a : Act) (w : World) : Prop :=
  (∀ x ∈ pend, isAl ops x.1 = true ∧ ∃ (o : Oper) (e : TypeId) (cs : List Cell) (d : Nat) (us : Array Value) (T : TypeId), ops[x.1]? = some o ∧ o.op = .alloc e ∧ zeroOf P e = some cs ∧ o.dst = some d ∧ a.tmps.getD d undef = .pointer (some ⟨x.2, 0, none⟩) ∧ w.heap[x.2]? = some (Obj.cells us T (0, 0)) ∧ (∀ μ, R2 (RC μ) cs us.toList) ∧ ¬ B0.p x.2) ∧
  ∀ x ∈ pend, ∀ y ∈ pend, x.2 = y.2 → x.1 = y.1
theorem isAl_uniq {ops : List Oper} {i j : Nat} (h : isAl ops i = true) {oi oj : Oper} (hi : ops[i]? = some oi) (hj : ops[j]? = some oj) (hne : j ≠ i) {d : Nat} (hd : oi.dst = some d) : oj.dst ≠ some d := by
  unfold isAl at h
  simp only [hi, hd, Bool.and_eq_true] at h
  have := List.all_eq_true.1 h.2 j (by have := lt_of_get hj; simpa using this)
  simp only [hj, Bool.or_eq_true, beq_iff_eq, bne_iff_ne, ne_eq] at this
  exact this.resolve_left hne
theorem isAl_guard {ops : List Oper} {i : Nat} (h : isAl ops i = true) {oi : Oper} (hi : ops[i]? = some oi) : oi.guard = none ∧ ∃ e d, oi.op = .alloc e ∧ oi.dst = some d := by
  unfold isAl at h
  simp only [hi, Bool.and_eq_true] at h
  obtain ⟨⟨h1, h2⟩, h3⟩ := h
  refine ⟨by simpa using h2, ?_⟩
  cases hop : oi.op with
  | alloc e =>
    cases hd : oi.dst with
    | some d => exact ⟨e, d, rfl, rfl⟩
    | none => rw [hd] at h3; cases h3
  | _ => rw [hop] at h1; cases h1
theorem put_other {a : Act} {d' : Option Nat} {d : Nat} (h : d' ≠ some d) (u : Value) : (a.put d' u).tmps.getD d undef = a.tmps.getD d undef := by
  cases d' with
  | none => rfl
  | some d' =>
    show (a.tmps.setIfInBounds d' u).getD d undef = _
    simp only [Array.getD_eq_getD_getElem?, Array.getElem?_setIfInBounds]
    rw [if_neg (fun e => h (by rw [e]))]
theorem PendOK.step {P : Program} {N : Nat} {ops : List Oper} {B0 : Pt} {pend : List (Nat × Nat)} {a : Act} {w w' : World} (h : PendOK P N ops B0 pend a w) (hb : Bel (ptOf B0 (pend.map Prod.snd)) w w') {i : Nat} {oi : Oper} (hi : ops[i]? = some oi) (hn : ∀ x ∈ pend, x.1 ≠ i) (u : Value) : PendOK P N ops B0 pend (a.put oi.dst u) w' := by
  refine ⟨fun x hx => ?_, h.2⟩
  obtain ⟨h1, o, e, cs, d, us, T, g1, g2, g3, g4, g5, g6, g7⟩ := h.1 x hx
  exact ⟨h1, o, e, cs, d, us, T, g1, g2, g3, g4, by rw [put_other (isAl_uniq h1 g1 hi (fun e => hn x hx e.symm) g4)]; exact g5, by rw [hb.block _ (.inr (List.mem_map_of_mem hx))]; exact g6, g7⟩
theorem CdOK.draw2 {P : Program} {n0 N : Nat} {T : Nat → AV} {h : Heap} {Q : CQ} {id : Nat} {ops : Array Oper} {ord chain : List Nat} (hm : P.follows .mixedOrders = true) (hc : drawChk2 ops ord chain = true) (hal : alChk P N ops.toList = true) (hd : Dr2 P N ops.toList chain ord [] T h (fun T' h' => Q .normal T' h')) : CdOK P (n0 := n0) N (.region id ops true) T h Q := by
  intro B0 μ a w hs hr
  refine wp_region_any hm ?_
  unfold drawChk2 at hc
  simp only [Bool.and_eq_true] at hc
  obtain ⟨hc, hord⟩ := hc
  let K := Post n0 N B0 μ a.defers w Q
  have hops : ∀ j : Nat, ops[j]? = ops.toList[j]? := fun j => by simp
  have ho : Ordered ops.toList := ⟨fun j o hj p hp => by have := (rowsOk_get hc j o hj).1 p hp; omega, fun i j oi oj hi hj hlt => by
    have h1 := (rowsOk_get hc j oj hj).2
    simp only [Nat.zero_add] at h1
    have h2 := rowOk_get h1 i oi hi (by omega)
    simpa using h2⟩
  let T0 := T
  let lis (l : Array Bool) : Nat → Bool := fun j => l.getD j false
  let pdo (pend : List (Nat × Nat)) : Nat → Prop := fun j => ∃ b, (j, b) ∈ pend
  -- as far as it goes without a step
  have advW : ∀ (n : Nat) (listed : Array Bool) (a' : Act) (w' : World) (μ' : Mu) (h' : Heap) (rest doneL : List Nat) (vs : Nat → AV) (F : Flo) (Tv : Nat → AV) (pend : List (Nat × Nat)), pend.length ≤ n →
      ordGo ops.toList chain rest doneL = true → Inv P N ops.toList chain T (pdo pend) (lis listed) doneL vs h' F → (∀ t, Tv t = tsF ops.toList 0 vs (inL doneL) T t) → Dr2 P N ops.toList chain rest F Tv h' (fun T' h' => Q .normal T' h') →
      SR N μ' (tsF ops.toList 0 vs (lis listed) T) a' → PendOK P N ops.toList B0 pend a' w' → HR (ptOf B0 (pend.map Prod.snd)) μ' h' w' →
      ∃ (μ2 : Mu) (h2 : Heap) (rest2 doneL2 : List Nat) (vs2 : Nat → AV) (F2 : Flo) (Tv2 : Nat → AV) (pend2 : List (Nat × Nat)), ordGo ops.toList chain rest2 doneL2 = true ∧ Inv P N ops.toList chain T (pdo pend2) (lis listed) doneL2 vs2 h2 F2 ∧ (∀ t, Tv2 t = tsF ops.toList 0 vs2 (inL doneL2) T t) ∧ Dr2 P N ops.toList chain rest2 F2 Tv2 h2 (fun T' h' => Q .normal T' h') ∧
        SR N μ2 (tsF ops.toList 0 vs2 (lis listed) T) a' ∧ PendOK P N ops.toList B0 pend2 a' w' ∧ HR (ptOf B0 (pend2.map Prod.snd)) μ2 h2 w' ∧ Mu.le μ' μ2 ∧ (rest2 = [] ∨ ∃ p r, rest2 = p :: r ∧ chain.contains p = true ∧ lis listed p = false) := by
    intro n
    induction n with
    | zero =>
      intro listed a' w' μ' h' rest doneL vs F Tv pend hn hgo hinv hTv hdr hsr hpk hrr
      obtain ⟨r', d', v', F', T', k1, k2, k3, k4, k5, k6⟩ := adv ho rest doneL vs F Tv hgo hinv hTv hdr
      have hsr' : SR N μ' (tsF ops.toList 0 v' (lis listed) T) a' := ⟨hsr.1, fun t => by
        have h7 : tsF ops.toList 0 v' (lis listed) T t = tsF ops.toList 0 vs (lis listed) T t := tsF_agree t ops.toList 0 T T (fun x ox hx _ => ⟨rfl, fun hm => k6 _ hm⟩) rfl
        rw [h7]; exact hsr.2 t⟩
      refine ⟨μ', h', r', d', v', F', T', pend, k1, k2, k3, k4, hsr', hpk, hrr, Mu.le_refl _, ?_⟩
      rcases k5 with rfl | ⟨p, r, rfl, hcp⟩
      · exact .inl rfl
      · refine .inr ⟨p, r, rfl, hcp, ?_⟩
        obtain ⟨o, hj, hnd, _⟩ := ordGo_cons k1
        cases hx : lis listed p with
        | false => rfl
        | true =>
          rcases k2.sub p hx with this | ⟨b, hb⟩
          · rw [hnd] at this; cases this
          · have := List.length_pos_of_mem hb; omega
    | succ n ih =>
      intro listed a' w' μ' h' rest doneL vs F Tv pend hn hgo hinv hTv hdr hsr hpk hrr
      obtain ⟨r', d', v', F', T', k1, k2, k3, k4, k5, k6⟩ := adv ho rest doneL vs F Tv hgo hinv hTv hdr
      have hsr' : SR N μ' (tsF ops.toList 0 v' (lis listed) T) a' := ⟨hsr.1, fun t => by
        have h7 : tsF ops.toList 0 v' (lis listed) T t = tsF ops.toList 0 vs (lis listed) T t := tsF_agree t ops.toList 0 T T (fun x ox hx _ => ⟨rfl, fun hm => k6 _ hm⟩) rfl
        rw [h7]; exact hsr.2 t⟩
      rcases k5 with rfl | ⟨p, r, rfl, hcp⟩
      · exact ⟨μ', h', [], d', v', F', T', pend, k1, k2, k3, k4, hsr', hpk, hrr, Mu.le_refl _, .inl rfl⟩
      · obtain ⟨o, hj, hnd, hpd, hmask, hgor⟩ := ordGo_cons k1
        cases hx : lis listed p with
        | false => exact ⟨μ', h', p :: r, d', v', F', T', pend, k1, k2, k3, k4, hsr', hpk, hrr, Mu.le_refl _, .inr ⟨p, r, rfl, hcp, hx⟩⟩
        | true =>
          rcases k2.sub p hx with this | ⟨b, hb⟩
          · rw [hnd] at this; cases this
          obtain ⟨q1, o', e, cs, d, us, Ty, g1, g2, g3, g4, g5, g6, g7, g8⟩ := hpk.1 _ hb
          rw [hj] at g1; cases g1
          obtain ⟨hgd, _⟩ := isAl_guard q1 hj
          obtain ⟨o', hj', h5⟩ := k4
          rw [hj] at hj'; cases hj'
          rw [if_pos hcp] at h5
          obtain ⟨hdst, h5⟩ := h5
          have hwt : wantA ops.toList T' o = some true := by unfold wantA; rw [hgd]
          rcases h5 with ⟨hw, _⟩ | ⟨_, h5⟩
          · rw [hwt] at hw; cases hw
          rcases h5 with ⟨v, h1, he, hstab, hdr'⟩ | ⟨f, args, hcall, _⟩
          rotate_left
          · unfold callA at hcall; rw [g2] at hcall; cases hcall
          have he' : v = .o (.c (.ptr h'.length 0)) ∧ h1 = h' ++ [⟨cs, true, true⟩] := by
            unfold evOp at he
            simp only [g2, g3] at he
            obtain ⟨e1, e2⟩ := Prod.mk.inj (Option.some.inj he)
            exact ⟨e1.symm, e2.symm⟩
          obtain ⟨rfl, rfl⟩ := he'
          let pend' := pend.filter fun x => decide (x.2 ≠ b)
          have hp' : ∀ x, x ∈ pend' ↔ x ∈ pend ∧ x.2 ≠ b := fun x => by simp [pend']
          have hbs : ∀ k, k ∈ pend'.map Prod.snd ↔ k ∈ pend.map Prod.snd ∧ k ≠ b := fun k => by
            simp only [List.mem_map]
            constructor
            · rintro ⟨x, hx, rfl⟩; exact ⟨⟨x, ((hp' x).1 hx).1, rfl⟩, ((hp' x).1 hx).2⟩
            · rintro ⟨⟨x, hx, rfl⟩, hne⟩; exact ⟨x, (hp' x).2 ⟨hx, hne⟩, rfl⟩
          have hbin : b ∈ pend.map Prod.snd := List.mem_map_of_mem (f := Prod.snd) hb
          have hlen : pend'.length < pend.length := by
            have h1 : pend'.length ≤ pend.length := List.length_filter_le _ _
            rcases Nat.lt_or_ge pend'.length pend.length with h2 | h2
            · exact h2
            · have h3 : pend' = pend := List.Sublist.eq_of_length (List.filter_sublist) (by omega)
              have h4 := (hp' (p, b)).1 (by rw [h3]; exact hb)
              exact absurd rfl h4.2
          obtain ⟨hr2, hv2⟩ := hrr.adopt (B' := ptOf B0 (pend'.map Prod.snd)) (b := b) (.inr hbin) (fun k hk => hk.imp (fun h => h) fun h => ((hbs k).1 h).1) (fun k hk => hk.imp (fun h => h) fun h => ((hbs k).1 h).1)
            (fun C q x hx _ => by
              simp only [ptOf] at hx ⊢
              split at hx
              · cases hx
              · rename_i hC; rw [if_neg (fun h => hC ((hbs C).1 h).1)]; exact hx)
            (fun q => by simp only [ptOf]; rw [if_pos hbin])
            (fun hk => hk.elim g8 fun h => ((hbs b).1 h).2 rfl) g6 g7
          have hinv2 := inv_step (v := .o (.c (.ptr h'.length 0))) (pd' := pdo pend') ho k2 hj hcp hnd hpd (k2.cl p o hj hx) (.inr hstab) (fun j => by
            constructor
            · rintro ⟨b', hb'⟩
              have h1 := (hp' (j, b')).1 hb'
              refine ⟨⟨b', h1.1⟩, fun e => ?_⟩
              subst e
              obtain ⟨_, o2, e2, cs2, d2, us2, Ty2, q1', q2', q3', q4', q5', _⟩ := hpk.1 _ h1.1
              rw [hj] at q1'; cases q1'
              rw [g4] at q4'; cases q4'
              rw [g5] at q5'
              simp only [Value.pointer.injEq, Option.some.injEq, Addr.mk.injEq] at q5'
              exact h1.2 q5'.1.symm
            · rintro ⟨⟨b', hb'⟩, hne⟩
              refine ⟨b', (hp' _).2 ⟨hb', fun e => ?_⟩⟩
              exact hne (hpk.2 _ hb' _ hb e))
          have hset : setB (lis listed) p = lis listed := by
            funext x; simp only [setB]; split
            · rename_i e; rw [e, hx]
            · rfl
          rw [hset] at hinv2
          have hin2 : inL (p :: d') = setB (inL d') p := setB_in d' p
          have hTv2 : ∀ t, updO T' o.dst (.o (.c (.ptr h'.length 0))) t = tsF ops.toList 0 (setV v' p (.o (.c (.ptr h'.length 0)))) (inL (p :: d')) T t := fun t => by
            rw [hin2, more ho k2.cd hj hnd _ t]; exact updO_at (k3 t)
          have pre : Mu.le μ' (Mu.add μ' [⟨b, 0, us.size⟩]) := Mu.le_add _ _
          have hsr2 : SR N (Mu.add μ' [⟨b, 0, us.size⟩]) (tsF ops.toList 0 (setV v' p (.o (.c (.ptr h'.length 0)))) (lis listed) T) a' := by
            refine ⟨hsr'.1, fun t => ?_⟩
            by_cases et : o.dst = some t
            · rw [g4] at et; cases et
              have h1 := tsF_last d (S := lis listed) (vs := setV v' p (.o (.c (.ptr h'.length 0)))) ops.toList 0 p T o hj g4 (by simpa using hx) (fun j oj hlt hoj hdj => absurd hdj (isAl_uniq q1 hj hoj (by omega) g4))
              rw [h1]
              simp only [Nat.zero_add, setV, if_true]
              show RV _ _ (a'.tmps.getD d undef)
              rw [g5]; exact hv2
            · have h1 : tsF ops.toList 0 (setV v' p (.o (.c (.ptr h'.length 0)))) (lis listed) T t = tsF ops.toList 0 v' (lis listed) T t := tsF_agree t ops.toList 0 T T (fun x ox hox hdx => ⟨rfl, fun _ => by
                simp only [Nat.zero_add, setV]
                rw [if_neg fun e => by rw [e, hj] at hox; cases hox; exact et hdx]⟩) rfl
              rw [h1]; exact (hsr'.mono pre).2 t
          obtain ⟨μ2, h2, rest2, doneL2, vs2, F2, Tv2, pend2, z1, z2, z3, z4, z5, z6, z7, z8, z9⟩ := ih listed a' w' _ _ r (p :: d') _ F' _ pend' (by omega) hgor hinv2 hTv2 hdr' hsr2 ⟨fun x hx => hpk.1 x ((hp' x).1 hx).1, fun x hx y hy => hpk.2 x ((hp' x).1 hx).1 y ((hp' y).1 hy).1⟩ hr2
          exact ⟨μ2, h2, rest2, doneL2, vs2, F2, Tv2, pend2, z1, z2, z3, z4, z5, z6, z7, pre.trans z8, z9⟩
  have key : ∀ (fuel : Nat) (listed : Array Bool) (a' : Act) (w' : World) (μ1 : Mu) (h1 : Heap) (rest1 doneL1 : List Nat) (vs1 : Nat → AV) (F1 : Flo) (Tv1 : Nat → AV) (pend1 : List (Nat × Nat)), listed.size = ops.size →
      ordGo ops.toList chain rest1 doneL1 = true → Inv P N ops.toList chain T (pdo pend1) (lis listed) doneL1 vs1 h1 F1 → (∀ t, Tv1 t = tsF ops.toList 0 vs1 (inL doneL1) T t) → Dr2 P N ops.toList chain rest1 F1 Tv1 h1 (fun T' h' => Q .normal T' h') →
      ((List.range ops.size).filter (fun j => !listed.getD j false)).length ≤ fuel →
      SR N μ1 (tsF ops.toList 0 vs1 (lis listed) T) a' → a'.defers = a.defers → Mu.le μ μ1 → PendOK P N ops.toList B0 pend1 a' w' → HR (ptOf B0 (pend1.map Prod.snd)) μ1 h1 w' → Bel B0 w w' → wpAny P .any ops K fuel listed a' w' := by
    intro fuel
    have final : ∀ (listed : Array Bool) (a' : Act) (w' : World) (μ' : Mu) (h' : Heap) (rest doneL : List Nat) (vs : Nat → AV) (F : Flo) (Tv : Nat → AV) (pend : List (Nat × Nat)), Inv P N ops.toList chain T (pdo pend) (lis listed) doneL vs h' F → (∀ t, Tv t = tsF ops.toList 0 vs (inL doneL) T t) → Dr2 P N ops.toList chain rest F Tv h' (fun T' h' => Q .normal T' h') → ordGo ops.toList chain rest doneL = true →
        (rest = [] ∨ ∃ p r, rest = p :: r ∧ chain.contains p = true ∧ lis listed p = false) →
        SR N μ' (tsF ops.toList 0 vs (lis listed) T) a' → a'.defers = a.defers → Mu.le μ μ' → HR (ptOf B0 (pend.map Prod.snd)) μ' h' w' → Bel B0 w w' → (∀ j, j < ops.size → listed.getD j false = true) → K .normal a' w' := by
      intro listed a' w' μ' h' rest doneL vs F Tv pend hinv hTv hdr hgo hadv hsr hdf hpre hrr hb hall
      have hrest : rest = [] := by
        rcases hadv with rfl | ⟨p, r, rfl, _, hl⟩
        · rfl
        · obtain ⟨o, hj, _⟩ := ordGo_cons hgo
          have hlt := lt_of_get hj
          have := hall p (by simpa using hlt)
          have hl : listed.getD p false = false := hl
          rw [hl] at this; cases this
      subst hrest
      refine ⟨Tv, h', μ', hdr, hdf, ⟨hsr.1, fun t => ?_⟩, hpre.toN, hrr.ofPt, hb⟩
      have e1 : tsF ops.toList 0 vs (lis listed) T t = Tv t := by
        rw [hTv]
        refine tsF_agree t ops.toList 0 T T (fun i o hi _ => ?_) rfl
        have hlt := lt_of_get hi
        have h1 := hall i (by simpa using hlt)
        have h2 : doneL.contains i = true := by
          simp only [ordGo] at hgo
          exact List.all_eq_true.1 hgo i (by simpa using hlt)
        simp only [Nat.zero_add]
        exact ⟨by show listed.getD i false = doneL.contains i; rw [h1, h2], fun _ => trivial⟩
      rw [← e1]
      exact hsr.2 t
    induction fuel with
    | zero =>
      intro listed a' w' μ1 h1 rest1 doneL1 vs1 F1 Tv1 pend1 hsz hgo1 hinv1 hTv1 hdr1 hcnt hsr1 hdf hpre1 hpk1 hrr1 hb
      obtain ⟨μ', h', rest, doneL, vs, F, Tv, pend, hgo, hinv, hTv, hdr, hsr, hpk, hrr, hle, hadv⟩ := advW pend1.length listed a' w' μ1 h1 rest1 doneL1 vs1 F1 Tv1 pend1 (Nat.le_refl _) hgo1 hinv1 hTv1 hdr1 hsr1 hpk1 hrr1
      have hpre := hpre1.trans hle
      have hall : ∀ j, j < ops.size → listed.getD j false = true := by
        intro j hj
        cases hx : listed.getD j false with
        | true => rfl
        | false =>
          have : j ∈ (List.range ops.size).filter (fun j => !listed.getD j false) := by simp [hj]; simpa using hx
          have := List.length_pos_of_mem this
          omega
      refine ⟨?_, final listed a' w' μ' h' rest doneL vs F Tv pend hinv hTv hdr hgo hadv hsr hdf hpre hrr hb hall⟩
      unfold Region.ready
      rw [List.filter_eq_nil_iff]
      intro i hi
      have hi' : i < ops.size := by simpa using hi
      have h1 := hall i hi'
      have hl : i < listed.size := by omega
      simp only [Array.getD_eq_getD_getElem?, Array.getElem?_eq_getElem hl, Option.getD_some] at h1 ⊢
      simp [h1]
    | succ fuel ih =>
      intro listed a' w' μ1 h1 rest1 doneL1 vs1 F1 Tv1 pend1 hsz hgo1 hinv1 hTv1 hdr1 hcnt hsr1 hdf hpre1 hpk1 hrr1 hb
      obtain ⟨μ', h', rest, doneL, vs, F, Tv, pend, hgo, hinv, hTv, hdr, hsr, hpk, hrr, hle, hadv⟩ := advW pend1.length listed a' w' μ1 h1 rest1 doneL1 vs1 F1 Tv1 pend1 (Nat.le_refl _) hgo1 hinv1 hTv1 hdr1 hsr1 hpk1 hrr1
      have hpre := hpre1.trans hle
      refine ⟨fun hnone => ?_, fun i hi => ?_⟩
      · refine final listed a' w' μ' h' rest doneL vs F Tv pend hinv hTv hdr hgo hadv hsr hdf hpre hrr hb ?_
        intro j
        induction j using Nat.strongRecOn with
        | _ j jh =>
          intro hj
          cases hx : listed.getD j false with
          | true => rfl
          | false =>
            exfalso
            have hoj : ops[j]? = some ops[j] := Array.getElem?_eq_getElem hj
            have : j ∈ Region.ready .any ops listed := by
              refine mem_ready.2 ⟨?_, ops[j], hoj, fun e he hbn => ?_⟩
              · have hl : j < listed.size := by omega
                simp only [Array.getD_eq_getD_getElem?, Array.getElem?_eq_getElem hl, Option.getD_some] at hx ⊢
                exact hx
              · have hp : e.on ∈ preds ops[j] := by
                  simp only [preds, List.mem_map, List.mem_filter]
                  exact ⟨e, ⟨by simpa using he, hbn⟩, rfl⟩
                have hlt := ho.1 j ops[j] (by rw [← hops]; exact hoj) e.on hp
                exact jh e.on hlt (by omega)
            rw [hnone] at this
            cases this
      · obtain ⟨hun, oi, hoi, hpre'⟩ := mem_ready.1 hi
        have hoi' : ops.toList[i]? = some oi := by rw [← hops]; exact hoi
        have hin : i < ops.size := (Array.getElem?_eq_some_iff.1 hoi).1
        have hil : i < listed.size := by omega
        have hif : lis listed i = false := by
          show listed.getD i false = false
          simp only [Array.getD_eq_getD_getElem?, Array.getElem?_eq_getElem hil, Option.getD_some] at hun ⊢
          exact hun
        have hpi : ∀ p ∈ preds oi, lis listed p = true := fun p hp => by
          simp only [preds, List.mem_map, List.mem_filter] at hp
          obtain ⟨e, ⟨he, hbn⟩, rfl⟩ := hp
          exact hpre' e (by simpa using he) hbn
        have hcan := canon (T0 := T) ho hinv.cl (vs := vs) (vs' := vs) hoi' hif hpi (fun _ _ => rfl) (mk_self ho hoi')
        have hset : lis (listed.setIfInBounds i true) = setB (lis listed) i := by
          funext j
          show (listed.setIfInBounds i true).getD j false = _
          simp only [setB]
          by_cases e : j = i
          · subst e; rw [if_pos rfl]; simp only [Array.getD_eq_getD_getElem?, Array.getElem?_setIfInBounds_self_of_lt hil, Option.getD_some]
          · rw [if_neg e]; simp only [lis, Array.getD_eq_getD_getElem?, Array.getElem?_setIfInBounds, if_neg (fun e' : i = j => e e'.symm)]
        have hclN : Closed ops.toList (setB (lis listed) i) := setB_closed hinv.cl hoi' hpi
        have hif' : listed.getD i false = false := hif
        have hcntN : ((List.range ops.size).filter (fun j => !(listed.setIfInBounds i true).getD j false)).length ≤ fuel := by
          have := count_lt (p := fun j => !listed.getD j false) (q := fun j => !(listed.setIfInBounds i true).getD j false) (fun x hx => by
              by_cases e : x = i
              · subst e; simp [Array.getD_eq_getD_getElem?, Array.getElem?_setIfInBounds_self_of_lt hil] at hx
              · simpa only [Array.getD_eq_getD_getElem?, Array.getElem?_setIfInBounds, if_neg (fun e' : i = x => e e'.symm)] using hx) (l := List.range ops.size) (x := i) (by simpa using hin) (by simp only [hif']; rfl) (by simp [Array.getD_eq_getD_getElem?, Array.getElem?_setIfInBounds_self_of_lt hil])
          omega
        have hpn : ∀ x ∈ pend, x.1 ≠ i := fun x hx e => by
          have h1 := hinv.pdc i ⟨x.2, by rw [← e]; exact hx⟩
          obtain ⟨_, o, e', cs, d, us, Ty, g1, _⟩ := hpk.1 x hx
          -- a pending operation is listed
          exact absurd hif (by
            have : lis listed i = true ∨ lis listed i = false := by cases lis listed i <;> simp
            rcases this with h | h
            · rw [h]; simp
            · exact absurd (hinv.pdl i ⟨x.2, by rw [← e]; exact hx⟩) (by rw [h]; simp))
        unfold wpOp
        simp only [hoi]
        cases hdone : doneL.contains i with
        | true =>
          have hst := (hinv.st i oi hoi' hdone hif).congr fun t ht => (hcan t ht).symm
          have hgo2 : ∀ (w'' : World) (μ'' : Mu) (u : Value), Mu.le μ' μ'' → RV μ'' (vs i) u → HR (ptOf B0 (pend.map Prod.snd)) μ'' h' w'' → Bel (ptOf B0 (pend.map Prod.snd)) w' w'' → wpAny P .any ops K fuel (listed.setIfInBounds i true) (a'.put oi.dst u) w'' := by
            intro w'' μ'' u hp'' hu hr'' hb''
            refine ih _ _ w'' μ'' h' rest doneL vs F Tv pend (by simpa using hsz) hgo ⟨by rw [hset]; exact hclN, hinv.cd, fun j hj => ?_, hinv.pdc, fun j hj => ?_, fun j hj hcj => ?_, fun j oj hj hdj hlj => ?_, hinv.fl⟩ hTv hdr hcntN ?_ ?_ (hpre.trans hp'') (hpk.step hb'' hoi' hpn u) hr'' (hb.trans hb''.ofPt)
            · rw [hset] at hj
              simp only [setB] at hj
              split at hj
              · rename_i e; subst e; exact .inl hdone
              · exact hinv.sub j hj
            · rw [hset]; simp only [setB]
              split
              · rfl
              · exact hinv.pdl j hj
            · rw [hset]; simp only [setB]
              split
              · rfl
              · exact hinv.ch j hj hcj
            · rw [hset] at hlj
              simp only [setB] at hlj
              split at hlj
              · cases hlj
              · exact hinv.st j oj hj hdj hlj
            · rw [hset]
              have hv0 : setV vs i (vs i) = vs := by funext x; simp only [setV]; split; · rename_i e; rw [e]
                                                     · rfl
              have hmore := more (T0 := T) ho hinv.cl (vs := vs) hoi' hif (vs i)
              rw [hv0] at hmore
              have hput := (hsr.mono hp'').put hst.1 hu
              exact ⟨hput.1, fun t => by rw [hmore t]; exact hput.2 t⟩
            · rw [← hdf]; cases oi.dst <;> rfl
          obtain ⟨hdst, hcase⟩ := hst
          rcases hcase with ⟨hw, hvu⟩ | ⟨hw, hcase⟩
          · rw [wantA_ok hsr hw]
            simp only [Bool.false_eq_true, if_false]
            exact hgo2 w' μ' undef (Mu.le_refl _) (by rw [hvu]; exact R_undef) hrr (Bel.refl _ _)
          · rw [wantA_ok hsr hw]
            simp only [if_true]
            left
            rcases hcase with he | ⟨f, args, hcall, hpl, hfn⟩
            · obtain ⟨nx, w1, μ1, hrun, hval, hmm, hr1, hb1⟩ := evOp_ok P he hsr.2 hrr
              rcases hval with ⟨u, rfl, hu⟩ | ⟨rfl, hvu⟩
              · show oi.upon P a' _ _ _
                rw [hrun]
                exact hgo2 w1 μ1 u hmm hu hr1 hb1
              · show oi.upon P a' _ _ _
                rw [hrun]
                exact hgo2 w1 μ1 undef hmm (by rw [hvu]; exact R_undef) hr1 hb1
            · obtain ⟨us, hrun, hus⟩ := callA_ok hcall hpl hsr.2 w'
              show oi.upon P a' _ _ _
              rw [hrun]
              refine Calls.mono (hfn (ptOf B0 (pend.map Prod.snd)) μ' w' us hrr hus) ?_
              rintro e w1 ⟨u, v', h1, μ1, rfl, ⟨rfl, rfl⟩, hu, hmm, hr1, hb1⟩
              exact hgo2 w1 μ1 u hmm hu hr1 hb1
        | false =>
          rcases hadv with rfl | ⟨p, r, rfl, hcp, hlp⟩
          · exfalso
            simp only [ordGo] at hgo
            have := List.all_eq_true.1 hgo i (by simpa using hin)
            rw [hdone] at this; cases this
          · obtain ⟨o, hj, hnd, hpd, hmask, hgor⟩ := ordGo_cons hgo
            rcases Classical.em (i = p) with hip | hip
            · -- it is the next that changes the heap
              subst hip
              rw [hoi'] at hj; cases hj
              have hvirt : ∀ t ∈ names ops.toList oi, Tv t = tsF ops.toList 0 vs (lis listed) T t := fun t ht => by
                rw [hTv, hcan t ht]
                exact canon ho hinv.cd hoi' hnd hpd (fun _ _ => rfl) (mk_self ho hoi') t ht
              obtain ⟨o', hj', h5⟩ := hdr
              rw [hoi'] at hj'; cases hj'
              rw [if_pos hcp] at h5
              obtain ⟨hdst, h5⟩ := h5
              have hw2 : wantA ops.toList Tv oi = wantA ops.toList (tsF ops.toList 0 vs (lis listed) T) oi := wantA_congr fun t h => hvirt t (by simp [names, h])
              have he2 : evOp P oi Tv h' = evOp P oi (tsF ops.toList 0 vs (lis listed) T) h' := evOp_congr P h' fun t h => hvirt t (by simp [names, h])
              have hc2 : callA Tv oi = callA (tsF ops.toList 0 vs (lis listed) T) oi := callA_congr fun t h => hvirt t (by simp [names, h])
              have hgo3 : ∀ (v : AV) (h1 : Heap) (w'' : World) (μ'' : Mu) (u : Value), (h1 = h' ∨ Stab P N ops.toList i h1 F) → Dr2 P N ops.toList chain r F (updO Tv oi.dst v) h1 (fun T' h' => Q .normal T' h') → Mu.le μ' μ'' → RV μ'' v u → HR (ptOf B0 (pend.map Prod.snd)) μ'' h1 w'' → Bel (ptOf B0 (pend.map Prod.snd)) w' w'' → wpAny P .any ops K fuel (listed.setIfInBounds i true) (a'.put oi.dst u) w'' := by
                intro v h1 w'' μ'' u hstab hdr' hp'' hu hr'' hb''
                have hin2 : inL (i :: doneL) = setB (inL doneL) i := setB_in doneL i
                have hinv2 : Inv P N ops.toList chain T (pdo pend) (lis (listed.setIfInBounds i true)) (i :: doneL) (setV vs i v) h1 F := by
                  rw [hset]
                  exact inv_step ho hinv hoi' hcp hnd hpd hpi v hstab fun j => ⟨fun h => ⟨h, fun e => by subst e; obtain ⟨b, hb⟩ := h; exact hpn _ hb rfl⟩, fun h => h.1⟩
                have hTv2 : ∀ t, updO Tv oi.dst v t = tsF ops.toList 0 (setV vs i v) (inL (i :: doneL)) T t := fun t => by
                  rw [hin2, more ho hinv.cd hoi' hnd v t]; exact updO_at (hTv t)
                refine ih _ _ w'' μ'' h1 r (i :: doneL) (setV vs i v) F (updO Tv oi.dst v) pend (by simpa using hsz) hgor hinv2 hTv2 hdr' hcntN ?_ ?_ (hpre.trans hp'') (hpk.step hb'' hoi' hpn u) hr'' (hb.trans hb''.ofPt)
                · have hput := (hsr.mono hp'').put hdst hu
                  refine ⟨hput.1, fun t => ?_⟩
                  rw [hset, more ho hinv.cl hoi' hif v t]
                  exact hput.2 t
                · rw [← hdf]; cases oi.dst <;> rfl
              rcases h5 with ⟨hw, hdr'⟩ | ⟨hw, hcase⟩
              · rw [hw2] at hw
                rw [wantA_ok hsr hw]
                simp only [Bool.false_eq_true, if_false]
                exact hgo3 undefA h' w' μ' undef (.inl rfl) hdr' (Mu.le_refl _) R_undef hrr (Bel.refl _ _)
              · rw [hw2] at hw
                rw [wantA_ok hsr hw]
                simp only [if_true]
                left
                rcases hcase with ⟨v, h1, he, hstab, hdr'⟩ | ⟨f, args, hcall, hpl, hfn⟩
                · rw [he2] at he
                  obtain ⟨nx, w1, μ1, hrun, hval, hmm, hr1, hb1⟩ := evOp_ok P he hsr.2 hrr
                  rcases hval with ⟨u, rfl, hu⟩ | ⟨rfl, hvu⟩
                  · show oi.upon P a' _ _ _
                    rw [hrun]
                    exact hgo3 v h1 w1 μ1 u (.inr hstab) hdr' hmm hu hr1 hb1
                  · show oi.upon P a' _ _ _
                    rw [hrun]
                    exact hgo3 v h1 w1 μ1 undef (.inr hstab) hdr' hmm (by rw [hvu]; exact R_undef) hr1 hb1
                · rw [hc2] at hcall
                  obtain ⟨us, hrun, hus⟩ := callA_ok hcall hpl hsr.2 w'
                  show oi.upon P a' _ _ _
                  rw [hrun]
                  refine Calls.mono (hfn (ptOf B0 (pend.map Prod.snd)) μ' w' us hrr hus) ?_
                  rintro e w1 ⟨u, v, h1, μ1, rfl, ⟨hstab, hdr'⟩, hu, hmm, hr1, hb1⟩
                  exact hgo3 v h1 w1 μ1 u (.inr hstab) hdr' hmm hu hr1 hb1
            · -- a new object made early
              have hir : i ∈ r := by
                have : ∀ (r d : List Nat), ordGo ops.toList chain r d = true → d.contains i = false → i ∈ r := by
                  intro r
                  induction r with
                  | nil =>
                    intro d hg hd
                    simp only [ordGo] at hg
                    have := List.all_eq_true.1 hg i (by simpa using hin)
                    rw [hd] at this; cases this
                  | cons x r ihr =>
                    intro d hg hd
                    obtain ⟨_, _, _, _, _, hg2⟩ := ordGo_cons hg
                    by_cases ex : i = x
                    · subst ex; exact List.mem_cons_self ..
                    · refine List.mem_cons_of_mem _ (ihr (x :: d) hg2 ?_)
                      simp only [List.contains_cons, hd, Bool.or_false]
                      simpa using ex
                refine this r (p :: doneL) hgor ?_
                simp only [List.contains_cons, hdone, Bool.or_false]
                simpa using hip
              obtain ⟨hci, hai⟩ : chain.contains i = true ∧ isAl ops.toList i = true := by
                rcases hmask hcp i hir with h1 | h1
                · exfalso
                  have h2 := hinv.cl.mask hoi' hpi h1
                  rw [hlp] at h2; cases h2
                · exact h1
              obtain ⟨hgd, e, d, hop, hdd⟩ := isAl_guard hai hoi'
              have hwt : wantA ops.toList (tsF ops.toList 0 vs (lis listed) T) oi = some true := by unfold wantA; rw [hgd]
              rw [wantA_ok hsr hwt]
              simp only [if_true]
              left
              have hz2 := List.all_eq_true.1 hal oi (List.mem_of_getElem? hoi')
              simp only [hop, Bool.and_eq_true] at hz2
              obtain ⟨cs, hz⟩ := Option.isSome_iff_exists.1 hz2.1
              obtain ⟨us, hrun0, hcs⟩ := alloc_run P hz w'
              have hrun : (execOp a'.eval oi).run P w' = .ok (.value (.pointer (some ⟨w'.heap.size, 0, none⟩))) (w'.alloc (.cells us e)) := by
                rw [show execOp a'.eval oi = (do pure (Next.value (← Instr.alloc e true (.tuple #[])))) by simp only [execOp, hop]]
                simp [hrun0]
              show oi.upon P a' _ _ _
              rw [hrun]
              show wpAny P .any ops K fuel (listed.setIfInBounds i true) (a'.put oi.dst (.pointer (some ⟨w'.heap.size, 0, none⟩))) (w'.alloc (.cells us e))
              have hold : ∀ x ∈ pend, x.2 < w'.heap.size := fun x hx => hrr.size _ (.inr (List.mem_map_of_mem (f := Prod.snd) hx))
              have hr2 : HR (ptOf B0 (((i, w'.heap.size) :: pend).map Prod.snd)) μ' h' (w'.alloc (.cells us e)) := by
                refine hrr.pend _ (fun k hk => ?_) (fun k hk => ?_) (fun C q v ev hC _ => ?_)
                · rcases hk with hk | hk
                  · exact .inl (.inl hk)
                  · rcases List.mem_cons.1 hk with hk | hk
                    · exact .inr hk
                    · exact .inl (.inr hk)
                · rcases hk with hk | hk
                  · exact .inl (.inl hk)
                  · rcases List.mem_cons.1 hk with hk | hk
                    · exact .inr hk
                    · exact .inl (.inr hk)
                · simp only [ptOf] at ev ⊢
                  split at ev
                  · cases ev
                  · rename_i hn
                    rw [if_neg (fun hm => by
                      rcases List.mem_cons.1 hm with hk | hk
                      · simp only at hk; omega
                      · exact hn hk)]
                    exact ev
              have hb2 : Bel (ptOf B0 (pend.map Prod.snd)) w' (w'.alloc (.cells us e)) := (Bel.refl _ _).alloc hrr.size _
              have hpk0 := hpk.step hb2 hoi' hpn (.pointer (some ⟨w'.heap.size, 0, none⟩))
              have hdN : d < a'.tmps.size := by
                have := hz2.2
                rw [hdd] at this
                rw [hsr.1]; exact of_decide_eq_true this
              have hslot : (a'.put oi.dst (.pointer (some ⟨w'.heap.size, 0, none⟩))).tmps.getD d undef = .pointer (some ⟨w'.heap.size, 0, none⟩) := by
                rw [hdd]
                show (a'.tmps.setIfInBounds d _).getD d undef = _
                simp only [Array.getD_eq_getD_getElem?, Array.getElem?_setIfInBounds_self_of_lt hdN, Option.getD_some]
              have hblk : (w'.alloc (.cells us e)).heap[w'.heap.size]? = some (Obj.cells us e (0, 0)) := by
                show (w'.heap.push _)[w'.heap.size]? = _
                simp
              have hpk2 : PendOK P N ops.toList B0 ((i, w'.heap.size) :: pend) (a'.put oi.dst (.pointer (some ⟨w'.heap.size, 0, none⟩))) (w'.alloc (.cells us e)) := by
                refine ⟨fun x hx => ?_, fun x hx y hy exy => ?_⟩
                · rcases List.mem_cons.1 hx with rfl | hx
                  · exact ⟨hai, oi, e, cs, d, us, e, hoi', hop, hz, hdd, hslot, hblk, hcs, fun hk => Nat.lt_irrefl _ (hrr.size _ (.inl hk))⟩
                  · exact hpk0.1 x hx
                · rcases List.mem_cons.1 hx with rfl | hx <;> rcases List.mem_cons.1 hy with rfl | hy
                  · rfl
                  · have := hold y hy; simp only at exy; omega
                  · have := hold x hx; simp only at exy; omega
                  · exact hpk.2 x hx y hy exy
              have hinv2 : Inv P N ops.toList chain T (pdo ((i, w'.heap.size) :: pend)) (lis (listed.setIfInBounds i true)) doneL (setV vs i .top) h' F := by
                rw [hset]
                refine inv_pend ho hinv hoi' hci hdone hpi .top fun j => ⟨fun ⟨b, hb⟩ => ?_, fun hj => ?_⟩
                · rcases List.mem_cons.1 hb with hb | hb
                  · exact .inr (Prod.mk.inj hb).1
                  · exact .inl ⟨b, hb⟩
                · rcases hj with ⟨b, hb⟩ | rfl
                  · exact ⟨b, List.mem_cons_of_mem _ hb⟩
                  · exact ⟨_, List.mem_cons_self ..⟩
              refine ih _ _ _ μ' h' (p :: r) doneL (setV vs i .top) F Tv _ (by simpa using hsz) hgo hinv2 (fun t => ?_) hdr hcntN ?_ ?_ hpre hpk2 hr2 (hb.trans hb2.ofPt)
              · rw [hTv]
                refine tsF_agree t ops.toList 0 T T (fun x ox hx _ => ⟨rfl, fun hmx => ?_⟩) rfl
                simp only [Nat.zero_add, setV] at hmx ⊢
                rw [if_neg fun ex => by subst ex; simp only [inL] at hmx; rw [hdone] at hmx; cases hmx]
              · have hput := hsr.put (d := oi.dst) (by rw [hdd]; rw [hdd] at hz2; exact hz2.2) (v := .top) (u := .pointer (some ⟨w'.heap.size, 0, none⟩)) trivial
                refine ⟨hput.1, fun t => ?_⟩
                rw [hset, more ho hinv.cl hoi' hif .top t]
                exact hput.2 t
              · rw [← hdf]; cases oi.dst <;> rfl
  -- the start
  have hinv0 : Inv P N ops.toList chain T (pdo []) (lis (Array.replicate ops.size false)) [] (fun _ => undefA) h [] := by
    have hno : ∀ j, lis (Array.replicate ops.size false) j = false := fun j => by
      show (Array.replicate ops.size false).getD j false = false
      simp only [Array.getD_eq_getD_getElem?, Array.getElem?_replicate]
      split <;> rfl
    exact ⟨fun j o _ hs => (by rw [hno] at hs; cases hs), fun j o _ hs => (by simp [inL] at hs), fun j hs => (by rw [hno] at hs; cases hs), fun j ⟨b, hb⟩ => (by cases hb), fun j ⟨b, hb⟩ => (by cases hb), fun j hs => (by simp at hs), fun j o _ hs => (by simp at hs), fun j o _ hs => (by simp at hs)⟩
  have hz : ∀ (S : Nat → Bool), (∀ x, S x = false) → ∀ t, tsF ops.toList 0 (fun _ => undefA) S T t = T t := fun S hS t => tsF_none t ops.toList 0 T fun i o _ _ => hS _
  refine key ops.size (Array.replicate ops.size false) a w.drew μ h ord [] (fun _ => undefA) [] T [] (by simp) hord hinv0 (fun t => (hz _ (fun x => by simp [inL]) t).symm) hd ?_ ⟨hs.1, fun t => ?_⟩ rfl (Mu.le_refl _) ⟨fun x hx => (by cases hx), fun x hx => (by cases hx)⟩ hr.drew.toPt (Bel.refl _ _).drew
  · refine Nat.le_trans (List.length_filter_le _ _) ?_
    simp
  · have e : tsF ops.toList 0 (fun _ => undefA) (lis (Array.replicate ops.size false)) T t = T t := tsF_none t ops.toList 0 T fun i o _ _ => by
      show (Array.replicate ops.size false).getD _ false = false
      simp only [Array.getD_eq_getD_getElem?, Array.getElem?_replicate]
      split <;> rfl
    rw [e]; exact hs.2 t
end Rv
