/- Regions whose order is drawn and that change the heap: what changes it stands in one order, what only reads may float. -/
import Derived.Test.YtnlpkgamglhnbaaRvDraw2
set_option linter.unusedVariables false
set_option linter.unusedSimpArgs false
namespace Rv
open Go Go.RowKit

/-- An operation that looks at no memory. -/
def pureOp (o : Oper) : Bool := match o.op with
  | .move _ | .assign _ | .pick .. | .build .. | .buildSlice .. | .nilCheck _ | .binOp .. | .unOp .. | .convert .. | .makeFunc (.func _) _ _ | .slice .. | .fieldAddr .. | .field .. | .indexAddr .. | .index .. | .extract .. => true
  | .call c => match c.callee with
    | .builtin .len | .builtin .cap | .builtin .min | .builtin .max => true
    | _ => false
  | _ => false
theorem pure_ev {P : Program} {o : Oper} (hp : pureOp o = true) {T : Nat → AV} {h h1 h2 : Heap} {v : AV} (he : evOp P o T h = some (v, h1)) : evOp P o T h2 = some (v, h2) := by
  unfold pureOp at hp
  unfold evOp at he ⊢
  split at hp
  all_goals first
    | (cases hp; done)
    | skip
  all_goals rename_i hop; simp only [hop] at he ⊢
  all_goals first
    | (repeat' split at he) <;> first | (cases he; done) | (obtain ⟨rfl, rfl⟩ := Prod.mk.inj (Option.some.inj he); simp only [*]) | skip
  all_goals first
    | rfl
    | (simp only [*, if_true] at *; done)
    | (rename_i hc; simp only [hc] at hp; cases hp)
    | (rename_i hc _; simp only [hc] at hp; cases hp)
    | (rename_i hc _ _; simp only [hc] at hp; cases hp)
    | (rename_i hc _ _ _; simp only [hc] at hp; cases hp)
    | (rename_i hc _ _ _ _; simp only [hc] at hp; cases hp)
    | (rename_i hc _ _ _ _ _; simp only [hc] at hp; cases hp)
    | (rename_i hc _ _ _ _ _ _; simp only [hc] at hp; cases hp)
    | (rename_i hc _ _ _ _ _ _ _; simp only [hc] at hp; cases hp)

/-- The slots behind those operations of a set that have run. -/
def tsF : List Oper → Nat → (Nat → AV) → (Nat → Bool) → (Nat → AV) → (Nat → AV)
  | [], _, _, _, T => T
  | o :: r, k, vs, S, T => tsF r (k + 1) vs S (if S k = true then updO T o.dst (vs k) else T)
theorem tsF_agree (t : Nat) {S S' : Nat → Bool} {vs vs' : Nat → AV} : ∀ (l : List Oper) (k : Nat) (T T' : Nat → AV), (∀ (i : Nat) (o : Oper), l[i]? = some o → o.dst = some t → S (k + i) = S' (k + i) ∧ (S (k + i) = true → vs (k + i) = vs' (k + i))) → T t = T' t → tsF l k vs S T t = tsF l k vs' S' T' t := by
  intro l
  induction l with
  | nil => intro k T T' _ h; exact h
  | cons o r ih =>
    intro k T T' hS h
    simp only [tsF]
    refine ih (k + 1) _ _ (fun i oi hi hd => by have := hS (i + 1) oi (by simpa using hi) hd; rwa [show k + (i + 1) = k + 1 + i by omega] at this) ?_
    by_cases hd : o.dst = some t
    · have := hS 0 o rfl hd
      simp only [Nat.add_zero] at this
      rw [← this.1]
      cases hk : S k with
      | true => simp only [if_true]; rw [this.2 hk, hd]; simp [updO, upd]
      | false => simpa using h
    · have e1 : ∀ (T : Nat → AV) (b : Bool) (v : AV), (if b = true then updO T o.dst v else T) t = T t := fun T b v => by
        split
        · exact updO_other hd
        · rfl
      rw [e1, e1]; exact h
theorem tsF_none (t : Nat) {S : Nat → Bool} {vs : Nat → AV} : ∀ (l : List Oper) (k : Nat) (T : Nat → AV), (∀ (i : Nat) (o : Oper), l[i]? = some o → o.dst = some t → S (k + i) = false) → tsF l k vs S T t = T t := by
  intro l
  induction l with
  | nil => intro k T _; rfl
  | cons o r ih =>
    intro k T hS
    simp only [tsF]
    rw [ih (k + 1) _ fun i oi hi hd => by have := hS (i + 1) oi (by simpa using hi) hd; rwa [show k + (i + 1) = k + 1 + i by omega] at this]
    split
    · rename_i hk
      exact updO_other fun hd => by have := hS 0 o rfl hd; simp only [Nat.add_zero] at this; rw [hk] at this; cases this
    · rfl
theorem tsF_last (t : Nat) {S : Nat → Bool} {vs : Nat → AV} : ∀ (l : List Oper) (k i : Nat) (T : Nat → AV) (o : Oper), l[i]? = some o → o.dst = some t → S (k + i) = true → (∀ (j : Nat) (oj : Oper), i < j → l[j]? = some oj → oj.dst = some t → S (k + j) = false) → tsF l k vs S T t = vs (k + i) := by
  intro l
  induction l with
  | nil => intro k i T o h; simp at h
  | cons x r ih =>
    intro k i T o hi hd hs hl
    simp only [tsF]
    cases i with
    | zero =>
      simp at hi; subst hi
      simp only [Nat.add_zero] at hs ⊢
      rw [tsF_none t r (k + 1) _ fun j oj hj hdj => by have := hl (j + 1) oj (by omega) (by simpa using hj) hdj; rwa [show k + (j + 1) = k + 1 + j by omega] at this]
      rw [if_pos hs, hd]; simp [updO, upd]
    | succ i =>
      rw [show k + (i + 1) = k + 1 + i by omega] at hs ⊢
      exact ih (k + 1) i _ o (by simpa using hi) hd hs fun j oj hj hoj hdj => by have := hl (j + 1) oj (by omega) (by simpa using hoj) hdj; rwa [show k + (j + 1) = k + 1 + j by omega] at this

def mk (ops : List Oper) (j x : Nat) : Bool := ((masks ops []).getD j 0).testBit x
/-- The order in which a region is walked: what changes the heap ('chain') as late as may be. -/
def ordGo (ops : List Oper) (chain : List Nat) : List Nat → List Nat → Bool
  | [], done => (List.range ops.length).all fun j => done.contains j
  | j :: rest, done => decide (j < ops.length) && !done.contains j && (match ops[j]? with | some o => (preds o).all fun p => done.contains p | none => false) &&
      (!chain.contains j || rest.all fun i => mk ops i j) && ordGo ops chain rest (j :: done)
def drawChk2 (ops : Array Oper) (ord chain : List Nat) : Bool := drawChk ops && ordGo ops.toList chain ord []
abbrev Flo := List (Nat × Oper × (Nat → AV) × AV)
def Stab (P : Program) (N : Nat) (ops : List Oper) (p : Nat) (h : Heap) : Flo → Prop
  | [] => True
  | (j, o, T, v) :: r => (mk ops p j = true ∨ StepOK P N ops h o T v) ∧ Stab P N ops p h r
theorem Stab.get {P : Program} {N : Nat} {ops : List Oper} {p : Nat} {h : Heap} : ∀ {F : Flo}, Stab P N ops p h F → ∀ {j o T v}, (j, o, T, v) ∈ F → mk ops p j = true ∨ StepOK P N ops h o T v := by
  intro F
  induction F with
  | nil => intro _ j o T v hm; cases hm
  | cons x r ih =>
    intro hs j o T v hm
    obtain ⟨j', o', T', v'⟩ := x
    rcases List.mem_cons.1 hm with e | hm
    · cases e; exact hs.1
    · exact ih hs.2 hm
def Dr2 (P : Program) (N : Nat) (ops : List Oper) (chain : List Nat) : List Nat → Flo → (Nat → AV) → Heap → ((Nat → AV) → Heap → Prop) → Prop
  | [], F, T, h, Q => Q T h
  | j :: rest, F, T, h, Q => ∃ o, ops[j]? = some o ∧
      if chain.contains j = true then dstOk N o.dst = true ∧ ((wantA ops T o = some false ∧ Dr2 P N ops chain rest F (updO T o.dst undefA) h Q) ∨ (wantA ops T o = some true ∧
        ((∃ v h', evOp P o T h = some (v, h') ∧ Stab P N ops j h' F ∧ Dr2 P N ops chain rest F (updO T o.dst v) h' Q) ∨
         ∃ f args, callA T o = some (f, args) ∧ plainFn P f = true ∧ FnOK P f args h (fun v h' => Stab P N ops j h' F ∧ Dr2 P N ops chain rest F (updO T o.dst v) h' Q))))
      else ∃ v, StepOK P N ops h o T v ∧ Dr2 P N ops chain rest (if pureOp o = true then F else (j, o, T, v) :: F) (updO T o.dst v) h Q

section
variable {P : Program} {N : Nat} {ops : List Oper} {chain : List Nat} {T0 : Nat → AV} {h : Heap} {Q : (Nat → AV) → Heap → Prop}
def setB (S : Nat → Bool) (i : Nat) : Nat → Bool := fun x => if x = i then true else S x
def setV (vs : Nat → AV) (i : Nat) (v : AV) : Nat → AV := fun x => if x = i then v else vs x
def Closed (ops : List Oper) (S : Nat → Bool) : Prop := ∀ (j : Nat) (o : Oper), ops[j]? = some o → S j = true → ∀ p ∈ preds o, S p = true
/-- Two operations that share a slot are ordered. -/
def Ordered (ops : List Oper) : Prop := (∀ (j : Nat) (o : Oper), ops[j]? = some o → ∀ p ∈ preds o, p < j) ∧ ∀ (i j : Nat) (oi oj : Oper), ops[i]? = some oi → ops[j]? = some oj → i < j → pairOk ops (masks ops []) i j oi oj = true
theorem Closed.mask {S : Nat → Bool} (hc : Closed ops S) {j : Nat} {o : Oper} (hj : ops[j]? = some o) (hp : ∀ p ∈ preds o, S p = true) {x : Nat} (hx : mk ops j x = true) : S x = true :=
  masks_ok (ops := ops) (fun x => S x = true) hc ops [] (by simp) (by simp) j o hj hp x hx
/-- what writes a slot that j names, and is not j, stands in j's mask, or has j in its own -/
theorem Ordered.pair (ho : Ordered ops) {i j : Nat} {oi oj : Oper} (hi : ops[i]? = some oi) (hj : ops[j]? = some oj) (hne : i ≠ j) {t : Nat} (ht : t ∈ names ops oj) (hd : oi.dst = some t) : (i < j ∧ mk ops j i = true) ∨ (j < i ∧ mk ops i j = true) := by
  rcases Nat.lt_or_ge i j with hlt | hge
  · have hp := ho.2 i j oi oj hi hj hlt
    have hcon : (oi.dst.toList.any (fun d => (names ops oj).contains d) || oj.dst.toList.any (fun d => (names ops oi).contains d)) = true := by rw [hd]; simp [ht]
    unfold pairOk at hp
    rw [hcon] at hp
    simp only [Bool.not_true, Bool.false_or] at hp
    exact .inl ⟨hlt, hp⟩
  · have hgt : j < i := by omega
    have hp := ho.2 j i oj oi hj hi hgt
    have hcon : (oj.dst.toList.any (fun d => (names ops oi).contains d) || oi.dst.toList.any (fun d => (names ops oj).contains d)) = true := by rw [hd]; simp [ht]
    unfold pairOk at hp
    rw [hcon] at hp
    simp only [Bool.not_true, Bool.false_or] at hp
    exact .inr ⟨hgt, hp⟩
/-- A ready operation finds its slots as the canonical ones: those behind its mask. -/
theorem canon (ho : Ordered ops) {S : Nat → Bool} (hc : Closed ops S) {vs vs' : Nat → AV} {j : Nat} {o : Oper} (hj : ops[j]? = some o) (hn : S j = false) (hp : ∀ p ∈ preds o, S p = true) (hv : ∀ x, S x = true → vs x = vs' x) (hmj : mk ops j j = false) :
    ∀ t ∈ names ops o, tsF ops 0 vs S T0 t = tsF ops 0 vs' (mk ops j) T0 t := by
  intro t ht
  refine tsF_agree t ops 0 T0 T0 (fun i oi hi hd => ?_) rfl
  simp only [Nat.zero_add]
  by_cases e : i = j
  · subst e; rw [hn, hmj]; exact ⟨rfl, fun h => by cases h⟩
  · rcases ho.pair hi hj e ht hd with ⟨_, hm⟩ | ⟨_, hm⟩
    · have := hc.mask hj hp hm
      rw [this, hm]; exact ⟨rfl, fun _ => hv i this⟩
    · have hSi : S i = false := by
        cases hx : S i with
        | false => rfl
        | true =>
          have := hc.mask hi (hc i oi hi hx) hm
          rw [hn] at this; cases this
      have hmi : mk ops j i = false := by
        cases hx : mk ops j i with
        | false => rfl
        | true =>
          have := hc.mask hj hp hx
          rw [hSi] at this; cases this
      rw [hSi, hmi]; exact ⟨rfl, fun h => by cases h⟩
/-- One more operation. -/
theorem more (ho : Ordered ops) {S : Nat → Bool} (hc : Closed ops S) {vs : Nat → AV} {j : Nat} {o : Oper} (hj : ops[j]? = some o) (hn : S j = false) (v : AV) (t : Nat) :
    tsF ops 0 (setV vs j v) (setB S j) T0 t = updO (tsF ops 0 vs S T0) o.dst v t := by
  by_cases hd : o.dst = some t
  · have h1 := tsF_last t (S := setB S j) (vs := setV vs j v) ops 0 j T0 o hj hd (by simp [setB]) (fun i oi hlt hi hdi => by
      simp only [Nat.zero_add, setB]
      rw [if_neg (by omega)]
      cases hx : S i with
      | false => rfl
      | true =>
        rcases ho.pair hi hj (by omega) (t := t) (by simp [names, hd]) hdi with ⟨h1, _⟩ | ⟨_, hm⟩
        · omega
        · have := hc.mask hi (hc i oi hi hx) hm
          rw [hn] at this; cases this)
    rw [h1, hd]; simp [updO, upd, setV]
  · rw [updO_other hd]
    refine tsF_agree t ops 0 T0 T0 (fun i oi hi hdi => ?_) rfl
    have hne : i ≠ j := fun e => by subst e; rw [hj] at hi; cases hi; exact hd hdi
    simp only [Nat.zero_add, setB, setV, if_neg hne]
    exact ⟨trivial, fun _ => trivial⟩

theorem mk_lt (ho : Ordered ops) {j x : Nat} {o : Oper} (hj : ops[j]? = some o) (hx : mk ops j x = true) : x < j :=
  masks_ok (ops := ops) (fun x => x < j) (fun j' o' hj' hlt p hp => by have := ho.1 j' o' hj' p hp; omega) ops [] (by simp) (by simp) j o hj (ho.1 j o hj) x hx
theorem mk_self (ho : Ordered ops) {j : Nat} {o : Oper} (hj : ops[j]? = some o) : mk ops j j = false := by
  cases hx : mk ops j j with
  | false => rfl
  | true => have := mk_lt ho hj hx; omega
abbrev inL (l : List Nat) : Nat → Bool := fun x => l.contains x
structure Inv (P : Program) (N : Nat) (ops : List Oper) (chain : List Nat) (T0 : Nat → AV) (listed : Nat → Bool) (doneL : List Nat) (vs : Nat → AV) (h : Heap) (F : Flo) : Prop where
  cl : Closed ops listed
  cd : Closed ops (inL doneL)
  sub : ∀ j, listed j = true → doneL.contains j = true
  ch : ∀ j, doneL.contains j = true → chain.contains j = true → listed j = true
  st : ∀ (j : Nat) (o : Oper), ops[j]? = some o → doneL.contains j = true → listed j = false → StepOK P N ops h o (tsF ops 0 vs (mk ops j) T0) (vs j)
  fl : ∀ (j : Nat) (o : Oper), ops[j]? = some o → doneL.contains j = true → chain.contains j = false → pureOp o = false → ∃ Tj, (j, o, Tj, vs j) ∈ F ∧ ∀ t ∈ names ops o, Tj t = tsF ops 0 vs (mk ops j) T0 t
theorem ordGo_cons {j : Nat} {rest done : List Nat} (h : ordGo ops chain (j :: rest) done = true) : ∃ o, ops[j]? = some o ∧ done.contains j = false ∧ (∀ p ∈ preds o, done.contains p = true) ∧ (chain.contains j = true → ∀ i ∈ rest, mk ops i j = true) ∧ ordGo ops chain rest (j :: done) = true := by
  simp only [ordGo, Bool.and_eq_true, Bool.not_eq_true', Bool.or_eq_true, decide_eq_true_eq] at h
  obtain ⟨⟨⟨⟨h1, h2⟩, h3⟩, h4⟩, h5⟩ := h
  have ho : ops[j]? = some ops[j] := List.getElem?_eq_getElem h1
  rw [ho] at h3
  refine ⟨_, ho, h2, fun p hp => List.all_eq_true.1 h3 p hp, fun hc i hi => ?_, h5⟩
  rcases h4 with h4 | h4
  · rw [h4] at hc; cases hc
  · exact List.all_eq_true.1 h4 i hi
theorem setB_in (l : List Nat) (j : Nat) : inL (j :: l) = setB (inL l) j := by
  funext x
  simp only [inL, setB, List.contains_cons]
  by_cases e : x = j
  · subst e; simp
  · rw [if_neg e]; have : (x == j) = false := by simpa using e
    rw [this, Bool.false_or]
/-- The canonical slots of what has been reckoned stay as they are. -/
theorem canon_keep (ho : Ordered ops) {doneL : List Nat} (hc : Closed ops (inL doneL)) {vs : Nat → AV} {j i : Nat} {oi : Oper} (hi : ops[i]? = some oi) (hd : ∀ p ∈ preds oi, doneL.contains p = true) (hj : doneL.contains j = false) (v : AV) (t : Nat) :
    tsF ops 0 (setV vs j v) (mk ops i) T0 t = tsF ops 0 vs (mk ops i) T0 t := by
  refine tsF_agree t ops 0 T0 T0 (fun x ox hx _ => ⟨rfl, fun hm => ?_⟩) rfl
  simp only [Nat.zero_add] at hm ⊢
  have := hc.mask hi hd hm
  simp only [setV]
  rw [if_neg fun e => by subst e; simp only [inL] at this; rw [hj] at this; cases this]
theorem adv (ho : Ordered ops) {listed : Nat → Bool} : ∀ (rest doneL : List Nat) (vs : Nat → AV) (F : Flo) (Tv : Nat → AV), ordGo ops chain rest doneL = true → Inv P N ops chain T0 listed doneL vs h F → (∀ t, Tv t = tsF ops 0 vs (inL doneL) T0 t) → Dr2 P N ops chain rest F Tv h Q →
    ∃ rest' doneL' vs' F' Tv', ordGo ops chain rest' doneL' = true ∧ Inv P N ops chain T0 listed doneL' vs' h F' ∧ (∀ t, Tv' t = tsF ops 0 vs' (inL doneL') T0 t) ∧ Dr2 P N ops chain rest' F' Tv' h Q ∧ (rest' = [] ∨ ∃ p r, rest' = p :: r ∧ chain.contains p = true) ∧ ∀ x, listed x = true → vs' x = vs x := by
  intro rest
  induction rest with
  | nil => intro doneL vs F Tv h1 h2 h3 h4; exact ⟨[], doneL, vs, F, Tv, h1, h2, h3, h4, .inl rfl, fun _ _ => rfl⟩
  | cons j rest ih =>
    intro doneL vs F Tv h1 h2 h3 h4
    cases hcj : chain.contains j with
    | true => exact ⟨j :: rest, doneL, vs, F, Tv, h1, h2, h3, h4, .inr ⟨j, rest, rfl, hcj⟩, fun _ _ => rfl⟩
    | false =>
      obtain ⟨o, hj, hnd, hpd, _, hgo⟩ := ordGo_cons h1
      obtain ⟨o', hj', h5⟩ := h4
      rw [hj] at hj'; cases hj'
      rw [if_neg (by rw [hcj]; simp)] at h5
      obtain ⟨v, hst, hdr⟩ := h5
      have hnl : listed j = false := by
        cases hx : listed j with
        | false => rfl
        | true => have := h2.sub j hx; rw [hnd] at this; cases this
      have hcan := canon (T0 := T0) ho h2.cd (vs := vs) (vs' := setV vs j v) hj hnd hpd (fun x hx => by simp only [setV]; rw [if_neg fun e => by subst e; simp only [inL] at hx; rw [hnd] at hx; cases hx]) (mk_self ho hj)
      have hvj : setV vs j v j = v := by simp [setV]
      have hclosed : Closed ops (inL (j :: doneL)) := by
        rw [setB_in]
        intro i oi hi hs p hp
        simp only [setB] at hs ⊢
        split
        · rfl
        · split at hs
          · rename_i e; subst e; rw [hj] at hi; cases hi; exact hpd p hp
          · exact h2.cd i oi hi hs p hp
      have hold : ∀ i, (j :: doneL).contains i = true → i ≠ j → doneL.contains i = true := fun i hi hne => by
        have := congrFun (setB_in doneL j) i
        simp only [inL, setB, if_neg hne] at this
        rw [← this]; exact hi
      obtain ⟨r', d', v', F', T', k1, k2, k3, k4, k5, k6⟩ := ih (j :: doneL) (setV vs j v) (if pureOp o = true then F else (j, o, Tv, v) :: F) (updO Tv o.dst v) hgo
        ⟨h2.cl, hclosed, fun i hi => by have := h2.sub i hi; simp only [List.contains_cons]; rw [this, Bool.or_true], fun i hi hc => by
            by_cases e : i = j
            · subst e; rw [hcj] at hc; cases hc
            · exact h2.ch i (hold i hi e) hc,
          fun i oi hi hd hl => by
            by_cases e : i = j
            · subst e
              rw [hj] at hi; cases hi
              rw [hvj]
              exact hst.congr fun t ht => by rw [h3, hcan t ht]
            · have hdi := hold i hd e
              have h6 := h2.st i oi hi hdi hl
              have : setV vs j v i = vs i := by simp [setV, e]
              rw [this]
              exact h6.congr fun t _ => (canon_keep ho h2.cd hi (h2.cd i oi hi hdi) hnd v t).symm,
          fun i oi hi hd hc hp => by
            by_cases e : i = j
            · subst e
              rw [hj] at hi; cases hi
              refine ⟨Tv, ?_, fun t ht => by rw [h3, hcan t ht]⟩
              rw [if_neg (by rw [hp]; simp), hvj]
              exact List.mem_cons_self ..
            · have hdi := hold i hd e
              obtain ⟨Tj, g1, g2⟩ := h2.fl i oi hi hdi hc hp
              have : setV vs j v i = vs i := by simp [setV, e]
              rw [this]
              refine ⟨Tj, ?_, fun t ht => by rw [g2 t ht, canon_keep ho h2.cd hi (h2.cd i oi hi hdi) hnd v t]⟩
              split
              · exact g1
              · exact List.mem_cons_of_mem _ g1⟩
        (fun t => by rw [setB_in, more ho h2.cd hj hnd v t]; exact updO_at (h3 t)) hdr
      refine ⟨r', d', v', F', T', k1, k2, k3, k4, k5, fun x hx => ?_⟩
      rw [k6 x hx]
      simp only [setV]
      rw [if_neg fun e => by subst e; rw [hnl] at hx; cases hx]
end
theorem CdOK.draw2 {P : Program} {n0 N : Nat} {T : Nat → AV} {h : Heap} {Q : CQ} {id : Nat} {ops : Array Oper} {ord chain : List Nat} (hm : P.follows .mixedOrders = true) (hc : drawChk2 ops ord chain = true) (hd : Dr2 P N ops.toList chain ord [] T h (fun T' h' => Q .normal T' h')) : CdOK P (n0 := n0) N (.region id ops true) T h Q := by
  intro B0 μ a w hs hr
  refine wp_region_any hm ?_
  unfold drawChk2 at hc
  simp only [Bool.and_eq_true] at hc
  obtain ⟨hc, hord⟩ := hc
  let K := Post n0 N B0 μ a.defers w Q
  have hops : ∀ j : Nat, ops[j]? = ops.toList[j]? := fun j => by simp
  have ho : Ordered ops.toList := ⟨fun j o hj p hp => by have := (rowsOk_get hc j o hj).1 p hp; omega, fun i j oi oj hi hj hlt => by
    have h1 := (rowsOk_get hc j oj hj).2
    simp only [Nat.zero_add] at h1
    have h2 := rowOk_get h1 i oi hi (by omega)
    simpa using h2⟩
  let T0 := T
  let lis (l : Array Bool) : Nat → Bool := fun j => l.getD j false
  have key : ∀ (fuel : Nat) (listed : Array Bool) (a' : Act) (w' : World) (μ' : Mu) (h' : Heap) (rest doneL : List Nat) (vs : Nat → AV) (F : Flo) (Tv : Nat → AV), listed.size = ops.size →
      ordGo ops.toList chain rest doneL = true → Inv P N ops.toList chain T (lis listed) doneL vs h' F → (∀ t, Tv t = tsF ops.toList 0 vs (inL doneL) T t) → Dr2 P N ops.toList chain rest F Tv h' (fun T' h' => Q .normal T' h') →
      (rest = [] ∨ ∃ p r, rest = p :: r ∧ chain.contains p = true) →
      ((List.range ops.size).filter (fun j => !listed.getD j false)).length ≤ fuel →
      SR N μ' (tsF ops.toList 0 vs (lis listed) T) a' → a'.defers = a.defers → Mu.le μ μ' → HR B0 μ' h' w' → Below B0 w w' → wpAny P .any ops K fuel listed a' w' := by
    intro fuel
    have final : ∀ (listed : Array Bool) (a' : Act) (w' : World) (μ' : Mu) (h' : Heap) (rest doneL : List Nat) (vs : Nat → AV) (F : Flo) (Tv : Nat → AV), ordGo ops.toList chain rest doneL = true → Inv P N ops.toList chain T (lis listed) doneL vs h' F → (∀ t, Tv t = tsF ops.toList 0 vs (inL doneL) T t) → Dr2 P N ops.toList chain rest F Tv h' (fun T' h' => Q .normal T' h') →
        SR N μ' (tsF ops.toList 0 vs (lis listed) T) a' → a'.defers = a.defers → Mu.le μ μ' → HR B0 μ' h' w' → Below B0 w w' → (∀ j, j < ops.size → listed.getD j false = true) → K .normal a' w' := by
      intro listed a' w' μ' h' rest doneL vs F Tv hgo hinv hTv hdr hsr hdf hpre hrr hb hall
      have hrest : rest = [] := by
        cases rest with
        | nil => rfl
        | cons j r =>
          obtain ⟨o, hj, hnd, _⟩ := ordGo_cons hgo
          have hlt := lt_of_get hj
          have := hinv.sub j (hall j (by simpa using hlt))
          rw [hnd] at this; cases this
      subst hrest
      refine ⟨Tv, h', μ', hdr, hdf, ⟨hsr.1, fun t => ?_⟩, hpre.toN, hrr, hb⟩
      have e1 : tsF ops.toList 0 vs (lis listed) T t = Tv t := by
        rw [hTv]
        refine tsF_agree t ops.toList 0 T T (fun i o hi _ => ?_) rfl
        have hlt := lt_of_get hi
        have h1 := hall i (by simpa using hlt)
        have h2 := hinv.sub i h1
        simp only [Nat.zero_add]
        exact ⟨by show listed.getD i false = doneL.contains i; rw [h1, h2], fun _ => trivial⟩
      rw [← e1]
      exact hsr.2 t
    induction fuel with
    | zero =>
      intro listed a' w' μ' h' rest doneL vs F Tv hsz hgo hinv hTv hdr hadv hcnt hsr hdf hpre hrr hb
      have hall : ∀ j, j < ops.size → listed.getD j false = true := by
        intro j hj
        cases hx : listed.getD j false with
        | true => rfl
        | false =>
          have : j ∈ (List.range ops.size).filter (fun j => !listed.getD j false) := by simp [hj]; simpa using hx
          have := List.length_pos_of_mem this
          omega
      refine ⟨?_, final listed a' w' μ' h' rest doneL vs F Tv hgo hinv hTv hdr hsr hdf hpre hrr hb hall⟩
      unfold Region.ready
      rw [List.filter_eq_nil_iff]
      intro i hi
      have hi' : i < ops.size := by simpa using hi
      have h1 := hall i hi'
      have hl : i < listed.size := by omega
      simp only [Array.getD_eq_getD_getElem?, Array.getElem?_eq_getElem hl, Option.getD_some] at h1 ⊢
      simp [h1]
    | succ fuel ih =>
      intro listed a' w' μ' h' rest doneL vs F Tv hsz hgo hinv hTv hdr hadv hcnt hsr hdf hpre hrr hb
      refine ⟨fun hnone => ?_, fun i hi => ?_⟩
      · refine final listed a' w' μ' h' rest doneL vs F Tv hgo hinv hTv hdr hsr hdf hpre hrr hb ?_
        intro j
        induction j using Nat.strongRecOn with
        | _ j jh =>
          intro hj
          cases hx : listed.getD j false with
          | true => rfl
          | false =>
            exfalso
            have hoj : ops[j]? = some ops[j] := Array.getElem?_eq_getElem hj
            have : j ∈ Region.ready .any ops listed := by
              refine mem_ready.2 ⟨?_, ops[j], hoj, fun e he hbn => ?_⟩
              · have hl : j < listed.size := by omega
                simp only [Array.getD_eq_getD_getElem?, Array.getElem?_eq_getElem hl, Option.getD_some] at hx ⊢
                exact hx
              · have hp : e.on ∈ preds ops[j] := by
                  simp only [preds, List.mem_map, List.mem_filter]
                  exact ⟨e, ⟨by simpa using he, hbn⟩, rfl⟩
                have hlt := ho.1 j ops[j] (by rw [← hops]; exact hoj) e.on hp
                exact jh e.on hlt (by omega)
            rw [hnone] at this
            cases this
      · obtain ⟨hun, oi, hoi, hpre'⟩ := mem_ready.1 hi
        have hoi' : ops.toList[i]? = some oi := by rw [← hops]; exact hoi
        have hin : i < ops.size := (Array.getElem?_eq_some_iff.1 hoi).1
        have hil : i < listed.size := by omega
        have hif : lis listed i = false := by
          show listed.getD i false = false
          simp only [Array.getD_eq_getD_getElem?, Array.getElem?_eq_getElem hil, Option.getD_some] at hun ⊢
          exact hun
        have hpi : ∀ p ∈ preds oi, lis listed p = true := fun p hp => by
          simp only [preds, List.mem_map, List.mem_filter] at hp
          obtain ⟨e, ⟨he, hbn⟩, rfl⟩ := hp
          exact hpre' e (by simpa using he) hbn
        have hcan := canon (T0 := T) ho hinv.cl (vs := vs) (vs' := vs) hoi' hif hpi (fun _ _ => rfl) (mk_self ho hoi')
        have hset : lis (listed.setIfInBounds i true) = setB (lis listed) i := by
          funext j
          show (listed.setIfInBounds i true).getD j false = _
          simp only [setB]
          by_cases e : j = i
          · subst e; rw [if_pos rfl]; simp only [Array.getD_eq_getD_getElem?, Array.getElem?_setIfInBounds_self_of_lt hil, Option.getD_some]
          · rw [if_neg e]; simp only [lis, Array.getD_eq_getD_getElem?, Array.getElem?_setIfInBounds, if_neg (fun e' : i = j => e e'.symm)]
        have hclN : Closed ops.toList (setB (lis listed) i) := by
          intro j oj hj hsj p hp
          simp only [setB] at hsj ⊢
          split
          · rfl
          · split at hsj
            · rename_i e; subst e; rw [hoi'] at hj; cases hj; exact hpi p hp
            · exact hinv.cl j oj hj hsj p hp
        have hif' : listed.getD i false = false := hif
        have hcntN : ((List.range ops.size).filter (fun j => !(listed.setIfInBounds i true).getD j false)).length ≤ fuel := by
          have := count_lt (p := fun j => !listed.getD j false) (q := fun j => !(listed.setIfInBounds i true).getD j false) (fun x hx => by
              by_cases e : x = i
              · subst e; simp [Array.getD_eq_getD_getElem?, Array.getElem?_setIfInBounds_self_of_lt hil] at hx
              · simpa only [Array.getD_eq_getD_getElem?, Array.getElem?_setIfInBounds, if_neg (fun e' : i = x => e e'.symm)] using hx) (l := List.range ops.size) (x := i) (by simpa using hin) (by simp only [hif']; rfl) (by simp [Array.getD_eq_getD_getElem?, Array.getElem?_setIfInBounds_self_of_lt hil])
          omega
        unfold wpOp
        simp only [hoi]
        cases hdone : doneL.contains i with
        | true =>
          have hst := (hinv.st i oi hoi' hdone hif).congr fun t ht => (hcan t ht).symm
          have hgo2 : ∀ (w'' : World) (μ'' : Mu) (u : Value), Mu.le μ' μ'' → RV μ'' (vs i) u → HR B0 μ'' h' w'' → Below B0 w' w'' → wpAny P .any ops K fuel (listed.setIfInBounds i true) (a'.put oi.dst u) w'' := by
            intro w'' μ'' u hp'' hu hr'' hb''
            refine ih _ _ w'' μ'' h' rest doneL vs F Tv (by simpa using hsz) hgo ⟨by rw [hset]; exact hclN, hinv.cd, fun j hj => ?_, fun j hj hcj => ?_, fun j oj hj hdj hlj => ?_, hinv.fl⟩ hTv hdr hadv hcntN ?_ ?_ (hpre.trans hp'') hr'' (hb.trans hb'')
            · rw [hset] at hj
              simp only [setB] at hj
              split at hj
              · rename_i e; subst e; exact hdone
              · exact hinv.sub j hj
            · rw [hset]; simp only [setB]
              split
              · rfl
              · exact hinv.ch j hj hcj
            · rw [hset] at hlj
              simp only [setB] at hlj
              split at hlj
              · cases hlj
              · exact hinv.st j oj hj hdj hlj
            · rw [hset]
              have hv0 : setV vs i (vs i) = vs := by funext x; simp only [setV]; split; · rename_i e; rw [e]
                                                     · rfl
              have hmore := more (T0 := T) ho hinv.cl (vs := vs) hoi' hif (vs i)
              rw [hv0] at hmore
              have hput := (hsr.mono hp'').put hst.1 hu
              exact ⟨hput.1, fun t => by rw [hmore t]; exact hput.2 t⟩
            · rw [← hdf]; cases oi.dst <;> rfl
          obtain ⟨hdst, hcase⟩ := hst
          rcases hcase with ⟨hw, hvu⟩ | ⟨hw, hcase⟩
          · rw [wantA_ok hsr hw]
            simp only [Bool.false_eq_true, if_false]
            exact hgo2 w' μ' undef (Mu.le_refl _) (by rw [hvu]; exact R_undef) hrr (Below.refl _ _)
          · rw [wantA_ok hsr hw]
            simp only [if_true]
            left
            rcases hcase with he | ⟨f, args, hcall, hpl, hfn⟩
            · obtain ⟨nx, w1, μ1, hrun, hval, hmm, hr1, hb1⟩ := evOp_ok P he hsr.2 hrr
              rcases hval with ⟨u, rfl, hu⟩ | ⟨rfl, hvu⟩
              · show oi.upon P a' _ _ _
                rw [hrun]
                exact hgo2 w1 μ1 u hmm hu hr1 hb1
              · show oi.upon P a' _ _ _
                rw [hrun]
                exact hgo2 w1 μ1 undef hmm (by rw [hvu]; exact R_undef) hr1 hb1
            · obtain ⟨us, hrun, hus⟩ := callA_ok hcall hpl hsr.2 w'
              show oi.upon P a' _ _ _
              rw [hrun]
              refine Calls.mono (hfn B0 μ' w' us hrr hus) ?_
              rintro e w1 ⟨u, v', h1, μ1, rfl, ⟨rfl, rfl⟩, hu, hmm, hr1, hb1⟩
              exact hgo2 w1 μ1 u hmm hu hr1 hb1
        | false =>
          -- it is the next that changes the heap
          rcases hadv with rfl | ⟨p, r, rfl, hcp⟩
          · exfalso
            simp only [ordGo] at hgo
            have := List.all_eq_true.1 hgo i (by simpa using hin)
            rw [hdone] at this; cases this
          · obtain ⟨o, hj, hnd, hpd, hmask, hgor⟩ := ordGo_cons hgo
            have hip : i = p := by
              rcases Classical.em (i = p) with e | e
              · exact e
              · exfalso
                -- i stands behind p
                have hir : i ∈ r := by
                  have : ∀ (r d : List Nat), ordGo ops.toList chain r d = true → d.contains i = false → i ∈ r := by
                    intro r
                    induction r with
                    | nil =>
                      intro d hg hd
                      simp only [ordGo] at hg
                      have := List.all_eq_true.1 hg i (by simpa using hin)
                      rw [hd] at this; cases this
                    | cons x r ihr =>
                      intro d hg hd
                      obtain ⟨_, _, _, _, _, hg2⟩ := ordGo_cons hg
                      by_cases ex : i = x
                      · subst ex; exact List.mem_cons_self ..
                      · refine List.mem_cons_of_mem _ (ihr (x :: d) hg2 ?_)
                        simp only [List.contains_cons, hd, Bool.or_false]
                        simpa using ex
                  refine this r (p :: doneL) hgor ?_
                  simp only [List.contains_cons, hdone, Bool.or_false]
                  simpa using e
                have h1 := hinv.cl.mask hoi' hpi (hmask hcp i hir)
                have h2 := hinv.sub p h1
                rw [hnd] at h2; cases h2
            subst hip
            rw [hoi'] at hj; cases hj
            have hvirt : ∀ t ∈ names ops.toList oi, Tv t = tsF ops.toList 0 vs (lis listed) T t := fun t ht => by
              rw [hTv, hcan t ht]
              exact canon ho hinv.cd hoi' hnd hpd (fun _ _ => rfl) (mk_self ho hoi') t ht
            obtain ⟨o', hj', h5⟩ := hdr
            rw [hoi'] at hj'; cases hj'
            rw [if_pos hcp] at h5
            obtain ⟨hdst, h5⟩ := h5
            have hw2 : wantA ops.toList Tv oi = wantA ops.toList (tsF ops.toList 0 vs (lis listed) T) oi := wantA_congr fun t h => hvirt t (by simp [names, h])
            have he2 : evOp P oi Tv h' = evOp P oi (tsF ops.toList 0 vs (lis listed) T) h' := evOp_congr P h' fun t h => hvirt t (by simp [names, h])
            have hc2 : callA Tv oi = callA (tsF ops.toList 0 vs (lis listed) T) oi := callA_congr fun t h => hvirt t (by simp [names, h])
            have hgo3 : ∀ (v : AV) (h1 : Heap) (w'' : World) (μ'' : Mu) (u : Value), (h1 = h' ∨ Stab P N ops.toList i h1 F) → Dr2 P N ops.toList chain r F (updO Tv oi.dst v) h1 (fun T' h' => Q .normal T' h') → Mu.le μ' μ'' → RV μ'' v u → HR B0 μ'' h1 w'' → Below B0 w' w'' → wpAny P .any ops K fuel (listed.setIfInBounds i true) (a'.put oi.dst u) w'' := by
              intro v h1 w'' μ'' u hstab hdr' hp'' hu hr'' hb''
              have hvi : setV vs i v i = v := by simp [setV]
              have hneq : ∀ x, x ≠ i → setV vs i v x = vs x := fun x hx => by simp [setV, hx]
              have hin2 : inL (i :: doneL) = setB (inL doneL) i := setB_in doneL i
              have hold : ∀ j, (i :: doneL).contains j = true → j ≠ i → doneL.contains j = true := fun j hj hne => by
                have := congrFun hin2 j
                simp only [inL, setB, if_neg hne] at this
                rw [← this]; exact hj
              have hinv2 : Inv P N ops.toList chain T (lis (listed.setIfInBounds i true)) (i :: doneL) (setV vs i v) h1 F := by
                refine ⟨by rw [hset]; exact hclN, ?_, fun j hj => ?_, fun j hj hcj => ?_, fun j oj hj hdj hlj => ?_, fun j oj hj hdj hcj hpj => ?_⟩
                · rw [hin2]
                  intro j oj hj hsj p hp
                  simp only [setB] at hsj ⊢
                  split
                  · rfl
                  · split at hsj
                    · rename_i e; subst e; rw [hoi'] at hj; cases hj; exact hpd p hp
                    · exact hinv.cd j oj hj hsj p hp
                · rw [hset] at hj
                  simp only [setB] at hj
                  simp only [List.contains_cons]
                  split at hj
                  · rename_i e; subst e; simp
                  · rw [hinv.sub j hj, Bool.or_true]
                · rw [hset]; simp only [setB]
                  split
                  · rfl
                  · rename_i e; exact hinv.ch j (hold j hj e) hcj
                · rw [hset] at hlj
                  simp only [setB] at hlj
                  split at hlj
                  · cases hlj
                  · rename_i e
                    have hdj' := hold j hdj e
                    rw [hneq j e]
                    have hkeep := canon_keep (T0 := T) (vs := vs) ho hinv.cd hj (hinv.cd j oj hj hdj') hnd v
                    have hstj := hinv.st j oj hj hdj' hlj
                    have hncj : chain.contains j = false := by
                      cases hx : chain.contains j with
                      | false => rfl
                      | true => have := hinv.ch j hdj' hx; rw [hlj] at this; cases this
                    rcases hstab with rfl | hstab
                    · exact hstj.congr fun t _ => (hkeep t).symm
                    · cases hpj : pureOp oj with
                      | true =>
                        obtain ⟨q1, q2⟩ := hstj
                        refine StepOK.congr (T := tsF ops.toList 0 vs (mk ops.toList j) T) ⟨q1, ?_⟩ fun t _ => (hkeep t).symm
                        rcases q2 with q2 | ⟨q2, q3⟩
                        · exact .inl q2
                        · refine .inr ⟨q2, ?_⟩
                          rcases q3 with q3 | ⟨f, args, q3, _⟩
                          · exact .inl (pure_ev hpj q3)
                          · exfalso
                            unfold callA at q3
                            unfold pureOp at hpj
                            split at q3
                            · rename_i c hop
                              simp only [hop] at hpj
                              split at q3
                              · rename_i hcc; simp only [hcc] at hpj; cases hpj
                              · cases q3
                            · cases q3
                      | false =>
                        obtain ⟨Tj, g1, g2⟩ := hinv.fl j oj hj hdj' hncj hpj
                        rcases hstab.get g1 with g3 | g3
                        · exfalso
                          have := hinv.cl.mask hoi' hpi g3
                          rw [hlj] at this; cases this
                        · exact g3.congr fun t ht => by rw [g2 t ht, hkeep t]
                · by_cases e : j = i
                  · subst e; rw [hcp] at hcj; cases hcj
                  · have hdj' := hold j hdj e
                    obtain ⟨Tj, g1, g2⟩ := hinv.fl j oj hj hdj' hcj hpj
                    rw [hneq j e]
                    exact ⟨Tj, g1, fun t ht => by rw [g2 t ht, canon_keep ho hinv.cd hj (hinv.cd j oj hj hdj') hnd v t]⟩
              have hTv2 : ∀ t, updO Tv oi.dst v t = tsF ops.toList 0 (setV vs i v) (inL (i :: doneL)) T t := fun t => by
                rw [hin2, more ho hinv.cd hoi' hnd v t]; exact updO_at (hTv t)
              obtain ⟨r', d', v', F', T', k1, k2, k3, k4, k5, k6⟩ := adv ho r (i :: doneL) (setV vs i v) F (updO Tv oi.dst v) hgor hinv2 hTv2 hdr'
              refine ih _ _ w'' μ'' h1 r' d' v' F' T' (by simpa using hsz) k1 k2 k3 k4 k5 hcntN ?_ ?_ (hpre.trans hp'') hr'' (hb.trans hb'')
              · have hput := (hsr.mono hp'').put hdst hu
                refine ⟨hput.1, fun t => ?_⟩
                have h7 : tsF ops.toList 0 v' (lis (listed.setIfInBounds i true)) T t = tsF ops.toList 0 (setV vs i v) (lis (listed.setIfInBounds i true)) T t := tsF_agree t ops.toList 0 T T (fun x ox hx _ => ⟨rfl, fun hm => k6 _ hm⟩) rfl
                rw [h7, hset, more ho hinv.cl hoi' hif v t]
                exact hput.2 t
              · rw [← hdf]; cases oi.dst <;> rfl
            rcases h5 with ⟨hw, hdr'⟩ | ⟨hw, hcase⟩
            · rw [hw2] at hw
              rw [wantA_ok hsr hw]
              simp only [Bool.false_eq_true, if_false]
              exact hgo3 undefA h' w' μ' undef (.inl rfl) hdr' (Mu.le_refl _) R_undef hrr (Below.refl _ _)
            · rw [hw2] at hw
              rw [wantA_ok hsr hw]
              simp only [if_true]
              left
              rcases hcase with ⟨v, h1, he, hstab, hdr'⟩ | ⟨f, args, hcall, hpl, hfn⟩
              · rw [he2] at he
                obtain ⟨nx, w1, μ1, hrun, hval, hmm, hr1, hb1⟩ := evOp_ok P he hsr.2 hrr
                rcases hval with ⟨u, rfl, hu⟩ | ⟨rfl, hvu⟩
                · show oi.upon P a' _ _ _
                  rw [hrun]
                  exact hgo3 v h1 w1 μ1 u (.inr hstab) hdr' hmm hu hr1 hb1
                · show oi.upon P a' _ _ _
                  rw [hrun]
                  exact hgo3 v h1 w1 μ1 undef (.inr hstab) hdr' hmm (by rw [hvu]; exact R_undef) hr1 hb1
              · rw [hc2] at hcall
                obtain ⟨us, hrun, hus⟩ := callA_ok hcall hpl hsr.2 w'
                show oi.upon P a' _ _ _
                rw [hrun]
                refine Calls.mono (hfn B0 μ' w' us hrr hus) ?_
                rintro e w1 ⟨u, v, h1, μ1, rfl, ⟨hstab, hdr'⟩, hu, hmm, hr1, hb1⟩
                exact hgo3 v h1 w1 μ1 u (.inr hstab) hdr' hmm hu hr1 hb1
  -- the start
  have hinv0 : Inv P N ops.toList chain T (lis (Array.replicate ops.size false)) [] (fun _ => undefA) h [] := by
    have hno : ∀ j, lis (Array.replicate ops.size false) j = false := fun j => by
      show (Array.replicate ops.size false).getD j false = false
      simp only [Array.getD_eq_getD_getElem?, Array.getElem?_replicate]
      split <;> rfl
    exact ⟨fun j o _ hs => (by rw [hno] at hs; cases hs), fun j o _ hs => (by simp [inL] at hs), fun j hs => (by rw [hno] at hs; cases hs), fun j hs => (by simp at hs), fun j o _ hs => (by simp at hs), fun j o _ hs => (by simp at hs)⟩
  have hz : ∀ (S : Nat → Bool), (∀ x, S x = false) → ∀ t, tsF ops.toList 0 (fun _ => undefA) S T t = T t := fun S hS t => tsF_none t ops.toList 0 T fun i o _ _ => hS _
  obtain ⟨r', d', v', F', T', k1, k2, k3, k4, k5, k6⟩ := adv ho ord [] (fun _ => undefA) [] T hord hinv0 (fun t => (hz _ (fun x => by simp [inL]) t).symm) hd
  refine key ops.size (Array.replicate ops.size false) a w.drew μ h r' d' v' F' T' (by simp) k1 k2 k3 k4 k5 ?_ ⟨hs.1, fun t => ?_⟩ rfl (Mu.le_refl _) hr.drew (Below.refl _ _).drew
  · refine Nat.le_trans (List.length_filter_le _ _) ?_
    simp
  · have e : tsF ops.toList 0 v' (lis (Array.replicate ops.size false)) T t = T t := tsF_none t ops.toList 0 T fun i o _ _ => by
      show (Array.replicate ops.size false).getD _ false = false
      simp only [Array.getD_eq_getD_getElem?, Array.getElem?_replicate]
      split <;> rfl
    rw [e]; exact hs.2 t
end Rv
