import Derived.Test.YtnlpkgamglhnbaaRvEq
set_option linter.unusedVariables false
set_option linter.unusedSimpArgs false
namespace Rv
open Go Go.RowKit

def partsA (T : Nat → AV) : List (Nat × Operand) → Option (List (Nat × V1))
  | [] => some []
  | (i, x) :: r => match aev T x, partsA T r with
    | some (.o v), some l => some ((i, v) :: l)
    | _, _ => none
theorem partsA_ok {μ : Mu} {T : Nat → AV} {a : Act} (ht : TR μ T a) : ∀ {ps : List (Nat × Operand)} {l : List (Nat × V1)}, partsA T ps = some l → R2 (fun a b => a.1 = b.1 ∧ R1 μ a.2 b.2) l (ps.map fun (i, x) => (i, a.eval x)) := by
  intro ps
  induction ps with
  | nil => intro l h; obtain rfl := Option.some.inj h; exact R2.nil _
  | cons p r ih =>
    intro l h
    obtain ⟨i, x⟩ := p
    simp only [partsA] at h
    split at h
    · rename_i v l' hv hl
      obtain rfl := Option.some.inj h
      have := aev_ok ht hv
      exact R2.cons ⟨rfl, this⟩ (ih hl)
    · cases h
def argsA (T : Nat → AV) : List Operand → Option (List AV)
  | [] => some []
  | x :: r => match aev T x, argsA T r with
    | some v, some l => some (v :: l)
    | _, _ => none
theorem argsA_ok {μ : Mu} {T : Nat → AV} {a : Act} (ht : TR μ T a) : ∀ {ps : List Operand} {l : List AV}, argsA T ps = some l → R2 (RV μ) l (ps.map a.eval) := by
  intro ps
  induction ps with
  | nil => intro l h; obtain rfl := Option.some.inj h; exact R2.nil _
  | cons x r ih =>
    intro l h
    simp only [argsA] at h
    split at h
    · rename_i v l' hv hl
      obtain rfl := Option.some.inj h
      exact R2.cons (aev_ok ht hv) (ih hl)
    · cases h
def capsA (T : Nat → AV) : List Operand → Option (List (Nat × Nat))
  | [] => some []
  | x :: r => match aev T x, capsA T r with
    | some (.o (.c (.ptr b o))), some l => some ((b, o) :: l)
    | _, _ => none
theorem capsA_ok {μ : Mu} {T : Nat → AV} {a : Act} (ht : TR μ T a) : ∀ {ps : List Operand} {l : List (Nat × Nat)}, capsA T ps = some l → R2 (RP μ) l (ps.map a.eval) := by
  intro ps
  induction ps with
  | nil => intro l h; obtain rfl := Option.some.inj h; exact R2.nil _
  | cons x r ih =>
    intro l h
    simp only [capsA] at h
    split at h
    · rename_i b o l' hv hl
      obtain rfl := Option.some.inj h
      exact R2.cons (aev_ok ht hv) (ih hl)
    · cases h
def optA (T : Nat → AV) : Option Operand → Option (Option Value)
  | none => some none
  | some x => match sev T x with
    | some v => some (some v)
    | none => none
theorem optA_ok {μ : Mu} {T : Nat → AV} {a : Act} (ht : TR μ T a) {x : Option Operand} {v : Option Value} (h : optA T x = some v) : x.map a.eval = v := by
  cases x with
  | none => obtain rfl := Option.some.inj h; rfl
  | some x =>
    simp only [optA] at h
    split at h
    · rename_i u hu
      obtain rfl := Option.some.inj h
      simp [(sev_ok ht hu).1]
    · cases h

def scal : Value → Bool
  | .int _ _ | .bool _ | .string _ => true
  | _ => false
def cellVals : List Cell → Option (List Value)
  | [] => some []
  | .v x :: r => match cellVals r with
    | some l => some (x :: l)
    | none => none
  | _ :: _ => none
theorem cellVals_ok {μ : Mu} : ∀ {cs : List Cell} {l us : List Value}, cellVals cs = some l → R2 (RC μ) cs us → us = l := by
  intro cs
  induction cs with
  | nil => intro l us h hr; obtain rfl := Option.some.inj h; exact List.eq_nil_of_length_eq_zero (by simpa using hr.1.symm)
  | cons c r ih =>
    intro l us h hr
    obtain ⟨u, us', rfl⟩ : ∃ u us', us = u :: us' := by
      cases us with
      | nil => simp [R2] at hr
      | cons u us => exact ⟨u, us, rfl⟩
    have hr' : R2 (RC μ) r us' := ⟨by simpa using hr.1, fun k a b ha hb => hr.2 (k + 1) a b (by simpa using ha) (by simpa using hb)⟩
    have hc := hr.2 0 c u rfl rfl
    cases c with
    | v x =>
      simp only [cellVals] at h
      split at h
      · rename_i l' hl
        obtain rfl := Option.some.inj h
        obtain ⟨rfl, _⟩ := hc
        rw [ih hl hr']
      · cases h
    | _ => simp [cellVals] at h

/-- Is the type a slice's (a pointer's, a function's)? -/
def isSliceT (P : Program) (t : TypeId) : Bool := match P.underlying t with | some (.slice _) => true | _ => false
def nilCmp (op : BinOp) (r : Bool) : Option Value := match op with | .eql => some (.bool r) | .neq => some (.bool (!r)) | _ => none
def evBin (P : Program) (op : BinOp) (t : TypeId) (x y : AV) : Option Value :=
  match x, y with
  | .o (.c (.v u)), .o (.c (.v v)) =>
    if scal u = true ∧ scal v = true then binV P op t u v
    else match u, v with
      | .slice none 0 0, .slice none 0 0 => if isSliceT P t = true then nilCmp op true else none
      | _, _ => none
  | .o (.c (.sl _ _ _ _ _ _)), .o (.c (.v (.slice none 0 0))) => if isSliceT P t = true then nilCmp op false else none
  | .o (.agg xs), .o (.agg ys) => match cellVals xs, cellVals ys with
    | some us, some vs => eEqAgg P op t us.toArray vs.toArray
    | _, _ => none
  | _, _ => none
theorem isSliceT_ok {P : Program} {t : TypeId} (h : isSliceT P t = true) : ∃ e, P.underlying t = some (.slice e) := by
  unfold isSliceT at h
  split at h
  · rename_i e he; exact ⟨e, he⟩
  · cases h
theorem equalIn_slice (P : Program) (d : Nat) (t e : TypeId) (A : Option Addr) (n c : Nat) (w : World) (hu : P.underlying t = some (.slice e)) : (Op.equalIn (d + 1) t (.slice A n c) (.slice none 0 0)).run P w = .ok A.isNone w := by
  cases A <;> simp only [Op.equalIn, Sem.run_bind, run_underlying hu, Result.andThen_ok, Sem.run_pure] <;> rfl
theorem nilCmp_ok (P : Program) {op : BinOp} {t : TypeId} {A : Option Addr} {n c : Nat} {r : Value} (h : nilCmp op A.isNone = some r) (hs : isSliceT P t = true) (X Y : Operand) (w : World) :
    (do eqGuard op t X Y (.slice A n c) (.slice none 0 0); binOp op t (.slice A n c) (.slice none 0 0) : Sem Value).run P w = .ok r w ∧ r.oneCell' = true := by
  obtain ⟨e, hu⟩ := isSliceT_ok hs
  have h1 : (Op.equal t (.slice A n c) (.slice none 0 0)).run P w = .ok A.isNone w := equalIn_slice P 9999 t e A n c w hu
  rw [eqGuard_at_slice]
  cases op <;> simp only [nilCmp] at h
  case eql =>
    obtain rfl := Option.some.inj h
    have e1 : binOp .eql t (.slice A n c) (.slice none 0 0) = (do pure (.bool (← Op.equal t (.slice A n c) (.slice none 0 0)))) := rfl
    rw [e1]
    exact ⟨by simp [h1], rfl⟩
  case neq =>
    obtain rfl := Option.some.inj h
    have e1 : binOp .neq t (.slice A n c) (.slice none 0 0) = (do pure (.bool (!(← Op.equal t (.slice A n c) (.slice none 0 0))))) := rfl
    rw [e1]
    exact ⟨by simp [h1], rfl⟩
  all_goals cases h
theorem evBin_ok (P : Program) {op : BinOp} {t : TypeId} {x y : AV} {r : Value} (h : evBin P op t x y = some r) {μ : Mu} {u v : Value} (hx : RV μ x u) (hy : RV μ y v) (X Y : Operand) (w : World) :
    (do eqGuard op t X Y u v; binOp op t u v : Sem Value).run P w = .ok r w ∧ r.oneCell' = true := by
  unfold evBin at h
  split at h
  · obtain ⟨rfl, _⟩ := hx
    obtain ⟨rfl, _⟩ := hy
    split at h
    · exact binV_ok P op t X Y _ _ r w h
    · split at h
      · split at h
        · rename_i hs
          exact nilCmp_ok P (A := none) h hs X Y w
        · cases h
      · cases h
  · obtain ⟨l, c', _, rfl, _⟩ := hx
    obtain ⟨rfl, _⟩ := hy
    split at h
    · rename_i hs
      exact nilCmp_ok P (A := some _) h hs X Y w
    · cases h
  · obtain ⟨us, rfl, h1⟩ := hx
    obtain ⟨vs, rfl, h2⟩ := hy
    split at h
    · rename_i a b ha hb
      have e1 := cellVals_ok ha h1
      have e2 := cellVals_ok hb h2
      have e1' : us = a.toArray := by rw [← e1]
      have e2' : vs = b.toArray := by rw [← e2]
      rw [e1', e2']
      exact eEqAgg_ok h X Y w
    · cases h
  · cases h

/-- min and max of two whole numbers. -/
def mm (mx : Bool) : List AV → Option Value
  | [x, y] => match x.val, y.val with
    | some (.int k a), some (.int _ b) => if mx = true then some (.int k (if b > a then b else a)) else some (.int k (if b < a then b else a))
    | _, _ => none
  | _ => none

/-- One operation; no call of a Go function. -/
def evOp (P : Program) (o : Oper) (T : Nat → AV) (h : Heap) : Option (AV × Heap) :=
  match o.op with
  | .move x | .assign x => match aev T x with | some v => some (v, h) | none => none
  | .pick c a b => match sev T c with
    | some (.bool t) => match aev T (if t = true then a else b) with | some v => some (v, h) | none => none
    | _ => none
  | .alloc e => match zeroOf P e with | some cs => some (.o (.c (.ptr h.length 0)), h ++ [⟨cs, true, true⟩]) | none => none
  | .box e x => match aev T x with | some (.o v) => some (.o (.c (.ptr h.length 0)), h ++ [⟨v.cells, true, true⟩]) | _ => none
  | .build t ps => match partsA T ps.toList with
    | some l => match eBuild P t l with | some v => some (.o v, h) | none => none
    | none => none
  | .buildSlice t n ps => match partsA T ps.toList with
    | some l => match eLit P t n l with | some c => some (.o (.c c), h) | none => none
    | none => none
  | .load t a => match aev T a with
    | some (.o (.c (.ptr b o))) => match eLoad P t b o h with | some v => some (v, h) | none => none
    | some (.o (.c (.rp cs))) => match eLoadR P t cs with | some v => some (v, h) | none => none
    | _ => none
  | .store t a x => match aev T a, aev T x with
    | some (.o (.c (.ptr b o))), some (.o v) => match eStore P t b o v h with | some h' => some (undefA, h') | none => none
    | _, _ => none
  | .nilCheck x => match aev T x with
    | some (.o (.c (.ptr b o))) => some (.o (.c (.ptr b o)), h)
    | some (.o (.c (.rp cs))) => some (.o (.c (.rp cs)), h)
    | _ => none
  | .binOp op t x y _ => match aev T x, aev T y with
    | some u, some v => match evBin P op t u v with | some r => some (.o (.c (.v r)), h) | none => none
    | _, _ => none
  | .unOp op _ x => match sev T x with
    | some u => match unV op u with | some r => some (.o (.c (.v r)), h) | none => none
    | none => none
  | .convert s d x => match sev T x with
    | some u => match convV P s d u with | some r => some (.o (.c (.v r)), h) | none => none
    | none => none
  | .makeFunc (.func f) first caps => if first.size = 0 then match capsA T caps.toList with | some l => some (.o (.c (.fn f l)), h) | none => none else none
  | .makeSlice t n c => match sev T n, sev T c with
    | some (.int _ a), some (.int _ b) => match eMake P t a b h with | some (x, h') => some (.o (.c x), h') | none => none
    | _, _ => none
  | .slice t x lo hi mx => match aev T x, optA T lo, optA T hi, optA T mx with
    | some (.o (.c c)), some l, some hh, some m => match eSliceC P t c l hh m with | some r => some (.o (.c r), h) | none => none
    | _, _, _, _ => none
  | .fieldAddr s x f => match aev T x with
    | some (.o (.c (.ptr b o))) => match eFieldAddr P s b o f with | some v => some (v, h) | none => none
    | some (.o (.c (.rp cs))) => match eFieldR P s cs f with | some v => some (v, h) | none => none
    | _ => none
  | .field s x f => match aev T x with
    | some (.o (.agg cs)) => match eField P s cs f with | some v => some (v, h) | none => none
    | _ => none
  | .indexAddr t x i => match aev T x, sev T i with
    | some (.o (.c (.ptr b o))), some (.int _ n) => match eIndexArr P t b o n with | some v => some (v, h) | none => none
    | some (.o (.c (.sl b o n _ _ _))), some (.int _ j) => match eIndexSl P t b o n j with | some v => some (v, h) | none => none
    | some (.o (.c (.rd b o n _))), some (.int _ j) => match eIndexSl P t b o n j with | some v => some (v, h) | none => none
    | some (.o (.c (.g b n _ _))), some (.int _ j) => match eIndexSl P t b 0 n j with | some v => some (v, h) | none => none
    | some (.o (.c (.L k xs))), some (.int _ j) => match eIndexL P t k xs j with | some v => some (v, h) | none => none
    | some (.o (.c (.LC k xs))), some (.int _ j) => match eIndexL P t k xs j with | some v => some (v, h) | none => none
    | some (.o (.c (.rp cs))), some (.int _ j) => match eIndexR P t cs j with | some v => some (v, h) | none => none
    | _, _ => none
  | .index t x i => match aev T x, sev T i with
    | some (.o (.c (.v (.string s)))), some (.int _ n) => match eIndexS P t s n with | some v => some (.o (.c (.v v)), h) | none => none
    | some (.o (.agg cs)), some (.int _ n) => match eIndexA P t cs n with | some v => some (v, h) | none => none
    | _, _ => none
  | .extract t i => match aev T t with
    | some (.tup xs) => match xs[i]? with | some v => some (.o v, h) | none => none
    | _ => none
  | .call c => match c.callee with
    | .builtin b => match b, c.argTypes.toList, argsA T c.args.toList with
      | .len, [t], some [x] => match eLen P t x with | some n => some (.o (.c (.v (.int .i64 n))), h) | none => none
      | .cap, [t], some [x] => match eCap P t x with | some n => some (.o (.c (.v (.int .i64 n))), h) | none => none
      | .append, [t, t'], some [.o (.c s), .o (.c x)] => if t = t' then match eAppend P t s x h with | some (r, h') => some (.o (.c r), h') | none => none else none
      | .copy, [t, _], some [.o (.c d), .o (.c x)] => match eCopy P t d x h with | some (n, h') => some (.o (.c (.v (.int .i64 n))), h') | none => none
      | .clear, [t], some [.o (.c x)] => match eClear P t x h with | some h' => some (undefA, h') | none => none
      | .min, _, some l => match mm false l with | some v => some (.o (.c (.v v)), h) | none => none
      | .max, _, some l => match mm true l with | some v => some (.o (.c (.v v)), h) | none => none
      | _, _, _ => none
    | _ => none
  | _ => none

/-- What is said of one operation that has run. -/
def Ran (P : Program) (o : Oper) (a : Act) (B0 : Pt) (μ : Mu) (w : World) (v : AV) (h' : Heap) : Prop :=
  ∃ nx w' μ', (execOp a.eval o).run P w = .ok nx w' ∧ ((∃ u, nx = .value u ∧ RV μ' v u) ∨ (nx = .skip ∧ v = undefA)) ∧ Mu.le μ μ' ∧ HR B0 μ' h' w' ∧ Bel B0 w w'
theorem ran_still {P : Program} {o : Oper} {a : Act} {B0 : Pt} {μ : Mu} {w : World} {v : AV} {h : Heap} {s : Sem Value} (hr : HR B0 μ h w) (e : execOp a.eval o = (do pure (Next.value (← s)))) {u : Value} (hs : s.run P w = .ok u w) (hv : RV μ v u) : Ran P o a B0 μ w v h :=
  ⟨.value u, w, μ, by rw [e]; simp [hs], .inl ⟨u, rfl, hv⟩, Mu.le_refl _, hr, Bel.refl _ _⟩
theorem ran_new {P : Program} {o : Oper} {a : Act} {B0 : Pt} {μ : Mu} {w : World} {v : AV} {h' : Heap} {s : Sem Value} (e : execOp a.eval o = (do pure (Next.value (← s)))) {u : Value} {w' : World} {μ' : Mu} (hs : s.run P w = .ok u w') (hm : Mu.le μ μ') (hr : HR B0 μ' h' w') (hv : RV μ' v u) (hb : Bel B0 w w') : Ran P o a B0 μ w v h' :=
  ⟨.value u, w', μ', by rw [e]; simp [hs], .inl ⟨u, rfl, hv⟩, hm, hr, hb⟩
theorem ran_unit {P : Program} {o : Oper} {a : Act} {B0 : Pt} {μ : Mu} {w : World} {h' : Heap} {s : Sem Unit} (e : execOp a.eval o = (do s; pure Next.skip)) {w' : World} (hs : s.run P w = .ok () w') (hr : HR B0 μ h' w') (hb : Bel B0 w w') : Ran P o a B0 μ w undefA h' :=
  ⟨.skip, w', μ, by rw [e]; simp [hs], .inr ⟨rfl, rfl⟩, Mu.le_refl _, hr, hb⟩

theorem exec_builtin {o : Oper} {a : Act} {c : Call} {b : Builtin} (ho : o.op = .call c) (hc : c.callee = .builtin b) :
    ∃ cs, execOp a.eval o = builtin b c.argTypes o.type cs (c.args.toList.map a.eval).toArray := by
  have h1 : c.args.map a.eval = (c.args.toList.map a.eval).toArray := by
    apply Array.ext'
    simp
  simp only [execOp, ho, resolve, hc, invoke, pure_bind, h1]
  exact ⟨_, rfl⟩

theorem R2.two {α β : Type} {R : α → β → Prop} {x y : α} {ys : List β} (h : R2 R [x, y] ys) : ∃ a b, ys = [a, b] ∧ R x a ∧ R y b := by
  obtain ⟨h1, h2⟩ := h
  match ys, h1 with
  | [a, b], _ => exact ⟨a, b, rfl, h2 0 _ _ rfl rfl, h2 1 _ _ rfl rfl⟩
theorem R2.single {α β : Type} {R : α → β → Prop} {x : α} {ys : List β} (h : R2 R [x] ys) : ∃ a, ys = [a] ∧ R x a := by
  obtain ⟨h1, h2⟩ := h
  match ys, h1 with
  | [a], _ => exact ⟨a, rfl, h2 0 _ _ rfl rfl⟩
theorem mm_ok (P : Program) {mx : Bool} {l : List AV} {r : Value} (h : mm mx l = some r) {μ : Mu} {us : List Value} (hu : R2 (RV μ) l us) (ts : Array TypeId) (ty : TypeId) (w : World) :
    (if mx = true then Builtin.max_ ts ty us.toArray else Builtin.min_ ts ty us.toArray).run P w = .ok r w ∧ r.oneCell' = true := by
  unfold mm at h
  split at h
  · rename_i x y
    obtain ⟨a, b, rfl, hx, hy⟩ := R2.two hu
    split at h
    · rename_i k m k' n h1 h2
      obtain ⟨rfl, _⟩ := val_ok h1 hx
      obtain ⟨rfl, _⟩ := val_ok h2 hy
      split at h
      · rename_i hm
        obtain rfl := Option.some.inj h
        exact ⟨by simp [hm, Builtin.max_, Builtin.max2], rfl⟩
      · rename_i hm
        obtain rfl := Option.some.inj h
        exact ⟨by simp [hm, Builtin.min_, Builtin.min2], rfl⟩
    · cases h
  · cases h

theorem evOp_call (P : Program) {o : Oper} {T : Nat → AV} {h h' : Heap} {v : AV} {c : Call} (hop : o.op = .call c) (he : evOp P o T h = some (v, h')) {B0 : Pt} {μ : Mu} {a : Act} {w : World} (ht : TR μ T a) (hr : HR B0 μ h w) : Ran P o a B0 μ w v h' := by
  simp only [evOp, hop] at he
  split at he
  · rename_i b hc
    obtain ⟨cs, hex⟩ := exec_builtin (a := a) hop hc
    split at he
    · -- len
      rename_i t x hts hargs
      split at he
      · rename_i n hn
        obtain ⟨rfl, rfl⟩ := Prod.mk.inj (Option.some.inj he)
        have hts' : c.argTypes = #[t] := by apply Array.ext'; simpa using hts
        obtain ⟨u, hu, hx⟩ := R2.single (argsA_ok ht hargs)
        rw [hts', hu] at hex
        exact ran_still hr hex (eLen_ok P hn w hx) ⟨rfl, rfl⟩
      · cases he
    · rename_i t x hts hargs
      split at he
      · rename_i n hn
        obtain ⟨rfl, rfl⟩ := Prod.mk.inj (Option.some.inj he)
        have hts' : c.argTypes = #[t] := by apply Array.ext'; simpa using hts
        obtain ⟨u, hu, hx⟩ := R2.single (argsA_ok ht hargs)
        rw [hts', hu] at hex
        exact ran_still hr hex (eCap_ok P hn w hx) ⟨rfl, rfl⟩
      · cases he
    · -- append
      rename_i t t' s x hts hargs
      split at he
      · rename_i htt
        subst htt
        split at he
        · rename_i r hh hap
          obtain ⟨rfl, rfl⟩ := Prod.mk.inj (Option.some.inj he)
          have hts' : c.argTypes = #[t, t] := by apply Array.ext'; simpa using hts
          obtain ⟨u, u', hu, hs, hx⟩ := R2.two (argsA_ok ht hargs)
          rw [hts', hu] at hex
          obtain ⟨v, w', μ', h1, h2, h3, h4, h5⟩ := eAppend_ok P (ty := o.type) hap hr hs hx
          exact ran_new hex h1 h2 h3 h4 h5
        · cases he
      · cases he
    · -- copy
      rename_i t t2 d x hts hargs
      split at he
      · rename_i n hh hcp
        obtain ⟨rfl, rfl⟩ := Prod.mk.inj (Option.some.inj he)
        have hts' : c.argTypes = #[t, t2] := by apply Array.ext'; simpa using hts
        obtain ⟨u, u', hu, hd, hx⟩ := R2.two (argsA_ok ht hargs)
        rw [hts', hu] at hex
        obtain ⟨w', h1, h2, h3⟩ := eCopy_ok P (t2 := t2) (ty := o.type) hcp hr hd hx
        exact ran_new hex h1 (Mu.le_refl _) h2 ⟨rfl, rfl⟩ h3
      · cases he
    · -- clear
      rename_i t x hts hargs
      split at he
      · rename_i hh hcl
        obtain ⟨rfl, rfl⟩ := Prod.mk.inj (Option.some.inj he)
        have hts' : c.argTypes = #[t] := by apply Array.ext'; simpa using hts
        obtain ⟨u, hu, hx⟩ := R2.single (argsA_ok ht hargs)
        rw [hts', hu] at hex
        obtain ⟨w', h1, h2, h3⟩ := eClear_ok P (ty := o.type) hcl hr hx
        exact ran_new hex h1 (Mu.le_refl _) h2 ⟨#[], rfl, R2.nil _⟩ h3
      · cases he
    · rename_i l hargs
      split at he
      · rename_i r hm
        obtain ⟨rfl, rfl⟩ := Prod.mk.inj (Option.some.inj he)
        have := mm_ok P hm (argsA_ok ht hargs) c.argTypes o.type w
        exact ran_still hr hex this.1 (R_val this.2)
      · cases he
    · rename_i l hargs
      split at he
      · rename_i r hm
        obtain ⟨rfl, rfl⟩ := Prod.mk.inj (Option.some.inj he)
        have := mm_ok P hm (argsA_ok ht hargs) c.argTypes o.type w
        exact ran_still hr hex this.1 (R_val this.2)
      · cases he
    · cases he
  · cases he

theorem evOp_ok (P : Program) {o : Oper} {T : Nat → AV} {h h' : Heap} {v : AV} (he : evOp P o T h = some (v, h')) {B0 : Pt} {μ : Mu} {a : Act} {w : World} (ht : TR μ T a) (hr : HR B0 μ h w) : Ran P o a B0 μ w v h' := by
  cases hop : o.op with
  | call c => exact evOp_call P hop he ht hr
  | move x =>
    simp only [evOp, hop] at he
    split at he
    · rename_i u hu
      obtain ⟨rfl, rfl⟩ := Prod.mk.inj (Option.some.inj he)
      exact ran_still hr (s := pure (a.eval x)) (by simp [execOp, hop]) rfl (aev_ok ht hu)
    · cases he
  | assign x =>
    simp only [evOp, hop] at he
    split at he
    · rename_i u hu
      obtain ⟨rfl, rfl⟩ := Prod.mk.inj (Option.some.inj he)
      exact ran_still hr (s := pure (a.eval x)) (by simp [execOp, hop]) rfl (aev_ok ht hu)
    · cases he
  | pick c x y =>
    simp only [evOp, hop] at he
    split at he
    · rename_i t hc
      split at he
      · rename_i u hu
        obtain ⟨rfl, rfl⟩ := Prod.mk.inj (Option.some.inj he)
        have hcv := (sev_ok ht hc).1
        exact ran_still hr (s := pure (a.eval (if t = true then x else y))) (by cases t <;> simp [execOp, hop, hcv, asBool]) rfl (aev_ok ht hu)
      · cases he
    · cases he
  | alloc e =>
    simp only [evOp, hop] at he
    split at he
    · rename_i cs hz
      obtain ⟨rfl, rfl⟩ := Prod.mk.inj (Option.some.inj he)
      obtain ⟨r, w', l, h1, h2, h3, h4⟩ := eAlloc_ok P hz hr
      exact ran_new (by simp only [execOp, hop]) h1 (Mu.le_add _ _) h2 h3 h4
    · cases he
  | box e x =>
    simp only [evOp, hop] at he
    split at he
    · rename_i u hu
      obtain ⟨rfl, rfl⟩ := Prod.mk.inj (Option.some.inj he)
      obtain ⟨r, w', l, h1, h2, h3, h4⟩ := eBox_ok P (e := e) hr (aev_ok ht hu)
      exact ran_new (by simp only [execOp, hop]) h1 (Mu.le_add _ _) h2 h3 h4
    · cases he
  | build t ps =>
    simp only [evOp, hop] at he
    split at he
    · rename_i l hl
      split at he
      · rename_i u hu
        obtain ⟨rfl, rfl⟩ := Prod.mk.inj (Option.some.inj he)
        obtain ⟨r, h1, h2⟩ := eBuild_ok P hu w (vparts := ps.map fun (i, x) => (i, a.eval x)) (by simpa using partsA_ok ht hl)
        exact ran_still hr (by simp only [execOp, hop]) h1 h2
      · cases he
    · cases he
  | buildSlice t n ps =>
    simp only [evOp, hop] at he
    split at he
    · rename_i l hl
      split at he
      · rename_i c hu
        obtain ⟨rfl, rfl⟩ := Prod.mk.inj (Option.some.inj he)
        obtain ⟨r, w', μ', h1, h2, h3, h4, h5⟩ := eLit_ok P hu hr (vparts := ps.map fun (i, x) => (i, a.eval x)) (by simpa using partsA_ok ht hl)
        exact ran_new (by simp only [execOp, hop]) h1 h2 h3 h4 h5
      · cases he
    · cases he
  | load t x =>
    simp only [evOp, hop] at he
    split at he
    · rename_i b q hx
      split at he
      · rename_i u hu
        obtain ⟨rfl, rfl⟩ := Prod.mk.inj (Option.some.inj he)
        obtain ⟨r, h1, h2⟩ := eLoad_ok P hu hr (aev_ok ht hx)
        exact ran_still hr (by simp only [execOp, hop]) h1 h2
      · cases he
    · rename_i cs hx
      split at he
      · rename_i u hu
        obtain ⟨rfl, rfl⟩ := Prod.mk.inj (Option.some.inj he)
        obtain ⟨r, h1, h2⟩ := eLoadR_ok P hu hr (aev_ok ht hx)
        exact ran_still hr (by simp only [execOp, hop]) h1 h2
      · cases he
    · cases he
  | store t x y =>
    simp only [evOp, hop] at he
    split at he
    · rename_i b q u hx hy
      split at he
      · rename_i hh hs
        obtain ⟨rfl, rfl⟩ := Prod.mk.inj (Option.some.inj he)
        obtain ⟨w', h1, h2, h3⟩ := eStore_ok P hs hr (aev_ok ht hx) (aev_ok ht hy)
        exact ran_unit (by simp only [execOp, hop]) h1 h2 h3
      · cases he
    · cases he
  | nilCheck x =>
    simp only [evOp, hop] at he
    split at he
    · rename_i b q hx
      obtain ⟨rfl, rfl⟩ := Prod.mk.inj (Option.some.inj he)
      have hp := aev_ok ht hx
      have hp' := hp
      obtain ⟨l, hm, hu⟩ := hp'
      exact ran_still hr (s := pure (a.eval x)) (by simp [execOp, hop, hu]) rfl hp
    · rename_i cs hx
      obtain ⟨rfl, rfl⟩ := Prod.mk.inj (Option.some.inj he)
      have hp := aev_ok ht hx
      have hp' := hp
      obtain ⟨B, o, hu, _⟩ := hp'
      exact ran_still hr (s := pure (a.eval x)) (by simp [execOp, hop, hu]) rfl hp
    · cases he
  | binOp op t x y yt =>
    simp only [evOp, hop] at he
    split at he
    · rename_i u u' hx hy
      split at he
      · rename_i r hb
        obtain ⟨rfl, rfl⟩ := Prod.mk.inj (Option.some.inj he)
        have := evBin_ok P hb (aev_ok ht hx) (aev_ok ht hy) x y w
        exact ran_still hr (by simp only [execOp, hop]) this.1 (R_val this.2)
      · cases he
    · cases he
  | unOp op t x =>
    simp only [evOp, hop] at he
    split at he
    · rename_i u hx
      split at he
      · rename_i r hb
        obtain ⟨rfl, rfl⟩ := Prod.mk.inj (Option.some.inj he)
        have := unV_ok P op u r w hb
        exact ran_still hr (s := Op.unary op u) (by simp only [execOp, hop, (sev_ok ht hx).1]) this.1 (R_val this.2)
      · cases he
    · cases he
  | convert s d x =>
    simp only [evOp, hop] at he
    split at he
    · rename_i u hx
      split at he
      · rename_i r hb
        obtain ⟨rfl, rfl⟩ := Prod.mk.inj (Option.some.inj he)
        have := convV_ok P s d u r w hb
        exact ran_still hr (s := convert s d u) (by simp only [execOp, hop, (sev_ok ht hx).1]) this.1 (R_val this.2)
      · cases he
    · cases he
  | makeFunc fn first caps =>
    cases fn with
    | func f =>
      simp only [evOp, hop] at he
      split at he
      · rename_i h0
        split at he
        · rename_i l hl
          obtain ⟨rfl, rfl⟩ := Prod.mk.inj (Option.some.inj he)
          have hf : first = #[] := Array.eq_empty_of_size_eq_zero h0
          exact ran_still hr (s := Instr.makeFunc (.func f) (first.map a.eval) (caps.map a.eval)) (by simp only [execOp, hop]) rfl ⟨caps.map a.eval, by rw [hf]; simp, by simpa using capsA_ok ht hl⟩
        · cases he
      · cases he
    | _ => simp [evOp, hop] at he
  | makeSlice t n c =>
    simp only [evOp, hop] at he
    split at he
    · rename_i k1 i1 k2 i2 hn hc
      split at he
      · rename_i x hh hm
        obtain ⟨rfl, rfl⟩ := Prod.mk.inj (Option.some.inj he)
        obtain ⟨r, w', l, h1, h2, h3, h4⟩ := eMake_ok P hm k1 k2 hr
        exact ran_new (by simp only [execOp, hop, (sev_ok ht hn).1, (sev_ok ht hc).1]) h1 (Mu.le_add _ _) h2 h3 h4
      · cases he
    · cases he
  | slice t x lo hi mx =>
    simp only [evOp, hop] at he
    split at he
    · rename_i c l hh m hx hlo hhi hmx
      split at he
      · rename_i r hs
        obtain ⟨rfl, rfl⟩ := Prod.mk.inj (Option.some.inj he)
        obtain ⟨u, h1, h2⟩ := eSliceC_ok P hs w (aev_ok ht hx)
        exact ran_still hr (by simp only [execOp, hop, optA_ok ht hlo, optA_ok ht hhi, optA_ok ht hmx]) h1 h2
      · cases he
    · cases he
  | fieldAddr s x f =>
    simp only [evOp, hop] at he
    split at he
    · rename_i b q hx
      split at he
      · rename_i u hu
        obtain ⟨rfl, rfl⟩ := Prod.mk.inj (Option.some.inj he)
        obtain ⟨r, h1, h2⟩ := eFieldAddr_ok P hu w (aev_ok ht hx)
        exact ran_still hr (by simp only [execOp, hop]) h1 h2
      · cases he
    · rename_i cs hx
      split at he
      · rename_i u hu
        obtain ⟨rfl, rfl⟩ := Prod.mk.inj (Option.some.inj he)
        obtain ⟨r, h1, h2⟩ := eFieldR_ok P hu w (aev_ok ht hx)
        exact ran_still hr (by simp only [execOp, hop]) h1 h2
      · cases he
    · cases he
  | field s x f =>
    simp only [evOp, hop] at he
    split at he
    · rename_i cs hx
      split at he
      · rename_i u hu
        obtain ⟨rfl, rfl⟩ := Prod.mk.inj (Option.some.inj he)
        obtain ⟨r, h1, h2⟩ := eField_ok P hu w (aev_ok ht hx)
        exact ran_still hr (by simp only [execOp, hop]) h1 h2
      · cases he
    · cases he
  | indexAddr t x i =>
    simp only [evOp, hop] at he
    split at he
    · rename_i b q k n hx hi
      split at he
      · rename_i u hu
        obtain ⟨rfl, rfl⟩ := Prod.mk.inj (Option.some.inj he)
        obtain ⟨r, h1, h2⟩ := eIndexArr_ok P (k := k) hu w (aev_ok ht hx)
        exact ran_still hr (by simp only [execOp, hop, (sev_ok ht hi).1]) h1 h2
      · cases he
    · rename_i b q n c kk ex k j hx hi
      split at he
      · rename_i u hu
        obtain ⟨rfl, rfl⟩ := Prod.mk.inj (Option.some.inj he)
        obtain ⟨r, h1, h2⟩ := eIndexSl_ok P (k := k) hu w (aev_ok ht hx)
        exact ran_still hr (by simp only [execOp, hop, (sev_ok ht hi).1]) h1 h2
      · cases he
    · rename_i b q n kk k j hx hi
      split at he
      · rename_i u hu
        obtain ⟨rfl, rfl⟩ := Prod.mk.inj (Option.some.inj he)
        obtain ⟨r, h1, h2⟩ := eIndexRd_ok P (k := k) hu w (aev_ok ht hx)
        exact ran_still hr (by simp only [execOp, hop, (sev_ok ht hi).1]) h1 h2
      · cases he
    · rename_i b n kk lv k j hx hi
      split at he
      · rename_i u hu
        obtain ⟨rfl, rfl⟩ := Prod.mk.inj (Option.some.inj he)
        obtain ⟨r, h1, h2⟩ := eIndexG_ok P (k := k) hu w (aev_ok ht hx)
        exact ran_still hr (by simp only [execOp, hop, (sev_ok ht hi).1]) h1 h2
      · cases he
    · rename_i kk xs k j hx hi
      split at he
      · rename_i u hu
        obtain ⟨rfl, rfl⟩ := Prod.mk.inj (Option.some.inj he)
        obtain ⟨r, h1, h2⟩ := eIndexL_ok P (k := k) hu w (aev_ok ht hx)
        exact ran_still hr (by simp only [execOp, hop, (sev_ok ht hi).1]) h1 h2
      · cases he
    · rename_i kk xs k j hx hi
      split at he
      · rename_i u hu
        obtain ⟨rfl, rfl⟩ := Prod.mk.inj (Option.some.inj he)
        obtain ⟨r, h1, h2⟩ := eIndexL_ok P (k := k) hu w (aev_ok ht hx).1
        exact ran_still hr (by simp only [execOp, hop, (sev_ok ht hi).1]) h1 h2
      · cases he
    · rename_i cs k j hx hi
      split at he
      · rename_i u hu
        obtain ⟨rfl, rfl⟩ := Prod.mk.inj (Option.some.inj he)
        obtain ⟨r, h1, h2⟩ := eIndexR_ok P (k := k) hu w (aev_ok ht hx)
        exact ran_still hr (by simp only [execOp, hop, (sev_ok ht hi).1]) h1 h2
      · cases he
    · cases he
  | index t x i =>
    simp only [evOp, hop] at he
    split at he
    · rename_i s k n hx hi
      split at he
      · rename_i u hu
        obtain ⟨rfl, rfl⟩ := Prod.mk.inj (Option.some.inj he)
        have := eIndexS_ok P (k := k) hu w
        have hx' : a.eval x = .string s := (aev_ok ht hx : RC μ (.v (.string s)) (a.eval x)).1
        exact ran_still hr (by simp only [execOp, hop, (sev_ok ht hi).1, hx']) this.1 (R_val this.2)
      · cases he
    · rename_i cs k n hx hi
      split at he
      · rename_i u hu
        obtain ⟨rfl, rfl⟩ := Prod.mk.inj (Option.some.inj he)
        obtain ⟨r, h1, h2⟩ := eIndexA_ok P (k := k) hu w (aev_ok ht hx)
        exact ran_still hr (by simp only [execOp, hop, (sev_ok ht hi).1]) h1 h2
      · cases he
    · cases he
  | extract t i =>
    simp only [evOp, hop] at he
    split at he
    · rename_i xs hx
      split at he
      · rename_i u hu
        obtain ⟨rfl, rfl⟩ := Prod.mk.inj (Option.some.inj he)
        obtain ⟨us, h1, h2⟩ := aev_ok ht hx
        obtain ⟨y, hy, hyr⟩ := h2.get hu
        have hy' : us[i]? = some y := by simpa using hy
        exact ran_still hr (s := Instr.extract (a.eval t) i) (by simp only [execOp, hop]) (by simp [Instr.extract, h1, hy']) hyr
      · cases he
    · cases he
  | _ => simp [evOp, hop] at he
end Rv
