import Derived.Test.YtnlpkgamglhnbaaRvDraw2
set_option linter.unusedVariables false
set_option linter.unusedSimpArgs false
namespace Rv
open Go Go.RowKit

abbrev Env := List (Nat × AV)
def look (T0 : Nat → AV) : Env → Nat → AV
  | [], t => T0 t
  | (d, v) :: r, t => if t = d then v else look T0 r t
/-- The slots of a list hold what is listed. -/
def Keep (X : Env) (T : Nat → AV) : Prop := ∀ p ∈ X, T p.1 = p.2
theorem Keep.nil {T : Nat → AV} : Keep [] T := fun _ h => by cases h
theorem Keep.cons {X : Env} {T : Nat → AV} {d : Nat} {v : AV} (h : T d = v) (hs : Keep X T) : Keep ((d, v) :: X) T := fun p hp => by
  rcases List.mem_cons.1 hp with rfl | hp
  · exact h
  · exact hs p hp
theorem Keep.look {X : Env} {T : Nat → AV} (hk : Keep X T) : T = look T X := by
  funext t
  induction X with
  | nil => rfl
  | cons p r ih =>
    obtain ⟨d, v⟩ := p
    unfold Rv.look
    split
    · rename_i e; subst e; exact hk (t, v) (by simp)
    · exact ih fun q hq => hk q (by simp [hq])

/-- whole numbers, truth values -/
abbrev I (n : Int) : Cell := .v (.int .i64 n)
abbrev Bo (b : Bool) : Cell := .v (.bool b)
abbrev VI (n : Int) : AV := .o (.c (I n))
abbrev VB (b : Bool) : AV := .o (.c (Bo b))

variable {P : Program} {n0 N : Nat} {h : Heap}

theorem look_find {T0 : Nat → AV} {env : Env} {t t' : Nat} {v : AV} (h : env.find? (fun p => p.1 == t) = some (t', v)) : look T0 env t = v := by
  induction env with
  | nil => cases h
  | cons p r ih =>
    obtain ⟨d, u⟩ := p
    simp only [List.find?] at h
    unfold look
    by_cases e : t = d
    · subst e
      simp only [beq_self_eq_true] at h
      rw [if_pos rfl]; cases h; rfl
    · have : (d == t) = false := by simp; exact fun h => e h.symm
      simp only [this] at h
      rw [if_neg e]; exact ih h
theorem ev_t {T0 : Nat → AV} {env : Env} {t t' : Nat} {v : AV} (h : env.find? (fun p => p.1 == t) = some (t', v)) : aev (look T0 env) (.tmp t) = some v := by
  show some (look T0 env t) = some v
  rw [look_find h]

def flat1 : V1 → Bool
  | .c c => flatC c
  | .agg cs => cs.all flatC
def flat : AV → Bool
  | .o x => flat1 x
  | .tup xs => xs.all flat1
  | .top => true
/-- The objects as they were, what stays as it is told now. -/
def Mu.cut (μ μ' : Mu) : Mu := ⟨μ.ls, μ'.F⟩
theorem Mu.le.cut {μ μ' : Mu} (h : Mu.le μ μ') : Mu.le μ (μ.cut μ') := ⟨List.prefix_refl _, h.2⟩
theorem flatC_ok {μ μ' : Mu} {c : Cell} (hf : flatC c = true) {u : Value} (h : RC μ' c u) : RC (μ.cut μ') c u := by
  cases c <;> first | exact h | cases hf
theorem flat1_ok {μ μ' : Mu} {x : V1} (hf : flat1 x = true) {u : Value} (h : R1 μ' x u) : R1 (μ.cut μ') x u := by
  cases x with
  | c c => exact flatC_ok hf h
  | agg cs =>
    obtain ⟨us, rfl, hr⟩ := h
    exact ⟨us, rfl, hr.1, fun i c v hc hv => flatC_ok (List.all_eq_true.1 hf c (List.mem_of_getElem? hc)) (hr.2 i c v hc hv)⟩
theorem flat_ok {μ μ' : Mu} {x : AV} (hf : flat x = true) {u : Value} (h : RV μ' x u) : RV (μ.cut μ') x u := by
  cases x with
  | o x => exact flat1_ok hf h
  | tup xs =>
    obtain ⟨us, rfl, hr⟩ := h
    refine ⟨us, rfl, hr.1, fun i c v hc hv => flat1_ok (List.all_eq_true.1 hf c (List.mem_of_getElem? hc)) (hr.2 i c v hc hv)⟩
  | top => trivial
theorem pre_back {μ μ' : Mu} (h : Mu.le μ μ') {b : Nat} {l l0 : Loc} (h0 : μ.ls[b]? = some l0) (h1 : μ'.ls[b]? = some l) : μ.ls[b]? = some l := by
  have := pre_get h h0
  rw [this] at h1
  rw [h0]; exact h1
theorem RP.back {μ μ' : Mu} (h : Mu.le μ μ') {p : Nat × Nat} {u u0 : Value} (h0 : RP μ p u0) (h1 : RP μ' p u) : RP (μ.cut μ') p u := by
  obtain ⟨l0, hl0, _⟩ := h0
  obtain ⟨l, hl, e⟩ := h1
  exact ⟨l, pre_back h hl0 hl, e⟩
theorem RC.back {μ μ' : Mu} (h : Mu.le μ μ') {c : Cell} {u u0 : Value} (h0 : RC μ c u0) (h1 : RC μ' c u) : RC (μ.cut μ') c u := by
  cases c with
  | v x => exact h1
  | ptr b o => exact RP.back h h0 h1
  | sl b o n c k ex =>
    obtain ⟨l0, c0, hl0, _⟩ := h0
    obtain ⟨l, c', hl, r⟩ := h1
    exact ⟨l, c', pre_back h hl0 hl, r⟩
  | fn f caps =>
    obtain ⟨us0, _, r0⟩ := h0
    obtain ⟨us, e, r⟩ := h1
    refine ⟨us, e, r.1, fun i p u hp hu => ?_⟩
    obtain ⟨y, hy, hpy⟩ := r0.get hp
    exact RP.back h hpy (r.2 i p u hp hu)
  | emp => exact h1
  | any => exact h1
  | rd b o n k =>
    obtain ⟨A0, c0, _, _, _, p0⟩ := h0
    obtain ⟨A, c', e, g1, g2, p1⟩ := h1
    refine ⟨A, c', e, g1, g2, fun hn => ?_⟩
    obtain ⟨l0, hl0, _⟩ := p0 hn
    obtain ⟨l, hl, r⟩ := p1 hn
    exact ⟨l, pre_back h hl0 hl, r⟩
  | L k xs => exact h1
  | rp cs => exact h1
  | LC k xs => exact h1
  | g b n k lv =>
    refine ⟨h1.1, fun e => ?_⟩
    obtain ⟨l0, c0, hl0, _⟩ := h0.2 e
    obtain ⟨l, c', hl, r⟩ := h1.2 e
    exact ⟨l, c', pre_back h hl0 hl, r⟩
theorem HR.drop2 {B0 : Pt} {μ μ' : Mu} {h h1 G : Heap} {w w' : World} (h0 : HR B0 μ h w) (hp : Mu.le μ μ') (hl1 : h1.length = h.length) (hch : ∀ (b : Nat) (ob : AO), h1[b]? = some ob → h[b]? = some ob ∨ ob.cells.all flatC = true) (hr : HR B0 μ' (h1 ++ G) w') : HR B0 (μ.cut μ') h1 w' := by
  have hml : ∀ {b : Nat} {ob : AO} {l : Loc}, h1[b]? = some ob → μ'.ls[b]? = some l → μ.ls[b]? = some l := fun {b ob l} hb hm => by
    have hlt : b < μ.ls.length := by rw [h0.len, ← hl1]; exact lt_of_get hb
    have hm0 : μ.ls[b]? = some μ.ls[b] := List.getElem?_eq_getElem hlt
    exact pre_back hp hm0 hm
  refine ⟨h0.len.trans hl1.symm, hr.size, fun b ob hb hl => ?_, fun b b' o o' l l' hb hb' hl hl' ho hne hm hm' => ?_, hr.fz, fun b o l hb hl ho hm j => ?_, hr.fp, fun b o l hb hl hm => ?_⟩
  · have hb2 : (h1 ++ G)[b]? = some ob := by rw [List.getElem?_append_left (lt_of_get hb)]; exact hb
    obtain ⟨l, arr, T, fr, hm, hh, hcs, hown⟩ := hr.ok b ob hb2 hl
    refine ⟨l, arr, T, fr, hml hb hm, hh, fun j c hc => ?_, hown⟩
    obtain ⟨u, hu, hru⟩ := hcs j c hc
    rcases hch b ob hb with hold | hfl
    · obtain ⟨l0, arr0, T0, fr0, hm0, hh0, hcs0, _⟩ := h0.ok b ob hold hl
      obtain ⟨u0, _, hru0⟩ := hcs0 j c hc
      exact ⟨u, hu, RC.back hp hru0 hru⟩
    · exact ⟨u, hu, flatC_ok (List.all_eq_true.1 hfl c (List.mem_of_getElem? hc)) hru⟩
  · have e1 : (h1 ++ G)[b]? = some o := by rw [List.getElem?_append_left (lt_of_get hb)]; exact hb
    have e2 : (h1 ++ G)[b']? = some o' := by rw [List.getElem?_append_left (lt_of_get hb')]; exact hb'
    exact hr.inj b b' o o' l l' e1 e2 hl hl' ho hne (pre_get hp hm) (pre_get hp hm')
  · have e1 : (h1 ++ G)[b]? = some o := by rw [List.getElem?_append_left (lt_of_get hb)]; exact hb
    exact hr.nof b o l e1 hl ho (pre_get hp hm) j
  · have e1 : (h1 ++ G)[b]? = some o := by rw [List.getElem?_append_left (lt_of_get hb)]; exact hb
    exact hr.ns b o l e1 hl (pre_get hp hm)
theorem HR.drop {B0 : Pt} {μ μ' : Mu} {h G : Heap} {w w' : World} (h0 : HR B0 μ h w) (hp : Mu.le μ μ') (hr : HR B0 μ' (h ++ G) w') : HR B0 (μ.cut μ') h w' := h0.drop2 hp rfl (fun _ _ hb => .inl hb) hr
theorem FnOK.drop {f : FuncId} {args : List AV} {Q : AV → Heap → Prop} (hf : FnOK P f args h (fun v h' => flat v = true ∧ ∃ h1 G, h' = h1 ++ G ∧ h1.length = h.length ∧ Q v h1 ∧ ∀ (b : Nat) (ob : AO), h1[b]? = some ob → h[b]? = some ob ∨ ob.cells.all flatC = true)) : FnOK P f args h Q := by
  intro B0 μ w us hr hus
  refine Calls.mono (hf B0 μ w us hr hus) ?_
  rintro e w' ⟨u, v, h', μ', rfl, ⟨hfl, h1, G, rfl, hl1, hq, hch⟩, hv, hp, hr', hb⟩
  exact ⟨u, v, h1, μ.cut μ', rfl, hq, flat_ok hfl hv, hp.cut, hr.drop2 hp hl1 hch hr', hb⟩
def argEnv : List AV → Nat → Env
  | [], _ => []
  | a :: r, n => (n, a) :: argEnv r (n + 1)
theorem argEnv_mem {l : List AV} {n : Nat} {p : Nat × AV} (h : p ∈ argEnv l n) : n ≤ p.1 ∧ l[p.1 - n]? = some p.2 := by
  induction l generalizing n with
  | nil => cases h
  | cons a r ih =>
    rcases List.mem_cons.1 h with rfl | h
    · simp
    · obtain ⟨h1, h2⟩ := ih h
      refine ⟨by omega, ?_⟩
      rw [show p.1 - n = (p.1 - (n + 1)) + 1 by omega, List.getElem?_cons_succ]; exact h2
theorem argEnv_keep (args : List AV) : Keep (argEnv args 0) (initT args) := fun p hp => by
  have := (argEnv_mem hp).2
  simp only [Nat.sub_zero] at this
  simp [initT, this]
theorem FnOK.body {f : FuncId} {fn : Func} {c : Code} {args : List AV} {Q : AV → Heap → Prop} (hf : P.funcs[f]? = some fn) (hb : fn.body = some c) {N : Nat} (hN : fn.ntmps = N) (hn : decide (args.length ≤ N) = true) 
    (hc : CdOK P (n0 := h.length) N c (look (initT args) (argEnv args 0)) (h ++ []) (fun e T' h' => (e = .normal ∨ e = .ret) ∧ ∃ l, resA P T' h' fn.results.toList = some l ∧ Q (resV l) h')) : FnOK P f args h Q := by
  subst hN
  refine FnOK.of_body hf hb (of_decide_eq_true hn) ?_
  rw [← (argEnv_keep args).look] at hc
  rw [List.append_nil] at hc
  exact hc

variable {ops : Array Oper} {l : List Oper} {Q : (Nat → AV) → Heap → Prop} {T0 : Nat → AV} {env : Env} {d : Nat} {o : Oper}
theorem RgOK.s {v : AV} {h' : Heap} (hdst : o.dst = some d) (hw : wantA ops.toList (look T0 env) o = some true) (hd : decide (d < N) = true) (he : evOp P o (look T0 env) h = some (v, h')) (hl : RgOK P N ops l (look T0 ((d, v) :: env)) h' Q) : RgOK P N ops (o :: l) (look T0 env) h Q :=
  RgOK.op hw (by rw [hdst]; exact hd) he (by rw [hdst]; exact hl)
theorem RgOK.s0 {v : AV} {h' : Heap} (hdst : o.dst = none) (hw : wantA ops.toList (look T0 env) o = some true) (he : evOp P o (look T0 env) h = some (v, h')) (hl : RgOK P N ops l (look T0 env) h' Q) : RgOK P N ops (o :: l) (look T0 env) h Q :=
  RgOK.op hw (by rw [hdst]; rfl) he (by rw [hdst]; exact hl)
theorem RgOK.sk (hdst : o.dst = some d) (hw : wantA ops.toList (look T0 env) o = some false) (hd : decide (d < N) = true) (hl : RgOK P N ops l (look T0 ((d, undefA) :: env)) h Q) : RgOK P N ops (o :: l) (look T0 env) h Q :=
  RgOK.skip hw (by rw [hdst]; exact hd) (by rw [hdst]; exact hl)
theorem RgOK.sb {b : Bool} {h' : Heap} (hdst : o.dst = some d) (hw : wantA ops.toList (look T0 env) o = some true) (hd : decide (d < N) = true) (he : evOp P o (look T0 env) h = some (VB b, h')) (ht : b = true → RgOK P N ops l (look T0 ((d, VB true) :: env)) h' Q) (hf : b = false → RgOK P N ops l (look T0 ((d, VB false) :: env)) h' Q) : RgOK P N ops (o :: l) (look T0 env) h Q := by
  refine RgOK.s hdst hw hd he ?_
  cases b
  · exact hf rfl
  · exact ht rfl
theorem RgOK.cl {f : FuncId} {args args' : List AV} {R : AV → Heap → Prop} (hdst : o.dst = some d) (hw : wantA ops.toList (look T0 env) o = some true) (hd : decide (d < N) = true) (hc : callA (look T0 env) o = some (f, args)) (hp : plainFn P f = true) (hwk : R2 WkV args args') (hf : FnOK P f args' h R)
    (hl : ∀ v h', R v h' → RgOK P N ops l (look T0 ((d, v) :: env)) h' Q) : RgOK P N ops (o :: l) (look T0 env) h Q :=
  RgOK.call hw (by rw [hdst]; exact hd) hc hp ((hf.weak hwk).mono fun v h' hr => by rw [hdst]; exact hl v h' hr)

variable {opl : List Oper} {QT : (Nat → AV) → Prop}
theorem DrOK.s {v : AV} (hdst : o.dst = some d) (hw : wantA opl (look T0 env) o = some true) (hd : decide (d < N) = true) (he : evOp P o (look T0 env) h = some (v, h)) (hl : DrOK P N opl h l (look T0 ((d, v) :: env)) QT) : DrOK P N opl h (o :: l) (look T0 env) QT :=
  ⟨v, ⟨by rw [hdst]; exact hd, .inr ⟨hw, .inl he⟩⟩, by rw [hdst]; exact hl⟩
theorem DrOK.sk (hdst : o.dst = some d) (hw : wantA opl (look T0 env) o = some false) (hd : decide (d < N) = true) (hl : DrOK P N opl h l (look T0 ((d, undefA) :: env)) QT) : DrOK P N opl h (o :: l) (look T0 env) QT :=
  ⟨undefA, ⟨by rw [hdst]; exact hd, .inl ⟨hw, rfl⟩⟩, by rw [hdst]; exact hl⟩
theorem DrOK.sb {b : Bool} (hdst : o.dst = some d) (hw : wantA opl (look T0 env) o = some true) (hd : decide (d < N) = true) (he : evOp P o (look T0 env) h = some (VB b, h)) (ht : b = true → DrOK P N opl h l (look T0 ((d, VB true) :: env)) QT) (hf : b = false → DrOK P N opl h l (look T0 ((d, VB false) :: env)) QT) : DrOK P N opl h (o :: l) (look T0 env) QT := by
  refine DrOK.s hdst hw hd he ?_
  cases b
  · exact hf rfl
  · exact ht rfl
theorem DrOK.cl {f : FuncId} {args args' : List AV} {v : AV} (hdst : o.dst = some d) (hw : wantA opl (look T0 env) o = some true) (hd : decide (d < N) = true) (hc : callA (look T0 env) o = some (f, args)) (hp : plainFn P f = true) (hwk : R2 WkV args args') (hf : FnOK P f args' h (fun v' h' => v' = v ∧ h' = h))
    (hl : DrOK P N opl h l (look T0 ((d, v) :: env)) QT) : DrOK P N opl h (o :: l) (look T0 env) QT :=
  ⟨v, ⟨by rw [hdst]; exact hd, .inr ⟨hw, .inr ⟨f, args, hc, hp, hf.weak hwk⟩⟩⟩, by rw [hdst]; exact hl⟩
theorem RgOK.sd {p : Prop} [Decidable p] {h' : Heap} (hdst : o.dst = some d) (hw : wantA ops.toList (look T0 env) o = some true) (hd : decide (d < N) = true) (he : evOp P o (look T0 env) h = some (VB (decide p), h')) (ht : p → RgOK P N ops l (look T0 ((d, VB true) :: env)) h' Q) (hf : ¬ p → RgOK P N ops l (look T0 ((d, VB false) :: env)) h' Q) : RgOK P N ops (o :: l) (look T0 env) h Q :=
  RgOK.sb hdst hw hd he (fun hb => ht (of_decide_eq_true hb)) (fun hb => hf (of_decide_eq_false hb))
theorem DrOK.sd {p : Prop} [Decidable p] (hdst : o.dst = some d) (hw : wantA opl (look T0 env) o = some true) (hd : decide (d < N) = true) (he : evOp P o (look T0 env) h = some (VB (decide p), h)) (ht : p → DrOK P N opl h l (look T0 ((d, VB true) :: env)) QT) (hf : ¬ p → DrOK P N opl h l (look T0 ((d, VB false) :: env)) QT) : DrOK P N opl h (o :: l) (look T0 env) QT :=
  DrOK.sb hdst hw hd he (fun hb => ht (of_decide_eq_true hb)) (fun hb => hf (of_decide_eq_false hb))
theorem DrOK.nil (hq : QT (look T0 env)) : DrOK P N opl h [] (look T0 env) QT := hq
theorem R2.wk (l : List AV) : R2 WkV l l := ⟨rfl, fun i x y hx hy => by rw [hx] at hy; obtain rfl := Option.some.inj hy; exact .refl _⟩

variable {T : Nat → AV} {dst : Option Nat} {ty : TypeId} {pos : String} {af : Array Edge} {g : Option (Nat × Bool)}
theorem e_mv {x : Operand} {v : AV} (hx : aev T x = some v) : evOp P ⟨dst, .move x, ty, pos, af, g⟩ T h = some (v, h) := by simp [evOp, hx]
theorem e_as {x : Operand} {v : AV} (hx : aev T x = some v) : evOp P ⟨dst, .assign x, ty, pos, af, g⟩ T h = some (v, h) := by simp [evOp, hx]
theorem e_pick {c x y : Operand} {t : Bool} {v : AV} (hc : aev T c = some (VB t)) (hx : aev T (if t = true then x else y) = some v) : evOp P ⟨dst, .pick c x y, ty, pos, af, g⟩ T h = some (v, h) := by
  have : sev T c = some (.bool t) := by unfold sev; rw [hc]; rfl
  simp only [evOp, this, hx]
theorem e_bin {op : BinOp} {t t' : TypeId} {x y : Operand} {u v : Value} {r : Value} (hx : aev T x = some (.o (.c (.v u)))) (hy : aev T y = some (.o (.c (.v v)))) (hs : (scal u && scal v) = true) (hb : binV P op t u v = some r) : evOp P ⟨dst, .binOp op t x y t', ty, pos, af, g⟩ T h = some (.o (.c (.v r)), h) := by
  have : scal u = true ∧ scal v = true := by simpa using hs
  simp only [evOp, hx, hy, evBin, this, and_self, if_true, hb]
theorem e_un {op : UnOp} {t : TypeId} {x : Operand} {u r : Value} (hx : aev T x = some (.o (.c (.v u)))) (hb : unV op u = some r) : evOp P ⟨dst, .unOp op t x, ty, pos, af, g⟩ T h = some (.o (.c (.v r)), h) := by
  have : sev T x = some u := by unfold sev; rw [hx]; rfl
  simp only [evOp, this, hb]
theorem wrap_id {n : Int} (h1 : -9223372036854775808 ≤ n) (h2 : n ≤ 9223372036854775807) : IntKind.i64.wrap n = n := by rw [IntKind.wrap_i64]; omega
theorem e_add {t t' : TypeId} {x y : Operand} {a b : Int} (hx : aev T x = some (VI a)) (hy : aev T y = some (VI b)) (hb : -9223372036854775808 ≤ a + b ∧ a + b ≤ 9223372036854775807) : evOp P ⟨dst, .binOp .add t x y t', ty, pos, af, g⟩ T h = some (VI (a + b), h) :=
  e_bin hx hy rfl (by simp [binV, binI, wrap_id hb.1 hb.2])
theorem e_sub {t t' : TypeId} {x y : Operand} {a b : Int} (hx : aev T x = some (VI a)) (hy : aev T y = some (VI b)) (hb : -9223372036854775808 ≤ a - b ∧ a - b ≤ 9223372036854775807) : evOp P ⟨dst, .binOp .sub t x y t', ty, pos, af, g⟩ T h = some (VI (a - b), h) :=
  e_bin hx hy rfl (by simp [binV, binI, wrap_id hb.1 hb.2])
def noSh : BinOp → Bool
  | .shl | .shr => false
  | _ => true
theorem e_cmp {op : BinOp} {t t' : TypeId} {x y : Operand} {a b : Int} {r : Bool} (hx : aev T x = some (VI a)) (hy : aev T y = some (VI b)) (hb : binI op .i64 a b = some (.bool r)) (hop : noSh op = true) : evOp P ⟨dst, .binOp op t x y t', ty, pos, af, g⟩ T h = some (VB r, h) :=
  e_bin hx hy rfl (by cases op <;> simp_all [binV, noSh])

theorem e_dec {op : BinOp} {t t' : TypeId} {x y : Operand} {a b : Int} {p : Prop} [Decidable p] (hx : aev T x = some (VI a)) (hy : aev T y = some (VI b)) (hb : binI op .i64 a b = some (.bool (decide p))) (hop : noSh op = true) : evOp P ⟨dst, .binOp op t x y t', ty, pos, af, g⟩ T h = some (VB (decide p), h) := e_cmp hx hy hb hop
theorem e_gtr {t t' : TypeId} {x y : Operand} {a b : Int} (hx : aev T x = some (VI a)) (hy : aev T y = some (VI b)) : evOp P ⟨dst, .binOp .gtr t x y t', ty, pos, af, g⟩ T h = some (VB (decide (b < a)), h) := e_dec hx hy rfl rfl
theorem e_eql {t t' : TypeId} {x y : Operand} {a b : Int} (hx : aev T x = some (VI a)) (hy : aev T y = some (VI b)) : evOp P ⟨dst, .binOp .eql t x y t', ty, pos, af, g⟩ T h = some (VB (decide (a = b)), h) :=
  e_dec hx hy (by show some (Value.bool (a == b)) = _; rw [show (a == b) = decide (a = b) by by_cases e : a = b <;> simp [e]]) rfl
theorem e_cv {s d : TypeId} {x : Operand} {u r : Value} (hx : aev T x = some (.o (.c (.v u)))) (hb : convV P s d u = some r) : evOp P ⟨dst, .convert s d x, ty, pos, af, g⟩ T h = some (.o (.c (.v r)), h) := by
  have : sev T x = some u := by unfold sev; rw [hx]; rfl
  simp only [evOp, this, hb]

/-- A conversion between kinds of whole numbers. -/
def cvk (P : Program) (s d : TypeId) (k : IntKind) : Bool := match P.underlying s, P.underlying d with
  | some _, some (.int k') => k == k'
  | _, _ => false
theorem cvk_ok {s d : TypeId} {k k' : IntKind} (hf : cvk P s d k = true) (a : Int) : convV P s d (.int k' a) = some (.int k (k.wrap a)) := by
  unfold cvk at hf
  split at hf
  · rename_i x k'' hs hd
    obtain rfl : k = k'' := eq_of_beq hf
    simp [convV, hs, hd]
  · cases hf
theorem e_cvw {s d : TypeId} {x : Operand} {k k' : IntKind} {a : Int} (hf : cvk P s d k = true) (hx : aev T x = some (.o (.c (.v (.int k' a))))) : evOp P ⟨dst, .convert s d x, ty, pos, af, g⟩ T h = some (.o (.c (.v (.int k (k.wrap a)))), h) := e_cv hx (cvk_ok hf a)
theorem wrapu64_id {n : Int} (h1 : 0 ≤ n) (h2 : n ≤ 18446744073709551615) : IntKind.u64.wrap n = n := by rw [IntKind.wrap_u64]; omega
theorem box_get {h L : Heap} {k : Nat} {ob : AO} (hk : L[k]? = some ob) : (h ++ L)[h.length + k]? = some ob := by
  rw [List.getElem?_append_right (by omega), show h.length + k - h.length = k by omega]; exact hk
theorem old_get {h L : Heap} {b : Nat} {ob : AO} (hb : h[b]? = some ob) : (h ++ L)[b]? = some ob := by
  rw [List.getElem?_append_left (lt_of_get hb)]; exact hb
/-- Of a type: is it a struct or an array, and how many cells has it? -/
def TyF (P : Program) (t : TypeId) (ag : Bool) (n : Nat) : Prop := ∃ d i, P.underlying t = some d ∧ P.info? t = some i ∧ isAggD d = ag ∧ i.size = n
def tyf (P : Program) (t : TypeId) (ag : Bool) (n : Nat) : Bool := match P.underlying t, P.info? t with
  | some d, some i => isAggD d == ag && i.size == n
  | _, _ => false
theorem TyF.of {t : TypeId} {ag : Bool} {n : Nat} (h : tyf P t ag n = true) : TyF P t ag n := by
  unfold tyf at h
  split at h
  · rename_i d i hd hi
    simp only [Bool.and_eq_true, beq_iff_eq] at h
    exact ⟨d, i, hd, hi, h.1, h.2⟩
  · cases h
theorem eLoad_1 {t : TypeId} {n b o : Nat} {ob : AO} {c : Cell} (ht : TyF P t false n) (hb : h[b]? = some ob) (hl : ob.live = true) (hc : ob.cells[o]? = some c) : eLoad P t b o h = some (.o (.c c)) := by
  obtain ⟨d, i, hd, hi, ha, _⟩ := ht
  simp [eLoad, hb, hd, hi, hl, ha, hc]
theorem eLoad_A {t : TypeId} {n b o : Nat} {ob : AO} {cs : List Cell} (ht : TyF P t true n) (hb : h[b]? = some ob) (hl : ob.live = true) (hc : (ob.cells.drop o).take n = cs) (hn : cs.length = n) : eLoad P t b o h = some (.o (.agg cs)) := by
  obtain ⟨d, i, hd, hi, ha, rfl⟩ := ht
  subst hc
  simp only [eLoad, hb, hd, hi, hl, ha, if_true, hn]
theorem e_ld {t : TypeId} {x : Operand} {b o : Nat} {v : AV} (hx : aev T x = some (.o (.c (.ptr b o)))) (he : eLoad P t b o h = some v) : evOp P ⟨dst, .load t x, ty, pos, af, g⟩ T h = some (v, h) := by simp only [evOp, hx, he]
theorem e_box {e : TypeId} {x : Operand} {v : V1} {h L L' : Heap} {n : Nat} (hx : aev T x = some (.o v)) (hn : L.length = n) (hL : L ++ [⟨v.cells, true, true⟩] = L') : evOp P ⟨dst, .box e x, ty, pos, af, g⟩ T (h ++ L) = some (.o (.c (.ptr (h.length + n) 0)), h ++ L') := by
  subst hn; subst hL
  simp only [evOp, hx, List.length_append, List.append_assoc]
theorem e_alloc {e : TypeId} {cs : List Cell} {h L L' : Heap} {n : Nat} (hz : zeroOf P e = some cs) (hn : L.length = n) (hL : L ++ [⟨cs, true, true⟩] = L') : evOp P ⟨dst, .alloc e, ty, pos, af, g⟩ T (h ++ L) = some (.o (.c (.ptr (h.length + n) 0)), h ++ L') := by
  subst hn; subst hL
  simp only [evOp, hz, List.length_append, List.append_assoc]
theorem set_right {h L : Heap} {k : Nat} {x : AO} : (h ++ L).set (h.length + k) x = h ++ L.set k x := by
  rw [List.set_append_right _ _ (by omega), show h.length + k - h.length = k by omega]
theorem e_fa {s : TypeId} {x : Operand} {b o f : Nat} {v : AV} (hx : aev T x = some (.o (.c (.ptr b o)))) (he : eFieldAddr P s b o f = some v) : evOp P ⟨dst, .fieldAddr s x f, ty, pos, af, g⟩ T h = some (v, h) := by simp only [evOp, hx, he]
/-- Where a struct's field lies. -/
def fadr (P : Program) (s : TypeId) (f off : Nat) : Bool := match P.underlying s with
  | some (.struct fields) => match fields[f]? with
    | some fd => match P.info? fd.type with
      | some i => !(i.size == 0) && fd.offset == off
      | none => false
    | none => false
  | _ => false
theorem fadr_ok {s : TypeId} {f off : Nat} (h : fadr P s f off = true) (b o : Nat) : eFieldAddr P s b o f = some (.o (.c (.ptr b (o + off)))) := by
  unfold fadr at h
  unfold eFieldAddr
  split at h
  · rename_i fields hs
    split at h
    · rename_i fd hfd
      split at h
      · rename_i i hi
        simp only [Bool.and_eq_true, Bool.not_eq_true', beq_iff_eq, beq_eq_false_iff_ne] at h
        simp only [hs, hfd, hi, h.2]
        rw [if_neg h.1]
      · cases h
    · cases h
  · cases h
theorem e_fa' {s : TypeId} {x : Operand} {b o f off : Nat} (hf : fadr P s f off = true) (hx : aev T x = some (.o (.c (.ptr b o)))) : evOp P ⟨dst, .fieldAddr s x f, ty, pos, af, g⟩ T h = some (.o (.c (.ptr b (o + off))), h) := e_fa hx (fadr_ok hf b o)
theorem e_mkf {f : FuncId} {first caps : Array Operand} {l : List (Nat × Nat)} (hf : first.size = 0) (hc : capsA T caps.toList = some l) : evOp P ⟨dst, .makeFunc (.func f) first caps, ty, pos, af, g⟩ T h = some (.o (.c (.fn f l)), h) := by simp only [evOp, hf, if_true, hc]
theorem e_nil {x : Operand} {b o : Nat} (hx : aev T x = some (.o (.c (.ptr b o)))) : evOp P ⟨dst, .nilCheck x, ty, pos, af, g⟩ T h = some (.o (.c (.ptr b o)), h) := by simp only [evOp, hx]
theorem e_ext {x : Operand} {xs : List V1} {i : Nat} {v : V1} (hx : aev T x = some (.tup xs)) (hi : xs[i]? = some v) : evOp P ⟨dst, .extract x i, ty, pos, af, g⟩ T h = some (.o v, h) := by simp only [evOp, hx, hi]
/-- Of a slice type: its element's cells. -/
def ElF (P : Program) (t : TypeId) (k : Nat) : Prop := ∃ e i, P.underlying t = some (.slice e) ∧ P.info? e = some i ∧ i.size = k
def elf (P : Program) (t : TypeId) (k : Nat) : Bool := match P.underlying t with
  | some (.slice e) => match P.info? e with | some i => i.size == k | none => false
  | _ => false
theorem ElF.of {t : TypeId} {k : Nat} (h : elf P t k = true) : ElF P t k := by
  unfold elf at h
  split at h
  · rename_i e he
    split at h
    · rename_i i hi
      exact ⟨e, i, he, hi, by simpa using h⟩
    · cases h
  · cases h
theorem e_len {t : TypeId} {x : Operand} {b o n k : Nat} (hx : aev T x = some (.o (.c (.rd b o n k)))) (ht : isSliceT P t = true) : evOp P ⟨dst, .call ⟨.builtin .len, #[x], #[t]⟩, ty, pos, af, g⟩ T h = some (VI n, h) := by
  obtain ⟨e, he⟩ := isSliceT_ok ht
  have ha : argsA T [x] = some [.o (.c (.rd b o n k))] := by simp only [argsA, hx]
  have hl : eLen P t (.o (.c (.rd b o n k))) = some n := by simp only [eLen, he]
  simp only [evOp, ha, hl]

/-- Of an array type: how many elements, of how many cells? -/
def ArF (P : Program) (t : TypeId) (n k : Nat) : Prop := ∃ e i, P.underlying t = some (.array n e) ∧ P.info? e = some i ∧ i.size = k
def arf (P : Program) (t : TypeId) (n k : Nat) : Bool := match P.underlying t with
  | some (.array n' e) => match P.info? e with | some i => n' == n && i.size == k | none => false
  | _ => false
theorem ArF.of {t : TypeId} {n k : Nat} (h : arf P t n k = true) : ArF P t n k := by
  unfold arf at h
  split at h
  · rename_i n' e he
    split at h
    · rename_i i hi
      simp only [Bool.and_eq_true, beq_iff_eq] at h
      obtain ⟨rfl, h2⟩ := h
      exact ⟨e, i, he, hi, h2⟩
    · cases h
  · cases h
/-- The slice at offset o of object b has n elements of k cells each; element j is 'f j'. -/
def Sl (h : Heap) (b o k n : Nat) (f : Nat → List Cell) : Prop := ∀ j, j < n → ∃ ob, h[b]? = some ob ∧ (ob.live = true ∧ ob.own = false) ∧ (ob.cells.drop (o + j * k)).take k = f j ∧ (f j).length = k
/-- What no store can change: the objects that are nobody's own stay. -/
def Fz (h h' : Heap) : Prop := ∀ (b : Nat) (ob : AO), h[b]? = some ob → ob.own = false → h'[b]? = some ob
theorem Fz.refl (h : Heap) : Fz h h := fun _ _ h _ => h
theorem Fz.trans {a b c : Heap} (h : Fz a b) (h' : Fz b c) : Fz a c := fun x ob e o => h' x ob (h x ob e o) o
theorem Fz.set {h : Heap} {b : Nat} {ob ob' : AO} (hb : h[b]? = some ob) (ho : ob.own = true) : Fz h (h.set b ob') := fun x ox e o => by
  have : b ≠ x := fun e' => by subst e'; rw [e] at hb; cases hb; rw [o] at ho; cases ho
  rw [List.getElem?_set_ne this]; exact e
theorem Fz.post {h L L' : Heap} (hl : Fz h L) (hn : L.length = h.length) : Fz (h ++ L') (L ++ L') := fun x ob e o => by
  rcases Nat.lt_or_ge x h.length with hx | hx
  · rw [List.getElem?_append_left hx] at e; rw [List.getElem?_append_left (by omega)]; exact hl _ _ e o
  · rw [List.getElem?_append_right hx] at e; rw [List.getElem?_append_right (by omega), hn]; exact e
theorem Fz.nil (L : Heap) : Fz [] L := fun x ob e _ => by simp at e
theorem Fz.own {x y : AO} {L L' : Heap} (hx : x.own = true) (hl : Fz L L') : Fz (x :: L) (y :: L') := fun k ob e o => by
  cases k with
  | zero => simp at e; subst e; rw [o] at hx; cases hx
  | succ k => simp at e ⊢; exact hl _ _ e o
theorem Sl.fz {h h' : Heap} {b o k n : Nat} {f : Nat → List Cell} (hs : Sl h b o k n f) (hf : Fz h h') : Sl h' b o k n f := fun j hj => by
  obtain ⟨ob, h1, h2, h3⟩ := hs j hj
  exact ⟨ob, hf _ _ h1 h2.2, h2, h3⟩
end Rv
