import Derived.Test.YtnlpkgamglhnbaaRvRun4
set_option linter.unusedVariables false
set_option linter.unusedSimpArgs false
namespace Rv
open Go Go.RowKit

def Ev {α : Type} (m : Option α) (K : α → Prop) : Prop := ∃ x, m = some x ∧ K x
section
variable {α β : Type} {m a b : Option α} {K : α → Prop} {p : Prop} [Decidable p]
theorem Ev.ifp (h : Ev (if p then a else b) K) (hc : p) : Ev a K := by rwa [if_pos hc] at h
theorem Ev.ifn (h : Ev (if p then a else b) K) (hc : ¬ p) : Ev b K := by rwa [if_neg hc] at h
theorem Ev.ifs (h : Ev (if p then a else none) K) : p ∧ Ev a K := by
  by_cases hc : p
  · exact ⟨hc, h.ifp hc⟩
  · have := h.ifn hc
    obtain ⟨x, e, _⟩ := this
    cases e
theorem Ev.bnd {m : Option β} {f : β → Option α} (h : Ev (m.bind f) K) : Ev m (fun x => Ev (f x) K) := by
  obtain ⟨x, e, k⟩ := h
  cases m with
  | none => cases e
  | some y => exact ⟨y, rfl, x, e, k⟩
theorem Ev.call {m : Option β} {f : β → Option α} (h : Ev (m.bind f) K) : ∃ x, m = some x ∧ Ev (f x) K := h.bnd
theorem Ev.ret {x : α} (h : Ev (some x) K) : K x := by obtain ⟨y, e, k⟩ := h; cases e; exact k
theorem Ev.non (h : Ev none K) : False := by obtain ⟨y, e, k⟩ := h; cases e
theorem Ev.of {x : α} (h : m = some x) : Ev m (fun y => y = x) := ⟨x, h, rfl⟩
end
abbrev gd {α : Type} [Inhabited α] (l : List α) (i : Int) : α := l.getD i.toNat default
def FU : Nat := 18446744073709551616
abbrev w64 (x : Int) : Int := IntKind.i64.wrap x
theorem w64_id {x : Int} (h : -9223372036854775808 ≤ x ∧ x ≤ 9223372036854775807) : w64 x = x := wrap_id h.1 h.2

section
variable {P : Program} {n0 N : Nat} {h : Heap} {T : Nat → AV} {Q : CQ} {c : Code}
theorem CdOK.condD {o : Operand} {x y : Code} {p : Prop} [Decidable p] (hc : aev T o = some (VB (decide p))) (h1 : p → CdOK P (n0 := n0) N x T h Q) (h2 : ¬ p → CdOK P (n0 := n0) N y T h Q) : CdOK P (n0 := n0) N (.cond o x y) T h Q := by
  have hs : sev T o = some (.bool (decide p)) := by unfold sev; rw [hc]; rfl
  refine CdOK.cond hs ?_
  by_cases hp : p
  · rw [if_pos (decide_eq_true hp)]; exact h1 hp
  · rw [if_neg (by simpa using hp)]; exact h2 hp
theorem CdOK.condB {o : Operand} {x y : Code} {b : Bool} (hc : aev T o = some (VB b)) (h1 : b = true → CdOK P (n0 := n0) N x T h Q) (h2 : ¬ b = true → CdOK P (n0 := n0) N y T h Q) : CdOK P (n0 := n0) N (.cond o x y) T h Q := by
  have hs : sev T o = some (.bool b) := by unfold sev; rw [hc]; rfl
  refine CdOK.cond hs ?_
  by_cases hp : b = true
  · rw [if_pos hp]; exact h1 hp
  · rw [if_neg hp]; exact h2 hp
/-- What is known at the end, told anew. -/
def Told (n0 N : Nat) (T : Nat → AV) (h : Heap) (R : (Nat → AV) → Heap → Prop) : Prop := ∃ T' h', (∀ (B0 : Pt) (μ : Mu) (a : Act) (w : World), SR N μ T a → HR B0 μ h w → ∃ μ', Mu.leN n0 μ μ' ∧ SR N μ' T' a ∧ HR B0 μ' h' w) ∧ R T' h'
theorem CdOK.tail (hc : CdOK P (n0 := n0) N c T h (thenQ (fun T' h' => Told n0 N T' h' (fun T' h' => Q .normal T' h')) Q)) : CdOK P (n0 := n0) N c T h Q := by
  intro B0 μ a w hs hr
  refine wp_mono (hc B0 μ a w hs hr) fun e a' w' hp => ?_
  obtain ⟨T', h', μ', h1, h2, h3, h4, h5, h6⟩ := hp
  cases e with
  | normal =>
    obtain ⟨T2, h2', h7, h8⟩ := h1
    obtain ⟨μ2, g1, g2, g3⟩ := h7 B0 μ' a' w' h3 h5
    exact ⟨T2, h2', μ2, h8, h2, g2, h4.trans g1, g3, h6⟩
  | exit id => exact ⟨T', h', μ', h1, h2, h3, h4, h5, h6⟩
  | goto l => exact ⟨T', h', μ', h1, h2, h3, h4, h5, h6⟩
  | ret => exact ⟨T', h', μ', h1, h2, h3, h4, h5, h6⟩
  | panic c => exact ⟨T', h', μ', h1, h2, h3, h4, h5, h6⟩
  | outgrown => exact ⟨T', h', μ', h1, h2, h3, h4, h5, h6⟩
/-- What is known, told anew. -/
theorem CdOK.sem {T' : Nat → AV} {h' : Heap} (hre : ∀ (B0 : Pt) (μ : Mu) (a : Act) (w : World), SR N μ T a → HR B0 μ h w → ∃ μ', Mu.leN n0 μ μ' ∧ SR N μ' T' a ∧ HR B0 μ' h' w) (hc : CdOK P (n0 := n0) N c T' h' Q) : CdOK P (n0 := n0) N c T h Q := by
  intro B0 μ a w hs hr
  obtain ⟨μ', h1, h2, h3⟩ := hre B0 μ a w hs hr
  exact wp_mono (hc B0 μ' a w h2 h3) fun e a' w' hp => hp.mono h1 (Bel.refl _ _) fun _ _ _ h => h
theorem Told.id {R : (Nat → AV) → Heap → Prop} (hR : R T h) : Told n0 N T h R := ⟨T, h, fun B0 μ a w hs hr => ⟨μ, Mu.leN_refl _ _, hs, hr⟩, hR⟩
theorem CdOK.joinE {α σ : Type} {m : Option α} {J : α → Prop} (i : σ → α) {x y : Code} (hm : Ev m J) (X : σ → Env) (H : σ → Heap)
    (h1 : Ev m J → CdOK P (n0 := n0) N x T h (thenQ (fun T' h' => Told n0 N T' h' (fun T' h' => ∃ s, J (i s) ∧ Keep (X s) T' ∧ h' = H s)) Q))
    (h2 : ∀ s T0, J (i s) → CdOK P (n0 := n0) N y (look T0 (X s)) (H s) Q) : CdOK P (n0 := n0) N (.seq x y) T h Q := by
  refine CdOK.seq ((h1 hm).mono fun e T' h' hq => ?_)
  cases e with
  | normal =>
    obtain ⟨T2, h2', hre, s, hJ, hk, rfl⟩ := hq
    show CdOK P (n0 := n0) N y T' h' Q
    refine CdOK.sem hre ?_
    rw [hk.look]; exact h2 s T2 hJ
  | exit id => exact hq
  | goto l => exact hq
  | ret => exact hq
  | panic c => exact hq
  | outgrown => exact hq
theorem CdOK.joinT {α σ : Type} {m : Option α} {J : α → Prop} (i : σ → α) {x : Code} (hm : Ev m J) (X : σ → Env) (H : σ → Heap)
    (h1 : Ev m J → CdOK P (n0 := n0) N x T h (thenQ (fun T' h' => Told n0 N T' h' (fun T' h' => ∃ s, J (i s) ∧ Keep (X s) T' ∧ h' = H s)) Q))
    (h2 : ∀ s T0, J (i s) → Q .normal (look T0 (X s)) (H s)) : CdOK P (n0 := n0) N x T h Q := by
  refine CdOK.tail ((h1 hm).mono fun e T' h' hq => ?_)
  cases e with
  | normal =>
    obtain ⟨T2, h2', hre, s, hJ, hk, rfl⟩ := hq
    refine ⟨T2, H s, hre, ?_⟩
    show Q .normal T2 (H s)
    rw [hk.look]; exact h2 s T2 hJ
  | exit id => exact hq
  | goto l => exact hq
  | ret => exact hq
  | panic c => exact hq
  | outgrown => exact hq
theorem CdOK.loopE {σ : Type} (M : Nat → σ → Prop) (X : σ → Env) (H : σ → Heap) (k0 : Nat) (s0 : σ) (h0 : M k0 s0) (hk : Keep (X s0) T) (hh : h = H s0)
    (round : ∀ k s T0, M k s → CdOK P (n0 := n0) N c (look T0 (X s)) (H s) (thenQ (fun T' h' => Told n0 N T' h' (fun T' h' => ∃ k' s', k' < k ∧ M k' s' ∧ Keep (X s') T' ∧ h' = H s')) Q)) : CdOK P (n0 := n0) N (.loop c) T h Q := by
  refine CdOK.loop (fun n T h => ∃ s, M n s ∧ Keep (X s) T ∧ h = H s) k0 ⟨s0, h0, hk, hh⟩ ?_
  rintro n T h ⟨s, hM, hk, rfl⟩
  rw [hk.look]
  refine CdOK.tail ((round n s T hM).mono fun e T' h' hq => ?_)
  cases e with
  | normal =>
    obtain ⟨T2, h2', hre, n', s', hlt, hM', hk', rfl⟩ := hq
    exact ⟨T2, H s', hre, n', hlt, s', hM', hk', rfl⟩
  | exit id => exact hq
  | goto l => exact hq
  | ret => exact hq
  | panic c => exact hq
  | outgrown => exact hq
theorem CdOK.glT {d b n k : Nat} {lv : Bool} (hx : aev T (.tmp d) = some (.o (.c (.g b n k lv)))) (hn : 0 < n) (hc : lv = true → CdOK P (n0 := n0) N c T h Q) : CdOK P (n0 := n0) N c T h Q := by
  cases lv with
  | true => exact hc rfl
  | false =>
    intro B0 μ a w hs hr
    have h1 : RC μ (.g b n k false) (a.eval (.tmp d)) := aev_ok hs.2 hx
    have := (h1.1 rfl).1
    omega
inductive RenV1 (n : Nat) (σ : List Nat) (L : Heap) : V1 → V1 → Prop
  | c {x y : Cell} (h : Ren n σ L x y) : RenV1 n σ L (.c x) (.c y)
  | agg {xs ys : List Cell} (h : R2 (Ren n σ L) xs ys) : RenV1 n σ L (.agg xs) (.agg ys)
inductive RenV (n : Nat) (σ : List Nat) (L : Heap) : AV → AV → Prop
  | o {x y : V1} (h : RenV1 n σ L x y) : RenV n σ L (.o x) (.o y)
  | tup {xs ys : List V1} (h : R2 (RenV1 n σ L) xs ys) : RenV n σ L (.tup xs) (.tup ys)
  | top (x : AV) : RenV n σ L x .top
theorem RenV1.ok {n : Nat} {σ : List Nat} {L : Heap} {μ μ' : Mu} (hR : ∀ c c' u, Ren n σ L c c' → RC μ c u → RC μ' c' u) {x y : V1} (h : RenV1 n σ L x y) {u : Value} (hu : R1 μ x u) : R1 μ' y u := by
  cases h with
  | c h => exact hR _ _ _ h hu
  | agg h =>
    obtain ⟨us, e, hr⟩ := hu
    refine ⟨us, e, h.1.symm.trans hr.1, fun i c' v hc' hv => ?_⟩
    obtain ⟨c, hc, hcc⟩ := h.get' hc'
    exact hR _ _ _ hcc (hr.2 i c v hc hv)
theorem RenV.ok {n : Nat} {σ : List Nat} {L : Heap} {μ μ' : Mu} (hR : ∀ c c' u, Ren n σ L c c' → RC μ c u → RC μ' c' u) {x y : AV} (h : RenV n σ L x y) {u : Value} (hu : RV μ x u) : RV μ' y u := by
  cases h with
  | o h => exact h.ok hR hu
  | tup h =>
    obtain ⟨us, e, hr⟩ := hu
    refine ⟨us, e, h.1.symm.trans hr.1, fun i c' v hc' hv => ?_⟩
    obtain ⟨c, hc, hcc⟩ := h.get' hc'
    exact hcc.ok hR (hr.2 i c v hc hv)
  | top => trivial
abbrev topT : Nat → AV := fun _ => .top
/-- The slots that are listed, told anew; of the others nothing is told any more. -/
inductive ReEnv (n : Nat) (σ : List Nat) (L : Heap) (T : Nat → AV) : Env → Prop
  | nil : ReEnv n σ L T []
  | cons {d : Nat} {v : AV} {X : Env} (h : RenV n σ L (T d) v) (hs : ReEnv n σ L T X) : ReEnv n σ L T ((d, v) :: X)
theorem ReEnv.ok {n : Nat} {σ : List Nat} {L : Heap} {X : Env} (hX : ReEnv n σ L T X) {μ μ' : Mu} (hR : ∀ c c' u, Ren n σ L c c' → RC μ c u → RC μ' c' u) {a : Act} (ht : TR μ T a) : TR μ' (look topT X) a := by
  induction hX with
  | nil => intro t; trivial
  | @cons d v X h hs ih =>
    intro t
    show RV μ' (upd (look topT X) d v t) _
    unfold upd
    by_cases e : t = d
    · subst e
      rw [if_pos rfl]
      exact h.ok hR (ht t)
    · rw [if_neg e]; exact ih t
theorem CdOK.re {H L L' : Heap} {N0 : Nat} {σ : List Nat} {X : Env} (hN : H.length = N0) (hn : N0 = n0) (hC : Cl H) (hnd : σ.Nodup) (hm : MatchL N0 σ L σ L') (hX : ReEnv N0 σ L T X) (hc : CdOK P (n0 := n0) N c (look topT X) (H ++ L') Q) : CdOK P (n0 := n0) N c T (H ++ L) Q := by
  subst hN
  subst hn
  refine CdOK.sem (fun B0 μ a w hs hr => ?_) hc
  obtain ⟨μ', h1, h2, h3⟩ := hr.re hC hnd hm
  exact ⟨μ', h1, ⟨hs.1, hX.ok h3 hs.2⟩, h2⟩
theorem Told.re {R : (Nat → AV) → Heap → Prop} {H L L' : Heap} {N0 : Nat} {σ : List Nat} {X : Env} (hN : H.length = N0) (hn : N0 = n0) (hC : Cl H) (hnd : σ.Nodup) (hm : MatchL N0 σ L σ L') (hX : ReEnv N0 σ L T X) (hc : R (look topT X) (H ++ L')) : Told n0 N T (H ++ L) R := by
  subst hN
  subst hn
  refine ⟨_, _, fun B0 μ a w hs hr => ?_, hc⟩
  obtain ⟨μ', h1, h2, h3⟩ := hr.re hC hnd hm
  exact ⟨μ', h1, ⟨hs.1, hX.ok h3 hs.2⟩, h2⟩
/-- Leaving: the function's own objects go; what is handed out stays for ever. -/
theorem FnOK.fin {f : FuncId} {args : List AV} {QF : AV → Heap → Prop} (hf : FnOK P f args h (fun v h' => ∃ HB L v', h' = HB ++ L ∧ HB.length = h.length ∧ Cl HB ∧ RenV h.length [] L v v' ∧ QF v' HB)) : FnOK P f args h QF := by
  intro B0 μ w us hr hus
  refine Calls.mono (hf B0 μ w us hr hus) ?_
  rintro e w' ⟨u, v, h', μ', rfl, ⟨HB, L, v', rfl, hl, hC, hv, hq⟩, hu, hp, hr', hb⟩
  obtain ⟨μ2, g1, g2, g3⟩ := hr'.re (L' := []) (σ := []) hC List.nodup_nil .nil
  rw [hl] at g1 g3
  refine ⟨u, v', HB, μ2, rfl, hq, hv.ok g3 hu, Mu.leN.full ?_, by simpa using g2, hb⟩
  rw [hr.len]
  exact hp.toN.trans g1
theorem FnOK.bodyC {f : FuncId} {fn : Func} {args : List AV} {QF : AV → Heap → Prop} (hf : P.funcs[f]? = some fn) (hb : fn.body = some c) {N : Nat} (hN : fn.ntmps = N) (hn : decide (args.length ≤ N) = true)
    (hc : Cl h → CdOK P (n0 := h.length) N c (look (initT args) (argEnv args 0)) (h ++ []) (fun e T' h' => (e = .normal ∨ e = .ret) ∧ ∃ l, resA P T' h' fn.results.toList = some l ∧ QF (resV l) h')) : FnOK P f args h QF := by
  intro B0 μ w us hr hus
  exact FnOK.body hf hb hN hn (hc hr.cl) B0 μ w us hr hus
theorem R2.of {α β : Type} {R : α → β → Prop} {x : α} {y : β} {xs : List α} {ys : List β} (h : R x y) (hs : R2 R xs ys) : R2 R (x :: xs) (y :: ys) := R2.cons h hs
theorem renFl {n : Nat} {σ : List Nat} {L : Heap} {cs : List Cell} (h : cs.all flatC = true) : R2 (Ren n σ L) cs cs := ⟨rfl, fun i x y hx hy => by
  rw [hx] at hy; cases hy
  exact .fl x (List.all_eq_true.1 h x (List.mem_of_getElem? hx))⟩
theorem renFl1 {n : Nat} {σ : List Nat} {L : Heap} {v : V1} (h : flat1 v = true) : RenV1 n σ L v v := by
  cases v with
  | c c => exact .c (.fl c h)
  | agg cs => exact .agg (renFl h)
theorem renFlV {n : Nat} {σ : List Nat} {L : Heap} {v : AV} (h : flat v = true) : RenV n σ L v v := by
  cases v with
  | o x => exact .o (renFl1 h)
  | tup xs => exact .tup ⟨rfl, fun i x y hx hy => by
      rw [hx] at hy; cases hy
      exact renFl1 (List.all_eq_true.1 h x (List.mem_of_getElem? hx))⟩
  | top => exact .top _
end

section
variable {P : Program} {T : Nat → AV} {dst : Option Nat} {ty : TypeId} {pos : String} {af : Array Edge} {g : Option (Nat × Bool)} {h : Heap}
theorem e_lenM {α : Type} {t : TypeId} {x : Operand} {k : Nat} {l : List α} {f : α → List Cell} (hx : aev T x = some (.o (.c (.L k (l.map f))))) (ht : isSliceT P t = true) : evOp P ⟨dst, .call ⟨.builtin .len, #[x], #[t]⟩, ty, pos, af, g⟩ T h = some (VI l.length, h) := by
  obtain ⟨e, he⟩ := isSliceT_ok ht
  have : eLen P t (.o (.c (.L k (l.map f)))) = some l.length := by simp only [eLen, he, List.length_map]
  simp only [evOp, argsA, hx, this]
theorem e_lenG {t : TypeId} {x : Operand} {b n k : Nat} {lv : Bool} (hx : aev T x = some (.o (.c (.g b n k lv)))) (ht : isSliceT P t = true) : evOp P ⟨dst, .call ⟨.builtin .len, #[x], #[t]⟩, ty, pos, af, g⟩ T h = some (VI n, h) := by
  obtain ⟨e, he⟩ := isSliceT_ok ht
  have : eLen P t (.o (.c (.g b n k lv))) = some n := by simp only [eLen, he]
  simp only [evOp, argsA, hx, this]
def strT (P : Program) (t : TypeId) : Bool := match P.underlying t with | some .string => true | _ => false
theorem e_lenS' {t : TypeId} {x : Operand} {s : ByteArray} (hx : aev T x = some (.o (.c (.v (.string s))))) (ht : strT P t = true) : evOp P ⟨dst, .call ⟨.builtin .len, #[x], #[t]⟩, ty, pos, af, g⟩ T h = some (VI s.size, h) := by
  unfold strT at ht
  split at ht
  · rename_i hu
    have : eLen P t (.o (.c (.v (.string s)))) = some s.size := by simp only [eLen, hu]
    simp only [evOp, argsA, hx, this]
  · cases ht
theorem gd_get {α : Type} [Inhabited α] {l : List α} {i : Int} (hi : 0 ≤ i ∧ i < l.length) : l[i.toNat]? = some (gd l i) := by
  have : i.toNat < l.length := by omega
  simp [gd, List.getD, this]
theorem e_ixM {α : Type} [Inhabited α] {t : TypeId} {x y : Operand} {k : Nat} {l : List α} {f : α → List Cell} {j : IntKind} {i : Int} (hx : aev T x = some (.o (.c (.L k (l.map f))))) (hy : aev T y = some (.o (.c (.v (.int j i))))) (ht : ElF P t k) (hi : 0 ≤ i ∧ i < l.length) : evOp P ⟨dst, .indexAddr t x y, ty, pos, af, g⟩ T h = some (.o (.c (.rp (f (gd l i)))), h) := by
  obtain ⟨e, inf, he, hinf, rfl⟩ := ht
  have hs : sev T y = some (.int j i) := by unfold sev; rw [hy]; rfl
  have hg : (l.map f)[i.toNat]? = some (f (gd l i)) := by rw [List.getElem?_map, gd_get hi]; rfl
  have : eIndexL P t inf.size (l.map f) i = some (.o (.c (.rp (f (gd l i))))) := by
    simp only [eIndexL, he, hinf]
    rw [if_pos ⟨trivial, hi.1⟩]
    simp only [hg]
  simp only [evOp, hx, hs, this]
theorem e_ldR1 {t : TypeId} {x : Operand} {n : Nat} {cs : List Cell} {c : Cell} (hx : aev T x = some (.o (.c (.rp cs)))) (ht : TyF P t false n) (hc : cs[0]? = some c) : evOp P ⟨dst, .load t x, ty, pos, af, g⟩ T h = some (.o (.c c), h) := by
  obtain ⟨d, i, hd, hi, ha, _⟩ := ht
  have : eLoadR P t cs = some (.o (.c c)) := by simp only [eLoadR, hd, hi, ha, Bool.false_eq_true, if_false, hc]
  simp only [evOp, hx, this]
theorem e_ldRA {t : TypeId} {x : Operand} {n : Nat} {cs cs' : List Cell} (hx : aev T x = some (.o (.c (.rp cs)))) (ht : TyF P t true n) (hc : cs.take n = cs') (hn : cs'.length = n) : evOp P ⟨dst, .load t x, ty, pos, af, g⟩ T h = some (.o (.agg cs'), h) := by
  obtain ⟨d, i, hd, hi, ha, rfl⟩ := ht
  have : eLoadR P t cs = some (.o (.agg cs')) := by simp only [eLoadR, hd, hi, ha, if_true, hc, hn]
  simp only [evOp, hx, this]
theorem e_faR {s : TypeId} {x : Operand} {f off : Nat} {cs cs' : List Cell} (hf : fadr P s f off = true) (hx : aev T x = some (.o (.c (.rp cs)))) (hc : cs.drop off = cs') : evOp P ⟨dst, .fieldAddr s x f, ty, pos, af, g⟩ T h = some (.o (.c (.rp cs')), h) := by
  have : eFieldR P s cs f = some (.o (.c (.rp cs'))) := by
    unfold fadr at hf
    split at hf
    · rename_i fields hs
      split at hf
      · rename_i fd hfd
        split at hf
        · rename_i i hi
          have h1 : ¬ i.size = 0 := fun e => by rw [e] at hf; simp at hf
          have h2 : fd.offset = off := by simp at hf; exact hf.2
          simp only [eFieldR, hs, hfd, hi]
          rw [if_neg h1, h2, hc]
        · cases hf
      · cases hf
    · cases hf
  simp only [evOp, hx, this]
theorem e_slhM {α : Type} {t : TypeId} {x y : Operand} {k : Nat} {l : List α} {f : α → List Cell} {i : Int} (ht : ElF P t k) (hx : aev T x = some (.o (.c (.L k (l.map f))))) (hy : aev T y = some (VI i)) (hi : 0 ≤ i ∧ i ≤ l.length) : evOp P ⟨dst, .slice t x none (some y) none, ty, pos, af, g⟩ T h = some (.o (.c (.L k ((l.take i.toNat).map f))), h) := by
  obtain ⟨e, inf, he, hinf, rfl⟩ := ht
  have hs : sev T y = some (.int .i64 i) := by unfold sev; rw [hy]; rfl
  have : eSliceC P t (.L inf.size (l.map f)) none (some (.int .i64 i)) none = some (.L inf.size ((l.take i.toNat).map f)) := by
    simp only [eSliceC, he, hinf, bnd, List.length_map]
    rw [if_pos hi]
    simp only [List.drop_zero, List.map_take]
    rw [if_pos ⟨trivial, Nat.zero_le _, by omega⟩]
  simp only [evOp, hx, optA, hs, this]
theorem e_sl3M {α : Type} {t : TypeId} {x y z : Operand} {k : Nat} {l : List α} {f : α → List Cell} {i : Int} (ht : ElF P t k) (hx : aev T x = some (.o (.c (.L k (l.map f))))) (hy : aev T y = some (VI i)) (hz : aev T z = some (VI i)) (hi : 0 ≤ i ∧ i ≤ l.length) : evOp P ⟨dst, .slice t x none (some y) (some z), ty, pos, af, g⟩ T h = some (.o (.c (.LC k ((l.take i.toNat).map f))), h) := by
  obtain ⟨e, inf, he, hinf, rfl⟩ := ht
  have hs : sev T y = some (.int .i64 i) := by unfold sev; rw [hy]; rfl
  have hs2 : sev T z = some (.int .i64 i) := by unfold sev; rw [hz]; rfl
  have h2 : 0 ≤ i ∧ i ≤ (i.toNat : Int) := by omega
  have : eSliceC P t (.L inf.size (l.map f)) none (some (.int .i64 i)) (some (.int .i64 i)) = some (.LC inf.size ((l.take i.toNat).map f)) := by
    simp only [eSliceC, he, hinf, bnd, List.length_map]
    rw [if_pos hi]
    simp only
    rw [if_pos h2]
    simp only [List.drop_zero, List.map_take]
    rw [if_pos ⟨trivial, Nat.zero_le _, trivial, by omega⟩]
  simp only [evOp, hx, optA, hs, hs2, this]
theorem e_sllM {α : Type} {t : TypeId} {x y : Operand} {k : Nat} {l : List α} {f : α → List Cell} {i : Int} (ht : ElF P t k) (hx : aev T x = some (.o (.c (.L k (l.map f))))) (hy : aev T y = some (VI i)) (hi : 0 ≤ i ∧ i ≤ l.length) : evOp P ⟨dst, .slice t x (some y) none none, ty, pos, af, g⟩ T h = some (.o (.c (.L k ((l.drop i.toNat).map f))), h) := by
  obtain ⟨e, inf, he, hinf, rfl⟩ := ht
  have hs : sev T y = some (.int .i64 i) := by unfold sev; rw [hy]; rfl
  have : eSliceC P t (.L inf.size (l.map f)) (some (.int .i64 i)) none none = some (.L inf.size ((l.drop i.toNat).map f)) := by
    simp only [eSliceC, he, hinf, bnd, List.length_map]
    rw [if_pos hi]
    have e2 : (l.map f).take l.length = l.map f := List.take_of_length_le (by simp)
    simp only [e2, List.map_drop]
    rw [if_pos ⟨trivial, by omega, Nat.le_refl _⟩]
  simp only [evOp, hx, optA, hs, this]
theorem e_eqK {t t' : TypeId} {x y : Operand} {k : IntKind} {a b : Int} (hx : aev T x = some (.o (.c (.v (.int k a))))) (hy : aev T y = some (.o (.c (.v (.int k b))))) : evOp P ⟨dst, .binOp .eql t x y t', ty, pos, af, g⟩ T h = some (VB (decide (a = b)), h) := by
  refine e_bin hx hy rfl ?_
  simp only [binV, binI, if_true]
  congr 2
theorem e_neK {t t' : TypeId} {x y : Operand} {k : IntKind} {a b : Int} (hx : aev T x = some (.o (.c (.v (.int k a))))) (hy : aev T y = some (.o (.c (.v (.int k b))))) : evOp P ⟨dst, .binOp .neq t x y t', ty, pos, af, g⟩ T h = some (VB (decide (a ≠ b)), h) := by
  refine e_bin hx hy rfl ?_
  simp only [binV, binI, if_true]
  by_cases e : a = b <;> simp [e]
theorem e_remK {t t' : TypeId} {x y : Operand} {k : IntKind} {a b : Int} (hx : aev T x = some (.o (.c (.v (.int k a))))) (hy : aev T y = some (.o (.c (.v (.int k b))))) (hb : b ≠ 0) : evOp P ⟨dst, .binOp .rem t x y t', ty, pos, af, g⟩ T h = some (.o (.c (.v (.int k (a.tmod b)))), h) := by
  refine e_bin hx hy rfl ?_
  simp only [binV, binI, if_true, if_neg hb]
theorem e_eqA {op : BinOp} {t t' : TypeId} {x y : Operand} {xs ys : List Cell} {us vs : List Value} {r : Bool} (hx : aev T x = some (.o (.agg xs))) (hy : aev T y = some (.o (.agg ys))) (h1 : cellVals xs = some us) (h2 : cellVals ys = some vs) (hr : eEqAgg P op t us.toArray vs.toArray = some (.bool r)) : evOp P ⟨dst, .binOp op t x y t', ty, pos, af, g⟩ T h = some (VB r, h) := by
  simp only [evOp, hx, hy, evBin, h1, h2, hr]
theorem e_boxN {e : TypeId} {x : Operand} {v : V1} {HB L L' : Heap} {N0 n : Nat} (hN : HB.length = N0) (hx : aev T x = some (.o v)) (hn : L.length = n) (hL : L ++ [⟨v.cells, true, true⟩] = L') : evOp P ⟨dst, .box e x, ty, pos, af, g⟩ T (HB ++ L) = some (.o (.c (.ptr (N0 + n) 0)), HB ++ L') := by
  subst hN; exact e_box hx hn hL
theorem e_allocN {e : TypeId} {cs : List Cell} {HB L L' : Heap} {N0 n : Nat} (hN : HB.length = N0) (hz : zeroOf P e = some cs) (hn : L.length = n) (hL : L ++ [⟨cs, true, true⟩] = L') : evOp P ⟨dst, .alloc e, ty, pos, af, g⟩ T (HB ++ L) = some (.o (.c (.ptr (N0 + n) 0)), HB ++ L') := by
  subst hN; exact e_alloc hz hn hL
def nlT (P : Program) (t : TypeId) : List (Nat × Nat) := match P.underlying t with | some (.slice e) => nlOf P e | _ => []
theorem e_lit {t : TypeId} {k bb len : Nat} {z : List Cell} {ps : Array (Nat × Operand)} {pl : List (Nat × V1)} {cs : List Cell} {xs : List (List Cell)} {nl : List (Nat × Nat)} (ht : SlT P t k z bb) (hnl : nlT P t = nl) (hp : partsA T ps.toList = some pl) (hc : fillA (fun j => some (j * k, k)) (List.replicate len z).flatten pl = some cs) (hlen : decide (len * k ≤ 16777216) = true) (hv : cs.all isVL = true) (hx : (chunk k len cs).map (nlL nl) = xs) :
    evOp P ⟨dst, .buildSlice t len ps, ty, pos, af, g⟩ T h = some (.o (.c (.LC k xs)), h) := by
  obtain ⟨e, i, he, hi, rfl, hby, hz, hzl, hk⟩ := ht
  have : eLit P t len pl = some (.LC i.size xs) := by
    have hn : nlOf P e = nl := by rw [← hnl]; simp only [nlT, he]
    simp only [eLit, he, hi, hz, hc]
    rw [if_pos ⟨hzl, hk, of_decide_eq_true hlen⟩, if_pos hv, hn, hx]
  simp only [evOp, hp, this]
theorem e_lenMC {α : Type} {t : TypeId} {x : Operand} {k : Nat} {l : List α} {f : α → List Cell} (hx : aev T x = some (.o (.c (.LC k (l.map f))))) (ht : isSliceT P t = true) : evOp P ⟨dst, .call ⟨.builtin .len, #[x], #[t]⟩, ty, pos, af, g⟩ T h = some (VI l.length, h) := by
  obtain ⟨e, he⟩ := isSliceT_ok ht
  have : eLen P t (.o (.c (.LC k (l.map f)))) = some l.length := by simp only [eLen, he, List.length_map]
  simp only [evOp, argsA, hx, this]
theorem e_ixMC {α : Type} [Inhabited α] {t : TypeId} {x y : Operand} {k : Nat} {l : List α} {f : α → List Cell} {j : IntKind} {i : Int} (hx : aev T x = some (.o (.c (.LC k (l.map f))))) (hy : aev T y = some (.o (.c (.v (.int j i))))) (ht : ElF P t k) (hi : 0 ≤ i ∧ i < l.length) : evOp P ⟨dst, .indexAddr t x y, ty, pos, af, g⟩ T h = some (.o (.c (.rp (f (gd l i)))), h) := by
  obtain ⟨e, inf, he, hinf, rfl⟩ := ht
  have hs : sev T y = some (.int j i) := by unfold sev; rw [hy]; rfl
  have hg : (l.map f)[i.toNat]? = some (f (gd l i)) := by rw [List.getElem?_map, gd_get hi]; rfl
  have : eIndexL P t inf.size (l.map f) i = some (.o (.c (.rp (f (gd l i))))) := by
    simp only [eIndexL, he, hinf]
    rw [if_pos ⟨trivial, hi.1⟩]
    simp only [hg]
  simp only [evOp, hx, hs, this]
theorem bx {HB L : Heap} {N0 k : Nat} {ob : AO} (hN : HB.length = N0) (hk : L[k]? = some ob) : (HB ++ L)[N0 + k]? = some ob := by subst hN; exact box_get hk
theorem pb {HB L : Heap} {b : Nat} {ob : AO} (hb : HB[b]? = some ob) : (HB ++ L)[b]? = some ob := old_get hb
theorem pset {H L : Heap} {b : Nat} {o : AO} (hb : b < H.length) : (H.set b o ++ L)[b]? = some o := by
  rw [List.getElem?_append_left (by simpa using hb), List.getElem?_set_self hb]
theorem e_ldb1 {t : TypeId} {x : Operand} {n b o : Nat} {cs : List Cell} {c : Cell} {own : Bool} (hx : aev T x = some (.o (.c (.ptr b o)))) (ht : TyF P t false n) (hb : h[b]? = some ⟨cs, own, true⟩) (hc : cs[o]? = some c) : evOp P ⟨dst, .load t x, ty, pos, af, g⟩ T h = some (.o (.c c), h) := e_ld hx (eLoad_1 ht hb rfl hc)
theorem e_ldbA {t : TypeId} {x : Operand} {n b o : Nat} {cs cs' : List Cell} {own : Bool} (hx : aev T x = some (.o (.c (.ptr b o)))) (ht : TyF P t true n) (hb : h[b]? = some ⟨cs, own, true⟩) (hc : (cs.drop o).take n = cs') (hn : cs'.length = n) : evOp P ⟨dst, .load t x, ty, pos, af, g⟩ T h = some (.o (.agg cs'), h) := e_ld hx (eLoad_A ht hb rfl hc hn)
/-- a store into a box of the function's own -/
theorem e_stN {t : TypeId} {x y : Operand} {o n k : Nat} {ag : Bool} {v : V1} {cs cs' : List Cell} {HB L L' : Heap} {N0 : Nat} (hN : HB.length = N0) (hx : aev T x = some (.o (.c (.ptr (N0 + k) o)))) (hy : aev T y = some (.o v)) (ht : TyF P t ag n) (hk : L[k]? = some ⟨cs, true, true⟩) (hv : v.cells.length = n) (hfit : decide (o + n ≤ cs.length) = true) (hcs : putCells cs o v.cells = cs') (hL : L.set k ⟨cs', true, true⟩ = L') :
    evOp P ⟨dst, .store t x y, ty, pos, af, g⟩ T (HB ++ L) = some (undefA, HB ++ L') := by
  subst hN
  obtain ⟨dd, i, hd, hi, _, rfl⟩ := ht
  have he : eStore P t (HB.length + k) o v (HB ++ L) = some (HB ++ L') := by
    simp only [eStore, box_get hk, hi]
    rw [if_pos ⟨trivial, trivial, hv, by rw [hv]; exact of_decide_eq_true hfit⟩, set_right, hcs, hL]
  simp only [evOp, hx, hy, he]
/-- a store into a box that was handed in -/
theorem e_stP {t : TypeId} {x y : Operand} {b o n : Nat} {ag : Bool} {v : V1} {cs cs' : List Cell} {H L : Heap} (hb : b < H.length) (hx : aev T x = some (.o (.c (.ptr b o)))) (hy : aev T y = some (.o v)) (ht : TyF P t ag n) (hv : v.cells.length = n) (hfit : decide (o + n ≤ cs.length) = true) (hcs : putCells cs o v.cells = cs') :
    evOp P ⟨dst, .store t x y, ty, pos, af, g⟩ T (H.set b ⟨cs, true, true⟩ ++ L) = some (undefA, H.set b ⟨cs', true, true⟩ ++ L) := by
  obtain ⟨dd, i, hd, hi, _, rfl⟩ := ht
  have he : eStore P t b o v (H.set b ⟨cs, true, true⟩ ++ L) = some (H.set b ⟨cs', true, true⟩ ++ L) := by
    simp only [eStore, pset hb (o := ⟨cs, true, true⟩), hi]
    rw [if_pos ⟨trivial, trivial, hv, by rw [hv]; exact of_decide_eq_true hfit⟩, hcs, List.set_append_left _ _ (by simpa using hb), List.set_set]
  simp only [evOp, hx, hy, he]
end

abbrev cI (x : Int) : List Cell := [I x]
abbrev c_u8 (x : Int) : List Cell := [.v (.int .u8 x)]
abbrev cL {α : Type} (k : Nat) (f : α → List Cell) (l : List α) : List Cell := [.L k (l.map f)]
section
variable {α : Type} {f : α → List Cell} {l : List α} {k : Nat}
theorem flat_all (hf : ∀ x, (f x).all flatC = true) : ((l.map f).flatten).all flatC = true := by
  induction l with
  | nil => rfl
  | cons x r ih => simp only [List.map_cons, List.flatten_cons, List.all_append, hf x, ih, Bool.and_self]
theorem lens_all (hf : ∀ x, (f x).length = k) : ∀ ps ∈ l.map f, ps.length = k := fun ps h => by
  obtain ⟨x, _, rfl⟩ := List.mem_map.1 h
  exact hf x
theorem vl_all (hf : ∀ x, (f x).all isVL = true) : ∀ ps ∈ l.map f, ps.all isVL = true := fun ps h => by
  obtain ⟨x, _, rfl⟩ := List.mem_map.1 h
  exact hf x
theorem lens_fl (hf : ∀ x, (f x).length = k) : ((l.map f).flatten).length = l.length * k := by
  induction l with
  | nil => simp
  | cons x r ih => simp only [List.map_cons, List.flatten_cons, List.length_append, hf x, ih, List.length_cons, Nat.add_mul, Nat.one_mul]; omega
theorem src_L {h : Heap} : srcCells (.L k (l.map f)) k h = some (l.length, (l.map f).flatten) := by simp only [srcCells, if_true, List.length_map]
theorem src_LC {h : Heap} : srcCells (.LC k (l.map f)) k h = some (l.length, (l.map f).flatten) := by simp only [srcCells, if_true, List.length_map]
end
section
variable {P : Program} {T : Nat → AV} {dst : Option Nat} {ty : TypeId} {pos : String} {af : Array Edge} {g : Option (Nat × Bool)} {h : Heap} {α : Type} {f : α → List Cell}
theorem e_apN {t : TypeId} {k bb q m n : Nat} {z : List Cell} {s x : Operand} {xc : Cell} {lv : Bool} {xs : List α} {HB L L' : Heap} {N0 : Nat} (ht : SlT P t k z bb) (hN : HB.length = N0) (hs : aev T s = some (.o (.c (.v (.slice none 0 0))))) (hx : aev T x = some (.o (.c xc))) (hsrc : srcCells xc k (HB ++ L) = some (m, (xs.map f).flatten)) (hb : m ≤ q) (hq : decide (q ≤ 9223372036854775807 ∧ q * bb ≤ 140737488355328) = true) (hlv : decide (0 < m) = lv) (hn : L.length = n) (hL : L ++ [⟨(xs.map f).flatten, true, lv⟩] = L') :
    evOp P ⟨dst, .call ⟨.builtin .append, #[s, x], #[t, t]⟩, ty, pos, af, g⟩ T (HB ++ L) = some (.o (.c (.g (N0 + n) m k lv)), HB ++ L') := by
  obtain ⟨e, i, he, hi, rfl, rfl, hz, hzl, hk⟩ := ht
  subst hlv
  subst hN
  obtain ⟨q1, q2⟩ := of_decide_eq_true hq
  have hmb : m * i.bytes ≤ 140737488355328 := Nat.le_trans (Nat.mul_le_mul_right _ hb) q2
  have hap : eAppend P t (.v (.slice none 0 0)) xc (HB ++ L) = some (.g (HB ++ L).length m i.size (decide (0 < m)), HB ++ L ++ [⟨(xs.map f).flatten, true, decide (0 < m)⟩]) := by
    simp only [eAppend, he, hi, hz, hsrc]
    rw [if_pos ⟨hzl, hk⟩, if_pos ⟨by omega, hmb⟩]
  have ha : argsA T [s, x] = some [.o (.c (.v (.slice none 0 0))), .o (.c xc)] := by simp only [argsA, hs, hx]
  simp only [evOp, ha, if_true, hap]
  rw [List.append_assoc, hL, List.length_append, hn]
theorem e_apC {t : TypeId} {k bb q m n : Nat} {z : List Cell} {s x : Operand} {xc : Cell} {lv : Bool} {xs ys : List α} {HB L L' : Heap} {N0 : Nat} (ht : SlT P t k z bb) (hN : HB.length = N0) (hs : aev T s = some (.o (.c (.LC k (xs.map f))))) (hx : aev T x = some (.o (.c xc))) (hsrc : srcCells xc k (HB ++ L) = some (m, (ys.map f).flatten)) (hm : ys.length = m) (hor : xs.length = 0 ∨ 0 < m) (hb : xs.length + m ≤ q) (hq : decide (q ≤ 9223372036854775807 ∧ q * bb ≤ 140737488355328) = true) (hlv : decide (0 < m) = lv) (hn : L.length = n) (hL : L ++ [⟨((xs ++ ys).map f).flatten, true, lv⟩] = L') :
    evOp P ⟨dst, .call ⟨.builtin .append, #[s, x], #[t, t]⟩, ty, pos, af, g⟩ T (HB ++ L) = some (.o (.c (.g (N0 + n) (xs ++ ys).length k lv)), HB ++ L') := by
  obtain ⟨e, i, he, hi, rfl, rfl, hz, hzl, hk⟩ := ht
  subst hlv
  subst hN
  obtain ⟨q1, q2⟩ := of_decide_eq_true hq
  have hmb : (xs.length + m) * i.bytes ≤ 140737488355328 := Nat.le_trans (Nat.mul_le_mul_right _ hb) q2
  have hap : eAppend P t (.LC i.size (xs.map f)) xc (HB ++ L) = some (.g (HB ++ L).length (xs.length + m) i.size (decide (0 < m)), HB ++ L ++ [⟨(xs.map f).flatten ++ (ys.map f).flatten, true, decide (0 < m)⟩]) := by
    simp only [eAppend, he, hi, hz, hsrc, List.length_map]
    rw [if_pos ⟨hzl, hk⟩, if_pos ⟨trivial, hor⟩, if_pos ⟨by omega, hmb⟩]
  have ha : argsA T [s, x] = some [.o (.c (.LC i.size (xs.map f))), .o (.c xc)] := by simp only [argsA, hs, hx]
  simp only [evOp, ha, if_true, hap]
  rw [List.append_assoc, ← List.flatten_append, ← List.map_append, hL, List.length_append, hn, List.length_append, hm]
theorem kill_app {HB L : Heap} {j : Nat} : kill (HB ++ L) (HB.length + j) = HB ++ L.modify j fun o => { o with live := false } := by
  unfold kill
  apply List.ext_getElem?
  intro i
  rw [List.getElem?_modify]
  rcases Nat.lt_or_ge i HB.length with h1 | h1
  · have e : (HB.length + j = i) = False := by simp; omega
    simp only [e, if_false]
    rw [List.getElem?_append_left h1, List.getElem?_append_left h1]
    cases HB[i]? <;> rfl
  · have e : (HB.length + j = i) = (j = i - HB.length) := propext ⟨fun h => by omega, fun h => by omega⟩
    rw [List.getElem?_append_right h1, List.getElem?_append_right h1, List.getElem?_modify]
    simp only [e]
theorem e_apG {t : TypeId} {k bb q m j n : Nat} {z : List Cell} {s x : Operand} {xc : Cell} {lv lv' : Bool} {xs ys : List α} {HB L L' : Heap} {N0 : Nat} (ht : SlT P t k z bb) (hN : HB.length = N0) (hs : aev T s = some (.o (.c (.g (N0 + j) xs.length k lv)))) (hx : aev T x = some (.o (.c xc))) (hob : (HB ++ L)[N0 + j]? = some ⟨(xs.map f).flatten, true, lv⟩) (hf : ∀ x, (f x).length = k) (hsrc : srcCells xc k (HB ++ L) = some (m, (ys.map f).flatten)) (hm : ys.length = m) (hb : xs.length + m ≤ q) (hq : decide (q ≤ 9223372036854775807 ∧ q * bb ≤ 140737488355328) = true) (hlv : (lv || decide (0 < m)) = lv') (hn : L.length = n) (hL : (L.modify j fun o => { o with live := false }) ++ [⟨((xs ++ ys).map f).flatten, true, lv'⟩] = L') :
    evOp P ⟨dst, .call ⟨.builtin .append, #[s, x], #[t, t]⟩, ty, pos, af, g⟩ T (HB ++ L) = some (.o (.c (.g (N0 + n) (xs ++ ys).length k lv')), HB ++ L') := by
  obtain ⟨e, i, he, hi, rfl, rfl, hz, hzl, hk⟩ := ht
  subst hlv
  subst hN
  obtain ⟨q1, q2⟩ := of_decide_eq_true hq
  have hmb : (xs.length + m) * i.bytes ≤ 140737488355328 := Nat.le_trans (Nat.mul_le_mul_right _ hb) q2
  have hap : eAppend P t (.g (HB.length + j) xs.length i.size lv) xc (HB ++ L) = some (.g (HB ++ L).length (xs.length + m) i.size (lv || decide (0 < m)), kill (HB ++ L) (HB.length + j) ++ [⟨(xs.map f).flatten ++ (ys.map f).flatten, true, lv || decide (0 < m)⟩]) := by
    simp only [eAppend, he, hi, hz, hsrc, hob]
    rw [if_pos ⟨hzl, hk⟩, if_pos ⟨trivial, trivial, trivial, lens_fl hf, by omega, hmb⟩]
  have ha : argsA T [s, x] = some [.o (.c (.g (HB.length + j) xs.length i.size lv)), .o (.c xc)] := by simp only [argsA, hs, hx]
  simp only [evOp, ha, if_true, hap]
  rw [kill_app, List.append_assoc, ← List.flatten_append, ← List.map_append, hL, List.length_append, hn, List.length_append, hm]
theorem flat_at {l : List α} {k : Nat} (hf : ∀ x, (f x).length = k) {i : Nat} {x : α} (hi : l[i]? = some x) : (((l.map f).flatten).drop (i * k)).take k = f x := by
  induction l generalizing i with
  | nil => simp at hi
  | cons y r ih =>
    cases i with
    | zero =>
      simp at hi; subst hi
      simp only [List.map_cons, List.flatten_cons, Nat.zero_mul, List.drop_zero]
      rw [← hf y, List.take_left]
    | succ i =>
      have := ih (i := i) (by simpa using hi)
      simp only [List.map_cons, List.flatten_cons]
      rw [show (i + 1) * k = (f y).length + i * k by rw [hf, Nat.add_mul]; omega, ← List.drop_drop, List.drop_left]
      exact this
theorem e_ixg {t : TypeId} {x y : Operand} {b n k kk : Nat} {lv : Bool} {j : IntKind} {i : Int} (hx : aev T x = some (.o (.c (.g b n kk lv)))) (hy : aev T y = some (.o (.c (.v (.int j i))))) (ht : ElF P t k) (hi : 0 ≤ i ∧ i < n) : evOp P ⟨dst, .indexAddr t x y, ty, pos, af, g⟩ T h = some (.o (.c (.ptr b (0 + i.toNat * k))), h) := by
  obtain ⟨e, inf, he, hinf, rfl⟩ := ht
  have hs : sev T y = some (.int j i) := by unfold sev; rw [hy]; rfl
  have : eIndexSl P t b 0 n i = some (.o (.c (.ptr b (0 + i.toNat * inf.size)))) := by simp only [eIndexSl, he, hinf]; rw [if_pos hi]
  simp only [evOp, hx, hs, this]
theorem flat_drop [Inhabited α] {l : List α} {k : Nat} (hf : ∀ x, (f x).length = k) {i : Int} (hi : 0 ≤ i ∧ i < l.length) {off n : Nat} (hk : off + n ≤ k) : (((l.map f).flatten).drop (i.toNat * k + off)).take n = ((f (gd l i)).drop off).take n := by
  have h1 := flat_at hf (gd_get hi)
  rw [← h1, List.drop_take, List.drop_drop, List.take_take, Nat.min_eq_left (by omega)]
theorem e_ldg1 [Inhabited α] {t : TypeId} {x : Operand} {n b k off o : Nat} {l : List α} {i : Int} {c : Cell} (hx : aev T x = some (.o (.c (.ptr b o)))) (ht : TyF P t false n) (hb : h[b]? = some ⟨(l.map f).flatten, true, true⟩) (hf : ∀ x, (f x).length = k) (hi : 0 ≤ i ∧ i < l.length) (hc : (f (gd l i))[off]? = some c) (ho : o = i.toNat * k + off) : evOp P ⟨dst, .load t x, ty, pos, af, g⟩ T h = some (.o (.c c), h) := by
  refine e_ldb1 hx ht hb ?_
  have hk := lt_of_get hc
  rw [hf] at hk
  have h2 : ((((l.map f).flatten).drop (i.toNat * k + off)).take 1)[0]? = some c := by
    rw [flat_drop hf hi (by omega), List.getElem?_take, if_pos (by omega), List.getElem?_drop, Nat.add_zero]; exact hc
  rw [List.getElem?_take] at h2
  simp only [Nat.zero_lt_one, if_true, List.getElem?_drop, Nat.add_zero] at h2
  rw [ho]; exact h2
theorem e_ldgA [Inhabited α] {t : TypeId} {x : Operand} {n b k off o : Nat} {l : List α} {i : Int} {cs : List Cell} (hx : aev T x = some (.o (.c (.ptr b o)))) (ht : TyF P t true n) (hb : h[b]? = some ⟨(l.map f).flatten, true, true⟩) (hf : ∀ x, (f x).length = k) (hi : 0 ≤ i ∧ i < l.length) (hc : ((f (gd l i)).drop off).take n = cs) (hn : cs.length = n) (ho : o = i.toNat * k + off) : evOp P ⟨dst, .load t x, ty, pos, af, g⟩ T h = some (.o (.agg cs), h) := by
  refine e_ldbA hx ht hb ?_ hn
  have hl : cs.length ≤ k - off := by rw [← hc, List.length_take, List.length_drop, hf]; omega
  by_cases h0 : n = 0
  · subst h0; have : cs = [] := List.eq_nil_of_length_eq_zero hn; rw [this]; simp
  · rw [ho, flat_drop hf hi (by omega)]; exact hc
theorem flat_put2 [Inhabited α] {l : List α} {k : Nat} (hf : ∀ x, (f x).length = k) {i : Int} (hi : 0 ≤ i ∧ i < l.length) {off : Nat} {vs : List Cell} {x : α} (hx : putCells (f (gd l i)) off vs = f x) (hk : off + vs.length ≤ k) : putCells ((l.map f).flatten) (i.toNat * k + off) vs = ((l.set i.toNat x).map f).flatten := by
  have hlt : i.toNat < l.length := by omega
  have hg : l[i.toNat] = gd l i := by
    have := gd_get hi
    rw [List.getElem?_eq_getElem hlt] at this
    exact Option.some.inj this
  have h1 : ((l.take i.toNat).map f).flatten.length = i.toNat * k := by rw [lens_fl hf, List.length_take, Nat.min_eq_left (by omega)]
  have h2 : (l.map f).flatten = ((l.take i.toNat).map f).flatten ++ (f l[i.toNat] ++ ((l.drop (i.toNat + 1)).map f).flatten) := by
    have : l = l.take i.toNat ++ l[i.toNat] :: l.drop (i.toNat + 1) := by simp
    rw [← List.flatten_cons, ← List.map_cons, ← List.flatten_append, ← List.map_append, ← this]
  have h3 : f x = (f (gd l i)).take off ++ (vs ++ (f (gd l i)).drop (off + vs.length)) := by rw [← hx]; exact put_at (by rw [hf]; omega)
  have hle : (i.toNat + 1) * k ≤ l.length * k := Nat.mul_le_mul_right k hlt
  rw [Nat.add_mul] at hle
  rw [put_at (by rw [lens_fl hf]; omega), List.set_eq_take_append_cons_drop, if_pos hlt, List.map_append, List.flatten_append, List.map_cons, List.flatten_cons, h3, h2, hg]
  have h4 : (f (gd l i)).length = k := hf _
  have e1 : (((l.take i.toNat).map f).flatten ++ (f (gd l i) ++ ((l.drop (i.toNat + 1)).map f).flatten)).take (i.toNat * k + off) = ((l.take i.toNat).map f).flatten ++ (f (gd l i)).take off := by
    rw [← h1, List.take_append, List.take_of_length_le (by omega), Nat.add_sub_cancel_left, List.take_append_of_le_length (by omega)]
  have e2 : (((l.take i.toNat).map f).flatten ++ (f (gd l i) ++ ((l.drop (i.toNat + 1)).map f).flatten)).drop (i.toNat * k + off + vs.length) = (f (gd l i)).drop (off + vs.length) ++ ((l.drop (i.toNat + 1)).map f).flatten := by
    rw [Nat.add_assoc, ← h1, ← List.drop_drop, List.drop_left, List.drop_append_of_le_length (by omega)]
  rw [e1, e2]
  simp only [List.append_assoc]
theorem e_stg [Inhabited α] {t : TypeId} {xo y : Operand} {n j k off o : Nat} {l : List α} {i : Int} {x : α} {ag : Bool} {v : V1} {HB L L' : Heap} {N0 : Nat} (hN : HB.length = N0) (hx : aev T xo = some (.o (.c (.ptr (N0 + j) o)))) (hy : aev T y = some (.o v)) (ht : TyF P t ag n) (hL0 : L[j]? = some ⟨(l.map f).flatten, true, true⟩) (hf : ∀ x, (f x).length = k) (hn : v.cells.length = n) (hv : putCells (f (gd l i)) off v.cells = f x) (hi : 0 ≤ i ∧ i < l.length) (ho : o = i.toNat * k + off) (hL : L.set j ⟨((l.set i.toNat x).map f).flatten, true, true⟩ = L') (hfit : decide (off + n ≤ k) = true := by rfl) :
    evOp P ⟨dst, .store t xo y, ty, pos, af, g⟩ T (HB ++ L) = some (undefA, HB ++ L') := by
  subst hN
  obtain ⟨dd, ii, hd, hii, _, hsz⟩ := ht
  have hlt : i.toNat < l.length := by omega
  have hfit := of_decide_eq_true hfit
  have hle : (i.toNat + 1) * k ≤ l.length * k := Nat.mul_le_mul_right k hlt
  rw [Nat.add_mul] at hle
  have he : eStore P t (HB.length + j) o v (HB ++ L) = some (HB ++ L') := by
    simp only [eStore, box_get hL0, hii]
    rw [if_pos ⟨trivial, trivial, by rw [hn, hsz], by rw [hn, lens_fl hf]; omega⟩, set_right, ho, flat_put2 hf hi hv (by omega), hL]
  simp only [evOp, hx, hy, he]
def boT (P : Program) (t : TypeId) : Bool := match P.underlying t with | some .bool => true | _ => false
theorem e_neB {t t' : TypeId} {x y : Operand} {a b : Bool} (hx : aev T x = some (VB a)) (hy : aev T y = some (VB b)) (ht : boT P t = true) : evOp P ⟨dst, .binOp .neq t x y t', ty, pos, af, g⟩ T h = some (VB (!(a == b)), h) := by
  refine e_bin hx hy rfl ?_
  unfold boT at ht
  split at ht
  · rename_i hu; simp only [binV, hu]
  · cases ht
theorem bset {HB L L' : Heap} {N0 k : Nat} {o : AO} (hN : HB.length = N0) (hL : L.set k o = L') : (HB ++ L).set (N0 + k) o = HB ++ L' := by subst hN; rw [set_right, hL]
theorem pset2 {H L : Heap} {b : Nat} {o o' : AO} (hb : b < H.length) : (H.set b o ++ L).set b o' = H.set b o' ++ L := by
  rw [List.set_append_left _ _ (by simpa using hb), List.set_set]
end
def eqF : List (Option Bool) → Option Bool
  | [] => some true
  | e :: r => match e with
    | some true => eqF r
    | some false => some false
    | none => none
theorem eqF_cons {b c : Bool} {r : List (Option Bool)} (h : eqF r = some c) : eqF (some b :: r) = some (b && c) := by cases b <;> simp [eqF, h]
theorem eqF_cons2 {e : Option Bool} {b c : Bool} {r : List (Option Bool)} (he : e = some b) (h : eqF r = some c) : eqF (e :: r) = some (b && c) := by subst he; exact eqF_cons h
end Rv
