import Derived.Test.YtnlpkgamglhnbaaRvBase
import Derived.WalkLawsBesides
set_option linter.unusedVariables false
set_option linter.unusedSimpArgs false
namespace Rv
open Go Go.RowKit

def upd (T : Nat → AV) (d : Nat) (v : AV) : Nat → AV := fun t => if t = d then v else T t
def updO (T : Nat → AV) : Option Nat → AV → Nat → AV
  | none, _ => T
  | some d, v => upd T d v
abbrev undefA : AV := .tup []

def cAV : Value → Option AV
  | .agg cs => if cs.toList.all (·.oneCell') then some (.o (.agg (cs.toList.map .v))) else none
  | .tuple _ => none
  | v => some (.o (.c (.v v)))
def aev (T : Nat → AV) : Operand → Option AV
  | .tmp t => some (T t)
  | .const c => cAV c
  | .global _ => none
  | .func f => some (.o (.c (.fn f [])))

/-- The slots. -/
def TR (μ : Mu) (T : Nat → AV) (a : Act) : Prop := ∀ t, RV μ (T t) (a.eval (.tmp t))

theorem cAV_ok {μ : Mu} {v : Value} {x : AV} (h : cAV v = some x) : RV μ x v := by
  unfold cAV at h
  split at h
  · rename_i cs
    split at h
    · rename_i hall
      obtain rfl := Option.some.inj h
      refine ⟨cs, rfl, by simp, fun i a b ha hb => ?_⟩
      rw [List.getElem?_map, Option.map_eq_some_iff] at ha
      obtain ⟨y, hy, rfl⟩ := ha
      rw [hy] at hb
      obtain rfl := Option.some.inj hb
      exact ⟨rfl, (List.all_eq_true.1 hall) _ (List.mem_of_getElem? hy)⟩
    · cases h
  · cases h
  · rename_i h1 h2
    obtain rfl := Option.some.inj h
    refine ⟨rfl, ?_⟩
    cases v <;> first | rfl | exact absurd rfl (h1 _) | exact absurd rfl (h2 _)
theorem aev_ok {μ : Mu} {T : Nat → AV} {a : Act} (ht : TR μ T a) {x : Operand} {v : AV} (h : aev T x = some v) : RV μ v (a.eval x) := by
  cases x with
  | tmp t => obtain rfl := Option.some.inj h; exact ht t
  | const c => exact cAV_ok h
  | global g => cases h
  | func f => obtain rfl := Option.some.inj h; exact ⟨#[], rfl, R2.nil _⟩

def AV.val : AV → Option Value
  | .o (.c (.v x)) => some x
  | _ => none
theorem val_ok {μ : Mu} {v : AV} {x u : Value} (h : v.val = some x) (hr : RV μ v u) : u = x ∧ x.oneCell' = true := by
  unfold AV.val at h
  split at h
  · obtain rfl := Option.some.inj h; exact hr
  · cases h
/-- A scalar operand. -/
def sev (T : Nat → AV) (x : Operand) : Option Value := (aev T x).bind AV.val
theorem sev_ok {μ : Mu} {T : Nat → AV} {a : Act} (ht : TR μ T a) {x : Operand} {v : Value} (h : sev T x = some v) : a.eval x = v ∧ v.oneCell' = true := by
  obtain ⟨y, hy, hv⟩ := Option.bind_eq_some_iff.1 h
  exact val_ok hv (aev_ok ht hy)
theorem R_val {μ : Mu} {v : Value} (h : v.oneCell' = true) : RV μ (.o (.c (.v v))) v := ⟨rfl, h⟩

def binI (op : BinOp) (k : IntKind) (a b : Int) : Option Value :=
  match op with
  | .add => some (.int k (k.wrap (a + b)))
  | .sub => some (.int k (k.wrap (a - b)))
  | .mul => some (.int k (k.wrap (a * b)))
  | .quo => if b = 0 then none else some (.int k (k.wrap (a.tdiv b)))
  | .rem => if b = 0 then none else some (.int k (a.tmod b))
  | .and | .or | .xor | .andNot => some (.int k (Go.bits op k a b))
  | .eql => some (.bool (a == b))
  | .neq => some (.bool (a != b))
  | .lss => some (.bool (decide (a < b)))
  | .leq => some (.bool (decide (a ≤ b)))
  | .gtr => some (.bool (decide (b < a)))
  | .geq => some (.bool (decide (b ≤ a)))
  | _ => none
def binS (op : BinOp) (x y : ByteArray) : Option Value :=
  match op with
  | .add => if x.size + y.size ≤ 9223372036854775807 then some (.string (x ++ y)) else none
  | .eql => some (.bool (x.toList == y.toList))
  | .neq => some (.bool (!(x.toList == y.toList)))
  | .lss => some (.bool (Op.bytesLess x.toList y.toList))
  | _ => none
def binV (P : Program) (op : BinOp) (t : TypeId) : Value → Value → Option Value
  | .int k a, .int k' b =>
    match op with
    | .shl => if b < 0 then none else some (.int k (k.wrap (a * 2 ^ (min b.toNat k.bits))))
    | .shr => if b < 0 then none else some (.int k (a.fdiv (2 ^ (min b.toNat k.bits))))
    | _ => if k = k' then binI op k a b else none
  | .string a, .string b => binS op a b
  | .bool a, .bool b => match P.underlying t, op with
    | some .bool, .eql => some (.bool (a == b))
    | some .bool, .neq => some (.bool (!(a == b)))
    | _, _ => none
  | _, _ => none

theorem binI_ok (P : Program) (op : BinOp) (t : TypeId) (x y : Operand) (k : IntKind) (a b : Int) (r : Value) (w : World) (h : binI op k a b = some r) :
    (do eqGuard op t x y (.int k a) (.int k b); binOp op t (.int k a) (.int k b) : Sem Value).run P w = .ok r w ∧ r.oneCell' = true := by
  rw [eqGuard_at_int]
  cases op <;> simp only [binI] at h
  case quo =>
    split at h
    · cases h
    · rename_i hb
      obtain rfl := Option.some.inj h
      exact ⟨by rw [binOp_quo]; simp [Op.intDiv, hb], rfl⟩
  case rem =>
    split at h
    · cases h
    · rename_i hb
      obtain rfl := Option.some.inj h
      exact ⟨by rw [binOp_rem]; simp [Op.intDiv, hb], rfl⟩
  case add => obtain rfl := Option.some.inj h; exact ⟨by rw [binOp_add]; rfl, rfl⟩
  case sub => obtain rfl := Option.some.inj h; exact ⟨by rw [binOp_sub]; rfl, rfl⟩
  case mul => obtain rfl := Option.some.inj h; exact ⟨by rw [binOp_mul]; rfl, rfl⟩
  case and => obtain rfl := Option.some.inj h; exact ⟨by rw [binOp_and]; rfl, rfl⟩
  case or => obtain rfl := Option.some.inj h; exact ⟨by rw [binOp_or]; rfl, rfl⟩
  case xor => obtain rfl := Option.some.inj h; exact ⟨by rw [binOp_xor]; rfl, rfl⟩
  case andNot => obtain rfl := Option.some.inj h; exact ⟨by rw [binOp_andNot]; rfl, rfl⟩
  case eql => obtain rfl := Option.some.inj h; exact ⟨by rw [binOp_eql]; rfl, rfl⟩
  case neq => obtain rfl := Option.some.inj h; exact ⟨by rw [binOp_neq]; rfl, rfl⟩
  case lss => obtain rfl := Option.some.inj h; exact ⟨by rw [binOp_lss]; rfl, rfl⟩
  case leq => obtain rfl := Option.some.inj h; exact ⟨by rw [binOp_leq]; rfl, rfl⟩
  case gtr => obtain rfl := Option.some.inj h; exact ⟨by rw [binOp_gtr]; rfl, rfl⟩
  case geq => obtain rfl := Option.some.inj h; exact ⟨by rw [binOp_geq]; rfl, rfl⟩
  all_goals cases h
theorem binS_ok (P : Program) (op : BinOp) (t : TypeId) (x y : Operand) (a b : ByteArray) (r : Value) (w : World) (h : binS op a b = some r) :
    (do eqGuard op t x y (.string a) (.string b); binOp op t (.string a) (.string b) : Sem Value).run P w = .ok r w ∧ r.oneCell' = true := by
  rw [eqGuard_at_string]
  have e : ∀ op, op ≠ .shl → op ≠ .shr → binOp op t (.string a) (.string b) = Op.stringOp op a b := fun op _ _ => by cases op <;> rfl
  cases op <;> simp only [binS] at h
  case add =>
    split at h
    · rename_i hb
      obtain rfl := Option.some.inj h
      refine ⟨?_, rfl⟩
      have : ¬ (((a.size + b.size : Nat) : Int) > IntKind.i64.max) := by rw [IntKind.max_i64]; omega
      rw [e _ (by simp) (by simp)]
      simp only [Op.stringOp, pure_bind]
      rw [if_neg this]
      rfl
    · cases h
  case eql => obtain rfl := Option.some.inj h; exact ⟨by rw [e _ (by simp) (by simp)]; rfl, rfl⟩
  case neq => obtain rfl := Option.some.inj h; exact ⟨by rw [e _ (by simp) (by simp)]; rfl, rfl⟩
  case lss => obtain rfl := Option.some.inj h; exact ⟨by rw [e _ (by simp) (by simp)]; rfl, rfl⟩
  all_goals cases h
theorem equalIn_bool (P : Program) (d : Nat) (t : TypeId) (a b : Bool) (w : World) (hu : P.underlying t = some .bool) : (Op.equalIn (d + 1) t (.bool a) (.bool b)).run P w = .ok (a == b) w := by
  simp only [Op.equalIn, Sem.run_bind, run_underlying hu, Result.andThen_ok, Sem.run_pure]
theorem binB_ok (P : Program) (t : TypeId) (x y : Operand) (a b : Bool) (w : World) (hu : P.underlying t = some .bool) :
    (do eqGuard .eql t x y (.bool a) (.bool b); binOp .eql t (.bool a) (.bool b) : Sem Value).run P w = .ok (.bool (a == b)) w ∧
    (do eqGuard .neq t x y (.bool a) (.bool b); binOp .neq t (.bool a) (.bool b) : Sem Value).run P w = .ok (.bool (!(a == b))) w := by
  have e1 : binOp .eql t (.bool a) (.bool b) = (do pure (.bool (← Op.equal t (.bool a) (.bool b)))) := rfl
  have e2 : binOp .neq t (.bool a) (.bool b) = (do pure (.bool (!(← Op.equal t (.bool a) (.bool b))))) := rfl
  have e3 : (Op.equal t (.bool a) (.bool b)).run P w = .ok (a == b) w := equalIn_bool P 9999 t a b w hu
  rw [eqGuard_at_bool, eqGuard_at_bool, e1, e2]
  constructor <;> simp [e3]
theorem binSh_ok (P : Program) (t : TypeId) (x y : Operand) (k k' : IntKind) (a b : Int) (w : World) (hb : ¬ b < 0) :
    (do eqGuard .shl t x y (.int k a) (.int k' b); binOp .shl t (.int k a) (.int k' b) : Sem Value).run P w = .ok (.int k (k.wrap (a * 2 ^ (min b.toNat k.bits)))) w ∧
    (do eqGuard .shr t x y (.int k a) (.int k' b); binOp .shr t (.int k a) (.int k' b) : Sem Value).run P w = .ok (.int k (a.fdiv (2 ^ (min b.toNat k.bits)))) w := by
  rw [eqGuard_at_int, eqGuard_at_int, binOp_shl, binOp_shr]
  constructor <;> simp [Op.shift, hb]

theorem binV_ok (P : Program) (op : BinOp) (t : TypeId) (x y : Operand) (u v r : Value) (w : World) (h : binV P op t u v = some r) :
    (do eqGuard op t x y u v; binOp op t u v : Sem Value).run P w = .ok r w ∧ r.oneCell' = true := by
  unfold binV at h
  split at h
  · rename_i k a k' b
    split at h
    · split at h
      · cases h
      · rename_i hb
        obtain rfl := Option.some.inj h
        exact ⟨(binSh_ok P t x y k k' a b w hb).1, rfl⟩
    · split at h
      · cases h
      · rename_i hb
        obtain rfl := Option.some.inj h
        exact ⟨(binSh_ok P t x y k k' a b w hb).2, rfl⟩
    · split at h
      · rename_i hk
        subst hk
        exact binI_ok P op t x y k a b r w h
      · cases h
  · exact binS_ok P op t x y _ _ r w h
  · rename_i a b
    split at h
    · rename_i hu
      obtain rfl := Option.some.inj h
      exact ⟨(binB_ok P t x y a b w hu).1, rfl⟩
    · rename_i hu
      obtain rfl := Option.some.inj h
      exact ⟨(binB_ok P t x y a b w hu).2, rfl⟩
    · cases h
  · cases h

def unV (op : UnOp) : Value → Option Value
  | .bool b => match op with | .not => some (.bool (!b)) | _ => none
  | .int k n => match op with | .neg => some (.int k (k.wrap (0 - n))) | _ => none
  | _ => none
theorem unV_ok (P : Program) (op : UnOp) (u r : Value) (w : World) (h : unV op u = some r) : (Op.unary op u).run P w = .ok r w ∧ r.oneCell' = true := by
  unfold unV at h
  split at h
  · split at h
    · obtain rfl := Option.some.inj h; exact ⟨rfl, rfl⟩
    · cases h
  · split at h
    · obtain rfl := Option.some.inj h; exact ⟨rfl, rfl⟩
    · cases h
  · cases h

def convV (P : Program) (src dst : TypeId) : Value → Option Value
  | .int _ n => match P.underlying src, P.underlying dst with
    | some _, some (.int k) => some (.int k (k.wrap n))
    | _, _ => none
  | .string s => match P.underlying src, P.underlying dst with
    | some .string, some .string => some (.string s)
    | _, _ => none
  | _ => none
theorem convV_ok (P : Program) (src dst : TypeId) (u r : Value) (w : World) (h : convV P src dst u = some r) : (convert src dst u).run P w = .ok r w ∧ r.oneCell' = true := by
  unfold convV at h
  split at h
  · split at h
    · rename_i h1 h2
      obtain rfl := Option.some.inj h
      exact ⟨by simp [convert, run_underlying h1, run_underlying h2, Conv.intToInt], rfl⟩
    · cases h
  · split at h
    · rename_i h1 h2
      obtain rfl := Option.some.inj h
      exact ⟨by simp [convert, run_underlying h1, run_underlying h2], rfl⟩
    · cases h
  · cases h
end Rv
