/- Results that lie in boxes; structs that are built; stores and indexes into what is one's own. -/
import Derived.Test.YtnlpkgamglhnbaaRvRun3
set_option linter.unusedVariables false
set_option linter.unusedSimpArgs false
namespace Rv
open Go Go.RowKit
variable {P : Program} {N : Nat} {h : Heap}
/-! ### results that lie in boxes; structs that are built -/
theorem resA_n {T : Nat → AV} : resA P T h [] = some [] := rfl
theorem resA_t {T : Nat → AV} {t : Nat} {v : V1} {r : List ResultVar} {l : List V1} (ht : T t = .o v) (hr : resA P T h r = some l) : resA P T h (.tmp t :: r) = some (v :: l) := by simp only [resA, ht, hr]
theorem resA_c {T : Nat → AV} {t : Nat} {ty : TypeId} {b o : Nat} {v : V1} {r : List ResultVar} {l : List V1} (ht : T t = .o (.c (.ptr b o))) (he : eLoad P ty b o h = some (.o v)) (hr : resA P T h r = some l) : resA P T h (.cell t ty :: r) = some (v :: l) := by simp only [resA, ht, hr, he]
def bldf (P : Program) (t : TypeId) (l : List (Nat × Nat)) : Bool := match P.underlying t with
  | some (.struct fields) => sizesOf P fields.toList == some l
  | _ => false
theorem e_bld {t : TypeId} {ps : Array (Nat × Operand)} {pl : List (Nat × V1)} {l : List (Nat × Nat)} {z cs : List Cell} {T : Nat → AV} {dst : Option Nat} {ty : TypeId} {pos : String} {af : Array Edge} {g : Option (Nat × Bool)} (hz : zeroOf P t = some z) (hb : bldf P t l = true) (hp : partsA T ps.toList = some pl) (hc : fillA (fun i => l[i]?) z pl = some cs) : evOp P ⟨dst, .build t ps, ty, pos, af, g⟩ T h = some (.o (.agg cs), h) := by
  unfold bldf at hb
  split at hb
  · rename_i fields hf
    have hs : sizesOf P fields.toList = some l := eq_of_beq hb
    have : eBuild P t pl = some (.agg cs) := by simp only [eBuild, hz, hf, hs, hc]
    simp only [evOp, hp, this]
  · cases hb
def insL {α : Type} (l : List α) (i : Nat) (x : α) : List α := l.take i ++ x :: l.drop i
theorem insL_len {α : Type} {l : List α} {i : Nat} (hi : i ≤ l.length) (x : α) : (insL l i x).length = l.length + 1 := by simp [insL]; omega
theorem insL_set {α : Type} {l : List α} {i : Nat} (hi : i ≤ l.length) (x y : α) : (insL l i x).set i y = insL l i y := by
  unfold insL
  rw [List.set_append_right _ _ (by simp; omega)]
  simp [Nat.min_eq_left hi]

/-! ### a store into an object of one's own; an index into a slice of one's own -/
variable {T : Nat → AV} {dst : Option Nat} {ty : TypeId} {pos : String} {af : Array Edge} {g : Option (Nat × Bool)}
theorem e_stO {t : TypeId} {x y : Operand} {b o n : Nat} {ag : Bool} {v : V1} {cs : List Cell} (hx : aev T x = some (.o (.c (.ptr b o)))) (hy : aev T y = some (.o v)) (ht : TyF P t ag n) (hb : h[b]? = some ⟨cs, true, true⟩) (hv : v.cells.length = n) (hfit : o + n ≤ cs.length) :
    evOp P ⟨dst, .store t x y, ty, pos, af, g⟩ T h = some (undefA, h.set b ⟨putCells cs o v.cells, true, true⟩) := by
  obtain ⟨dd, i, hd, hi, _, rfl⟩ := ht
  have he : eStore P t b o v h = some (h.set b ⟨putCells cs o v.cells, true, true⟩) := by
    simp only [eStore, hb, hi]
    rw [if_pos ⟨trivial, trivial, hv, by omega⟩]
  simp only [evOp, hx, hy, he]
theorem e_ixs {t : TypeId} {x y : Operand} {b o n k kk c : Nat} {ex : Bool} {j : IntKind} {i : Int} (hx : aev T x = some (.o (.c (.sl b o n c kk ex)))) (hy : aev T y = some (.o (.c (.v (.int j i))))) (ht : ElF P t k) (hi : 0 ≤ i ∧ i < n) : evOp P ⟨dst, .indexAddr t x y, ty, pos, af, g⟩ T h = some (.o (.c (.ptr b (o + i.toNat * k))), h) := by
  obtain ⟨e, inf, he, hinf, rfl⟩ := ht
  have hs : sev T y = some (.int j i) := by unfold sev; rw [hy]; rfl
  have : eIndexSl P t b o n i = some (.o (.c (.ptr b (o + i.toNat * inf.size)))) := by simp only [eIndexSl, he, hinf]; rw [if_pos hi]
  simp only [evOp, hx, hs, this]

end Rv
