import Derived.Test.YtnlpkgamglhnbaaRvRun3
set_option linter.unusedVariables false
set_option linter.unusedSimpArgs false
namespace Rv
open Go Go.RowKit
variable {P : Program} {N : Nat} {h : Heap}
theorem resA_n {T : Nat → AV} : resA P T h [] = some [] := rfl
theorem resA_t {T : Nat → AV} {t : Nat} {v : V1} {r : List ResultVar} {l : List V1} (ht : T t = .o v) (hr : resA P T h r = some l) : resA P T h (.tmp t :: r) = some (v :: l) := by simp only [resA, ht, hr]
theorem resA_c {T : Nat → AV} {t : Nat} {ty : TypeId} {b o : Nat} {v : V1} {r : List ResultVar} {l : List V1} (ht : T t = .o (.c (.ptr b o))) (he : eLoad P ty b o h = some (.o v)) (hr : resA P T h r = some l) : resA P T h (.cell t ty :: r) = some (v :: l) := by simp only [resA, ht, hr, he]
def bldf (P : Program) (t : TypeId) (l : List (Nat × Nat)) : Bool := match P.underlying t with
  | some (.struct fields) => sizesOf P fields.toList == some l
  | _ => false
theorem e_bld {t : TypeId} {ps : Array (Nat × Operand)} {pl : List (Nat × V1)} {l : List (Nat × Nat)} {z cs : List Cell} {T : Nat → AV} {dst : Option Nat} {ty : TypeId} {pos : String} {af : Array Edge} {g : Option (Nat × Bool)} (hz : zeroOf P t = some z) (hb : bldf P t l = true) (hp : partsA T ps.toList = some pl) (hc : fillA (fun i => l[i]?) z pl = some cs) : evOp P ⟨dst, .build t ps, ty, pos, af, g⟩ T h = some (.o (.agg cs), h) := by
  unfold bldf at hb
  split at hb
  · rename_i fields hf
    have hs : sizesOf P fields.toList = some l := eq_of_beq hb
    have : eBuild P t pl = some (.agg cs) := by simp only [eBuild, hz, hf, hs, hc]
    simp only [evOp, hp, this]
  · cases hb
def insL {α : Type} (l : List α) (i : Nat) (x : α) : List α := l.take i ++ x :: l.drop i
theorem insL_len {α : Type} {l : List α} {i : Nat} (hi : i ≤ l.length) (x : α) : (insL l i x).length = l.length + 1 := by simp [insL]; omega
variable {T : Nat → AV} {dst : Option Nat} {ty : TypeId} {pos : String} {af : Array Edge} {g : Option (Nat × Bool)}
end Rv
