import Derived.Test.YtnlpkgamglhnbaaRvVt
import Derived.Test.YtnlpkgamglhnbaaRvLib
import Derived.Test.YtnlpkgamglhnbaaRvBor
set_option linter.unusedVariables false
set_option linter.unusedSimpArgs false
namespace Rv
open Go Go.RowKit Go.Proofs
theorem e_lenLC {P : Program} {T : Nat → AV} {dst : Option Nat} {ty : TypeId} {pos : String} {af : Array Edge} {g : Option (Nat × Bool)} {h : Heap} {t : TypeId} {x : Operand} {k : Nat} {c : List Cell} (hx : aev T x = some (.o (.c (.LC k [c])))) (ht : isSliceT P t = true) : evOp P ⟨dst, .call ⟨.builtin .len, #[x], #[t]⟩, ty, pos, af, g⟩ T h = some (VI ((1 : Nat) : Int), h) := by
  obtain ⟨e, he⟩ := isSliceT_ok ht
  have : eLen P t (.o (.c (.LC k [c]))) = some 1 := by simp only [eLen, he]; rfl
  simp only [evOp, argsA, hx, this]
theorem srcX {H : Heap} {k : Nat} {c : List Cell} : srcCells (.LC k [c]) k H = some (1, c) := by simp [srcCells]
theorem srcR {H : Heap} {b k p m c : Nat} {cells r : List Cell} {ex : Bool} (hb : H[b]? = some ⟨cells, true, true⟩) (hx : (cells.drop p).take (m * k) = r) (hl : r.length = m * k) : srcCells (.sl b p m c k ex) k H = some (m, r) := by
  subst hx
  simp only [srcCells, hb, true_and]
  rw [if_pos hl]
theorem FnOK.gfalse {P : Program} {f : FuncId} {b n k : Nat} {args : List AV} {h : Heap} {Q : AV → Heap → Prop} (hf : n = 0 → FnOK P f (.o (.c (.g b n k false)) :: args) h Q) : FnOK P f (.o (.c (.g b n k false)) :: args) h Q := by
  intro B0 μ w us hr hus
  obtain ⟨u, hu, hru⟩ := hus.get (i := 0) rfl
  exact hf (hru.1 rfl).1 B0 μ w us hr hus
theorem e_slLC {P : Program} {T : Nat → AV} {dst : Option Nat} {ty : TypeId} {pos : String} {af : Array Edge} {g : Option (Nat × Bool)} {h : Heap} {t : TypeId} {k bb : Nat} {z : List Cell} {x lo : Operand} (ht : SlT P t k z bb) (hx : aev T x = some (.o (.c (.LC k [])))) (hlo : aev T lo = some (VI 0)) : ∃ v, evOp P ⟨dst, .slice t x (some lo) none none, ty, pos, af, g⟩ T h = some (v, h) := by
  obtain ⟨e, i, he, hi, hk⟩ := sliceF ht
  have hs : sev T lo = some (.int .i64 0) := by unfold sev; rw [hlo]; rfl
  refine ⟨.o (.c (.L k [])), ?_⟩
  have : eSliceC P t (.LC k []) (some (.int .i64 0)) none none = some (.L k []) := by
    simp [eSliceC, he, hi, hk, bnd]
  simp only [evOp, hx, optA, hs, this]
end Rv
