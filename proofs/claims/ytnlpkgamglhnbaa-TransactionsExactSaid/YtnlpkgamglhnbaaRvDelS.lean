import Derived.Test.YtnlpkgamglhnbaaRvBor
set_option linter.unusedVariables false
set_option linter.unusedSimpArgs false
namespace Rv
open Go Go.RowKit
/-- a list without one element -/
def delL {α : Type} (l : List α) (i : Nat) : List α := l.take i ++ l.drop (i + 1)
theorem delL_len {α : Type} {l : List α} {i : Nat} (h : i < l.length) : (delL l i).length = l.length - 1 := by simp [delL]; omega
variable {P : Program} {T : Nat → AV} {dst : Option Nat} {ty : TypeId} {pos : String} {af : Array Edge} {g : Option (Nat × Bool)} {h : Heap}
theorem e_sly {t : TypeId} {k bb : Nat} {z : List Cell} {x lo hh mm : Operand} {b o n c : Nat} {ex : Bool} {i j m : Int} (ht : SlT P t k z bb) (hx : aev T x = some (.o (.c (.sl b o n c k ex)))) (hlo : aev T lo = some (VI i)) (hhi : aev T hh = some (VI j)) (hmx : aev T mm = some (VI m)) (hi : 0 ≤ i ∧ i ≤ j ∧ j ≤ m ∧ m ≤ c) : ∃ v, evOp P ⟨dst, .slice t x (some lo) (some hh) (some mm), ty, pos, af, g⟩ T h = some (v, h) := by
  obtain ⟨e, inf, h1, h2, h3⟩ := sliceF ht
  have s1 : sev T lo = some (.int .i64 i) := by unfold sev; rw [hlo]; rfl
  have s2 : sev T hh = some (.int .i64 j) := by unfold sev; rw [hhi]; rfl
  have s3 : sev T mm = some (.int .i64 m) := by unfold sev; rw [hmx]; rfl
  have o1 : optA T (some lo) = some (some (.int .i64 i)) := by simp [optA, s1]
  have o2 : optA T (some hh) = some (some (.int .i64 j)) := by simp [optA, s2]
  have o3 : optA T (some mm) = some (some (.int .i64 m)) := by simp [optA, s3]
  have b3 : bnd (some (.int .i64 m)) 0 c = some m.toNat := by simp only [bnd]; rw [if_pos (by omega)]
  have b2 : bnd (some (.int .i64 j)) 0 m.toNat = some j.toNat := by simp only [bnd]; rw [if_pos (by omega)]
  have b1 : bnd (some (.int .i64 i)) 0 j.toNat = some i.toNat := by simp only [bnd]; rw [if_pos (by omega)]
  have : ∃ v, eSliceC P t (.sl b o n c k ex) (some (.int .i64 i)) (some (.int .i64 j)) (some (.int .i64 m)) = some v := by
    simp only [eSliceC, h1, h2, h3, if_true, eSlice, b3, b2, b1]
    rw [if_pos (by omega)]
    by_cases e0 : i.toNat = 0
    · rw [if_pos e0]; exact ⟨_, rfl⟩
    · rw [if_neg e0]
      by_cases e1 : i.toNat < j.toNat
      · rw [if_pos e1]; exact ⟨_, rfl⟩
      · rw [if_neg e1]; exact ⟨_, rfl⟩
  obtain ⟨v, hv⟩ := this
  exact ⟨_, by simp only [evOp, hx, o1, o2, o3, hv]; rfl⟩
theorem e_slb {t : TypeId} {k bb : Nat} {z : List Cell} {x lo hh : Operand} {b o n c : Nat} {ex : Bool} {i j : Int} (ht : SlT P t k z bb) (hx : aev T x = some (.o (.c (.sl b o n c k ex)))) (hlo : aev T lo = some (VI i)) (hhi : aev T hh = some (VI j)) (hi : 0 ≤ i ∧ i < j ∧ j ≤ c) : evOp P ⟨dst, .slice t x (some lo) (some hh) none, ty, pos, af, g⟩ T h = some (.o (.c (.sl b (o + i.toNat * k) (j.toNat - i.toNat) (c - i.toNat) k ex)), h) := by
  obtain ⟨e, inf, h1, h2, h3⟩ := sliceF ht
  have s1 : sev T lo = some (.int .i64 i) := by unfold sev; rw [hlo]; rfl
  have s2 : sev T hh = some (.int .i64 j) := by unfold sev; rw [hhi]; rfl
  have o1 : optA T (some lo) = some (some (.int .i64 i)) := by simp [optA, s1]
  have o2 : optA T (some hh) = some (some (.int .i64 j)) := by simp [optA, s2]
  have o3 : optA T none = some none := rfl
  have b2 : bnd (some (.int .i64 j)) n c = some j.toNat := by simp only [bnd]; rw [if_pos (by omega)]
  have b1 : bnd (some (.int .i64 i)) 0 j.toNat = some i.toNat := by simp only [bnd]; rw [if_pos (by omega)]
  have : eSliceC P t (.sl b o n c k ex) (some (.int .i64 i)) (some (.int .i64 j)) none = some (.sl b (o + i.toNat * k) (j.toNat - i.toNat) (c - i.toNat) k ex) := by
    simp only [eSliceC, h1, h2, h3, if_true, eSlice, b2, b1]
    rw [if_pos (by omega)]
    by_cases e0 : i.toNat = 0
    · rw [if_pos e0, e0]; simp
    · rw [if_neg e0, if_pos (by omega)]
  simp only [evOp, hx, o1, o2, o3, this]
theorem e_clr {t : TypeId} {k bb : Nat} {z : List Cell} {x : Operand} {b o n c : Nat} {ex : Bool} {cells : List Cell} (ht : SlT P t k z bb) (hx : aev T x = some (.o (.c (.sl b o n c k ex)))) (hb : h[b]? = some ⟨cells, true, true⟩) (hn : 0 < n) (hfit : o + n * k ≤ cells.length) :
    evOp P ⟨dst, .call ⟨.builtin .clear, #[x], #[t]⟩, ty, pos, af, g⟩ T h = some (undefA, h.set b ⟨putCells cells o (List.replicate n z).flatten, true, true⟩) := by
  obtain ⟨e, i, h1, h2, rfl, rfl, h5, h6, h7⟩ := ht
  have ha : argsA T [x] = some [.o (.c (.sl b o n c i.size ex))] := by simp only [argsA, hx]
  have hc : eClear P t (.sl b o n c i.size ex) h = some (h.set b ⟨putCells cells o (List.replicate n z).flatten, true, true⟩) := by
    simp only [eClear, h1, h2, h5]
    rw [if_neg (by omega)]
    simp only [hb]
    rw [if_pos ⟨trivial, trivial, by omega, by rw [h6]; exact hfit⟩]
  simp only [evOp, ha, hc]
theorem e_slE {t : TypeId} {k bb : Nat} {z : List Cell} {x lo : Operand} {b o n c : Nat} {ex : Bool} {i : Int} (ht : SlT P t k z bb) (hx : aev T x = some (.o (.c (.sl b o n c k ex)))) (hlo : aev T lo = some (VI i)) (hi : 0 < i ∧ i = n) (hn : n ≤ c) : evOp P ⟨dst, .slice t x (some lo) none none, ty, pos, af, g⟩ T h = some (.o (.c .emp), h) := by
  obtain ⟨e, inf, h1, h2, h3⟩ := sliceF ht
  have hs : sev T lo = some (.int .i64 i) := by unfold sev; rw [hlo]; rfl
  have ho : optA T (some lo) = some (some (.int .i64 i)) := by simp [optA, hs]
  have hb : bnd (some (.int .i64 i)) 0 n = some i.toNat := by simp only [bnd]; rw [if_pos (by omega)]
  have : eSliceC P t (.sl b o n c k ex) (some (.int .i64 i)) none none = some .emp := by
    simp only [eSliceC, h1, h2, h3, if_true, eSlice, bnd.eq_1, hb]
    rw [if_pos (by omega), if_neg (by omega), if_neg (by omega)]
  have hno : optA T none = some none := rfl
  simp only [evOp, hx, ho, hno, this]
theorem e_appE {t : TypeId} {k bb : Nat} {z : List Cell} {s x : Operand} {b n c : Nat} {ex : Bool} (ht : SlT P t k z bb) (hs : aev T s = some (.o (.c (.sl b 0 n c k ex)))) (hx : aev T x = some (.o (.c .emp))) (hn : n ≤ c) :
    evOp P ⟨dst, .call ⟨.builtin .append, #[s, x], #[t, t]⟩, ty, pos, af, g⟩ T h = some (.o (.c (.sl b 0 n c k ex)), h) := by
  obtain ⟨e, i, h1, h2, rfl, rfl, h5, h6, h7⟩ := ht
  have ha : argsA T [s, x] = some [.o (.c (.sl b 0 n c i.size ex)), .o (.c .emp)] := by simp only [argsA, hs, hx]
  have hc : eAppend P t (.sl b 0 n c i.size ex) .emp h = some (.sl b 0 n c i.size ex, h) := by
    simp only [eAppend, h1, h2, h5, srcCells]
    rw [if_pos ⟨h6, h7⟩, if_pos ⟨trivial, hn⟩, if_pos trivial]
  simp only [evOp, ha, if_true, hc]
theorem delLast {cs ds zs : List Cell} {p : Nat} (hp : p + zs.length = cs.length) : ∃ ds', putCells (cs ++ ds) p zs = cs.take p ++ ds' := by
  rw [put_at (by simp; omega), List.take_append_of_le_length (by omega)]
  exact ⟨_, rfl⟩
/-- what Delete leaves -/
theorem delMid {cs ds zs : List Cell} {p q n k : Nat} (hpq : p ≤ q) (hq : q ≤ cs.length) (hz : zs.length = q - p) :
    ∃ ds', putCells (putCells (cs ++ ds) p (cs.drop q)) (p + (cs.length - q)) zs = (cs.take p ++ cs.drop q) ++ ds' := by
  have h1 : (cs.drop q).length = cs.length - q := List.length_drop
  rw [put_at (l := cs ++ ds) (by simp; omega), List.take_append_of_le_length (by omega)]
  have h2 : ((cs.take p) ++ (cs.drop q ++ (cs ++ ds).drop (p + (cs.drop q).length))).length = (cs ++ ds).length := by simp; omega
  rw [put_at (by rw [h2]; simp; omega)]
  refine ⟨zs ++ ((cs.take p) ++ (cs.drop q ++ (cs ++ ds).drop (p + (cs.drop q).length))).drop (p + (cs.length - q) + zs.length), ?_⟩
  congr 1
  rw [← List.append_assoc, List.take_append_of_le_length (by simp; omega)]
  exact List.take_of_length_le (by simp; omega)
end Rv
