/- slices.Insert: the core, walked. -/
import Derived.Test.YtnlpkgamglhnbaaRvLi
set_option linter.unusedVariables false
set_option linter.unusedSimpArgs false
namespace Rv
open Go Go.RowKit Go.Proofs
theorem e_lenLC {P : Program} {T : Nat → AV} {dst : Option Nat} {ty : TypeId} {pos : String} {af : Array Edge} {g : Option (Nat × Bool)} {h : Heap} {t : TypeId} {x : Operand} {k : Nat} {c : List Cell} (hx : aev T x = some (.o (.c (.LC k [c])))) (ht : isSliceT P t = true) : evOp P ⟨dst, .call ⟨.builtin .len, #[x], #[t]⟩, ty, pos, af, g⟩ T h = some (VI ((1 : Nat) : Int), h) := by
  obtain ⟨e, he⟩ := isSliceT_ok ht
  have : eLen P t (.o (.c (.LC k [c]))) = some 1 := by simp only [eLen, he]; rfl
  simp only [evOp, argsA, hx, this]
theorem srcX {H : Heap} {k : Nat} {c : List Cell} : srcCells (.LC k [c]) k H = some (1, c) := by simp [srcCells]
theorem srcR {H : Heap} {b k p m c : Nat} {cells r : List Cell} {ex : Bool} (hb : H[b]? = some ⟨cells, true, true⟩) (hx : (cells.drop p).take (m * k) = r) (hl : r.length = m * k) : srcCells (.sl b p m c k ex) k H = some (m, r) := by
  subst hx
  simp only [srcCells, hb, true_and]
  rw [if_pos hl]
theorem el26 : ElF Try.prog 26 2 := .of (by decide +kernel)
theorem el27 : ElF Try.prog 27 1 := .of (by decide +kernel)
theorem el67 : ElF Try.prog 67 4 := .of (by decide +kernel)
theorem el92 : ElF Try.prog 92 6 := .of (by decide +kernel)
theorem fol : Try.prog.follows .mixedOrders = true := by decide +kernel
theorem ov163 (args : Array Value) (w : World) : (callFunc 163 args).run Try.prog w = ((Extern.SlicesOverlaps.overlaps #[27, 27] #[4] args).run Try.prog w).andThen fun v w' => .ok (.value v) w' := run_callFunc_extern Try.func163 (by kernel_rfl) (by kernel_rfl) (by kernel_rfl) (by kernel_rfl) args w
theorem ov165 (args : Array Value) (w : World) : (callFunc 165 args).run Try.prog w = ((Extern.SlicesOverlaps.overlaps #[26, 26] #[4] args).run Try.prog w).andThen fun v w' => .ok (.value v) w' := run_callFunc_extern Try.func165 (by kernel_rfl) (by kernel_rfl) (by kernel_rfl) (by kernel_rfl) args w
theorem ov177 (args : Array Value) (w : World) : (callFunc 177 args).run Try.prog w = ((Extern.SlicesOverlaps.overlaps #[67, 67] #[4] args).run Try.prog w).andThen fun v w' => .ok (.value v) w' := run_callFunc_extern Try.func177 (by kernel_rfl) (by kernel_rfl) (by kernel_rfl) (by kernel_rfl) args w
theorem ov189 (args : Array Value) (w : World) : (callFunc 189 args).run Try.prog w = ((Extern.SlicesOverlaps.overlaps #[92, 92] #[4] args).run Try.prog w).andThen fun v w' => .ok (.value v) w' := run_callFunc_extern Try.func189 (by kernel_rfl) (by kernel_rfl) (by kernel_rfl) (by kernel_rfl) args w
theorem un3 : Try.prog.underlying 3 = some (.int .i64) := Try.underlying3
/- slices.Insert[[]int,int] -/
theorem insI_core (H : Heap) (b n c i : Nat) (cs ds : List Cell) (x0 : Cell) (x1 : List Cell) (hb : H[b]? = some ⟨cs ++ ds, true, true⟩) (hl : cs.length = n * 1) (hd : ds.length = (c - n) * 1) (hnc : n ≤ c) (hxs : (x0 :: x1).length = 1) (hi : i ≤ n) (hn : (n : Int) ≤ 1000000) : FnOK Try.prog 92 [.o (.c (.sl b 0 n c 1 true)), VI i, .o (.c (.LC 1 [x0 :: x1]))] H (fun v h' => (n + 1 ≤ c ∧ v = .o (.c (.sl b 0 (n + 1) c 1 true)) ∧ ∃ ds', h' = H.set b ⟨(cs.take (i * 1) ++ (x0 :: x1) ++ cs.drop (i * 1)) ++ ds', true, true⟩) ∨ (v = .o (.c (.sl H.length 0 (n + 1) (n + 1) 1 false)) ∧ h' = H ++ [⟨cs.take (i * 1) ++ (x0 :: x1) ++ cs.drop (i * 1), true, true⟩])) := by
  have hfit : c * 1 ≤ (cs ++ ds).length := by simp; omega
  have hbl : b < H.length := lt_of_get hb
  have hin : i + (n + 1 - i) = n + 1 := by omega
  have h1i : ((i : Nat) : Int).toNat = i := Int.toNat_natCast i
  have h1n : ((n : Int) + ((1 : Nat) : Int)).toNat = n + 1 := by omega
  have hsB : ((cs ++ ds).drop (i * 1)).take ((n - i) * 1) = cs.drop (i * 1) := by rw [List.drop_append_of_le_length (by omega)]; exact List.take_left' (by simp; omega)
  have hcast : ((n : Int) + ((1 : Nat) : Int) - (i : Int)) = ((n + 1 - i : Nat) : Int) := by omega
  refine FnOK.body (N := 95) Try.func92 rfl rfl rfl ?_
  rw [List.append_nil]
  refine CdOK.seq ?_
  refine CdOK.region ?_
  refine RgOK.s rfl rfl rfl (e_as rfl) ?_
  refine RgOK.nil ?_
  show CdOK _ _ _ _ _ _
  refine CdOK.seq ?_
  refine CdOK.region ?_
  refine RgOK.s rfl rfl rfl (e_mv (ev_t rfl)) ?_
  refine RgOK.s rfl rfl rfl (e_mv (ev_t rfl)) ?_
  refine (RgOK.sx rfl rfl rfl (e_slx slt27 (ev_t rfl) (ev_t rfl) (by omega) hnc) ?_)
  intro v12
  refine RgOK.nil ?_
  show CdOK _ _ _ _ _ _
  refine CdOK.seq ?_
  refine CdOK.region ?_
  refine RgOK.s rfl rfl rfl (e_mv (ev_t rfl)) ?_
  refine RgOK.s rfl rfl rfl (by first | exact e_len (ev_t rfl) is27 | exact e_lenS (ev_t rfl) is27 | exact e_lenLC (ev_t rfl) is27) ?_
  refine RgOK.s rfl rfl rfl (e_as (ev_t rfl)) ?_
  refine RgOK.nil ?_
  show CdOK _ _ _ _ _ _
  refine CdOK.seq ?_
  refine CdOK.seq ?_
  refine CdOK.region ?_
  refine RgOK.s rfl rfl rfl (e_mv (ev_t rfl)) ?_
  refine RgOK.sd rfl rfl rfl (e_eql (ev_t rfl) rfl) ?_ ?_
  · intro c16
    exact absurd c16 (by decide) -- done
  · intro c16
    refine RgOK.nil ?_
    show CdOK _ _ _ _ _ _
    refine CdOK.cond_false rfl ?_
    refine CdOK.skip ?_
    show CdOK _ _ _ _ _ _
    refine CdOK.seq ?_
    refine CdOK.region ?_
    refine RgOK.s rfl rfl rfl (e_mv (ev_t rfl)) ?_
    refine RgOK.s rfl rfl rfl (by first | exact e_len (ev_t rfl) is27 | exact e_lenS (ev_t rfl) is27 | exact e_lenLC (ev_t rfl) is27) ?_
    refine RgOK.s rfl rfl rfl (e_as (ev_t rfl)) ?_
    refine RgOK.nil ?_
    show CdOK _ _ _ _ _ _
    refine CdOK.seq ?_
    refine CdOK.seq ?_
    refine CdOK.region ?_
    refine RgOK.s rfl rfl rfl (e_mv (ev_t rfl)) ?_
    refine RgOK.s rfl rfl rfl (e_mv (ev_t rfl)) ?_
    refine RgOK.sd rfl rfl rfl (e_eql (ev_t rfl) (ev_t rfl)) ?_ ?_
    · intro c22
      refine RgOK.nil ?_
      show CdOK _ _ _ _ _ _
      refine CdOK.cond_true rfl ?_
      refine CdOK.seq ?_
      refine CdOK.region ?_
      refine RgOK.s rfl rfl rfl (e_mv (ev_t rfl)) ?_
      refine RgOK.s rfl rfl rfl (e_mv (ev_t rfl)) ?_
      refine (RgOK.appE slt27 rfl rfl (ev_t rfl) (ev_t rfl) srcX hb (by omega) hnc hfit ⟨by omega, by omega⟩ ?_ ?_)
      · intro c25
        refine RgOK.s rfl rfl rfl (e_as (ev_t rfl)) ?_
        refine RgOK.nil ?_
        show CdOK _ _ _ _ _ _
        refine CdOK.ret ?_
        refine ⟨.inr rfl, _, rfl, ?_⟩
        first
        | (have hin2 : i = n := by omega
           subst hin2
           exact .inl ⟨c25, rfl, ds.drop 1, by rw [insEnd (k := 1) hl hxs (by omega)]⟩)
        | (have hin2 : i = n := by omega
           subst hin2
           refine .inr ⟨rfl, ?_⟩
           rw [List.take_append_of_le_length (by omega), List.take_of_length_le (by omega), List.drop_eq_nil_of_le (by omega), List.append_nil]
           done)
        | (have hlt : i < n := by omega
           have h1i1 : ((i : Int) + ((1 : Nat) : Int)).toNat = i + 1 := by omega
           have hm1 : min 1 (n + 1 - i) = 1 := by omega
           have hm2 : min (n - i) (n + 1 - (i + 1)) = n - i := by omega
           have hm3 : min (n + 1 - i) (n + 1 - (i + 1)) = n - i := by omega
           have e1 : (x0 :: x1).take 1 = x0 :: x1 := List.take_of_length_le (by omega)
           have e2 : (cs.drop (i * 1)).take ((n - i) * 1) = cs.drop (i * 1) := List.take_of_length_le (by simp; omega)
           have e3 : (((cs ++ ds).drop (i * 1)).take ((n + 1 - i) * 1)).take ((n - i) * 1) = cs.drop (i * 1) := by rw [List.take_take, Nat.min_eq_left (by omega)]; exact hsB
           have hik : (i + 1) * 1 = i * 1 + 1 := by omega
           have h1k : 1 * 1 = 1 := by omega
           first
           | (refine .inl ⟨by omega, by rw [h1n]; rfl, ds.drop 1, ?_⟩
              simp only [h1i, h1n, h1i1, hm1, hm3, Nat.zero_add, h1k, e1, e3, hik, List.set_set]
              rw [insMid (k := 1) (by omega) hxs (by omega)]
              done)
           | (refine .inr ⟨rfl, ?_⟩
              simp only [h1i, h1n, h1i1, hm1, hm2, Nat.zero_add, h1k, e1, e2, hik, List.set_set]
              rw [List.set_append_right _ _ (Nat.le_refl _), Nat.sub_self, List.set_cons_zero, insNew (k := 1) (by omega) hxs (by simp; omega)]
              done)
           | fail)
      · intro c25
        refine RgOK.s rfl rfl rfl (e_as (ev_t rfl)) ?_
        refine RgOK.nil ?_
        show CdOK _ _ _ _ _ _
        refine CdOK.ret ?_
        refine ⟨.inr rfl, _, rfl, ?_⟩
        first
        | (have hin2 : i = n := by omega
           subst hin2
           exact .inl ⟨c25, rfl, ds.drop 1, by rw [insEnd (k := 1) hl hxs (by omega)]⟩)
        | (have hin2 : i = n := by omega
           subst hin2
           refine .inr ⟨rfl, ?_⟩
           rw [List.take_append_of_le_length (by omega), List.take_of_length_le (by omega), List.drop_eq_nil_of_le (by omega), List.append_nil]
           done)
        | (have hlt : i < n := by omega
           have h1i1 : ((i : Int) + ((1 : Nat) : Int)).toNat = i + 1 := by omega
           have hm1 : min 1 (n + 1 - i) = 1 := by omega
           have hm2 : min (n - i) (n + 1 - (i + 1)) = n - i := by omega
           have hm3 : min (n + 1 - i) (n + 1 - (i + 1)) = n - i := by omega
           have e1 : (x0 :: x1).take 1 = x0 :: x1 := List.take_of_length_le (by omega)
           have e2 : (cs.drop (i * 1)).take ((n - i) * 1) = cs.drop (i * 1) := List.take_of_length_le (by simp; omega)
           have e3 : (((cs ++ ds).drop (i * 1)).take ((n + 1 - i) * 1)).take ((n - i) * 1) = cs.drop (i * 1) := by rw [List.take_take, Nat.min_eq_left (by omega)]; exact hsB
           have hik : (i + 1) * 1 = i * 1 + 1 := by omega
           have h1k : 1 * 1 = 1 := by omega
           first
           | (refine .inl ⟨by omega, by rw [h1n]; rfl, ds.drop 1, ?_⟩
              simp only [h1i, h1n, h1i1, hm1, hm3, Nat.zero_add, h1k, e1, e3, hik, List.set_set]
              rw [insMid (k := 1) (by omega) hxs (by omega)]
              done)
           | (refine .inr ⟨rfl, ?_⟩
              simp only [h1i, h1n, h1i1, hm1, hm2, Nat.zero_add, h1k, e1, e2, hik, List.set_set]
              rw [List.set_append_right _ _ (Nat.le_refl _), Nat.sub_self, List.set_cons_zero, insNew (k := 1) (by omega) hxs (by simp; omega)]
              done)
           | fail)
    · intro c22
      refine RgOK.nil ?_
      show CdOK _ _ _ _ _ _
      refine CdOK.cond_false rfl ?_
      refine CdOK.skip ?_
      show CdOK _ _ _ _ _ _
      refine CdOK.seq ?_
      refine CdOK.seq ?_
      refine CdOK.region ?_
      refine RgOK.s rfl rfl rfl (e_mv (ev_t rfl)) ?_
      refine RgOK.s rfl rfl rfl (e_mv (ev_t rfl)) ?_
      refine RgOK.s rfl rfl rfl (e_add (ev_t rfl) (ev_t rfl) (by omega)) ?_
      refine RgOK.s rfl rfl rfl (e_mv (ev_t rfl)) ?_
      refine RgOK.s rfl rfl rfl (e_cap (ev_t rfl) is27) ?_
      refine RgOK.sd rfl rfl rfl (e_gtr (ev_t rfl) (ev_t rfl)) ?_ ?_
      · intro c31
        refine RgOK.nil ?_
        show CdOK _ _ _ _ _ _
        refine CdOK.cond_true rfl ?_
        refine CdOK.seq ?_
        refine CdOK.region ?_
        refine RgOK.s rfl rfl rfl (e_mv (ev_t rfl)) ?_
        refine RgOK.s rfl rfl rfl (e_mv (ev_t rfl)) ?_
        refine RgOK.s rfl rfl rfl (e_shi slt27 (ev_t rfl) (ev_t rfl) (by omega)) ?_
        refine RgOK.s rfl rfl rfl (e_mv (ev_t rfl)) ?_
        refine RgOK.s rfl rfl rfl (e_mv (ev_t rfl)) ?_
        refine RgOK.s rfl rfl rfl (e_add (ev_t rfl) (ev_t rfl) (by omega)) ?_
        refine RgOK.s rfl rfl rfl (e_mv (ev_t rfl)) ?_
        refine RgOK.s rfl rfl rfl (e_sub (ev_t rfl) (ev_t rfl) (by omega)) ?_
        refine (RgOK.appz (m := n + 1 - i) slt27 un3 rfl rfl (ev_t rfl) ((ev_t rfl).trans (by rw [hcast])) hb (by omega) (by omega) ⟨by omega, by omega⟩ (by omega) (by omega) ?_)
        simp only [h1i, hin]
        refine RgOK.s rfl rfl rfl (e_as (ev_t rfl)) ?_
        refine RgOK.nil ?_
        show CdOK _ _ _ _ _ _
        refine CdOK.seq ?_
        refine CdOK.region ?_
        refine RgOK.s rfl rfl rfl (e_mv (ev_t rfl)) ?_
        refine RgOK.s rfl rfl rfl (e_mv (ev_t rfl)) ?_
        refine RgOK.s rfl rfl rfl (e_slo slt27 (ev_t rfl) (ev_t rfl) (by omega) (by omega)) ?_
        refine RgOK.s rfl rfl rfl (e_mv (ev_t rfl)) ?_
        refine RgOK.s rfl rfl rfl (e_cpy slt27 (ev_t rfl) (ev_t rfl) srcX (List.getElem?_concat_length ..) (by omega) (by simp; omega)) ?_
        refine RgOK.nil ?_
        show CdOK _ _ _ _ _ _
        refine CdOK.seq ?_
        refine CdOK.draw2 (ord := [0, 1, 2, 3, 4, 5, 6, 7, 8]) (chain := [8]) fol (by decide +kernel) (by decide +kernel) ?_
        refine Dr2.s rfl rfl rfl rfl rfl rfl (e_mv (ev_t rfl)) ?_
        refine Dr2.s rfl rfl rfl rfl rfl rfl (e_mv (ev_t rfl)) ?_
        refine Dr2.s rfl rfl rfl rfl rfl rfl (e_mv (ev_t rfl)) ?_
        refine Dr2.s rfl rfl rfl rfl rfl rfl (e_add (ev_t rfl) (ev_t rfl) (by omega)) ?_
        refine Dr2.s rfl rfl rfl rfl rfl rfl (e_slo slt27 (ev_t rfl) (ev_t rfl) (by omega) (by omega)) ?_
        refine Dr2.s rfl rfl rfl rfl rfl rfl (e_mv (ev_t rfl)) ?_
        refine Dr2.s rfl rfl rfl rfl rfl rfl (e_mv (ev_t rfl)) ?_
        refine Dr2.s rfl rfl rfl rfl rfl rfl (e_slo slt27 (ev_t rfl) (ev_t rfl) (by omega) (by omega)) ?_
        refine Dr2.c rfl rfl rfl rfl rfl (e_cpy slt27 (ev_t rfl) (ev_t rfl) (srcR (r := cs.drop (i * 1)) (by rw [List.getElem?_set_ne (by omega)]; exact old_get hb) (by rw [h1i, Nat.zero_add]; exact hsB) (by rw [h1i]; simp; omega)) (List.getElem?_set_self (by simp)) (by omega) (by simp [putCells_length]; omega)) .nil ?_
        refine Dr2.nil ?_
        show CdOK _ _ _ _ _ _
        refine CdOK.seq ?_
        refine CdOK.region ?_
        refine RgOK.s rfl rfl rfl (e_mv (ev_t rfl)) ?_
        refine RgOK.s rfl rfl rfl (e_as (ev_t rfl)) ?_
        refine RgOK.nil ?_
        show CdOK _ _ _ _ _ _
        refine CdOK.ret ?_
        refine ⟨.inr rfl, _, rfl, ?_⟩
        first
        | (have hin2 : i = n := by omega
           subst hin2
           exact .inl ⟨c25, rfl, ds.drop 1, by rw [insEnd (k := 1) hl hxs (by omega)]⟩)
        | (have hin2 : i = n := by omega
           subst hin2
           refine .inr ⟨rfl, ?_⟩
           rw [List.take_append_of_le_length (by omega), List.take_of_length_le (by omega), List.drop_eq_nil_of_le (by omega), List.append_nil]
           done)
        | (have hlt : i < n := by omega
           have h1i1 : ((i : Int) + ((1 : Nat) : Int)).toNat = i + 1 := by omega
           have hm1 : min 1 (n + 1 - i) = 1 := by omega
           have hm2 : min (n - i) (n + 1 - (i + 1)) = n - i := by omega
           have hm3 : min (n + 1 - i) (n + 1 - (i + 1)) = n - i := by omega
           have e1 : (x0 :: x1).take 1 = x0 :: x1 := List.take_of_length_le (by omega)
           have e2 : (cs.drop (i * 1)).take ((n - i) * 1) = cs.drop (i * 1) := List.take_of_length_le (by simp; omega)
           have e3 : (((cs ++ ds).drop (i * 1)).take ((n + 1 - i) * 1)).take ((n - i) * 1) = cs.drop (i * 1) := by rw [List.take_take, Nat.min_eq_left (by omega)]; exact hsB
           have hik : (i + 1) * 1 = i * 1 + 1 := by omega
           have h1k : 1 * 1 = 1 := by omega
           first
           | (refine .inl ⟨by omega, by rw [h1n]; rfl, ds.drop 1, ?_⟩
              simp only [h1i, h1n, h1i1, hm1, hm3, Nat.zero_add, h1k, e1, e3, hik, List.set_set]
              rw [insMid (k := 1) (by omega) hxs (by omega)]
              done)
           | (refine .inr ⟨rfl, ?_⟩
              simp only [h1i, h1n, h1i1, hm1, hm2, Nat.zero_add, h1k, e1, e2, hik, List.set_set]
              rw [List.set_append_right _ _ (Nat.le_refl _), Nat.sub_self, List.set_cons_zero, insNew (k := 1) (by omega) hxs (by simp; omega)]
              done)
           | fail)
      · intro c31
        refine RgOK.nil ?_
        show CdOK _ _ _ _ _ _
        refine CdOK.cond_false rfl ?_
        refine CdOK.skip ?_
        show CdOK _ _ _ _ _ _
        refine CdOK.seq ?_
        refine CdOK.region ?_
        refine RgOK.s rfl rfl rfl (e_mv (ev_t rfl)) ?_
        refine RgOK.s rfl rfl rfl (e_mv (ev_t rfl)) ?_
        refine RgOK.s rfl rfl rfl (e_mv (ev_t rfl)) ?_
        refine RgOK.s rfl rfl rfl (e_add (ev_t rfl) (ev_t rfl) (by omega)) ?_
        refine RgOK.s rfl rfl rfl (e_shi slt27 (ev_t rfl) (ev_t rfl) (by omega)) ?_
        refine RgOK.s rfl rfl rfl (e_as (ev_t rfl)) ?_
        refine RgOK.nil ?_
        show CdOK _ _ _ _ _ _
        refine CdOK.seq ?_
        refine CdOK.seq ?_
        refine CdOK.region ?_
        refine RgOK.s rfl rfl rfl (e_mv (ev_t rfl)) ?_
        refine RgOK.s rfl rfl rfl (e_mv (ev_t rfl)) ?_
        refine RgOK.s rfl rfl rfl (e_mv (ev_t rfl)) ?_
        refine RgOK.s rfl rfl rfl (e_mv (ev_t rfl)) ?_
        refine RgOK.s rfl rfl rfl (e_add (ev_t rfl) (ev_t rfl) (by omega)) ?_
        refine RgOK.s rfl rfl rfl (e_slo slt27 (ev_t rfl) (ev_t rfl) (by omega) (by omega)) ?_
        refine (RgOK.ovlL rfl rfl ov163 el27 (ev_t rfl) (ev_t rfl) hb (by simp; omega) ?_)
        refine RgOK.s rfl rfl rfl (e_un (ev_t rfl) rfl) ?_
        refine RgOK.nil ?_
        show CdOK _ _ _ _ _ _
        refine CdOK.cond_true rfl ?_
        refine CdOK.seq ?_
        refine CdOK.draw2 (ord := [0, 1, 2, 3, 4, 5, 6, 7, 8]) (chain := [8]) fol (by decide +kernel) (by decide +kernel) ?_
        refine Dr2.s rfl rfl rfl rfl rfl rfl (e_mv (ev_t rfl)) ?_
        refine Dr2.s rfl rfl rfl rfl rfl rfl (e_mv (ev_t rfl)) ?_
        refine Dr2.s rfl rfl rfl rfl rfl rfl (e_mv (ev_t rfl)) ?_
        refine Dr2.s rfl rfl rfl rfl rfl rfl (e_add (ev_t rfl) (ev_t rfl) (by omega)) ?_
        refine Dr2.s rfl rfl rfl rfl rfl rfl (e_slo slt27 (ev_t rfl) (ev_t rfl) (by omega) (by omega)) ?_
        refine Dr2.s rfl rfl rfl rfl rfl rfl (e_mv (ev_t rfl)) ?_
        refine Dr2.s rfl rfl rfl rfl rfl rfl (e_mv (ev_t rfl)) ?_
        refine Dr2.s rfl rfl rfl rfl rfl rfl (e_slo slt27 (ev_t rfl) (ev_t rfl) (by omega) (by omega)) ?_
        refine Dr2.c rfl rfl rfl rfl rfl (e_cpy slt27 (ev_t rfl) (ev_t rfl) (srcR (r := ((cs ++ ds).drop (i * 1)).take ((n + 1 - i) * 1)) hb (by rw [h1i, Nat.zero_add, h1n]) (by rw [h1i, h1n]; simp; omega)) hb (by omega) (by simp; omega)) .nil ?_
        refine Dr2.nil ?_
        show CdOK _ _ _ _ _ _
        refine CdOK.seq ?_
        refine CdOK.region ?_
        refine RgOK.s rfl rfl rfl (e_mv (ev_t rfl)) ?_
        refine RgOK.s rfl rfl rfl (e_mv (ev_t rfl)) ?_
        refine RgOK.s rfl rfl rfl (e_slo slt27 (ev_t rfl) (ev_t rfl) (by omega) (by omega)) ?_
        refine RgOK.s rfl rfl rfl (e_mv (ev_t rfl)) ?_
        refine RgOK.s rfl rfl rfl (e_cpy slt27 (ev_t rfl) (ev_t rfl) srcX (List.getElem?_set_self hbl) (by omega) (by simp [putCells_length]; omega)) ?_
        refine RgOK.nil ?_
        show CdOK _ _ _ _ _ _
        refine CdOK.seq ?_
        refine CdOK.region ?_
        refine RgOK.s rfl rfl rfl (e_mv (ev_t rfl)) ?_
        refine RgOK.s rfl rfl rfl (e_as (ev_t rfl)) ?_
        refine RgOK.nil ?_
        show CdOK _ _ _ _ _ _
        refine CdOK.ret ?_
        refine ⟨.inr rfl, _, rfl, ?_⟩
        first
        | (have hin2 : i = n := by omega
           subst hin2
           exact .inl ⟨c25, rfl, ds.drop 1, by rw [insEnd (k := 1) hl hxs (by omega)]⟩)
        | (have hin2 : i = n := by omega
           subst hin2
           refine .inr ⟨rfl, ?_⟩
           rw [List.take_append_of_le_length (by omega), List.take_of_length_le (by omega), List.drop_eq_nil_of_le (by omega), List.append_nil]
           done)
        | (have hlt : i < n := by omega
           have h1i1 : ((i : Int) + ((1 : Nat) : Int)).toNat = i + 1 := by omega
           have hm1 : min 1 (n + 1 - i) = 1 := by omega
           have hm2 : min (n - i) (n + 1 - (i + 1)) = n - i := by omega
           have hm3 : min (n + 1 - i) (n + 1 - (i + 1)) = n - i := by omega
           have e1 : (x0 :: x1).take 1 = x0 :: x1 := List.take_of_length_le (by omega)
           have e2 : (cs.drop (i * 1)).take ((n - i) * 1) = cs.drop (i * 1) := List.take_of_length_le (by simp; omega)
           have e3 : (((cs ++ ds).drop (i * 1)).take ((n + 1 - i) * 1)).take ((n - i) * 1) = cs.drop (i * 1) := by rw [List.take_take, Nat.min_eq_left (by omega)]; exact hsB
           have hik : (i + 1) * 1 = i * 1 + 1 := by omega
           have h1k : 1 * 1 = 1 := by omega
           first
           | (refine .inl ⟨by omega, by rw [h1n]; rfl, ds.drop 1, ?_⟩
              simp only [h1i, h1n, h1i1, hm1, hm3, Nat.zero_add, h1k, e1, e3, hik, List.set_set]
              rw [insMid (k := 1) (by omega) hxs (by omega)]
              done)
           | (refine .inr ⟨rfl, ?_⟩
              simp only [h1i, h1n, h1i1, hm1, hm2, Nat.zero_add, h1k, e1, e2, hik, List.set_set]
              rw [List.set_append_right _ _ (Nat.le_refl _), Nat.sub_self, List.set_cons_zero, insNew (k := 1) (by omega) hxs (by simp; omega)]
              done)
           | fail)
/- slices.Insert[[]pagemend/api.Place,pagemend/api.Place] -/
theorem insP_core (H : Heap) (b n c i : Nat) (cs ds : List Cell) (x0 : Cell) (x1 : List Cell) (hb : H[b]? = some ⟨cs ++ ds, true, true⟩) (hl : cs.length = n * 2) (hd : ds.length = (c - n) * 2) (hnc : n ≤ c) (hxs : (x0 :: x1).length = 2) (hi : i ≤ n) (hn : (n : Int) ≤ 1000000) : FnOK Try.prog 95 [.o (.c (.sl b 0 n c 2 true)), VI i, .o (.c (.LC 2 [x0 :: x1]))] H (fun v h' => (n + 1 ≤ c ∧ v = .o (.c (.sl b 0 (n + 1) c 2 true)) ∧ ∃ ds', h' = H.set b ⟨(cs.take (i * 2) ++ (x0 :: x1) ++ cs.drop (i * 2)) ++ ds', true, true⟩) ∨ (v = .o (.c (.sl H.length 0 (n + 1) (n + 1) 2 false)) ∧ h' = H ++ [⟨cs.take (i * 2) ++ (x0 :: x1) ++ cs.drop (i * 2), true, true⟩])) := by
  have hfit : c * 2 ≤ (cs ++ ds).length := by simp; omega
  have hbl : b < H.length := lt_of_get hb
  have hin : i + (n + 1 - i) = n + 1 := by omega
  have h1i : ((i : Nat) : Int).toNat = i := Int.toNat_natCast i
  have h1n : ((n : Int) + ((1 : Nat) : Int)).toNat = n + 1 := by omega
  have hsB : ((cs ++ ds).drop (i * 2)).take ((n - i) * 2) = cs.drop (i * 2) := by rw [List.drop_append_of_le_length (by omega)]; exact List.take_left' (by simp; omega)
  have hcast : ((n : Int) + ((1 : Nat) : Int) - (i : Int)) = ((n + 1 - i : Nat) : Int) := by omega
  refine FnOK.body (N := 95) Try.func95 rfl rfl rfl ?_
  rw [List.append_nil]
  refine CdOK.seq ?_
  refine CdOK.region ?_
  refine RgOK.s rfl rfl rfl (e_as rfl) ?_
  refine RgOK.nil ?_
  show CdOK _ _ _ _ _ _
  refine CdOK.seq ?_
  refine CdOK.region ?_
  refine RgOK.s rfl rfl rfl (e_mv (ev_t rfl)) ?_
  refine RgOK.s rfl rfl rfl (e_mv (ev_t rfl)) ?_
  refine (RgOK.sx rfl rfl rfl (e_slx slt26 (ev_t rfl) (ev_t rfl) (by omega) hnc) ?_)
  intro v12
  refine RgOK.nil ?_
  show CdOK _ _ _ _ _ _
  refine CdOK.seq ?_
  refine CdOK.region ?_
  refine RgOK.s rfl rfl rfl (e_mv (ev_t rfl)) ?_
  refine RgOK.s rfl rfl rfl (by first | exact e_len (ev_t rfl) is26 | exact e_lenS (ev_t rfl) is26 | exact e_lenLC (ev_t rfl) is26) ?_
  refine RgOK.s rfl rfl rfl (e_as (ev_t rfl)) ?_
  refine RgOK.nil ?_
  show CdOK _ _ _ _ _ _
  refine CdOK.seq ?_
  refine CdOK.seq ?_
  refine CdOK.region ?_
  refine RgOK.s rfl rfl rfl (e_mv (ev_t rfl)) ?_
  refine RgOK.sd rfl rfl rfl (e_eql (ev_t rfl) rfl) ?_ ?_
  · intro c16
    exact absurd c16 (by decide) -- done
  · intro c16
    refine RgOK.nil ?_
    show CdOK _ _ _ _ _ _
    refine CdOK.cond_false rfl ?_
    refine CdOK.skip ?_
    show CdOK _ _ _ _ _ _
    refine CdOK.seq ?_
    refine CdOK.region ?_
    refine RgOK.s rfl rfl rfl (e_mv (ev_t rfl)) ?_
    refine RgOK.s rfl rfl rfl (by first | exact e_len (ev_t rfl) is26 | exact e_lenS (ev_t rfl) is26 | exact e_lenLC (ev_t rfl) is26) ?_
    refine RgOK.s rfl rfl rfl (e_as (ev_t rfl)) ?_
    refine RgOK.nil ?_
    show CdOK _ _ _ _ _ _
    refine CdOK.seq ?_
    refine CdOK.seq ?_
    refine CdOK.region ?_
    refine RgOK.s rfl rfl rfl (e_mv (ev_t rfl)) ?_
    refine RgOK.s rfl rfl rfl (e_mv (ev_t rfl)) ?_
    refine RgOK.sd rfl rfl rfl (e_eql (ev_t rfl) (ev_t rfl)) ?_ ?_
    · intro c22
      refine RgOK.nil ?_
      show CdOK _ _ _ _ _ _
      refine CdOK.cond_true rfl ?_
      refine CdOK.seq ?_
      refine CdOK.region ?_
      refine RgOK.s rfl rfl rfl (e_mv (ev_t rfl)) ?_
      refine RgOK.s rfl rfl rfl (e_mv (ev_t rfl)) ?_
      refine (RgOK.appE slt26 rfl rfl (ev_t rfl) (ev_t rfl) srcX hb (by omega) hnc hfit ⟨by omega, by omega⟩ ?_ ?_)
      · intro c25
        refine RgOK.s rfl rfl rfl (e_as (ev_t rfl)) ?_
        refine RgOK.nil ?_
        show CdOK _ _ _ _ _ _
        refine CdOK.ret ?_
        refine ⟨.inr rfl, _, rfl, ?_⟩
        first
        | (have hin2 : i = n := by omega
           subst hin2
           exact .inl ⟨c25, rfl, ds.drop 2, by rw [insEnd (k := 2) hl hxs (by omega)]⟩)
        | (have hin2 : i = n := by omega
           subst hin2
           refine .inr ⟨rfl, ?_⟩
           rw [List.take_append_of_le_length (by omega), List.take_of_length_le (by omega), List.drop_eq_nil_of_le (by omega), List.append_nil]
           done)
        | (have hlt : i < n := by omega
           have h1i1 : ((i : Int) + ((1 : Nat) : Int)).toNat = i + 1 := by omega
           have hm1 : min 1 (n + 1 - i) = 1 := by omega
           have hm2 : min (n - i) (n + 1 - (i + 1)) = n - i := by omega
           have hm3 : min (n + 1 - i) (n + 1 - (i + 1)) = n - i := by omega
           have e1 : (x0 :: x1).take 2 = x0 :: x1 := List.take_of_length_le (by omega)
           have e2 : (cs.drop (i * 2)).take ((n - i) * 2) = cs.drop (i * 2) := List.take_of_length_le (by simp; omega)
           have e3 : (((cs ++ ds).drop (i * 2)).take ((n + 1 - i) * 2)).take ((n - i) * 2) = cs.drop (i * 2) := by rw [List.take_take, Nat.min_eq_left (by omega)]; exact hsB
           have hik : (i + 1) * 2 = i * 2 + 2 := by omega
           have h1k : 1 * 2 = 2 := by omega
           first
           | (refine .inl ⟨by omega, by rw [h1n]; rfl, ds.drop 2, ?_⟩
              simp only [h1i, h1n, h1i1, hm1, hm3, Nat.zero_add, h1k, e1, e3, hik, List.set_set]
              rw [insMid (k := 2) (by omega) hxs (by omega)]
              done)
           | (refine .inr ⟨rfl, ?_⟩
              simp only [h1i, h1n, h1i1, hm1, hm2, Nat.zero_add, h1k, e1, e2, hik, List.set_set]
              rw [List.set_append_right _ _ (Nat.le_refl _), Nat.sub_self, List.set_cons_zero, insNew (k := 2) (by omega) hxs (by simp; omega)]
              done)
           | fail)
      · intro c25
        refine RgOK.s rfl rfl rfl (e_as (ev_t rfl)) ?_
        refine RgOK.nil ?_
        show CdOK _ _ _ _ _ _
        refine CdOK.ret ?_
        refine ⟨.inr rfl, _, rfl, ?_⟩
        first
        | (have hin2 : i = n := by omega
           subst hin2
           exact .inl ⟨c25, rfl, ds.drop 2, by rw [insEnd (k := 2) hl hxs (by omega)]⟩)
        | (have hin2 : i = n := by omega
           subst hin2
           refine .inr ⟨rfl, ?_⟩
           rw [List.take_append_of_le_length (by omega), List.take_of_length_le (by omega), List.drop_eq_nil_of_le (by omega), List.append_nil]
           done)
        | (have hlt : i < n := by omega
           have h1i1 : ((i : Int) + ((1 : Nat) : Int)).toNat = i + 1 := by omega
           have hm1 : min 1 (n + 1 - i) = 1 := by omega
           have hm2 : min (n - i) (n + 1 - (i + 1)) = n - i := by omega
           have hm3 : min (n + 1 - i) (n + 1 - (i + 1)) = n - i := by omega
           have e1 : (x0 :: x1).take 2 = x0 :: x1 := List.take_of_length_le (by omega)
           have e2 : (cs.drop (i * 2)).take ((n - i) * 2) = cs.drop (i * 2) := List.take_of_length_le (by simp; omega)
           have e3 : (((cs ++ ds).drop (i * 2)).take ((n + 1 - i) * 2)).take ((n - i) * 2) = cs.drop (i * 2) := by rw [List.take_take, Nat.min_eq_left (by omega)]; exact hsB
           have hik : (i + 1) * 2 = i * 2 + 2 := by omega
           have h1k : 1 * 2 = 2 := by omega
           first
           | (refine .inl ⟨by omega, by rw [h1n]; rfl, ds.drop 2, ?_⟩
              simp only [h1i, h1n, h1i1, hm1, hm3, Nat.zero_add, h1k, e1, e3, hik, List.set_set]
              rw [insMid (k := 2) (by omega) hxs (by omega)]
              done)
           | (refine .inr ⟨rfl, ?_⟩
              simp only [h1i, h1n, h1i1, hm1, hm2, Nat.zero_add, h1k, e1, e2, hik, List.set_set]
              rw [List.set_append_right _ _ (Nat.le_refl _), Nat.sub_self, List.set_cons_zero, insNew (k := 2) (by omega) hxs (by simp; omega)]
              done)
           | fail)
    · intro c22
      refine RgOK.nil ?_
      show CdOK _ _ _ _ _ _
      refine CdOK.cond_false rfl ?_
      refine CdOK.skip ?_
      show CdOK _ _ _ _ _ _
      refine CdOK.seq ?_
      refine CdOK.seq ?_
      refine CdOK.region ?_
      refine RgOK.s rfl rfl rfl (e_mv (ev_t rfl)) ?_
      refine RgOK.s rfl rfl rfl (e_mv (ev_t rfl)) ?_
      refine RgOK.s rfl rfl rfl (e_add (ev_t rfl) (ev_t rfl) (by omega)) ?_
      refine RgOK.s rfl rfl rfl (e_mv (ev_t rfl)) ?_
      refine RgOK.s rfl rfl rfl (e_cap (ev_t rfl) is26) ?_
      refine RgOK.sd rfl rfl rfl (e_gtr (ev_t rfl) (ev_t rfl)) ?_ ?_
      · intro c31
        refine RgOK.nil ?_
        show CdOK _ _ _ _ _ _
        refine CdOK.cond_true rfl ?_
        refine CdOK.seq ?_
        refine CdOK.region ?_
        refine RgOK.s rfl rfl rfl (e_mv (ev_t rfl)) ?_
        refine RgOK.s rfl rfl rfl (e_mv (ev_t rfl)) ?_
        refine RgOK.s rfl rfl rfl (e_shi slt26 (ev_t rfl) (ev_t rfl) (by omega)) ?_
        refine RgOK.s rfl rfl rfl (e_mv (ev_t rfl)) ?_
        refine RgOK.s rfl rfl rfl (e_mv (ev_t rfl)) ?_
        refine RgOK.s rfl rfl rfl (e_add (ev_t rfl) (ev_t rfl) (by omega)) ?_
        refine RgOK.s rfl rfl rfl (e_mv (ev_t rfl)) ?_
        refine RgOK.s rfl rfl rfl (e_sub (ev_t rfl) (ev_t rfl) (by omega)) ?_
        refine (RgOK.appz (m := n + 1 - i) slt26 un3 rfl rfl (ev_t rfl) ((ev_t rfl).trans (by rw [hcast])) hb (by omega) (by omega) ⟨by omega, by omega⟩ (by omega) (by omega) ?_)
        simp only [h1i, hin]
        refine RgOK.s rfl rfl rfl (e_as (ev_t rfl)) ?_
        refine RgOK.nil ?_
        show CdOK _ _ _ _ _ _
        refine CdOK.seq ?_
        refine CdOK.region ?_
        refine RgOK.s rfl rfl rfl (e_mv (ev_t rfl)) ?_
        refine RgOK.s rfl rfl rfl (e_mv (ev_t rfl)) ?_
        refine RgOK.s rfl rfl rfl (e_slo slt26 (ev_t rfl) (ev_t rfl) (by omega) (by omega)) ?_
        refine RgOK.s rfl rfl rfl (e_mv (ev_t rfl)) ?_
        refine RgOK.s rfl rfl rfl (e_cpy slt26 (ev_t rfl) (ev_t rfl) srcX (List.getElem?_concat_length ..) (by omega) (by simp; omega)) ?_
        refine RgOK.nil ?_
        show CdOK _ _ _ _ _ _
        refine CdOK.seq ?_
        refine CdOK.draw2 (ord := [0, 1, 2, 3, 4, 5, 6, 7, 8]) (chain := [8]) fol (by decide +kernel) (by decide +kernel) ?_
        refine Dr2.s rfl rfl rfl rfl rfl rfl (e_mv (ev_t rfl)) ?_
        refine Dr2.s rfl rfl rfl rfl rfl rfl (e_mv (ev_t rfl)) ?_
        refine Dr2.s rfl rfl rfl rfl rfl rfl (e_mv (ev_t rfl)) ?_
        refine Dr2.s rfl rfl rfl rfl rfl rfl (e_add (ev_t rfl) (ev_t rfl) (by omega)) ?_
        refine Dr2.s rfl rfl rfl rfl rfl rfl (e_slo slt26 (ev_t rfl) (ev_t rfl) (by omega) (by omega)) ?_
        refine Dr2.s rfl rfl rfl rfl rfl rfl (e_mv (ev_t rfl)) ?_
        refine Dr2.s rfl rfl rfl rfl rfl rfl (e_mv (ev_t rfl)) ?_
        refine Dr2.s rfl rfl rfl rfl rfl rfl (e_slo slt26 (ev_t rfl) (ev_t rfl) (by omega) (by omega)) ?_
        refine Dr2.c rfl rfl rfl rfl rfl (e_cpy slt26 (ev_t rfl) (ev_t rfl) (srcR (r := cs.drop (i * 2)) (by rw [List.getElem?_set_ne (by omega)]; exact old_get hb) (by rw [h1i, Nat.zero_add]; exact hsB) (by rw [h1i]; simp; omega)) (List.getElem?_set_self (by simp)) (by omega) (by simp [putCells_length]; omega)) .nil ?_
        refine Dr2.nil ?_
        show CdOK _ _ _ _ _ _
        refine CdOK.seq ?_
        refine CdOK.region ?_
        refine RgOK.s rfl rfl rfl (e_mv (ev_t rfl)) ?_
        refine RgOK.s rfl rfl rfl (e_as (ev_t rfl)) ?_
        refine RgOK.nil ?_
        show CdOK _ _ _ _ _ _
        refine CdOK.ret ?_
        refine ⟨.inr rfl, _, rfl, ?_⟩
        first
        | (have hin2 : i = n := by omega
           subst hin2
           exact .inl ⟨c25, rfl, ds.drop 2, by rw [insEnd (k := 2) hl hxs (by omega)]⟩)
        | (have hin2 : i = n := by omega
           subst hin2
           refine .inr ⟨rfl, ?_⟩
           rw [List.take_append_of_le_length (by omega), List.take_of_length_le (by omega), List.drop_eq_nil_of_le (by omega), List.append_nil]
           done)
        | (have hlt : i < n := by omega
           have h1i1 : ((i : Int) + ((1 : Nat) : Int)).toNat = i + 1 := by omega
           have hm1 : min 1 (n + 1 - i) = 1 := by omega
           have hm2 : min (n - i) (n + 1 - (i + 1)) = n - i := by omega
           have hm3 : min (n + 1 - i) (n + 1 - (i + 1)) = n - i := by omega
           have e1 : (x0 :: x1).take 2 = x0 :: x1 := List.take_of_length_le (by omega)
           have e2 : (cs.drop (i * 2)).take ((n - i) * 2) = cs.drop (i * 2) := List.take_of_length_le (by simp; omega)
           have e3 : (((cs ++ ds).drop (i * 2)).take ((n + 1 - i) * 2)).take ((n - i) * 2) = cs.drop (i * 2) := by rw [List.take_take, Nat.min_eq_left (by omega)]; exact hsB
           have hik : (i + 1) * 2 = i * 2 + 2 := by omega
           have h1k : 1 * 2 = 2 := by omega
           first
           | (refine .inl ⟨by omega, by rw [h1n]; rfl, ds.drop 2, ?_⟩
              simp only [h1i, h1n, h1i1, hm1, hm3, Nat.zero_add, h1k, e1, e3, hik, List.set_set]
              rw [insMid (k := 2) (by omega) hxs (by omega)]
              done)
           | (refine .inr ⟨rfl, ?_⟩
              simp only [h1i, h1n, h1i1, hm1, hm2, Nat.zero_add, h1k, e1, e2, hik, List.set_set]
              rw [List.set_append_right _ _ (Nat.le_refl _), Nat.sub_self, List.set_cons_zero, insNew (k := 2) (by omega) hxs (by simp; omega)]
              done)
           | fail)
      · intro c31
        refine RgOK.nil ?_
        show CdOK _ _ _ _ _ _
        refine CdOK.cond_false rfl ?_
        refine CdOK.skip ?_
        show CdOK _ _ _ _ _ _
        refine CdOK.seq ?_
        refine CdOK.region ?_
        refine RgOK.s rfl rfl rfl (e_mv (ev_t rfl)) ?_
        refine RgOK.s rfl rfl rfl (e_mv (ev_t rfl)) ?_
        refine RgOK.s rfl rfl rfl (e_mv (ev_t rfl)) ?_
        refine RgOK.s rfl rfl rfl (e_add (ev_t rfl) (ev_t rfl) (by omega)) ?_
        refine RgOK.s rfl rfl rfl (e_shi slt26 (ev_t rfl) (ev_t rfl) (by omega)) ?_
        refine RgOK.s rfl rfl rfl (e_as (ev_t rfl)) ?_
        refine RgOK.nil ?_
        show CdOK _ _ _ _ _ _
        refine CdOK.seq ?_
        refine CdOK.seq ?_
        refine CdOK.region ?_
        refine RgOK.s rfl rfl rfl (e_mv (ev_t rfl)) ?_
        refine RgOK.s rfl rfl rfl (e_mv (ev_t rfl)) ?_
        refine RgOK.s rfl rfl rfl (e_mv (ev_t rfl)) ?_
        refine RgOK.s rfl rfl rfl (e_mv (ev_t rfl)) ?_
        refine RgOK.s rfl rfl rfl (e_add (ev_t rfl) (ev_t rfl) (by omega)) ?_
        refine RgOK.s rfl rfl rfl (e_slo slt26 (ev_t rfl) (ev_t rfl) (by omega) (by omega)) ?_
        refine (RgOK.ovlL rfl rfl ov165 el26 (ev_t rfl) (ev_t rfl) hb (by simp; omega) ?_)
        refine RgOK.s rfl rfl rfl (e_un (ev_t rfl) rfl) ?_
        refine RgOK.nil ?_
        show CdOK _ _ _ _ _ _
        refine CdOK.cond_true rfl ?_
        refine CdOK.seq ?_
        refine CdOK.draw2 (ord := [0, 1, 2, 3, 4, 5, 6, 7, 8]) (chain := [8]) fol (by decide +kernel) (by decide +kernel) ?_
        refine Dr2.s rfl rfl rfl rfl rfl rfl (e_mv (ev_t rfl)) ?_
        refine Dr2.s rfl rfl rfl rfl rfl rfl (e_mv (ev_t rfl)) ?_
        refine Dr2.s rfl rfl rfl rfl rfl rfl (e_mv (ev_t rfl)) ?_
        refine Dr2.s rfl rfl rfl rfl rfl rfl (e_add (ev_t rfl) (ev_t rfl) (by omega)) ?_
        refine Dr2.s rfl rfl rfl rfl rfl rfl (e_slo slt26 (ev_t rfl) (ev_t rfl) (by omega) (by omega)) ?_
        refine Dr2.s rfl rfl rfl rfl rfl rfl (e_mv (ev_t rfl)) ?_
        refine Dr2.s rfl rfl rfl rfl rfl rfl (e_mv (ev_t rfl)) ?_
        refine Dr2.s rfl rfl rfl rfl rfl rfl (e_slo slt26 (ev_t rfl) (ev_t rfl) (by omega) (by omega)) ?_
        refine Dr2.c rfl rfl rfl rfl rfl (e_cpy slt26 (ev_t rfl) (ev_t rfl) (srcR (r := ((cs ++ ds).drop (i * 2)).take ((n + 1 - i) * 2)) hb (by rw [h1i, Nat.zero_add, h1n]) (by rw [h1i, h1n]; simp; omega)) hb (by omega) (by simp; omega)) .nil ?_
        refine Dr2.nil ?_
        show CdOK _ _ _ _ _ _
        refine CdOK.seq ?_
        refine CdOK.region ?_
        refine RgOK.s rfl rfl rfl (e_mv (ev_t rfl)) ?_
        refine RgOK.s rfl rfl rfl (e_mv (ev_t rfl)) ?_
        refine RgOK.s rfl rfl rfl (e_slo slt26 (ev_t rfl) (ev_t rfl) (by omega) (by omega)) ?_
        refine RgOK.s rfl rfl rfl (e_mv (ev_t rfl)) ?_
        refine RgOK.s rfl rfl rfl (e_cpy slt26 (ev_t rfl) (ev_t rfl) srcX (List.getElem?_set_self hbl) (by omega) (by simp [putCells_length]; omega)) ?_
        refine RgOK.nil ?_
        show CdOK _ _ _ _ _ _
        refine CdOK.seq ?_
        refine CdOK.region ?_
        refine RgOK.s rfl rfl rfl (e_mv (ev_t rfl)) ?_
        refine RgOK.s rfl rfl rfl (e_as (ev_t rfl)) ?_
        refine RgOK.nil ?_
        show CdOK _ _ _ _ _ _
        refine CdOK.ret ?_
        refine ⟨.inr rfl, _, rfl, ?_⟩
        first
        | (have hin2 : i = n := by omega
           subst hin2
           exact .inl ⟨c25, rfl, ds.drop 2, by rw [insEnd (k := 2) hl hxs (by omega)]⟩)
        | (have hin2 : i = n := by omega
           subst hin2
           refine .inr ⟨rfl, ?_⟩
           rw [List.take_append_of_le_length (by omega), List.take_of_length_le (by omega), List.drop_eq_nil_of_le (by omega), List.append_nil]
           done)
        | (have hlt : i < n := by omega
           have h1i1 : ((i : Int) + ((1 : Nat) : Int)).toNat = i + 1 := by omega
           have hm1 : min 1 (n + 1 - i) = 1 := by omega
           have hm2 : min (n - i) (n + 1 - (i + 1)) = n - i := by omega
           have hm3 : min (n + 1 - i) (n + 1 - (i + 1)) = n - i := by omega
           have e1 : (x0 :: x1).take 2 = x0 :: x1 := List.take_of_length_le (by omega)
           have e2 : (cs.drop (i * 2)).take ((n - i) * 2) = cs.drop (i * 2) := List.take_of_length_le (by simp; omega)
           have e3 : (((cs ++ ds).drop (i * 2)).take ((n + 1 - i) * 2)).take ((n - i) * 2) = cs.drop (i * 2) := by rw [List.take_take, Nat.min_eq_left (by omega)]; exact hsB
           have hik : (i + 1) * 2 = i * 2 + 2 := by omega
           have h1k : 1 * 2 = 2 := by omega
           first
           | (refine .inl ⟨by omega, by rw [h1n]; rfl, ds.drop 2, ?_⟩
              simp only [h1i, h1n, h1i1, hm1, hm3, Nat.zero_add, h1k, e1, e3, hik, List.set_set]
              rw [insMid (k := 2) (by omega) hxs (by omega)]
              done)
           | (refine .inr ⟨rfl, ?_⟩
              simp only [h1i, h1n, h1i1, hm1, hm2, Nat.zero_add, h1k, e1, e2, hik, List.set_set]
              rw [List.set_append_right _ _ (Nat.le_refl _), Nat.sub_self, List.set_cons_zero, insNew (k := 2) (by omega) hxs (by simp; omega)]
              done)
           | fail)
/- slices.Insert[[]pagemend/api.Grant,pagemend/api.Grant] -/
theorem insG_core (H : Heap) (b n c i : Nat) (cs ds : List Cell) (x0 : Cell) (x1 : List Cell) (hb : H[b]? = some ⟨cs ++ ds, true, true⟩) (hl : cs.length = n * 4) (hd : ds.length = (c - n) * 4) (hnc : n ≤ c) (hxs : (x0 :: x1).length = 4) (hi : i ≤ n) (hn : (n : Int) ≤ 1000000) : FnOK Try.prog 108 [.o (.c (.sl b 0 n c 4 true)), VI i, .o (.c (.LC 4 [x0 :: x1]))] H (fun v h' => (n + 1 ≤ c ∧ v = .o (.c (.sl b 0 (n + 1) c 4 true)) ∧ ∃ ds', h' = H.set b ⟨(cs.take (i * 4) ++ (x0 :: x1) ++ cs.drop (i * 4)) ++ ds', true, true⟩) ∨ (v = .o (.c (.sl H.length 0 (n + 1) (n + 1) 4 false)) ∧ h' = H ++ [⟨cs.take (i * 4) ++ (x0 :: x1) ++ cs.drop (i * 4), true, true⟩])) := by
  have hfit : c * 4 ≤ (cs ++ ds).length := by simp; omega
  have hbl : b < H.length := lt_of_get hb
  have hin : i + (n + 1 - i) = n + 1 := by omega
  have h1i : ((i : Nat) : Int).toNat = i := Int.toNat_natCast i
  have h1n : ((n : Int) + ((1 : Nat) : Int)).toNat = n + 1 := by omega
  have hsB : ((cs ++ ds).drop (i * 4)).take ((n - i) * 4) = cs.drop (i * 4) := by rw [List.drop_append_of_le_length (by omega)]; exact List.take_left' (by simp; omega)
  have hcast : ((n : Int) + ((1 : Nat) : Int) - (i : Int)) = ((n + 1 - i : Nat) : Int) := by omega
  refine FnOK.body (N := 95) Try.func108 rfl rfl rfl ?_
  rw [List.append_nil]
  refine CdOK.seq ?_
  refine CdOK.region ?_
  refine RgOK.s rfl rfl rfl (e_as rfl) ?_
  refine RgOK.nil ?_
  show CdOK _ _ _ _ _ _
  refine CdOK.seq ?_
  refine CdOK.region ?_
  refine RgOK.s rfl rfl rfl (e_mv (ev_t rfl)) ?_
  refine RgOK.s rfl rfl rfl (e_mv (ev_t rfl)) ?_
  refine (RgOK.sx rfl rfl rfl (e_slx slt67 (ev_t rfl) (ev_t rfl) (by omega) hnc) ?_)
  intro v12
  refine RgOK.nil ?_
  show CdOK _ _ _ _ _ _
  refine CdOK.seq ?_
  refine CdOK.region ?_
  refine RgOK.s rfl rfl rfl (e_mv (ev_t rfl)) ?_
  refine RgOK.s rfl rfl rfl (by first | exact e_len (ev_t rfl) is67 | exact e_lenS (ev_t rfl) is67 | exact e_lenLC (ev_t rfl) is67) ?_
  refine RgOK.s rfl rfl rfl (e_as (ev_t rfl)) ?_
  refine RgOK.nil ?_
  show CdOK _ _ _ _ _ _
  refine CdOK.seq ?_
  refine CdOK.seq ?_
  refine CdOK.region ?_
  refine RgOK.s rfl rfl rfl (e_mv (ev_t rfl)) ?_
  refine RgOK.sd rfl rfl rfl (e_eql (ev_t rfl) rfl) ?_ ?_
  · intro c16
    exact absurd c16 (by decide) -- done
  · intro c16
    refine RgOK.nil ?_
    show CdOK _ _ _ _ _ _
    refine CdOK.cond_false rfl ?_
    refine CdOK.skip ?_
    show CdOK _ _ _ _ _ _
    refine CdOK.seq ?_
    refine CdOK.region ?_
    refine RgOK.s rfl rfl rfl (e_mv (ev_t rfl)) ?_
    refine RgOK.s rfl rfl rfl (by first | exact e_len (ev_t rfl) is67 | exact e_lenS (ev_t rfl) is67 | exact e_lenLC (ev_t rfl) is67) ?_
    refine RgOK.s rfl rfl rfl (e_as (ev_t rfl)) ?_
    refine RgOK.nil ?_
    show CdOK _ _ _ _ _ _
    refine CdOK.seq ?_
    refine CdOK.seq ?_
    refine CdOK.region ?_
    refine RgOK.s rfl rfl rfl (e_mv (ev_t rfl)) ?_
    refine RgOK.s rfl rfl rfl (e_mv (ev_t rfl)) ?_
    refine RgOK.sd rfl rfl rfl (e_eql (ev_t rfl) (ev_t rfl)) ?_ ?_
    · intro c22
      refine RgOK.nil ?_
      show CdOK _ _ _ _ _ _
      refine CdOK.cond_true rfl ?_
      refine CdOK.seq ?_
      refine CdOK.region ?_
      refine RgOK.s rfl rfl rfl (e_mv (ev_t rfl)) ?_
      refine RgOK.s rfl rfl rfl (e_mv (ev_t rfl)) ?_
      refine (RgOK.appE slt67 rfl rfl (ev_t rfl) (ev_t rfl) srcX hb (by omega) hnc hfit ⟨by omega, by omega⟩ ?_ ?_)
      · intro c25
        refine RgOK.s rfl rfl rfl (e_as (ev_t rfl)) ?_
        refine RgOK.nil ?_
        show CdOK _ _ _ _ _ _
        refine CdOK.ret ?_
        refine ⟨.inr rfl, _, rfl, ?_⟩
        first
        | (have hin2 : i = n := by omega
           subst hin2
           exact .inl ⟨c25, rfl, ds.drop 4, by rw [insEnd (k := 4) hl hxs (by omega)]⟩)
        | (have hin2 : i = n := by omega
           subst hin2
           refine .inr ⟨rfl, ?_⟩
           rw [List.take_append_of_le_length (by omega), List.take_of_length_le (by omega), List.drop_eq_nil_of_le (by omega), List.append_nil]
           done)
        | (have hlt : i < n := by omega
           have h1i1 : ((i : Int) + ((1 : Nat) : Int)).toNat = i + 1 := by omega
           have hm1 : min 1 (n + 1 - i) = 1 := by omega
           have hm2 : min (n - i) (n + 1 - (i + 1)) = n - i := by omega
           have hm3 : min (n + 1 - i) (n + 1 - (i + 1)) = n - i := by omega
           have e1 : (x0 :: x1).take 4 = x0 :: x1 := List.take_of_length_le (by omega)
           have e2 : (cs.drop (i * 4)).take ((n - i) * 4) = cs.drop (i * 4) := List.take_of_length_le (by simp; omega)
           have e3 : (((cs ++ ds).drop (i * 4)).take ((n + 1 - i) * 4)).take ((n - i) * 4) = cs.drop (i * 4) := by rw [List.take_take, Nat.min_eq_left (by omega)]; exact hsB
           have hik : (i + 1) * 4 = i * 4 + 4 := by omega
           have h1k : 1 * 4 = 4 := by omega
           first
           | (refine .inl ⟨by omega, by rw [h1n]; rfl, ds.drop 4, ?_⟩
              simp only [h1i, h1n, h1i1, hm1, hm3, Nat.zero_add, h1k, e1, e3, hik, List.set_set]
              rw [insMid (k := 4) (by omega) hxs (by omega)]
              done)
           | (refine .inr ⟨rfl, ?_⟩
              simp only [h1i, h1n, h1i1, hm1, hm2, Nat.zero_add, h1k, e1, e2, hik, List.set_set]
              rw [List.set_append_right _ _ (Nat.le_refl _), Nat.sub_self, List.set_cons_zero, insNew (k := 4) (by omega) hxs (by simp; omega)]
              done)
           | fail)
      · intro c25
        refine RgOK.s rfl rfl rfl (e_as (ev_t rfl)) ?_
        refine RgOK.nil ?_
        show CdOK _ _ _ _ _ _
        refine CdOK.ret ?_
        refine ⟨.inr rfl, _, rfl, ?_⟩
        first
        | (have hin2 : i = n := by omega
           subst hin2
           exact .inl ⟨c25, rfl, ds.drop 4, by rw [insEnd (k := 4) hl hxs (by omega)]⟩)
        | (have hin2 : i = n := by omega
           subst hin2
           refine .inr ⟨rfl, ?_⟩
           rw [List.take_append_of_le_length (by omega), List.take_of_length_le (by omega), List.drop_eq_nil_of_le (by omega), List.append_nil]
           done)
        | (have hlt : i < n := by omega
           have h1i1 : ((i : Int) + ((1 : Nat) : Int)).toNat = i + 1 := by omega
           have hm1 : min 1 (n + 1 - i) = 1 := by omega
           have hm2 : min (n - i) (n + 1 - (i + 1)) = n - i := by omega
           have hm3 : min (n + 1 - i) (n + 1 - (i + 1)) = n - i := by omega
           have e1 : (x0 :: x1).take 4 = x0 :: x1 := List.take_of_length_le (by omega)
           have e2 : (cs.drop (i * 4)).take ((n - i) * 4) = cs.drop (i * 4) := List.take_of_length_le (by simp; omega)
           have e3 : (((cs ++ ds).drop (i * 4)).take ((n + 1 - i) * 4)).take ((n - i) * 4) = cs.drop (i * 4) := by rw [List.take_take, Nat.min_eq_left (by omega)]; exact hsB
           have hik : (i + 1) * 4 = i * 4 + 4 := by omega
           have h1k : 1 * 4 = 4 := by omega
           first
           | (refine .inl ⟨by omega, by rw [h1n]; rfl, ds.drop 4, ?_⟩
              simp only [h1i, h1n, h1i1, hm1, hm3, Nat.zero_add, h1k, e1, e3, hik, List.set_set]
              rw [insMid (k := 4) (by omega) hxs (by omega)]
              done)
           | (refine .inr ⟨rfl, ?_⟩
              simp only [h1i, h1n, h1i1, hm1, hm2, Nat.zero_add, h1k, e1, e2, hik, List.set_set]
              rw [List.set_append_right _ _ (Nat.le_refl _), Nat.sub_self, List.set_cons_zero, insNew (k := 4) (by omega) hxs (by simp; omega)]
              done)
           | fail)
    · intro c22
      refine RgOK.nil ?_
      show CdOK _ _ _ _ _ _
      refine CdOK.cond_false rfl ?_
      refine CdOK.skip ?_
      show CdOK _ _ _ _ _ _
      refine CdOK.seq ?_
      refine CdOK.seq ?_
      refine CdOK.region ?_
      refine RgOK.s rfl rfl rfl (e_mv (ev_t rfl)) ?_
      refine RgOK.s rfl rfl rfl (e_mv (ev_t rfl)) ?_
      refine RgOK.s rfl rfl rfl (e_add (ev_t rfl) (ev_t rfl) (by omega)) ?_
      refine RgOK.s rfl rfl rfl (e_mv (ev_t rfl)) ?_
      refine RgOK.s rfl rfl rfl (e_cap (ev_t rfl) is67) ?_
      refine RgOK.sd rfl rfl rfl (e_gtr (ev_t rfl) (ev_t rfl)) ?_ ?_
      · intro c31
        refine RgOK.nil ?_
        show CdOK _ _ _ _ _ _
        refine CdOK.cond_true rfl ?_
        refine CdOK.seq ?_
        refine CdOK.region ?_
        refine RgOK.s rfl rfl rfl (e_mv (ev_t rfl)) ?_
        refine RgOK.s rfl rfl rfl (e_mv (ev_t rfl)) ?_
        refine RgOK.s rfl rfl rfl (e_shi slt67 (ev_t rfl) (ev_t rfl) (by omega)) ?_
        refine RgOK.s rfl rfl rfl (e_mv (ev_t rfl)) ?_
        refine RgOK.s rfl rfl rfl (e_mv (ev_t rfl)) ?_
        refine RgOK.s rfl rfl rfl (e_add (ev_t rfl) (ev_t rfl) (by omega)) ?_
        refine RgOK.s rfl rfl rfl (e_mv (ev_t rfl)) ?_
        refine RgOK.s rfl rfl rfl (e_sub (ev_t rfl) (ev_t rfl) (by omega)) ?_
        refine (RgOK.appz (m := n + 1 - i) slt67 un3 rfl rfl (ev_t rfl) ((ev_t rfl).trans (by rw [hcast])) hb (by omega) (by omega) ⟨by omega, by omega⟩ (by omega) (by omega) ?_)
        simp only [h1i, hin]
        refine RgOK.s rfl rfl rfl (e_as (ev_t rfl)) ?_
        refine RgOK.nil ?_
        show CdOK _ _ _ _ _ _
        refine CdOK.seq ?_
        refine CdOK.region ?_
        refine RgOK.s rfl rfl rfl (e_mv (ev_t rfl)) ?_
        refine RgOK.s rfl rfl rfl (e_mv (ev_t rfl)) ?_
        refine RgOK.s rfl rfl rfl (e_slo slt67 (ev_t rfl) (ev_t rfl) (by omega) (by omega)) ?_
        refine RgOK.s rfl rfl rfl (e_mv (ev_t rfl)) ?_
        refine RgOK.s rfl rfl rfl (e_cpy slt67 (ev_t rfl) (ev_t rfl) srcX (List.getElem?_concat_length ..) (by omega) (by simp; omega)) ?_
        refine RgOK.nil ?_
        show CdOK _ _ _ _ _ _
        refine CdOK.seq ?_
        refine CdOK.draw2 (ord := [0, 1, 2, 3, 4, 5, 6, 7, 8]) (chain := [8]) fol (by decide +kernel) (by decide +kernel) ?_
        refine Dr2.s rfl rfl rfl rfl rfl rfl (e_mv (ev_t rfl)) ?_
        refine Dr2.s rfl rfl rfl rfl rfl rfl (e_mv (ev_t rfl)) ?_
        refine Dr2.s rfl rfl rfl rfl rfl rfl (e_mv (ev_t rfl)) ?_
        refine Dr2.s rfl rfl rfl rfl rfl rfl (e_add (ev_t rfl) (ev_t rfl) (by omega)) ?_
        refine Dr2.s rfl rfl rfl rfl rfl rfl (e_slo slt67 (ev_t rfl) (ev_t rfl) (by omega) (by omega)) ?_
        refine Dr2.s rfl rfl rfl rfl rfl rfl (e_mv (ev_t rfl)) ?_
        refine Dr2.s rfl rfl rfl rfl rfl rfl (e_mv (ev_t rfl)) ?_
        refine Dr2.s rfl rfl rfl rfl rfl rfl (e_slo slt67 (ev_t rfl) (ev_t rfl) (by omega) (by omega)) ?_
        refine Dr2.c rfl rfl rfl rfl rfl (e_cpy slt67 (ev_t rfl) (ev_t rfl) (srcR (r := cs.drop (i * 4)) (by rw [List.getElem?_set_ne (by omega)]; exact old_get hb) (by rw [h1i, Nat.zero_add]; exact hsB) (by rw [h1i]; simp; omega)) (List.getElem?_set_self (by simp)) (by omega) (by simp [putCells_length]; omega)) .nil ?_
        refine Dr2.nil ?_
        show CdOK _ _ _ _ _ _
        refine CdOK.seq ?_
        refine CdOK.region ?_
        refine RgOK.s rfl rfl rfl (e_mv (ev_t rfl)) ?_
        refine RgOK.s rfl rfl rfl (e_as (ev_t rfl)) ?_
        refine RgOK.nil ?_
        show CdOK _ _ _ _ _ _
        refine CdOK.ret ?_
        refine ⟨.inr rfl, _, rfl, ?_⟩
        first
        | (have hin2 : i = n := by omega
           subst hin2
           exact .inl ⟨c25, rfl, ds.drop 4, by rw [insEnd (k := 4) hl hxs (by omega)]⟩)
        | (have hin2 : i = n := by omega
           subst hin2
           refine .inr ⟨rfl, ?_⟩
           rw [List.take_append_of_le_length (by omega), List.take_of_length_le (by omega), List.drop_eq_nil_of_le (by omega), List.append_nil]
           done)
        | (have hlt : i < n := by omega
           have h1i1 : ((i : Int) + ((1 : Nat) : Int)).toNat = i + 1 := by omega
           have hm1 : min 1 (n + 1 - i) = 1 := by omega
           have hm2 : min (n - i) (n + 1 - (i + 1)) = n - i := by omega
           have hm3 : min (n + 1 - i) (n + 1 - (i + 1)) = n - i := by omega
           have e1 : (x0 :: x1).take 4 = x0 :: x1 := List.take_of_length_le (by omega)
           have e2 : (cs.drop (i * 4)).take ((n - i) * 4) = cs.drop (i * 4) := List.take_of_length_le (by simp; omega)
           have e3 : (((cs ++ ds).drop (i * 4)).take ((n + 1 - i) * 4)).take ((n - i) * 4) = cs.drop (i * 4) := by rw [List.take_take, Nat.min_eq_left (by omega)]; exact hsB
           have hik : (i + 1) * 4 = i * 4 + 4 := by omega
           have h1k : 1 * 4 = 4 := by omega
           first
           | (refine .inl ⟨by omega, by rw [h1n]; rfl, ds.drop 4, ?_⟩
              simp only [h1i, h1n, h1i1, hm1, hm3, Nat.zero_add, h1k, e1, e3, hik, List.set_set]
              rw [insMid (k := 4) (by omega) hxs (by omega)]
              done)
           | (refine .inr ⟨rfl, ?_⟩
              simp only [h1i, h1n, h1i1, hm1, hm2, Nat.zero_add, h1k, e1, e2, hik, List.set_set]
              rw [List.set_append_right _ _ (Nat.le_refl _), Nat.sub_self, List.set_cons_zero, insNew (k := 4) (by omega) hxs (by simp; omega)]
              done)
           | fail)
      · intro c31
        refine RgOK.nil ?_
        show CdOK _ _ _ _ _ _
        refine CdOK.cond_false rfl ?_
        refine CdOK.skip ?_
        show CdOK _ _ _ _ _ _
        refine CdOK.seq ?_
        refine CdOK.region ?_
        refine RgOK.s rfl rfl rfl (e_mv (ev_t rfl)) ?_
        refine RgOK.s rfl rfl rfl (e_mv (ev_t rfl)) ?_
        refine RgOK.s rfl rfl rfl (e_mv (ev_t rfl)) ?_
        refine RgOK.s rfl rfl rfl (e_add (ev_t rfl) (ev_t rfl) (by omega)) ?_
        refine RgOK.s rfl rfl rfl (e_shi slt67 (ev_t rfl) (ev_t rfl) (by omega)) ?_
        refine RgOK.s rfl rfl rfl (e_as (ev_t rfl)) ?_
        refine RgOK.nil ?_
        show CdOK _ _ _ _ _ _
        refine CdOK.seq ?_
        refine CdOK.seq ?_
        refine CdOK.region ?_
        refine RgOK.s rfl rfl rfl (e_mv (ev_t rfl)) ?_
        refine RgOK.s rfl rfl rfl (e_mv (ev_t rfl)) ?_
        refine RgOK.s rfl rfl rfl (e_mv (ev_t rfl)) ?_
        refine RgOK.s rfl rfl rfl (e_mv (ev_t rfl)) ?_
        refine RgOK.s rfl rfl rfl (e_add (ev_t rfl) (ev_t rfl) (by omega)) ?_
        refine RgOK.s rfl rfl rfl (e_slo slt67 (ev_t rfl) (ev_t rfl) (by omega) (by omega)) ?_
        refine (RgOK.ovlL rfl rfl ov177 el67 (ev_t rfl) (ev_t rfl) hb (by simp; omega) ?_)
        refine RgOK.s rfl rfl rfl (e_un (ev_t rfl) rfl) ?_
        refine RgOK.nil ?_
        show CdOK _ _ _ _ _ _
        refine CdOK.cond_true rfl ?_
        refine CdOK.seq ?_
        refine CdOK.draw2 (ord := [0, 1, 2, 3, 4, 5, 6, 7, 8]) (chain := [8]) fol (by decide +kernel) (by decide +kernel) ?_
        refine Dr2.s rfl rfl rfl rfl rfl rfl (e_mv (ev_t rfl)) ?_
        refine Dr2.s rfl rfl rfl rfl rfl rfl (e_mv (ev_t rfl)) ?_
        refine Dr2.s rfl rfl rfl rfl rfl rfl (e_mv (ev_t rfl)) ?_
        refine Dr2.s rfl rfl rfl rfl rfl rfl (e_add (ev_t rfl) (ev_t rfl) (by omega)) ?_
        refine Dr2.s rfl rfl rfl rfl rfl rfl (e_slo slt67 (ev_t rfl) (ev_t rfl) (by omega) (by omega)) ?_
        refine Dr2.s rfl rfl rfl rfl rfl rfl (e_mv (ev_t rfl)) ?_
        refine Dr2.s rfl rfl rfl rfl rfl rfl (e_mv (ev_t rfl)) ?_
        refine Dr2.s rfl rfl rfl rfl rfl rfl (e_slo slt67 (ev_t rfl) (ev_t rfl) (by omega) (by omega)) ?_
        refine Dr2.c rfl rfl rfl rfl rfl (e_cpy slt67 (ev_t rfl) (ev_t rfl) (srcR (r := ((cs ++ ds).drop (i * 4)).take ((n + 1 - i) * 4)) hb (by rw [h1i, Nat.zero_add, h1n]) (by rw [h1i, h1n]; simp; omega)) hb (by omega) (by simp; omega)) .nil ?_
        refine Dr2.nil ?_
        show CdOK _ _ _ _ _ _
        refine CdOK.seq ?_
        refine CdOK.region ?_
        refine RgOK.s rfl rfl rfl (e_mv (ev_t rfl)) ?_
        refine RgOK.s rfl rfl rfl (e_mv (ev_t rfl)) ?_
        refine RgOK.s rfl rfl rfl (e_slo slt67 (ev_t rfl) (ev_t rfl) (by omega) (by omega)) ?_
        refine RgOK.s rfl rfl rfl (e_mv (ev_t rfl)) ?_
        refine RgOK.s rfl rfl rfl (e_cpy slt67 (ev_t rfl) (ev_t rfl) srcX (List.getElem?_set_self hbl) (by omega) (by simp [putCells_length]; omega)) ?_
        refine RgOK.nil ?_
        show CdOK _ _ _ _ _ _
        refine CdOK.seq ?_
        refine CdOK.region ?_
        refine RgOK.s rfl rfl rfl (e_mv (ev_t rfl)) ?_
        refine RgOK.s rfl rfl rfl (e_as (ev_t rfl)) ?_
        refine RgOK.nil ?_
        show CdOK _ _ _ _ _ _
        refine CdOK.ret ?_
        refine ⟨.inr rfl, _, rfl, ?_⟩
        first
        | (have hin2 : i = n := by omega
           subst hin2
           exact .inl ⟨c25, rfl, ds.drop 4, by rw [insEnd (k := 4) hl hxs (by omega)]⟩)
        | (have hin2 : i = n := by omega
           subst hin2
           refine .inr ⟨rfl, ?_⟩
           rw [List.take_append_of_le_length (by omega), List.take_of_length_le (by omega), List.drop_eq_nil_of_le (by omega), List.append_nil]
           done)
        | (have hlt : i < n := by omega
           have h1i1 : ((i : Int) + ((1 : Nat) : Int)).toNat = i + 1 := by omega
           have hm1 : min 1 (n + 1 - i) = 1 := by omega
           have hm2 : min (n - i) (n + 1 - (i + 1)) = n - i := by omega
           have hm3 : min (n + 1 - i) (n + 1 - (i + 1)) = n - i := by omega
           have e1 : (x0 :: x1).take 4 = x0 :: x1 := List.take_of_length_le (by omega)
           have e2 : (cs.drop (i * 4)).take ((n - i) * 4) = cs.drop (i * 4) := List.take_of_length_le (by simp; omega)
           have e3 : (((cs ++ ds).drop (i * 4)).take ((n + 1 - i) * 4)).take ((n - i) * 4) = cs.drop (i * 4) := by rw [List.take_take, Nat.min_eq_left (by omega)]; exact hsB
           have hik : (i + 1) * 4 = i * 4 + 4 := by omega
           have h1k : 1 * 4 = 4 := by omega
           first
           | (refine .inl ⟨by omega, by rw [h1n]; rfl, ds.drop 4, ?_⟩
              simp only [h1i, h1n, h1i1, hm1, hm3, Nat.zero_add, h1k, e1, e3, hik, List.set_set]
              rw [insMid (k := 4) (by omega) hxs (by omega)]
              done)
           | (refine .inr ⟨rfl, ?_⟩
              simp only [h1i, h1n, h1i1, hm1, hm2, Nat.zero_add, h1k, e1, e2, hik, List.set_set]
              rw [List.set_append_right _ _ (Nat.le_refl _), Nat.sub_self, List.set_cons_zero, insNew (k := 4) (by omega) hxs (by simp; omega)]
              done)
           | fail)
/- slices.Insert[[]pagemend/api.Tx,pagemend/api.Tx] -/
theorem insT_core (H : Heap) (b n c i : Nat) (cs ds : List Cell) (x0 : Cell) (x1 : List Cell) (hb : H[b]? = some ⟨cs ++ ds, true, true⟩) (hl : cs.length = n * 6) (hd : ds.length = (c - n) * 6) (hnc : n ≤ c) (hxs : (x0 :: x1).length = 6) (hi : i ≤ n) (hn : (n : Int) ≤ 1000000) : FnOK Try.prog 144 [.o (.c (.sl b 0 n c 6 true)), VI i, .o (.c (.LC 6 [x0 :: x1]))] H (fun v h' => (n + 1 ≤ c ∧ v = .o (.c (.sl b 0 (n + 1) c 6 true)) ∧ ∃ ds', h' = H.set b ⟨(cs.take (i * 6) ++ (x0 :: x1) ++ cs.drop (i * 6)) ++ ds', true, true⟩) ∨ (v = .o (.c (.sl H.length 0 (n + 1) (n + 1) 6 false)) ∧ h' = H ++ [⟨cs.take (i * 6) ++ (x0 :: x1) ++ cs.drop (i * 6), true, true⟩])) := by
  have hfit : c * 6 ≤ (cs ++ ds).length := by simp; omega
  have hbl : b < H.length := lt_of_get hb
  have hin : i + (n + 1 - i) = n + 1 := by omega
  have h1i : ((i : Nat) : Int).toNat = i := Int.toNat_natCast i
  have h1n : ((n : Int) + ((1 : Nat) : Int)).toNat = n + 1 := by omega
  have hsB : ((cs ++ ds).drop (i * 6)).take ((n - i) * 6) = cs.drop (i * 6) := by rw [List.drop_append_of_le_length (by omega)]; exact List.take_left' (by simp; omega)
  have hcast : ((n : Int) + ((1 : Nat) : Int) - (i : Int)) = ((n + 1 - i : Nat) : Int) := by omega
  refine FnOK.body (N := 95) Try.func144 rfl rfl rfl ?_
  rw [List.append_nil]
  refine CdOK.seq ?_
  refine CdOK.region ?_
  refine RgOK.s rfl rfl rfl (e_as rfl) ?_
  refine RgOK.nil ?_
  show CdOK _ _ _ _ _ _
  refine CdOK.seq ?_
  refine CdOK.region ?_
  refine RgOK.s rfl rfl rfl (e_mv (ev_t rfl)) ?_
  refine RgOK.s rfl rfl rfl (e_mv (ev_t rfl)) ?_
  refine (RgOK.sx rfl rfl rfl (e_slx slt92 (ev_t rfl) (ev_t rfl) (by omega) hnc) ?_)
  intro v12
  refine RgOK.nil ?_
  show CdOK _ _ _ _ _ _
  refine CdOK.seq ?_
  refine CdOK.region ?_
  refine RgOK.s rfl rfl rfl (e_mv (ev_t rfl)) ?_
  refine RgOK.s rfl rfl rfl (by first | exact e_len (ev_t rfl) is92 | exact e_lenS (ev_t rfl) is92 | exact e_lenLC (ev_t rfl) is92) ?_
  refine RgOK.s rfl rfl rfl (e_as (ev_t rfl)) ?_
  refine RgOK.nil ?_
  show CdOK _ _ _ _ _ _
  refine CdOK.seq ?_
  refine CdOK.seq ?_
  refine CdOK.region ?_
  refine RgOK.s rfl rfl rfl (e_mv (ev_t rfl)) ?_
  refine RgOK.sd rfl rfl rfl (e_eql (ev_t rfl) rfl) ?_ ?_
  · intro c16
    exact absurd c16 (by decide) -- done
  · intro c16
    refine RgOK.nil ?_
    show CdOK _ _ _ _ _ _
    refine CdOK.cond_false rfl ?_
    refine CdOK.skip ?_
    show CdOK _ _ _ _ _ _
    refine CdOK.seq ?_
    refine CdOK.region ?_
    refine RgOK.s rfl rfl rfl (e_mv (ev_t rfl)) ?_
    refine RgOK.s rfl rfl rfl (by first | exact e_len (ev_t rfl) is92 | exact e_lenS (ev_t rfl) is92 | exact e_lenLC (ev_t rfl) is92) ?_
    refine RgOK.s rfl rfl rfl (e_as (ev_t rfl)) ?_
    refine RgOK.nil ?_
    show CdOK _ _ _ _ _ _
    refine CdOK.seq ?_
    refine CdOK.seq ?_
    refine CdOK.region ?_
    refine RgOK.s rfl rfl rfl (e_mv (ev_t rfl)) ?_
    refine RgOK.s rfl rfl rfl (e_mv (ev_t rfl)) ?_
    refine RgOK.sd rfl rfl rfl (e_eql (ev_t rfl) (ev_t rfl)) ?_ ?_
    · intro c22
      refine RgOK.nil ?_
      show CdOK _ _ _ _ _ _
      refine CdOK.cond_true rfl ?_
      refine CdOK.seq ?_
      refine CdOK.region ?_
      refine RgOK.s rfl rfl rfl (e_mv (ev_t rfl)) ?_
      refine RgOK.s rfl rfl rfl (e_mv (ev_t rfl)) ?_
      refine (RgOK.appE slt92 rfl rfl (ev_t rfl) (ev_t rfl) srcX hb (by omega) hnc hfit ⟨by omega, by omega⟩ ?_ ?_)
      · intro c25
        refine RgOK.s rfl rfl rfl (e_as (ev_t rfl)) ?_
        refine RgOK.nil ?_
        show CdOK _ _ _ _ _ _
        refine CdOK.ret ?_
        refine ⟨.inr rfl, _, rfl, ?_⟩
        first
        | (have hin2 : i = n := by omega
           subst hin2
           exact .inl ⟨c25, rfl, ds.drop 6, by rw [insEnd (k := 6) hl hxs (by omega)]⟩)
        | (have hin2 : i = n := by omega
           subst hin2
           refine .inr ⟨rfl, ?_⟩
           rw [List.take_append_of_le_length (by omega), List.take_of_length_le (by omega), List.drop_eq_nil_of_le (by omega), List.append_nil]
           done)
        | (have hlt : i < n := by omega
           have h1i1 : ((i : Int) + ((1 : Nat) : Int)).toNat = i + 1 := by omega
           have hm1 : min 1 (n + 1 - i) = 1 := by omega
           have hm2 : min (n - i) (n + 1 - (i + 1)) = n - i := by omega
           have hm3 : min (n + 1 - i) (n + 1 - (i + 1)) = n - i := by omega
           have e1 : (x0 :: x1).take 6 = x0 :: x1 := List.take_of_length_le (by omega)
           have e2 : (cs.drop (i * 6)).take ((n - i) * 6) = cs.drop (i * 6) := List.take_of_length_le (by simp; omega)
           have e3 : (((cs ++ ds).drop (i * 6)).take ((n + 1 - i) * 6)).take ((n - i) * 6) = cs.drop (i * 6) := by rw [List.take_take, Nat.min_eq_left (by omega)]; exact hsB
           have hik : (i + 1) * 6 = i * 6 + 6 := by omega
           have h1k : 1 * 6 = 6 := by omega
           first
           | (refine .inl ⟨by omega, by rw [h1n]; rfl, ds.drop 6, ?_⟩
              simp only [h1i, h1n, h1i1, hm1, hm3, Nat.zero_add, h1k, e1, e3, hik, List.set_set]
              rw [insMid (k := 6) (by omega) hxs (by omega)]
              done)
           | (refine .inr ⟨rfl, ?_⟩
              simp only [h1i, h1n, h1i1, hm1, hm2, Nat.zero_add, h1k, e1, e2, hik, List.set_set]
              rw [List.set_append_right _ _ (Nat.le_refl _), Nat.sub_self, List.set_cons_zero, insNew (k := 6) (by omega) hxs (by simp; omega)]
              done)
           | fail)
      · intro c25
        refine RgOK.s rfl rfl rfl (e_as (ev_t rfl)) ?_
        refine RgOK.nil ?_
        show CdOK _ _ _ _ _ _
        refine CdOK.ret ?_
        refine ⟨.inr rfl, _, rfl, ?_⟩
        first
        | (have hin2 : i = n := by omega
           subst hin2
           exact .inl ⟨c25, rfl, ds.drop 6, by rw [insEnd (k := 6) hl hxs (by omega)]⟩)
        | (have hin2 : i = n := by omega
           subst hin2
           refine .inr ⟨rfl, ?_⟩
           rw [List.take_append_of_le_length (by omega), List.take_of_length_le (by omega), List.drop_eq_nil_of_le (by omega), List.append_nil]
           done)
        | (have hlt : i < n := by omega
           have h1i1 : ((i : Int) + ((1 : Nat) : Int)).toNat = i + 1 := by omega
           have hm1 : min 1 (n + 1 - i) = 1 := by omega
           have hm2 : min (n - i) (n + 1 - (i + 1)) = n - i := by omega
           have hm3 : min (n + 1 - i) (n + 1 - (i + 1)) = n - i := by omega
           have e1 : (x0 :: x1).take 6 = x0 :: x1 := List.take_of_length_le (by omega)
           have e2 : (cs.drop (i * 6)).take ((n - i) * 6) = cs.drop (i * 6) := List.take_of_length_le (by simp; omega)
           have e3 : (((cs ++ ds).drop (i * 6)).take ((n + 1 - i) * 6)).take ((n - i) * 6) = cs.drop (i * 6) := by rw [List.take_take, Nat.min_eq_left (by omega)]; exact hsB
           have hik : (i + 1) * 6 = i * 6 + 6 := by omega
           have h1k : 1 * 6 = 6 := by omega
           first
           | (refine .inl ⟨by omega, by rw [h1n]; rfl, ds.drop 6, ?_⟩
              simp only [h1i, h1n, h1i1, hm1, hm3, Nat.zero_add, h1k, e1, e3, hik, List.set_set]
              rw [insMid (k := 6) (by omega) hxs (by omega)]
              done)
           | (refine .inr ⟨rfl, ?_⟩
              simp only [h1i, h1n, h1i1, hm1, hm2, Nat.zero_add, h1k, e1, e2, hik, List.set_set]
              rw [List.set_append_right _ _ (Nat.le_refl _), Nat.sub_self, List.set_cons_zero, insNew (k := 6) (by omega) hxs (by simp; omega)]
              done)
           | fail)
    · intro c22
      refine RgOK.nil ?_
      show CdOK _ _ _ _ _ _
      refine CdOK.cond_false rfl ?_
      refine CdOK.skip ?_
      show CdOK _ _ _ _ _ _
      refine CdOK.seq ?_
      refine CdOK.seq ?_
      refine CdOK.region ?_
      refine RgOK.s rfl rfl rfl (e_mv (ev_t rfl)) ?_
      refine RgOK.s rfl rfl rfl (e_mv (ev_t rfl)) ?_
      refine RgOK.s rfl rfl rfl (e_add (ev_t rfl) (ev_t rfl) (by omega)) ?_
      refine RgOK.s rfl rfl rfl (e_mv (ev_t rfl)) ?_
      refine RgOK.s rfl rfl rfl (e_cap (ev_t rfl) is92) ?_
      refine RgOK.sd rfl rfl rfl (e_gtr (ev_t rfl) (ev_t rfl)) ?_ ?_
      · intro c31
        refine RgOK.nil ?_
        show CdOK _ _ _ _ _ _
        refine CdOK.cond_true rfl ?_
        refine CdOK.seq ?_
        refine CdOK.region ?_
        refine RgOK.s rfl rfl rfl (e_mv (ev_t rfl)) ?_
        refine RgOK.s rfl rfl rfl (e_mv (ev_t rfl)) ?_
        refine RgOK.s rfl rfl rfl (e_shi slt92 (ev_t rfl) (ev_t rfl) (by omega)) ?_
        refine RgOK.s rfl rfl rfl (e_mv (ev_t rfl)) ?_
        refine RgOK.s rfl rfl rfl (e_mv (ev_t rfl)) ?_
        refine RgOK.s rfl rfl rfl (e_add (ev_t rfl) (ev_t rfl) (by omega)) ?_
        refine RgOK.s rfl rfl rfl (e_mv (ev_t rfl)) ?_
        refine RgOK.s rfl rfl rfl (e_sub (ev_t rfl) (ev_t rfl) (by omega)) ?_
        refine (RgOK.appz (m := n + 1 - i) slt92 un3 rfl rfl (ev_t rfl) ((ev_t rfl).trans (by rw [hcast])) hb (by omega) (by omega) ⟨by omega, by omega⟩ (by omega) (by omega) ?_)
        simp only [h1i, hin]
        refine RgOK.s rfl rfl rfl (e_as (ev_t rfl)) ?_
        refine RgOK.nil ?_
        show CdOK _ _ _ _ _ _
        refine CdOK.seq ?_
        refine CdOK.region ?_
        refine RgOK.s rfl rfl rfl (e_mv (ev_t rfl)) ?_
        refine RgOK.s rfl rfl rfl (e_mv (ev_t rfl)) ?_
        refine RgOK.s rfl rfl rfl (e_slo slt92 (ev_t rfl) (ev_t rfl) (by omega) (by omega)) ?_
        refine RgOK.s rfl rfl rfl (e_mv (ev_t rfl)) ?_
        refine RgOK.s rfl rfl rfl (e_cpy slt92 (ev_t rfl) (ev_t rfl) srcX (List.getElem?_concat_length ..) (by omega) (by simp; omega)) ?_
        refine RgOK.nil ?_
        show CdOK _ _ _ _ _ _
        refine CdOK.seq ?_
        refine CdOK.draw2 (ord := [0, 1, 2, 3, 4, 5, 6, 7, 8]) (chain := [8]) fol (by decide +kernel) (by decide +kernel) ?_
        refine Dr2.s rfl rfl rfl rfl rfl rfl (e_mv (ev_t rfl)) ?_
        refine Dr2.s rfl rfl rfl rfl rfl rfl (e_mv (ev_t rfl)) ?_
        refine Dr2.s rfl rfl rfl rfl rfl rfl (e_mv (ev_t rfl)) ?_
        refine Dr2.s rfl rfl rfl rfl rfl rfl (e_add (ev_t rfl) (ev_t rfl) (by omega)) ?_
        refine Dr2.s rfl rfl rfl rfl rfl rfl (e_slo slt92 (ev_t rfl) (ev_t rfl) (by omega) (by omega)) ?_
        refine Dr2.s rfl rfl rfl rfl rfl rfl (e_mv (ev_t rfl)) ?_
        refine Dr2.s rfl rfl rfl rfl rfl rfl (e_mv (ev_t rfl)) ?_
        refine Dr2.s rfl rfl rfl rfl rfl rfl (e_slo slt92 (ev_t rfl) (ev_t rfl) (by omega) (by omega)) ?_
        refine Dr2.c rfl rfl rfl rfl rfl (e_cpy slt92 (ev_t rfl) (ev_t rfl) (srcR (r := cs.drop (i * 6)) (by rw [List.getElem?_set_ne (by omega)]; exact old_get hb) (by rw [h1i, Nat.zero_add]; exact hsB) (by rw [h1i]; simp; omega)) (List.getElem?_set_self (by simp)) (by omega) (by simp [putCells_length]; omega)) .nil ?_
        refine Dr2.nil ?_
        show CdOK _ _ _ _ _ _
        refine CdOK.seq ?_
        refine CdOK.region ?_
        refine RgOK.s rfl rfl rfl (e_mv (ev_t rfl)) ?_
        refine RgOK.s rfl rfl rfl (e_as (ev_t rfl)) ?_
        refine RgOK.nil ?_
        show CdOK _ _ _ _ _ _
        refine CdOK.ret ?_
        refine ⟨.inr rfl, _, rfl, ?_⟩
        first
        | (have hin2 : i = n := by omega
           subst hin2
           exact .inl ⟨c25, rfl, ds.drop 6, by rw [insEnd (k := 6) hl hxs (by omega)]⟩)
        | (have hin2 : i = n := by omega
           subst hin2
           refine .inr ⟨rfl, ?_⟩
           rw [List.take_append_of_le_length (by omega), List.take_of_length_le (by omega), List.drop_eq_nil_of_le (by omega), List.append_nil]
           done)
        | (have hlt : i < n := by omega
           have h1i1 : ((i : Int) + ((1 : Nat) : Int)).toNat = i + 1 := by omega
           have hm1 : min 1 (n + 1 - i) = 1 := by omega
           have hm2 : min (n - i) (n + 1 - (i + 1)) = n - i := by omega
           have hm3 : min (n + 1 - i) (n + 1 - (i + 1)) = n - i := by omega
           have e1 : (x0 :: x1).take 6 = x0 :: x1 := List.take_of_length_le (by omega)
           have e2 : (cs.drop (i * 6)).take ((n - i) * 6) = cs.drop (i * 6) := List.take_of_length_le (by simp; omega)
           have e3 : (((cs ++ ds).drop (i * 6)).take ((n + 1 - i) * 6)).take ((n - i) * 6) = cs.drop (i * 6) := by rw [List.take_take, Nat.min_eq_left (by omega)]; exact hsB
           have hik : (i + 1) * 6 = i * 6 + 6 := by omega
           have h1k : 1 * 6 = 6 := by omega
           first
           | (refine .inl ⟨by omega, by rw [h1n]; rfl, ds.drop 6, ?_⟩
              simp only [h1i, h1n, h1i1, hm1, hm3, Nat.zero_add, h1k, e1, e3, hik, List.set_set]
              rw [insMid (k := 6) (by omega) hxs (by omega)]
              done)
           | (refine .inr ⟨rfl, ?_⟩
              simp only [h1i, h1n, h1i1, hm1, hm2, Nat.zero_add, h1k, e1, e2, hik, List.set_set]
              rw [List.set_append_right _ _ (Nat.le_refl _), Nat.sub_self, List.set_cons_zero, insNew (k := 6) (by omega) hxs (by simp; omega)]
              done)
           | fail)
      · intro c31
        refine RgOK.nil ?_
        show CdOK _ _ _ _ _ _
        refine CdOK.cond_false rfl ?_
        refine CdOK.skip ?_
        show CdOK _ _ _ _ _ _
        refine CdOK.seq ?_
        refine CdOK.region ?_
        refine RgOK.s rfl rfl rfl (e_mv (ev_t rfl)) ?_
        refine RgOK.s rfl rfl rfl (e_mv (ev_t rfl)) ?_
        refine RgOK.s rfl rfl rfl (e_mv (ev_t rfl)) ?_
        refine RgOK.s rfl rfl rfl (e_add (ev_t rfl) (ev_t rfl) (by omega)) ?_
        refine RgOK.s rfl rfl rfl (e_shi slt92 (ev_t rfl) (ev_t rfl) (by omega)) ?_
        refine RgOK.s rfl rfl rfl (e_as (ev_t rfl)) ?_
        refine RgOK.nil ?_
        show CdOK _ _ _ _ _ _
        refine CdOK.seq ?_
        refine CdOK.seq ?_
        refine CdOK.region ?_
        refine RgOK.s rfl rfl rfl (e_mv (ev_t rfl)) ?_
        refine RgOK.s rfl rfl rfl (e_mv (ev_t rfl)) ?_
        refine RgOK.s rfl rfl rfl (e_mv (ev_t rfl)) ?_
        refine RgOK.s rfl rfl rfl (e_mv (ev_t rfl)) ?_
        refine RgOK.s rfl rfl rfl (e_add (ev_t rfl) (ev_t rfl) (by omega)) ?_
        refine RgOK.s rfl rfl rfl (e_slo slt92 (ev_t rfl) (ev_t rfl) (by omega) (by omega)) ?_
        refine (RgOK.ovlL rfl rfl ov189 el92 (ev_t rfl) (ev_t rfl) hb (by simp; omega) ?_)
        refine RgOK.s rfl rfl rfl (e_un (ev_t rfl) rfl) ?_
        refine RgOK.nil ?_
        show CdOK _ _ _ _ _ _
        refine CdOK.cond_true rfl ?_
        refine CdOK.seq ?_
        refine CdOK.draw2 (ord := [0, 1, 2, 3, 4, 5, 6, 7, 8]) (chain := [8]) fol (by decide +kernel) (by decide +kernel) ?_
        refine Dr2.s rfl rfl rfl rfl rfl rfl (e_mv (ev_t rfl)) ?_
        refine Dr2.s rfl rfl rfl rfl rfl rfl (e_mv (ev_t rfl)) ?_
        refine Dr2.s rfl rfl rfl rfl rfl rfl (e_mv (ev_t rfl)) ?_
        refine Dr2.s rfl rfl rfl rfl rfl rfl (e_add (ev_t rfl) (ev_t rfl) (by omega)) ?_
        refine Dr2.s rfl rfl rfl rfl rfl rfl (e_slo slt92 (ev_t rfl) (ev_t rfl) (by omega) (by omega)) ?_
        refine Dr2.s rfl rfl rfl rfl rfl rfl (e_mv (ev_t rfl)) ?_
        refine Dr2.s rfl rfl rfl rfl rfl rfl (e_mv (ev_t rfl)) ?_
        refine Dr2.s rfl rfl rfl rfl rfl rfl (e_slo slt92 (ev_t rfl) (ev_t rfl) (by omega) (by omega)) ?_
        refine Dr2.c rfl rfl rfl rfl rfl (e_cpy slt92 (ev_t rfl) (ev_t rfl) (srcR (r := ((cs ++ ds).drop (i * 6)).take ((n + 1 - i) * 6)) hb (by rw [h1i, Nat.zero_add, h1n]) (by rw [h1i, h1n]; simp; omega)) hb (by omega) (by simp; omega)) .nil ?_
        refine Dr2.nil ?_
        show CdOK _ _ _ _ _ _
        refine CdOK.seq ?_
        refine CdOK.region ?_
        refine RgOK.s rfl rfl rfl (e_mv (ev_t rfl)) ?_
        refine RgOK.s rfl rfl rfl (e_mv (ev_t rfl)) ?_
        refine RgOK.s rfl rfl rfl (e_slo slt92 (ev_t rfl) (ev_t rfl) (by omega) (by omega)) ?_
        refine RgOK.s rfl rfl rfl (e_mv (ev_t rfl)) ?_
        refine RgOK.s rfl rfl rfl (e_cpy slt92 (ev_t rfl) (ev_t rfl) srcX (List.getElem?_set_self hbl) (by omega) (by simp [putCells_length]; omega)) ?_
        refine RgOK.nil ?_
        show CdOK _ _ _ _ _ _
        refine CdOK.seq ?_
        refine CdOK.region ?_
        refine RgOK.s rfl rfl rfl (e_mv (ev_t rfl)) ?_
        refine RgOK.s rfl rfl rfl (e_as (ev_t rfl)) ?_
        refine RgOK.nil ?_
        show CdOK _ _ _ _ _ _
        refine CdOK.ret ?_
        refine ⟨.inr rfl, _, rfl, ?_⟩
        first
        | (have hin2 : i = n := by omega
           subst hin2
           exact .inl ⟨c25, rfl, ds.drop 6, by rw [insEnd (k := 6) hl hxs (by omega)]⟩)
        | (have hin2 : i = n := by omega
           subst hin2
           refine .inr ⟨rfl, ?_⟩
           rw [List.take_append_of_le_length (by omega), List.take_of_length_le (by omega), List.drop_eq_nil_of_le (by omega), List.append_nil]
           done)
        | (have hlt : i < n := by omega
           have h1i1 : ((i : Int) + ((1 : Nat) : Int)).toNat = i + 1 := by omega
           have hm1 : min 1 (n + 1 - i) = 1 := by omega
           have hm2 : min (n - i) (n + 1 - (i + 1)) = n - i := by omega
           have hm3 : min (n + 1 - i) (n + 1 - (i + 1)) = n - i := by omega
           have e1 : (x0 :: x1).take 6 = x0 :: x1 := List.take_of_length_le (by omega)
           have e2 : (cs.drop (i * 6)).take ((n - i) * 6) = cs.drop (i * 6) := List.take_of_length_le (by simp; omega)
           have e3 : (((cs ++ ds).drop (i * 6)).take ((n + 1 - i) * 6)).take ((n - i) * 6) = cs.drop (i * 6) := by rw [List.take_take, Nat.min_eq_left (by omega)]; exact hsB
           have hik : (i + 1) * 6 = i * 6 + 6 := by omega
           have h1k : 1 * 6 = 6 := by omega
           first
           | (refine .inl ⟨by omega, by rw [h1n]; rfl, ds.drop 6, ?_⟩
              simp only [h1i, h1n, h1i1, hm1, hm3, Nat.zero_add, h1k, e1, e3, hik, List.set_set]
              rw [insMid (k := 6) (by omega) hxs (by omega)]
              done)
           | (refine .inr ⟨rfl, ?_⟩
              simp only [h1i, h1n, h1i1, hm1, hm2, Nat.zero_add, h1k, e1, e2, hik, List.set_set]
              rw [List.set_append_right _ _ (Nat.le_refl _), Nat.sub_self, List.set_cons_zero, insNew (k := 6) (by omega) hxs (by simp; omega)]
              done)
           | fail)
end Rv
