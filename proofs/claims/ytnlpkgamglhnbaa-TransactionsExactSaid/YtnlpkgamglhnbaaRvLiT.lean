import Derived.Test.YtnlpkgamglhnbaaRvLif
set_option linter.unusedVariables false
set_option linter.unusedSimpArgs false
namespace Rv
open Go Go.RowKit Go.Proofs
theorem el92 : ElF Try.prog 92 6 := .of (by decide +kernel)
theorem is92 : isSliceT Try.prog 92 = true := by decide +kernel
theorem nl92 : nlT Try.prog 92 = [(4, 1), (5, 1)] := by kernel_rfl
theorem ov189 (args : Array Value) (w : World) : (callFunc 189 args).run Try.prog w = ((Extern.SlicesOverlaps.overlaps #[92, 92] #[4] args).run Try.prog w).andThen fun v w' => .ok (.value v) w' := run_callFunc_extern Try.func189 (by kernel_rfl) (by kernel_rfl) (by kernel_rfl) (by kernel_rfl) args w
theorem slt92 : SlT Try.prog 92 6 ([.v (.int .i64 0)] ++ [.v (.int .i64 0)] ++ [.v (.int .i64 0)] ++ [.v (.int .i64 0)] ++ [.v (.slice none 0 0)] ++ [.v (.slice none 0 0)]) 80 := .of (e := 108) (by decide +kernel) (by kernel_rfl) rfl
theorem cloneT_ok {h : Heap} {A : Nat} (hA : h.length = A) {l : List Tx} (hn : l.length ≤ 1759218604441) : FnOK Try.prog 145 [.o (.c (.L 6 (l.map Tx.cs)))] h (fun v h' => ∃ lv, v = .o (.c (.g A l.length 6 lv)) ∧ h' = h ++ [⟨(l.map Tx.cs).flatten, true, lv⟩]) := by
  subst hA
  refine FnOK.wk3 ?_
  refine FnOK.body (N := 8) Try.func145 rfl rfl rfl ?_
  rw [List.append_nil]
  refine CdOK.seq (CdOK.region ?_)
  refine RgOK.s rfl rfl rfl (e_as rfl) ?_
  refine RgOK.nil ?_
  show CdOK _ _ _ _ _ _
  refine CdOK.seq (CdOK.seq (CdOK.region ?_))
  refine RgOK.s rfl rfl rfl (e_mv (ev_t rfl)) ?_
  refine (RgOK.nilcmpL rfl rfl is92 (ev_t rfl) ?_ ?_)
  · intro c4
    refine RgOK.nil ?_
    show CdOK _ _ _ _ _ _
    refine CdOK.cond_true rfl ?_
    refine CdOK.seq (CdOK.region ?_)
    refine RgOK.s rfl rfl rfl (e_as rfl) ?_
    refine RgOK.nil ?_
    show CdOK _ _ _ _ _ _
    refine CdOK.ret ?_
    refine ⟨.inr rfl, _, rfl, ?_⟩
    first
    | (have hl : l = [] := by simpa using c4
       subst hl
       exact ⟨_, _, tellNil, false, rfl, rfl⟩)
    | exact ⟨_, _, Tell3.refl _ _, _, rfl, rfl⟩
  · intro c4
    refine RgOK.nil ?_
    show CdOK _ _ _ _ _ _
    refine CdOK.cond_false rfl ?_
    refine CdOK.skip ?_
    show CdOK _ _ _ _ _ _
    refine CdOK.seq (CdOK.region ?_)
    refine RgOK.s rfl rfl rfl (e_lit (cs := []) (xs := []) slt92 nl92 rfl rfl rfl rfl rfl) ?_
    refine RgOK.s rfl rfl rfl (e_mv (ev_t rfl)) ?_
    refine RgOK.s rfl rfl rfl (e_apC0 (k := 6) (q := 1759218604441) (m := l.length) (ys := l) (f := Tx.cs) (lv := decide (0 < l.length)) slt92 (ev_t rfl) (ev_t rfl) src_L rfl hn (by decide) rfl) ?_
    refine RgOK.s rfl rfl rfl (e_as (ev_t rfl)) ?_
    refine RgOK.nil ?_
    show CdOK _ _ _ _ _ _
    refine CdOK.ret ?_
    refine ⟨.inr rfl, _, rfl, ?_⟩
    first
    | (have hl : l = [] := by simpa using c4
       subst hl
       exact ⟨_, _, tellNil, false, rfl, rfl⟩)
    | exact ⟨_, _, Tell3.refl _ _, _, rfl, rfl⟩
theorem insT_core (H : Heap) (b n c i : Nat) (cs ds : List Cell) (x0 : Cell) (x1 : List Cell) (hb : H[b]? = some ⟨cs ++ ds, true, true⟩) (hl : cs.length = n * 6) (hd : ds.length = (c - n) * 6) (hnc : n ≤ c) (hxs : (x0 :: x1).length = 6) (hi : i ≤ n) (hn : (n : Int) ≤ 1000000) : FnOK Try.prog 144 [.o (.c (.sl b 0 n c 6 true)), VI i, .o (.c (.LC 6 [x0 :: x1]))] H (fun v h' => (n + 1 ≤ c ∧ v = .o (.c (.sl b 0 (n + 1) c 6 true)) ∧ ∃ ds', h' = H.set b ⟨(cs.take (i * 6) ++ (x0 :: x1) ++ cs.drop (i * 6)) ++ ds', true, true⟩) ∨ (v = .o (.c (.sl H.length 0 (n + 1) (n + 1) 6 false)) ∧ h' = H ++ [⟨cs.take (i * 6) ++ (x0 :: x1) ++ cs.drop (i * 6), true, true⟩])) := by
  have hfit : c * 6 ≤ (cs ++ ds).length := by simp; omega
  have hbl : b < H.length := lt_of_get hb
  have hin : i + (n + 1 - i) = n + 1 := by omega
  have h1i : ((i : Nat) : Int).toNat = i := Int.toNat_natCast i
  have h1n : ((n : Int) + ((1 : Nat) : Int)).toNat = n + 1 := by omega
  have hsB : ((cs ++ ds).drop (i * 6)).take ((n - i) * 6) = cs.drop (i * 6) := by rw [List.drop_append_of_le_length (by omega)]; exact List.take_left' (by simp; omega)
  have hcast : ((n : Int) + ((1 : Nat) : Int) - (i : Int)) = ((n + 1 - i : Nat) : Int) := by omega
  refine FnOK.body (N := 95) Try.func144 rfl rfl rfl ?_
  rw [List.append_nil]
  refine CdOK.seq (CdOK.region ?_)
  refine RgOK.s rfl rfl rfl (e_as rfl) ?_
  refine RgOK.nil ?_
  show CdOK _ _ _ _ _ _
  refine CdOK.seq (CdOK.region ?_)
  refine RgOK.s rfl rfl rfl (e_mv (ev_t rfl)) ?_
  refine RgOK.s rfl rfl rfl (e_mv (ev_t rfl)) ?_
  refine (RgOK.sx rfl rfl rfl (e_slx slt92 (ev_t rfl) (ev_t rfl) (by omega) hnc) ?_)
  intro v12
  refine RgOK.nil ?_
  show CdOK _ _ _ _ _ _
  refine CdOK.seq (CdOK.region ?_)
  refine RgOK.s rfl rfl rfl (e_mv (ev_t rfl)) ?_
  refine RgOK.s rfl rfl rfl (by first | exact e_len (ev_t rfl) is92 | exact e_lenS (ev_t rfl) is92 | exact e_lenLC (ev_t rfl) is92) ?_
  refine RgOK.s rfl rfl rfl (e_as (ev_t rfl)) ?_
  refine RgOK.nil ?_
  show CdOK _ _ _ _ _ _
  refine CdOK.seq (CdOK.seq (CdOK.region ?_))
  refine RgOK.s rfl rfl rfl (e_mv (ev_t rfl)) ?_
  refine RgOK.sd rfl rfl rfl (e_eql (ev_t rfl) rfl) ?_ ?_
  · intro c16
    exact absurd c16 (by decide) -- done
  · intro c16
    refine RgOK.nil ?_
    show CdOK _ _ _ _ _ _
    refine CdOK.cond_false rfl ?_
    refine CdOK.skip ?_
    show CdOK _ _ _ _ _ _
    refine CdOK.seq (CdOK.region ?_)
    refine RgOK.s rfl rfl rfl (e_mv (ev_t rfl)) ?_
    refine RgOK.s rfl rfl rfl (by first | exact e_len (ev_t rfl) is92 | exact e_lenS (ev_t rfl) is92 | exact e_lenLC (ev_t rfl) is92) ?_
    refine RgOK.s rfl rfl rfl (e_as (ev_t rfl)) ?_
    refine RgOK.nil ?_
    show CdOK _ _ _ _ _ _
    refine CdOK.seq (CdOK.seq (CdOK.region ?_))
    refine RgOK.s rfl rfl rfl (e_mv (ev_t rfl)) ?_
    refine RgOK.s rfl rfl rfl (e_mv (ev_t rfl)) ?_
    refine RgOK.sd rfl rfl rfl (e_eql (ev_t rfl) (ev_t rfl)) ?_ ?_
    · intro c22
      refine RgOK.nil ?_
      show CdOK _ _ _ _ _ _
      refine CdOK.cond_true rfl ?_
      refine CdOK.seq (CdOK.region ?_)
      refine RgOK.s rfl rfl rfl (e_mv (ev_t rfl)) ?_
      refine RgOK.s rfl rfl rfl (e_mv (ev_t rfl)) ?_
      refine (RgOK.appE slt92 rfl rfl (ev_t rfl) (ev_t rfl) srcX hb (by omega) hnc hfit ⟨by omega, by omega⟩ ?_ ?_)
      · intro c25
        refine RgOK.s rfl rfl rfl (e_as (ev_t rfl)) ?_
        refine RgOK.nil ?_
        show CdOK _ _ _ _ _ _
        refine CdOK.ret ?_
        refine ⟨.inr rfl, _, rfl, ?_⟩
        first
        | (have hin2 : i = n := by omega
           subst hin2
           exact .inl ⟨c25, rfl, ds.drop 6, by rw [insEnd (k := 6) hl hxs (by omega)]⟩)
        | (have hin2 : i = n := by omega
           subst hin2
           refine .inr ⟨rfl, ?_⟩
           rw [List.take_append_of_le_length (by omega), List.take_of_length_le (by omega), List.drop_eq_nil_of_le (by omega), List.append_nil]
           done)
        | (have hlt : i < n := by omega
           have h1i1 : ((i : Int) + ((1 : Nat) : Int)).toNat = i + 1 := by omega
           have hm1 : min 1 (n + 1 - i) = 1 := by omega
           have hm2 : min (n - i) (n + 1 - (i + 1)) = n - i := by omega
           have hm3 : min (n + 1 - i) (n + 1 - (i + 1)) = n - i := by omega
           have e1 : (x0 :: x1).take 6 = x0 :: x1 := List.take_of_length_le (by omega)
           have e2 : (cs.drop (i * 6)).take ((n - i) * 6) = cs.drop (i * 6) := List.take_of_length_le (by simp; omega)
           have e3 : (((cs ++ ds).drop (i * 6)).take ((n + 1 - i) * 6)).take ((n - i) * 6) = cs.drop (i * 6) := by rw [List.take_take, Nat.min_eq_left (by omega)]; exact hsB
           have hik : (i + 1) * 6 = i * 6 + 6 := by omega
           have h1k : 1 * 6 = 6 := by omega
           first
           | (refine .inl ⟨by omega, by rw [h1n]; rfl, ds.drop 6, ?_⟩
              simp only [h1i, h1n, h1i1, hm1, hm3, Nat.zero_add, h1k, e1, e3, hik, List.set_set]
              rw [insMid (k := 6) (by omega) hxs (by omega)]
              done)
           | (refine .inr ⟨rfl, ?_⟩
              simp only [h1i, h1n, h1i1, hm1, hm2, Nat.zero_add, h1k, e1, e2, hik, List.set_set]
              rw [List.set_append_right _ _ (Nat.le_refl _), Nat.sub_self, List.set_cons_zero, insNew (k := 6) (by omega) hxs (by simp; omega)]
              done)
           | fail)
      · intro c25
        refine RgOK.s rfl rfl rfl (e_as (ev_t rfl)) ?_
        refine RgOK.nil ?_
        show CdOK _ _ _ _ _ _
        refine CdOK.ret ?_
        refine ⟨.inr rfl, _, rfl, ?_⟩
        first
        | (have hin2 : i = n := by omega
           subst hin2
           exact .inl ⟨c25, rfl, ds.drop 6, by rw [insEnd (k := 6) hl hxs (by omega)]⟩)
        | (have hin2 : i = n := by omega
           subst hin2
           refine .inr ⟨rfl, ?_⟩
           rw [List.take_append_of_le_length (by omega), List.take_of_length_le (by omega), List.drop_eq_nil_of_le (by omega), List.append_nil]
           done)
        | (have hlt : i < n := by omega
           have h1i1 : ((i : Int) + ((1 : Nat) : Int)).toNat = i + 1 := by omega
           have hm1 : min 1 (n + 1 - i) = 1 := by omega
           have hm2 : min (n - i) (n + 1 - (i + 1)) = n - i := by omega
           have hm3 : min (n + 1 - i) (n + 1 - (i + 1)) = n - i := by omega
           have e1 : (x0 :: x1).take 6 = x0 :: x1 := List.take_of_length_le (by omega)
           have e2 : (cs.drop (i * 6)).take ((n - i) * 6) = cs.drop (i * 6) := List.take_of_length_le (by simp; omega)
           have e3 : (((cs ++ ds).drop (i * 6)).take ((n + 1 - i) * 6)).take ((n - i) * 6) = cs.drop (i * 6) := by rw [List.take_take, Nat.min_eq_left (by omega)]; exact hsB
           have hik : (i + 1) * 6 = i * 6 + 6 := by omega
           have h1k : 1 * 6 = 6 := by omega
           first
           | (refine .inl ⟨by omega, by rw [h1n]; rfl, ds.drop 6, ?_⟩
              simp only [h1i, h1n, h1i1, hm1, hm3, Nat.zero_add, h1k, e1, e3, hik, List.set_set]
              rw [insMid (k := 6) (by omega) hxs (by omega)]
              done)
           | (refine .inr ⟨rfl, ?_⟩
              simp only [h1i, h1n, h1i1, hm1, hm2, Nat.zero_add, h1k, e1, e2, hik, List.set_set]
              rw [List.set_append_right _ _ (Nat.le_refl _), Nat.sub_self, List.set_cons_zero, insNew (k := 6) (by omega) hxs (by simp; omega)]
              done)
           | fail)
    · intro c22
      refine RgOK.nil ?_
      show CdOK _ _ _ _ _ _
      refine CdOK.cond_false rfl ?_
      refine CdOK.skip ?_
      show CdOK _ _ _ _ _ _
      refine CdOK.seq (CdOK.seq (CdOK.region ?_))
      refine RgOK.s rfl rfl rfl (e_mv (ev_t rfl)) ?_
      refine RgOK.s rfl rfl rfl (e_mv (ev_t rfl)) ?_
      refine RgOK.s rfl rfl rfl (e_add (ev_t rfl) (ev_t rfl) (by omega)) ?_
      refine RgOK.s rfl rfl rfl (e_mv (ev_t rfl)) ?_
      refine RgOK.s rfl rfl rfl (e_cap (ev_t rfl) is92) ?_
      refine RgOK.sd rfl rfl rfl (e_gtr (ev_t rfl) (ev_t rfl)) ?_ ?_
      · intro c31
        refine RgOK.nil ?_
        show CdOK _ _ _ _ _ _
        refine CdOK.cond_true rfl ?_
        refine CdOK.seq (CdOK.region ?_)
        refine RgOK.s rfl rfl rfl (e_mv (ev_t rfl)) ?_
        refine RgOK.s rfl rfl rfl (e_mv (ev_t rfl)) ?_
        refine RgOK.s rfl rfl rfl (e_shi slt92 (ev_t rfl) (ev_t rfl) (by omega)) ?_
        refine RgOK.s rfl rfl rfl (e_mv (ev_t rfl)) ?_
        refine RgOK.s rfl rfl rfl (e_mv (ev_t rfl)) ?_
        refine RgOK.s rfl rfl rfl (e_add (ev_t rfl) (ev_t rfl) (by omega)) ?_
        refine RgOK.s rfl rfl rfl (e_mv (ev_t rfl)) ?_
        refine RgOK.s rfl rfl rfl (e_sub (ev_t rfl) (ev_t rfl) (by omega)) ?_
        refine (RgOK.appz (m := n + 1 - i) slt92 un3 rfl rfl (ev_t rfl) ((ev_t rfl).trans (by rw [hcast])) hb (by omega) (by omega) ⟨by omega, by omega⟩ (by omega) (by omega) ?_)
        simp only [h1i, hin]
        refine RgOK.s rfl rfl rfl (e_as (ev_t rfl)) ?_
        refine RgOK.nil ?_
        show CdOK _ _ _ _ _ _
        refine CdOK.seq (CdOK.region ?_)
        refine RgOK.s rfl rfl rfl (e_mv (ev_t rfl)) ?_
        refine RgOK.s rfl rfl rfl (e_mv (ev_t rfl)) ?_
        refine RgOK.s rfl rfl rfl (e_slo slt92 (ev_t rfl) (ev_t rfl) (by omega) (by omega)) ?_
        refine RgOK.s rfl rfl rfl (e_mv (ev_t rfl)) ?_
        refine RgOK.s rfl rfl rfl (e_cpy slt92 (ev_t rfl) (ev_t rfl) srcX (List.getElem?_concat_length ..) (by omega) (by simp; omega)) ?_
        refine RgOK.nil ?_
        show CdOK _ _ _ _ _ _
        refine CdOK.seq ?_
        refine CdOK.draw2 (ord := [0, 1, 2, 3, 4, 5, 6, 7, 8]) (chain := [8]) fol (by decide +kernel) (by decide +kernel) ?_
        refine Dr2.s rfl rfl rfl rfl rfl rfl (e_mv (ev_t rfl)) ?_
        refine Dr2.s rfl rfl rfl rfl rfl rfl (e_mv (ev_t rfl)) ?_
        refine Dr2.s rfl rfl rfl rfl rfl rfl (e_mv (ev_t rfl)) ?_
        refine Dr2.s rfl rfl rfl rfl rfl rfl (e_add (ev_t rfl) (ev_t rfl) (by omega)) ?_
        refine Dr2.s rfl rfl rfl rfl rfl rfl (e_slo slt92 (ev_t rfl) (ev_t rfl) (by omega) (by omega)) ?_
        refine Dr2.s rfl rfl rfl rfl rfl rfl (e_mv (ev_t rfl)) ?_
        refine Dr2.s rfl rfl rfl rfl rfl rfl (e_mv (ev_t rfl)) ?_
        refine Dr2.s rfl rfl rfl rfl rfl rfl (e_slo slt92 (ev_t rfl) (ev_t rfl) (by omega) (by omega)) ?_
        refine Dr2.c rfl rfl rfl rfl rfl (e_cpy slt92 (ev_t rfl) (ev_t rfl) (srcR (r := cs.drop (i * 6)) (by rw [List.getElem?_set_ne (by omega)]; exact old_get hb) (by rw [h1i, Nat.zero_add]; exact hsB) (by rw [h1i]; simp; omega)) (List.getElem?_set_self (by simp)) (by omega) (by simp [putCells_length]; omega)) .nil ?_
        refine Dr2.nil ?_
        show CdOK _ _ _ _ _ _
        refine CdOK.seq (CdOK.region ?_)
        refine RgOK.s rfl rfl rfl (e_mv (ev_t rfl)) ?_
        refine RgOK.s rfl rfl rfl (e_as (ev_t rfl)) ?_
        refine RgOK.nil ?_
        show CdOK _ _ _ _ _ _
        refine CdOK.ret ?_
        refine ⟨.inr rfl, _, rfl, ?_⟩
        first
        | (have hin2 : i = n := by omega
           subst hin2
           exact .inl ⟨c25, rfl, ds.drop 6, by rw [insEnd (k := 6) hl hxs (by omega)]⟩)
        | (have hin2 : i = n := by omega
           subst hin2
           refine .inr ⟨rfl, ?_⟩
           rw [List.take_append_of_le_length (by omega), List.take_of_length_le (by omega), List.drop_eq_nil_of_le (by omega), List.append_nil]
           done)
        | (have hlt : i < n := by omega
           have h1i1 : ((i : Int) + ((1 : Nat) : Int)).toNat = i + 1 := by omega
           have hm1 : min 1 (n + 1 - i) = 1 := by omega
           have hm2 : min (n - i) (n + 1 - (i + 1)) = n - i := by omega
           have hm3 : min (n + 1 - i) (n + 1 - (i + 1)) = n - i := by omega
           have e1 : (x0 :: x1).take 6 = x0 :: x1 := List.take_of_length_le (by omega)
           have e2 : (cs.drop (i * 6)).take ((n - i) * 6) = cs.drop (i * 6) := List.take_of_length_le (by simp; omega)
           have e3 : (((cs ++ ds).drop (i * 6)).take ((n + 1 - i) * 6)).take ((n - i) * 6) = cs.drop (i * 6) := by rw [List.take_take, Nat.min_eq_left (by omega)]; exact hsB
           have hik : (i + 1) * 6 = i * 6 + 6 := by omega
           have h1k : 1 * 6 = 6 := by omega
           first
           | (refine .inl ⟨by omega, by rw [h1n]; rfl, ds.drop 6, ?_⟩
              simp only [h1i, h1n, h1i1, hm1, hm3, Nat.zero_add, h1k, e1, e3, hik, List.set_set]
              rw [insMid (k := 6) (by omega) hxs (by omega)]
              done)
           | (refine .inr ⟨rfl, ?_⟩
              simp only [h1i, h1n, h1i1, hm1, hm2, Nat.zero_add, h1k, e1, e2, hik, List.set_set]
              rw [List.set_append_right _ _ (Nat.le_refl _), Nat.sub_self, List.set_cons_zero, insNew (k := 6) (by omega) hxs (by simp; omega)]
              done)
           | fail)
      · intro c31
        refine RgOK.nil ?_
        show CdOK _ _ _ _ _ _
        refine CdOK.cond_false rfl ?_
        refine CdOK.skip ?_
        show CdOK _ _ _ _ _ _
        refine CdOK.seq (CdOK.region ?_)
        refine RgOK.s rfl rfl rfl (e_mv (ev_t rfl)) ?_
        refine RgOK.s rfl rfl rfl (e_mv (ev_t rfl)) ?_
        refine RgOK.s rfl rfl rfl (e_mv (ev_t rfl)) ?_
        refine RgOK.s rfl rfl rfl (e_add (ev_t rfl) (ev_t rfl) (by omega)) ?_
        refine RgOK.s rfl rfl rfl (e_shi slt92 (ev_t rfl) (ev_t rfl) (by omega)) ?_
        refine RgOK.s rfl rfl rfl (e_as (ev_t rfl)) ?_
        refine RgOK.nil ?_
        show CdOK _ _ _ _ _ _
        refine CdOK.seq (CdOK.seq (CdOK.region ?_))
        refine RgOK.s rfl rfl rfl (e_mv (ev_t rfl)) ?_
        refine RgOK.s rfl rfl rfl (e_mv (ev_t rfl)) ?_
        refine RgOK.s rfl rfl rfl (e_mv (ev_t rfl)) ?_
        refine RgOK.s rfl rfl rfl (e_mv (ev_t rfl)) ?_
        refine RgOK.s rfl rfl rfl (e_add (ev_t rfl) (ev_t rfl) (by omega)) ?_
        refine RgOK.s rfl rfl rfl (e_slo slt92 (ev_t rfl) (ev_t rfl) (by omega) (by omega)) ?_
        refine (RgOK.ovlL rfl rfl ov189 el92 (ev_t rfl) (ev_t rfl) hb (by simp; omega) ?_)
        refine RgOK.s rfl rfl rfl (e_un (ev_t rfl) rfl) ?_
        refine RgOK.nil ?_
        show CdOK _ _ _ _ _ _
        refine CdOK.cond_true rfl ?_
        refine CdOK.seq ?_
        refine CdOK.draw2 (ord := [0, 1, 2, 3, 4, 5, 6, 7, 8]) (chain := [8]) fol (by decide +kernel) (by decide +kernel) ?_
        refine Dr2.s rfl rfl rfl rfl rfl rfl (e_mv (ev_t rfl)) ?_
        refine Dr2.s rfl rfl rfl rfl rfl rfl (e_mv (ev_t rfl)) ?_
        refine Dr2.s rfl rfl rfl rfl rfl rfl (e_mv (ev_t rfl)) ?_
        refine Dr2.s rfl rfl rfl rfl rfl rfl (e_add (ev_t rfl) (ev_t rfl) (by omega)) ?_
        refine Dr2.s rfl rfl rfl rfl rfl rfl (e_slo slt92 (ev_t rfl) (ev_t rfl) (by omega) (by omega)) ?_
        refine Dr2.s rfl rfl rfl rfl rfl rfl (e_mv (ev_t rfl)) ?_
        refine Dr2.s rfl rfl rfl rfl rfl rfl (e_mv (ev_t rfl)) ?_
        refine Dr2.s rfl rfl rfl rfl rfl rfl (e_slo slt92 (ev_t rfl) (ev_t rfl) (by omega) (by omega)) ?_
        refine Dr2.c rfl rfl rfl rfl rfl (e_cpy slt92 (ev_t rfl) (ev_t rfl) (srcR (r := ((cs ++ ds).drop (i * 6)).take ((n + 1 - i) * 6)) hb (by rw [h1i, Nat.zero_add, h1n]) (by rw [h1i, h1n]; simp; omega)) hb (by omega) (by simp; omega)) .nil ?_
        refine Dr2.nil ?_
        show CdOK _ _ _ _ _ _
        refine CdOK.seq (CdOK.region ?_)
        refine RgOK.s rfl rfl rfl (e_mv (ev_t rfl)) ?_
        refine RgOK.s rfl rfl rfl (e_mv (ev_t rfl)) ?_
        refine RgOK.s rfl rfl rfl (e_slo slt92 (ev_t rfl) (ev_t rfl) (by omega) (by omega)) ?_
        refine RgOK.s rfl rfl rfl (e_mv (ev_t rfl)) ?_
        refine RgOK.s rfl rfl rfl (e_cpy slt92 (ev_t rfl) (ev_t rfl) srcX (List.getElem?_set_self hbl) (by omega) (by simp [putCells_length]; omega)) ?_
        refine RgOK.nil ?_
        show CdOK _ _ _ _ _ _
        refine CdOK.seq (CdOK.region ?_)
        refine RgOK.s rfl rfl rfl (e_mv (ev_t rfl)) ?_
        refine RgOK.s rfl rfl rfl (e_as (ev_t rfl)) ?_
        refine RgOK.nil ?_
        show CdOK _ _ _ _ _ _
        refine CdOK.ret ?_
        refine ⟨.inr rfl, _, rfl, ?_⟩
        first
        | (have hin2 : i = n := by omega
           subst hin2
           exact .inl ⟨c25, rfl, ds.drop 6, by rw [insEnd (k := 6) hl hxs (by omega)]⟩)
        | (have hin2 : i = n := by omega
           subst hin2
           refine .inr ⟨rfl, ?_⟩
           rw [List.take_append_of_le_length (by omega), List.take_of_length_le (by omega), List.drop_eq_nil_of_le (by omega), List.append_nil]
           done)
        | (have hlt : i < n := by omega
           have h1i1 : ((i : Int) + ((1 : Nat) : Int)).toNat = i + 1 := by omega
           have hm1 : min 1 (n + 1 - i) = 1 := by omega
           have hm2 : min (n - i) (n + 1 - (i + 1)) = n - i := by omega
           have hm3 : min (n + 1 - i) (n + 1 - (i + 1)) = n - i := by omega
           have e1 : (x0 :: x1).take 6 = x0 :: x1 := List.take_of_length_le (by omega)
           have e2 : (cs.drop (i * 6)).take ((n - i) * 6) = cs.drop (i * 6) := List.take_of_length_le (by simp; omega)
           have e3 : (((cs ++ ds).drop (i * 6)).take ((n + 1 - i) * 6)).take ((n - i) * 6) = cs.drop (i * 6) := by rw [List.take_take, Nat.min_eq_left (by omega)]; exact hsB
           have hik : (i + 1) * 6 = i * 6 + 6 := by omega
           have h1k : 1 * 6 = 6 := by omega
           first
           | (refine .inl ⟨by omega, by rw [h1n]; rfl, ds.drop 6, ?_⟩
              simp only [h1i, h1n, h1i1, hm1, hm3, Nat.zero_add, h1k, e1, e3, hik, List.set_set]
              rw [insMid (k := 6) (by omega) hxs (by omega)]
              done)
           | (refine .inr ⟨rfl, ?_⟩
              simp only [h1i, h1n, h1i1, hm1, hm2, Nat.zero_add, h1k, e1, e2, hik, List.set_set]
              rw [List.set_append_right _ _ (Nat.le_refl _), Nat.sub_self, List.set_cons_zero, insNew (k := 6) (by omega) hxs (by simp; omega)]
              done)
           | fail)
theorem insT_nil (H : Heap) (x0 : Cell) (x1 : List Cell) (hxs : (x0 :: x1).length = 6) : FnOK Try.prog 144 [.o (.c (.LC 6 [])), VI 0, .o (.c (.LC 6 [x0 :: x1]))] H (fun v h' => v = .o (.c (.g H.length 1 6 true)) ∧ h' = H ++ [⟨x0 :: x1, true, true⟩]) := by
  refine FnOK.body (N := 95) Try.func144 rfl rfl rfl ?_
  rw [List.append_nil]
  refine CdOK.seq (CdOK.region ?_)
  refine RgOK.s rfl rfl rfl (e_as rfl) ?_
  refine RgOK.nil ?_
  show CdOK _ _ _ _ _ _
  refine CdOK.seq (CdOK.region ?_)
  refine RgOK.s rfl rfl rfl (e_mv (ev_t rfl)) ?_
  refine RgOK.s rfl rfl rfl (e_mv (ev_t rfl)) ?_
  refine (RgOK.sx rfl rfl rfl (e_slLC slt92 (ev_t rfl) (ev_t rfl)) ?_)
  intro v12
  refine RgOK.nil ?_
  show CdOK _ _ _ _ _ _
  refine CdOK.seq (CdOK.region ?_)
  refine RgOK.s rfl rfl rfl (e_mv (ev_t rfl)) ?_
  refine RgOK.s rfl rfl rfl (by first | exact e_len (ev_t rfl) is92 | exact e_lenLC (ev_t rfl) is92 | exact e_lenMC (l := ([] : List (List Cell))) (f := fun c => c) (ev_t rfl) is92) ?_
  refine RgOK.s rfl rfl rfl (e_as (ev_t rfl)) ?_
  refine RgOK.nil ?_
  show CdOK _ _ _ _ _ _
  refine CdOK.seq (CdOK.seq (CdOK.region ?_))
  refine RgOK.s rfl rfl rfl (e_mv (ev_t rfl)) ?_
  refine RgOK.sd rfl rfl rfl (e_eql (ev_t rfl) rfl) ?_ ?_
  · intro c16
    exact absurd c16 (by decide) -- done
  · intro c16
    refine RgOK.nil ?_
    show CdOK _ _ _ _ _ _
    refine CdOK.cond_false rfl ?_
    refine CdOK.skip ?_
    show CdOK _ _ _ _ _ _
    refine CdOK.seq (CdOK.region ?_)
    refine RgOK.s rfl rfl rfl (e_mv (ev_t rfl)) ?_
    refine RgOK.s rfl rfl rfl (by first | exact e_len (ev_t rfl) is92 | exact e_lenLC (ev_t rfl) is92 | exact e_lenMC (l := ([] : List (List Cell))) (f := fun c => c) (ev_t rfl) is92) ?_
    refine RgOK.s rfl rfl rfl (e_as (ev_t rfl)) ?_
    refine RgOK.nil ?_
    show CdOK _ _ _ _ _ _
    refine CdOK.seq (CdOK.seq (CdOK.region ?_))
    refine RgOK.s rfl rfl rfl (e_mv (ev_t rfl)) ?_
    refine RgOK.s rfl rfl rfl (e_mv (ev_t rfl)) ?_
    refine RgOK.sd rfl rfl rfl (e_eql (ev_t rfl) (ev_t rfl)) ?_ ?_
    · intro c22
      refine RgOK.nil ?_
      show CdOK _ _ _ _ _ _
      refine CdOK.cond_true rfl ?_
      refine CdOK.seq (CdOK.region ?_)
      refine RgOK.s rfl rfl rfl (e_mv (ev_t rfl)) ?_
      refine RgOK.s rfl rfl rfl (e_mv (ev_t rfl)) ?_
      refine RgOK.s rfl rfl rfl (e_apC0 (k := 6) (q := 1759218604441) (m := 1) (ys := [x0 :: x1]) (f := fun c => c) (lv := true) slt92 (ev_t rfl) (ev_t rfl) (srcX.trans (by simp)) rfl (by decide) (by decide) rfl) ?_
      refine RgOK.s rfl rfl rfl (e_as (ev_t rfl)) ?_
      refine RgOK.nil ?_
      show CdOK _ _ _ _ _ _
      refine CdOK.ret ?_
      refine ⟨.inr rfl, _, rfl, ?_⟩
      exact ⟨rfl, by simp⟩
    · intro c22
      exact absurd rfl c22 -- done
/-- slices.Insert[[]pagemend/api.Tx,pagemend/api.Tx]: one element more. -/
theorem insT_ok {h : Heap} {A b : Nat} (hA : h.length = A) {l : List Tx} {x : Tx} {i : Int} {lv : Bool} (hb : h[b]? = some ⟨(l.map Tx.cs).flatten, true, lv⟩) (hi : 0 ≤ i ∧ i ≤ l.length) (hn : l.length ≤ 1000000) :
    FnOK Try.prog 144 [.o (.c (.g b l.length 6 lv)), VI i, .o (.c (.LC 6 ([x].map Tx.cs)))] h (fun v h' => v = .o (.c (.g A (insL l i.toNat x).length 6 true)) ∧ h' = kill h b ++ [⟨((insL l i.toNat x).map Tx.cs).flatten, true, true⟩]) := by
  subst hA
  have hlen : (insL l i.toNat x).length = l.length + 1 := insL_len (by omega) x
  have hfl : ((insL l i.toNat x).map Tx.cs).flatten = ((l.map Tx.cs).flatten).take (i.toNat * 6) ++ Tx.cs x ++ ((l.map Tx.cs).flatten).drop (i.toNat * 6) := by
    have h1 : (l.map Tx.cs).flatten = ((l.take i.toNat).map Tx.cs).flatten ++ ((l.drop i.toNat).map Tx.cs).flatten := by rw [← List.flatten_append, ← List.map_append, List.take_append_drop]
    have h2 : ((l.take i.toNat).map Tx.cs).flatten.length = i.toNat * 6 := by rw [lens_fl (k := 6) (fun x => rfl), List.length_take, Nat.min_eq_left (by omega)]
    rw [h1, ← h2, List.take_left, List.drop_left]
    simp [insL]
  obtain ⟨x0, x1, hx⟩ : ∃ x0 x1, Tx.cs x = x0 :: x1 := ⟨_, _, rfl⟩
  have hx' : ([x].map Tx.cs) = [x0 :: x1] := by rw [← hx]; rfl
  have hlx : (x0 :: x1).length = 6 := by rw [← hx]; rfl
  rw [hx', hfl, hx, hlen]
  have hbl := lt_of_get hb
  have hkl : ∀ (i : Nat) (o : AO), (kill h b)[i]? = some o → o.live = true → i ≠ b ∧ h[i]? = some o := fun i o h1 h2 => kill_get h1 h2
  cases lv with
  | false =>
    refine FnOK.gfalse fun h0 => ?_
    obtain rfl : l = [] := List.eq_nil_of_length_eq_zero h0
    have hi0 : i = 0 := by simp at hi; omega
    subst hi0
    refine FnOK.weak (R2.cons (.c (.gLC b 6)) (R2.wk _)) ?_
    refine FnOK.wk3 ((insT_nil h x0 x1 hlx).mono ?_)
    rintro v h' ⟨rfl, rfl⟩
    refine ⟨_, kill h b ++ [⟨x0 :: x1, true, true⟩], tellG (by simp [kill_len]) fun i o h1 h2 => ?_, rfl, by simp⟩
    rcases Nat.lt_or_ge i (kill h b).length with hlt | hge
    · rw [List.getElem?_append_left hlt] at h1
      rw [List.getElem?_append_left (by rwa [kill_len] at hlt)]
      exact (hkl i o h1 h2).2
    · rw [List.getElem?_append_right hge] at h1
      rw [List.getElem?_append_right (by rwa [kill_len] at hge), ← kill_len h b]; exact h1
  | true =>
    refine FnOK.weak (R2.cons (.c (.gsl b l.length 6)) (R2.wk _)) ?_
    have hcl : ((l.map Tx.cs).flatten).length = l.length * 6 := lens_fl fun x => rfl
    refine FnOK.cap hb hcl (Nat.le_refl _) fun c hc => ?_
    have hi' : i = ((i.toNat : Nat) : Int) := by omega
    rw [hi', Int.toNat_natCast]
    have hset : (h.set b ⟨(l.map Tx.cs).flatten ++ List.replicate ((c - l.length) * 6) .any, true, true⟩)[b]? = some ⟨(l.map Tx.cs).flatten ++ List.replicate ((c - l.length) * 6) .any, true, true⟩ := List.getElem?_set_self hbl
    refine FnOK.wk3 ((insT_core _ b l.length c i.toNat _ _ x0 x1 hset hcl (by simp) hc hlx (by omega) (by omega)).mono ?_)
    have hk2 : ∀ (X : AO) (i : Nat) (o : AO), (kill h b)[i]? = some o → o.live = true → i ≠ b ∧ (h.set b X)[i]? = some o := fun X i o h1 h2 => by
      obtain ⟨g1, g2⟩ := hkl i o h1 h2
      exact ⟨g1, by rw [List.getElem?_set_ne (fun e => g1 e.symm)]; exact g2⟩
    rintro v h' (⟨hr, rfl, ds', rfl⟩ | ⟨rfl, rfl⟩)
    · rw [List.set_set]
      refine ⟨_, _, tellIn (H0 := kill h b) (List.getElem?_set_self hbl) (by simp at hlx; simp [hcl, hlx]; omega) hr (by simp [kill_len]) (fun i o h1 h2 => hk2 _ i o h1 h2), by simp, rfl⟩
    · rw [List.length_set]
      exact ⟨_, _, by
        have := tellNew (H := h.set b ⟨(l.map Tx.cs).flatten ++ List.replicate ((c - l.length) * 6) .any, true, true⟩) (H0 := kill h b) (n := l.length + 1) (k := 6) (ex := false) (cs := ((l.map Tx.cs).flatten).take (i.toNat * 6) ++ x0 :: x1 ++ ((l.map Tx.cs).flatten).drop (i.toNat * 6)) (by simp [kill_len]) (fun i o h1 h2 => (hk2 _ i o h1 h2).2)
        rwa [List.length_set] at this, rfl, rfl⟩
end Rv
