import Derived.Test.YtnlpkgamglhnbaaRvTrxb
import Derived.Test.YtnlpkgamglhnbaaRvDelI
set_option linter.unusedVariables false
set_option linter.unusedSimpArgs false
namespace Rv
open Go Go.RowKit Go.Proofs
theorem pl149 : plainFn Try.prog 149 = true := by decide +kernel
theorem pl150 : plainFn Try.prog 150 = true := by decide +kernel
def transactions_RemoveF (t_ : Tx) (a1 : Int) : Option Bool := some (decide (t_.id_ = a1))
theorem transactions_RemoveF_ok {h : Heap} {t_ : Tx} {a1 : Int} {b_a1 : Nat} (hb_a1 : h[b_a1]? = some ⟨[I (a1)], true, true⟩)  {r : Bool} (hm : transactions_RemoveF t_ a1 = some r) : FnOK Try.prog 150 [.o (.agg [I (t_.id_), I (t_.state), I (t_.last), I (t_.until_), .L 1 (t_.pending.map cI), .L 1 (t_.saves.map cI)]), .o (.c (.ptr b_a1 0))] h (fun v h' => v = VB (r) ∧ h' = h) := by
 refine FnOK.fin ?_
 refine FnOK.bodyC (N := 8) Try.func150 rfl rfl rfl (fun hC => ?_)
 have hl_a1 := lt_of_get hb_a1
 replace hm := Ev.of hm
 rw [transactions_RemoveF.eq_1] at hm
 show CdOK _ _ _ (look _ [(0, .o (.agg [I (t_.id_), I (t_.state), I (t_.last), I (t_.until_), .L 1 (t_.pending.map cI), .L 1 (t_.saves.map cI)])), (1, .o (.c (.ptr b_a1 0)))]) (h ++ ([] : Heap)) _
 refine .seq (.region (.t (.o (.c (.ptr (h.length + 0) 0))) (e_boxN (L' := [⟨[I (t_.id_), I (t_.state), I (t_.last), I (t_.until_), .L 1 (t_.pending.map cI), .L 1 (t_.saves.map cI)], true, true⟩]) rfl (ev_t rfl) rfl rfl) ?_))
 refine .t (VB (false)) (e_as rfl) ?_
 refine .nil (CdOK.seq (.region (.t _ (e_fa' fa108_0 (ev_t rfl)) ?_)))
 refine .t _ (e_ldb1 (ev_t rfl) ty3 (bx rfl rfl) rfl) ?_
 refine .t _ (e_ldb1 (ev_t rfl) ty3 (pb hb_a1) rfl) ?_
 refine .t (VB (decide (t_.id_ = a1))) (e_eqK (ev_t rfl) (ev_t rfl)) ?_
 refine .a rfl ?_
 refine .nil ?_
 refine CdOK.ret ?_
 refine ⟨.inr rfl, _, rfl, h, _, _, rfl, rfl, hC, ((renFlV rfl) : RenV _ _ _ _ (VB (decide (t_.id_ = a1)))), ?_⟩
 cases hm.ret; exact ⟨rfl, rfl⟩
def IndexFuncM.l1 (s_ : (List Tx)) (f_0 : Int) : Nat → Int → Option (Sum Unit Int)
  | 0, _ => none
  | kk2 + 1, t81 => (if t81 < (s_.length : Int) then (if (0 : Int) ≤ t81 ∧ t81 < (s_.length : Int) then ((transactions_RemoveF (gd s_ t81) f_0).bind fun (x5 : Bool) => (if x5 = true then some (Sum.inr t81) else IndexFuncM.l1 s_ f_0 kk2 (w64 (t81 + 1)))) else none) else some (Sum.inl ()))
def IndexFuncM (s_ : (List Tx)) (f_0 : Int) : Option Int := ((IndexFuncM.l1 s_ f_0 FU 0).bind fun (z : Sum Unit Int) => match z with | .inl (s9 : Unit) => some (-1) | .inr r => some r)
theorem IndexFuncM_ok {h : Heap} {s_ : (List Tx)} {f_0 : Int} {b_f_0 : Nat} (hb_f_0 : h[b_f_0]? = some ⟨[I (f_0)], true, true⟩)  {r : Int} (hm : IndexFuncM s_ f_0 = some r) : FnOK Try.prog 147 [.o (.c (.L 6 (s_.map Tx.cs))), .o (.c (.fn 150 [(b_f_0, 0)]))] h (fun v h' => v = VI (r) ∧ h' = h) := by
 refine FnOK.fin ?_
 refine FnOK.bodyC (N := 19) Try.func147 rfl rfl rfl (fun hC => ?_)
 have hl_f_0 := lt_of_get hb_f_0
 replace hm := Ev.of hm
 rw [IndexFuncM.eq_1] at hm
 show CdOK _ _ _ (look _ [(0, .o (.c (.L 6 (s_.map Tx.cs)))), (1, .o (.c (.fn 150 [(b_f_0, 0)])))]) (h ++ ([] : Heap)) _
 refine .seq (.region (.t (VI (0)) (e_as rfl) ?_))
 refine .nil (CdOK.seq (.seq (.region (.m rfl ?_))))
 refine .t (VI ((s_.length : Int))) (e_lenM (ev_t rfl) is92) ?_
 refine .t (VI (0)) (e_mv rfl) ?_
 refine .nil ?_
 replace hm := hm.bnd
 refine CdOK.joinT (σ := Unit) (fun s => Sum.inl ()) hm (fun s => []) (fun s => h ++ ([] : Heap)) ?_ ?_
 ·intro hm
  refine .block ?_
  refine .loopE (σ := Int) (fun k s => Ev (IndexFuncM.l1 s_ f_0 k s) _) (fun s => [(0, .o (.c (.L 6 (s_.map Tx.cs)))), (1, .o (.c (.fn 150 [(b_f_0, 0)]))), (7, VI ((s_.length : Int))), (8, VI (s))]) (fun s => h ++ ([] : Heap)) FU 0 hm (.cons rfl (.cons rfl (.cons rfl (.cons rfl .nil)))) rfl ?_
  rintro kk2 t81 T0 hm
  replace hm : Ev (IndexFuncM.l1 s_ f_0 kk2 t81) _ := hm
  cases kk2 with
  | zero => exact (Ev.non hm).elim
  | succ kk2 =>
  rw [IndexFuncM.l1.eq_2] at hm
  show CdOK _ _ _ (look T0 [(0, .o (.c (.L 6 (s_.map Tx.cs)))), (1, .o (.c (.fn 150 [(b_f_0, 0)]))), (7, VI ((s_.length : Int))), (8, VI (t81))]) (h ++ ([] : Heap)) _
  refine .seq (.region (.t (VB (decide (t81 < (s_.length : Int)))) (e_bin (ev_t rfl) (ev_t rfl) rfl rfl) ?_))
  refine .nil (CdOK.seq ?_)
  refine .condD (ev_t rfl) ?_ ?_
  ·intro c3; replace hm := hm.ifp c3
   refine .skip ?_
   refine CdOK.seq ?_
   refine .block ?_
   refine .seq (.region (.m rfl ?_))
   refine .a rfl ?_
   refine .nil (CdOK.seq (.region ?_))
   iterate 3 refine .m rfl ?_
   obtain ⟨c4, hm⟩ := hm.ifs
   refine .t (.o (.c (.rp [I ((gd s_ t81).id_), I ((gd s_ t81).state), I ((gd s_ t81).last), I ((gd s_ t81).until_), .L 1 (((gd s_ t81).pending).map cI), .L 1 (((gd s_ t81).saves).map cI)]))) (e_ixM (f := Tx.cs) (l := s_) (i := t81) (ev_t rfl) (ev_t rfl) el92 c4) ?_
   refine .t _ (e_ldRA (ev_t rfl) ty108 rfl rfl) ?_
   obtain ⟨x5, e5, hm⟩ := hm.call
   refine .cl rfl rfl rfl rfl pl150 (R2.wk _) (transactions_RemoveF_ok  (b_a1 := b_f_0) (pb hb_f_0) e5) ?_
   rintro _ _ ⟨rfl, rfl⟩
   refine .nil ?_
   refine CdOK.condB (ev_t rfl) ?_ ?_
   ·intro c6; replace hm := hm.ifp c6
    refine .seq (.region (.m rfl ?_))
    refine .a rfl ?_
    refine .nil ?_
    refine CdOK.ret ?_
    refine ⟨.inr rfl, _, rfl, h, _, _, rfl, rfl, hC, ((renFlV rfl) : RenV _ _ _ _ (VI (t81))), ?_⟩
    have hr := hm.ret; replace hr := Ev.ret hr; cases hr; exact ⟨rfl, rfl⟩
   intro c7; replace hm := hm.ifn c7
   refine .skip ?_
   refine CdOK.region (.t (VI ((w64 (t81 + 1)))) (e_bin (ev_t rfl) rfl rfl rfl) ?_)
   refine .m rfl ?_
   refine .nil (.id ?_)
   exact ⟨_, (w64 (t81 + 1)), Nat.lt_succ_self _, hm, (.cons rfl (.cons rfl (.cons rfl (.cons rfl .nil)))), rfl⟩
  intro c8; replace hm := hm.ifn c8
  refine .exit ?_
  refine .id ?_
  exact ⟨(), hm.ret, .nil, rfl⟩
 intro _ T0 hm
 refine CdOK.seq (.region (.t (VI ((-1))) (e_as rfl) ?_))
 refine .nil ?_
 refine CdOK.ret ?_
 refine ⟨.inr rfl, _, rfl, h, _, _, rfl, rfl, hC, ((renFlV rfl) : RenV _ _ _ _ (VI ((-1)))), ?_⟩
 cases hm.ret; exact ⟨rfl, rfl⟩
def DeleteFuncM.l1 (del0 : Int) : Nat → Int → Int → (List Tx) → Option (Int × (List Tx))
  | 0, _, _, _ => none
  | kk9 + 1, i6, j7, bx8 => (if j7 < ((bx8).length : Int) then (if 0 < bx8.length then (if (0 : Int) ≤ j7 ∧ j7 < (bx8.length : Int) then (if (0 : Int) ≤ j7 ∧ j7 < (bx8.length : Int) then ((transactions_RemoveF (gd bx8 j7) del0).bind fun (x14 : Bool) => (if (!x14) = true then (if (0 : Int) ≤ i6 ∧ i6 < (bx8.length : Int) then (if (0 : Int) ≤ i6 ∧ i6 < (bx8.length : Int) then DeleteFuncM.l1 del0 kk9 (w64 (i6 + 1)) (w64 (j7 + 1)) (bx8.set (Int.toNat i6) (gd bx8 j7)) else none) else none) else DeleteFuncM.l1 del0 kk9 i6 (w64 (j7 + 1)) bx8)) else none) else none) else none) else some (i6, bx8))
def DeleteFuncM (s_ : (List Tx)) (del0 : Int) : Option (List Tx) := ((IndexFuncM s_ del0).bind fun (x1 : Int) => (if x1 = (-1) then some s_ else ((DeleteFuncM.l1 del0 FU x1 (w64 (x1 + 1)) s_).bind fun (s20 : (Int × (List Tx))) => (if 0 < s20.2.length then (if (0 : Int) ≤ s20.1 ∧ s20.1 < (s20.2.length : Int) then (if (0 : Int) ≤ s20.1 ∧ s20.1 < (s20.2.length : Int) ∧ s20.2.length ≤ (s20.2.length : Int) then (if (0 : Int) ≤ s20.1 ∧ s20.1 ≤ (s20.2.length : Int) ∧ s20.1 ≤ ((s20.2.take (Int.toNat s20.1)).length : Int) then some ((s20.2.take (Int.toNat s20.1)).take (Int.toNat s20.1)) else none) else none) else none) else none))))
theorem DeleteFuncM_ok {h : Heap} {s_ : (List Tx)} {del0 : Int} {A : Nat} (hA : h.length = A) {b_s_0 : Nat} {lv_s_0 : Bool} (hb_s_0 : h[b_s_0]? = some ⟨(s_.map Tx.cs).flatten, true, lv_s_0⟩) {b_del0 : Nat} (hb_del0 : h[b_del0]? = some ⟨[I (del0)], true, true⟩)  (hne_del0_s_0 : b_del0 ≠ b_s_0) {r : (List Tx)} (hm : DeleteFuncM s_ del0 = some r) : FnOK Try.prog 149 [.o (.c (.g b_s_0 ((s_).length) 6 lv_s_0)), .o (.c (.fn 150 [(b_del0, 0)]))] h (fun v h' => ∃ lv0 : Bool, v = .o (.c (.g (A + 0) ((r).length) 6 lv0)) ∧ h' = (kill h b_s_0) ++ [⟨(r.map Tx.cs).flatten, true, lv0⟩]) := by
 subst hA
 refine FnOK.mono (Q := fun v h' => ∃ L3, h' = (kill h b_s_0) ++ L3 ∧ (∃ lv0 : Bool, v = .o (.c (.g (h.length + 0) ((r).length) 6 lv0)) ∧ L3 = [⟨(r.map Tx.cs).flatten, true, lv0⟩])) ?_ (by rintro v h' ⟨L3, rfl, lv0, rfl, rfl⟩; exact ⟨lv0, rfl, rfl⟩)
 refine FnOK.bodyO (N := 42) (argsF := fun A => [.o (.c (.g (A + 0) ((s_).length) 6 lv_s_0)), .o (.c (.fn 150 [(b_del0, 0)]))]) (L := [⟨(s_.map Tx.cs).flatten, true, lv_s_0⟩]) (H0 := (kill h b_s_0)) (Q := fun A v L3 => ∃ lv0 : Bool, v = .o (.c (.g (A + 0) ((r).length) 6 lv0)) ∧ L3 = [⟨(r.map Tx.cs).flatten, true, lv0⟩]) Try.func149 rfl rfl rfl (by simp [kill_len]) (Take.one hb_s_0 (R2.cons (.c (.g _ _)) (R2.cons (.refl _) (R2.nil _)))) (fun h hC hH => ?_)
 replace hb_del0 := (kill_ne hb_del0 hne_del0_s_0)
 rw [← hH] at hb_del0
 have hl_del0 := lt_of_get hb_del0
 replace hm := Ev.of hm
 rw [DeleteFuncM.eq_1] at hm
 show CdOK _ _ _ (look _ [(0, .o (.c (.g (h.length + 0) ((s_).length) 6 lv_s_0))), (1, .o (.c (.fn 150 [(b_del0, 0)])))]) (h ++ ([⟨(s_.map Tx.cs).flatten, true, lv_s_0⟩] : Heap)) _
 refine .seq (.region (.t (.o (.c (.v (.slice none 0 0)))) (e_as rfl) ?_))
 refine .nil (CdOK.seq (.region ?_))
 iterate 2 refine .m rfl ?_
 obtain ⟨x1, e1, hm⟩ := hm.call
 refine .cl rfl rfl rfl rfl pl147 (R2.wk _) (FnOK.borrowB (bs := [b_del0]) (L := [⟨[I (del0)], true, true⟩]) (Lent.one (pb hb_del0) rfl) (R2.cons (BorVB.c (BorCB.g (bx rfl rfl) (by simp; try omega) (by simp) (fun _ => rfl) (fun _ => rfl))) (R2.cons (BorVB.c (BorCB.fn (R2.cons (y := (0, 0)) ⟨rfl, rfl⟩ (R2.nil _)))) (R2.nil _))) (IndexFuncM_ok (h := [⟨[I (del0)], true, true⟩])  (b_f_0 := 0) (hb_f_0 := rfl) e1) rfl) ?_
 rintro _ _ ⟨rfl, rfl⟩
 refine .a rfl ?_
 refine .nil (CdOK.seq (.seq (.region (.m rfl ?_))))
 refine .t (VB (decide (x1 = (-1)))) (e_eqK (ev_t rfl) rfl) ?_
 refine .nil ?_
 refine CdOK.condD (ev_t rfl) ?_ ?_
 ·intro c2; replace hm := hm.ifp c2
  refine .seq (.region (.m rfl ?_))
  refine .a rfl ?_
  refine .nil ?_
  refine CdOK.ret ?_
  refine ⟨.inr rfl, _, rfl, h, _, [0], [⟨(s_.map Tx.cs).flatten, true, lv_s_0⟩], _, rfl, rfl, by decide, (.obj 0 rfl (renFl (flat_all (f := Tx.cs) (l := s_) (by intro x; rfl))) .nil), ((.o (.c (.gg 0 0 _ _ _ _ _ rfl (by first | rfl | (simp; done) | (dsimp only at *; simp only [List.length_take]; omega)) rfl))) : RenV _ _ _ _ (.o (.c (.g (h.length + 0) ((s_).length) 6 lv_s_0)))), ?_⟩
  cases hm.ret; exact ⟨lv_s_0, rfl, rfl⟩
 intro c3; replace hm := hm.ifn c3
 refine .skip ?_
 refine CdOK.seq (.seq (.region (.m rfl ?_)))
 refine .t (VI ((w64 (x1 + 1)))) (e_bin (ev_t rfl) rfl rfl rfl) ?_
 refine .a rfl ?_
 refine .nil ?_
 replace hm := hm.bnd
 refine CdOK.joinT (σ := (Int × (List Tx) × Bool)) (fun s => (s.1, s.2.1)) hm (fun s => [(0, .o (.c (.g (h.length + 0) ((s.2.1).length) 6 s.2.2))), (5, VI (s.1))]) (fun s => h ++ ([⟨(s.2.1.map Tx.cs).flatten, true, s.2.2⟩] : Heap)) ?_ ?_
 ·intro hm
  refine .block ?_
  refine .loopE (σ := (Int × Int × (List Tx) × Bool)) (fun k s => Ev (DeleteFuncM.l1 del0 k s.1 s.2.1 s.2.2.1) _) (fun s => [(0, .o (.c (.g (h.length + 0) ((s.2.2.1).length) 6 s.2.2.2))), (1, .o (.c (.fn 150 [(b_del0, 0)]))), (5, VI (s.1)), (6, VI (s.2.1))]) (fun s => h ++ ([⟨(s.2.2.1.map Tx.cs).flatten, true, s.2.2.2⟩] : Heap)) FU (x1, (w64 (x1 + 1)), s_, lv_s_0) hm (.cons rfl (.cons rfl (.cons rfl (.cons rfl .nil)))) rfl ?_
  rintro kk9 ⟨i6, j7, bx8, bx8v⟩ T0 hm
  replace hm : Ev (DeleteFuncM.l1 del0 kk9 i6 j7 bx8) _ := hm
  cases kk9 with
  | zero => exact (Ev.non hm).elim
  | succ kk9 =>
  rw [DeleteFuncM.l1.eq_2] at hm
  show CdOK _ _ _ (look T0 [(0, .o (.c (.g (h.length + 0) ((bx8).length) 6 bx8v))), (1, .o (.c (.fn 150 [(b_del0, 0)]))), (5, VI (i6)), (6, VI (j7))]) (h ++ ([⟨(bx8.map Tx.cs).flatten, true, bx8v⟩] : Heap)) _
  iterate 2 refine .seq ?_
  refine .region ?_
  iterate 2 refine .m rfl ?_
  refine .t (VI (((bx8).length : Int))) (e_lenG (ev_t rfl) is92) ?_
  refine .t (VB (decide (j7 < ((bx8).length : Int)))) (e_bin (ev_t rfl) (ev_t rfl) rfl rfl) ?_
  refine .nil ?_
  refine CdOK.condD (ev_t rfl) ?_ ?_
  ·intro c10; replace hm := hm.ifp c10
   refine .skip ?_
   refine CdOK.seq ?_
   refine .block ?_
   refine .seq ?_
   obtain ⟨c11, hm⟩ := hm.ifs
   refine .glT (d := 0) (ev_t rfl) c11 (fun hlv => ?_)
   subst hlv
   skip
   refine .region ?_
   iterate 2 refine .m rfl ?_
   obtain ⟨c12, hm⟩ := hm.ifs
   refine .t (.o (.c (.ptr (h.length + 0) (0 + (Int.toNat j7) * 6)))) (e_ixg (ev_t rfl) (ev_t rfl) el92 c12) ?_
   obtain ⟨c13, hm⟩ := hm.ifs
   refine .t (.o (.agg [I ((gd bx8 j7).id_), I ((gd bx8 j7).state), I ((gd bx8 j7).last), I ((gd bx8 j7).until_), .L 1 (((gd bx8 j7).pending).map cI), .L 1 (((gd bx8 j7).saves).map cI)])) (e_ldgA (b := (h.length + 0)) (o := 0 + (Int.toNat j7) * 6) (k := 6) (off := 0) (f := Tx.cs) (l := bx8) (i := j7) (ev_t rfl) ty108 (bx rfl rfl) (by intro x; rfl) c13 rfl rfl (by omega)) ?_
   refine .t (.o (.c (.ptr (h.length + 1) 0))) (e_allocN (L' := [⟨(bx8.map Tx.cs).flatten, true, true⟩, ⟨[I (0), I (0), I (0), I (0), .v (.slice none 0 0), .v (.slice none 0 0)], true, true⟩]) rfl zo108 rfl rfl) ?_
   refine .s0 rfl rfl (e_stN (L' := [⟨(bx8.map Tx.cs).flatten, true, true⟩, ⟨[I ((gd bx8 j7).id_), I ((gd bx8 j7).state), I ((gd bx8 j7).last), I ((gd bx8 j7).until_), .L 1 (((gd bx8 j7).pending).map cI), .L 1 (((gd bx8 j7).saves).map cI)], true, true⟩]) rfl (ev_t rfl) (ev_t rfl) ty108 rfl rfl rfl rfl rfl) ?_
   refine .nil (CdOK.seq (.region (.m rfl ?_)))
   refine .t _ (e_ldbA (ev_t rfl) ty108 (bx rfl rfl) rfl rfl) ?_
   obtain ⟨x14, e14, hm⟩ := hm.call
   refine .cl rfl rfl rfl rfl pl150 (R2.wk _) (transactions_RemoveF_ok  (b_a1 := b_del0) (pb hb_del0) e14) ?_
   rintro _ _ ⟨rfl, rfl⟩
   refine .t (VB ((!x14))) (e_un (ev_t rfl) rfl) ?_
   refine .nil ?_
   refine CdOK.condB (ev_t rfl) ?_ ?_
   ·intro c15; replace hm := hm.ifp c15
    refine .seq (.region ?_)
    iterate 2 refine .m rfl ?_
    refine .t _ (e_ldbA (ev_t rfl) ty108 (bx rfl rfl) rfl rfl) ?_
    obtain ⟨c16, hm⟩ := hm.ifs
    refine .t (.o (.c (.ptr (h.length + 0) (0 + (Int.toNat i6) * 6)))) (e_ixg (ev_t rfl) (ev_t rfl) el92 c16) ?_
    obtain ⟨c17, hm⟩ := hm.ifs
    refine .s0 rfl rfl (e_stg (k := 6) (off := 0) (f := Tx.cs) (l := bx8) (i := i6) (x := (gd bx8 j7)) (L' := [⟨((bx8.set (Int.toNat i6) (gd bx8 j7)).map Tx.cs).flatten, true, true⟩, ⟨[I ((gd bx8 j7).id_), I ((gd bx8 j7).state), I ((gd bx8 j7).last), I ((gd bx8 j7).until_), .L 1 (((gd bx8 j7).pending).map cI), .L 1 (((gd bx8 j7).saves).map cI)], true, true⟩]) rfl (ev_t rfl) (ev_t rfl) ty108 rfl (by intro x; rfl) rfl rfl c17 (by omega) rfl) ?_
    refine .nil (CdOK.region (.m rfl ?_))
    refine .t (VI ((w64 (i6 + 1)))) (e_bin (ev_t rfl) rfl rfl rfl) ?_
    refine .a rfl ?_
    refine .nil (CdOK.region (.m rfl ?_))
    refine .t (VI ((w64 (j7 + 1)))) (e_bin (ev_t rfl) rfl rfl rfl) ?_
    refine .a rfl ?_
    refine .nil ?_
    refine .re (σ := [0]) (X := [(0, .o (.c (.g (h.length + 0) (((bx8.set (Int.toNat i6) (gd bx8 j7))).length) 6 true))), (1, .o (.c (.fn 150 [(b_del0, 0)]))), (5, VI ((w64 (i6 + 1)))), (6, VI ((w64 (j7 + 1))))]) (L' := [⟨((bx8.set (Int.toNat i6) (gd bx8 j7)).map Tx.cs).flatten, true, true⟩]) rfl rfl hC (by decide) (.obj 0 rfl (renFl (flat_all (f := Tx.cs) (l := (bx8.set (Int.toNat i6) (gd bx8 j7))) (by intro x; rfl))) .nil) (.cons (.o (.c (.gg 0 0 _ _ _ _ _ rfl (by first | rfl | (simp; done) | (dsimp only at *; simp only [List.length_take]; omega)) rfl))) (.cons (.o (.c (.fn _ _ _ (R2.of ⟨rfl, .inl ⟨hl_del0, rfl⟩⟩ (R2.nil _))))) (.cons (renFlV rfl) (.cons (renFlV rfl) .nil)))) ?_
    exact ⟨_, ((w64 (i6 + 1)), (w64 (j7 + 1)), (bx8.set (Int.toNat i6) (gd bx8 j7)), true), Nat.lt_succ_self _, hm, (.cons rfl (.cons rfl (.cons rfl (.cons rfl .nil)))), rfl⟩
   intro c18; replace hm := hm.ifn c18
   refine .skip ?_
   refine CdOK.region (.m rfl ?_)
   refine .t (VI ((w64 (j7 + 1)))) (e_bin (ev_t rfl) rfl rfl rfl) ?_
   refine .a rfl ?_
   refine .nil ?_
   refine .re (σ := [0]) (X := [(0, .o (.c (.g (h.length + 0) ((bx8).length) 6 true))), (1, .o (.c (.fn 150 [(b_del0, 0)]))), (5, VI (i6)), (6, VI ((w64 (j7 + 1))))]) (L' := [⟨(bx8.map Tx.cs).flatten, true, true⟩]) rfl rfl hC (by decide) (.obj 0 rfl (renFl (flat_all (f := Tx.cs) (l := bx8) (by intro x; rfl))) .nil) (.cons (.o (.c (.gg 0 0 _ _ _ _ _ rfl (by first | rfl | (simp; done) | (dsimp only at *; simp only [List.length_take]; omega)) rfl))) (.cons (.o (.c (.fn _ _ _ (R2.of ⟨rfl, .inl ⟨hl_del0, rfl⟩⟩ (R2.nil _))))) (.cons (renFlV rfl) (.cons (renFlV rfl) .nil)))) ?_
   exact ⟨_, (i6, (w64 (j7 + 1)), bx8, true), Nat.lt_succ_self _, hm, (.cons rfl (.cons rfl (.cons rfl (.cons rfl .nil)))), rfl⟩
  intro c19; replace hm := hm.ifn c19
  refine .exit ?_
  refine .id ?_
  exact ⟨(i6, bx8, bx8v), hm.ret, (.cons rfl (.cons rfl .nil)), rfl⟩
 rintro ⟨i4, bx5, bx5v⟩ T0 hm
 refine CdOK.seq ?_
 obtain ⟨c21, hm⟩ := hm.ifs
 refine .glT (d := 0) (ev_t rfl) c21 (fun hlv => ?_)
 subst hlv
 skip
 refine .region ?_
 iterate 2 refine .m rfl ?_
 obtain ⟨c22, hm⟩ := hm.ifs
 refine .gtail (cs := (bx5.map Tx.cs).flatten) rfl rfl rfl slt92 (ev_t rfl) (ev_t rfl) (bx rfl rfl) c22 ?_
 obtain ⟨c23, hm⟩ := hm.ifs
 refine .gclear (f := Tx.cs) (l0 := bx5) (i := i4) (L' := [⟨((bx5.take (Int.toNat i4)).map Tx.cs).flatten, true, true⟩]) rfl rfl slt92 rfl (ev_t rfl) rfl (by intro x; rfl) c23 rfl ?_
 refine .nil (CdOK.seq (.region ?_))
 iterate 2 refine .m rfl ?_
 obtain ⟨c24, hm⟩ := hm.ifs
 refine .ghead (f := Tx.cs) (l0 := (bx5.take (Int.toNat i4))) (i := i4) (L' := [⟨(((bx5.take (Int.toNat i4)).take (Int.toNat i4)).map Tx.cs).flatten, true, true⟩]) rfl rfl rfl slt92 rfl (ev_t rfl) (ev_t rfl) rfl (by intro x; rfl) c24 rfl ?_
 refine .a rfl ?_
 refine .nil ?_
 refine CdOK.ret ?_
 refine ⟨.inr rfl, _, rfl, h, _, [0], [⟨(((bx5.take (Int.toNat i4)).take (Int.toNat i4)).map Tx.cs).flatten, true, true⟩], _, rfl, rfl, by decide, (.obj 0 rfl (renFl (flat_all (f := Tx.cs) (l := ((bx5.take (Int.toNat i4)).take (Int.toNat i4))) (by intro x; rfl))) .nil), ((.o (.c (.gg 0 0 _ _ _ _ _ rfl (by first | rfl | (simp; done) | (dsimp only at *; simp only [List.length_take]; omega)) rfl))) : RenV _ _ _ _ (.o (.c (.g (h.length + 0) ((((bx5.take (Int.toNat i4)).take (Int.toNat i4))).length) 6 true)))), ?_⟩
 cases hm.ret; exact ⟨true, rfl, rfl⟩
def transactions_Remove (l_ : (List Tx)) (id_ : Int) : Option (List Tx) := (if l_.length ≤ 1759218604441 then ((DeleteFuncM l_ id_).bind fun (x3 : (List Tx)) => some x3) else none)
theorem transactions_Remove_ok {h : Heap} {l_ : (List Tx)} {id_ : Int}   {r : (List Tx)} (hm : transactions_Remove l_ id_ = some r) : FnOK Try.prog 75 [.o (.c (.L 6 (l_.map Tx.cs))), VI (id_)] h (fun v h' => v = .o (.c (.L 6 (r.map Tx.cs))) ∧ h' = h) := by
 refine FnOK.fin ?_
 refine FnOK.bodyC (N := 9) Try.func75 rfl rfl rfl (fun hC => ?_)
 replace hm := Ev.of hm
 rw [transactions_Remove.eq_1] at hm
 show CdOK _ _ _ (look _ [(0, .o (.c (.L 6 (l_.map Tx.cs)))), (1, VI (id_))]) (h ++ ([] : Heap)) _
 refine .seq (.region (.t (.o (.c (.ptr (h.length + 0) 0))) (e_boxN (L' := [⟨[I (id_)], true, true⟩]) rfl (ev_t rfl) rfl rfl) ?_))
 refine .t (.o (.c (.v (.slice none 0 0)))) (e_as rfl) ?_
 refine .nil (CdOK.seq (.region (.m rfl ?_)))
 obtain ⟨c2, hm⟩ := hm.ifs
 refine .cl rfl rfl rfl rfl pl145 (R2.wk _) (cloneT_ok (A := (h.length + 1)) (l := l_) (lenN rfl rfl) c2) ?_
 rintro _ _ ⟨lv1, rfl, rfl⟩
 rw [show (h ++ ([⟨[I (id_)], true, true⟩] : Heap)) ++ [⟨(l_.map Tx.cs).flatten, true, lv1⟩] = h ++ ([⟨[I (id_)], true, true⟩, ⟨(l_.map Tx.cs).flatten, true, lv1⟩] : Heap) from apnd rfl]
 refine .t (.o (.c (.fn 150 [((h.length + 0), 0)]))) (e_mkf rfl rfl) ?_
 obtain ⟨x3, e3, hm⟩ := hm.call
 refine .cl rfl rfl rfl rfl pl149 (R2.wk _) (DeleteFuncM_ok (A := (h.length + 2)) (hA := lenN rfl rfl) (b_s_0 := (h.length + 1)) (hb_s_0 := bx rfl rfl) (hne_del0_s_0 := by omega) (b_del0 := (h.length + 0)) (hb_del0 := (bx rfl rfl)) (hm := e3)) ?_
 rintro _ _ ⟨lv4, rfl, rfl⟩
 rw [show (kill (h ++ ([⟨[I (id_)], true, true⟩, ⟨(l_.map Tx.cs).flatten, true, lv1⟩] : Heap)) (h.length + 1)) ++ [⟨(x3.map Tx.cs).flatten, true, lv4⟩] = h ++ ([⟨[I (id_)], true, true⟩, ⟨(l_.map Tx.cs).flatten, true, false⟩, ⟨(x3.map Tx.cs).flatten, true, lv4⟩] : Heap) from apndK rfl rfl]
 refine .a rfl ?_
 refine .nil ?_
 refine CdOK.ret ?_
 refine ⟨.inr rfl, _, rfl, h, _, _, rfl, rfl, hC, ((.o (.c (.fzg 2 _ 6 _ (x3.map Tx.cs) rfl (by decide) (by first | exact List.length_map .. | simp) (lens_all (by intro x; rfl)) (vl_all (by intro x; rfl))))) : RenV _ _ _ _ (.o (.c (.L 6 (x3.map Tx.cs))))), ?_⟩
 cases hm.ret; exact ⟨rfl, rfl⟩
end Rv
