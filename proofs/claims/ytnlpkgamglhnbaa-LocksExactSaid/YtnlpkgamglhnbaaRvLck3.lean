/- Chapter 8: the program's functions that take grants away, as plain functions. -/
import Derived.Test.YtnlpkgamglhnbaaRvLck2
set_option linter.unusedVariables false
set_option linter.unusedSimpArgs false
namespace Rv
open Go Go.RowKit Go.Proofs
theorem pl111 : plainFn Try.prog 111 = true := by decide +kernel
theorem pl112 : plainFn Try.prog 112 = true := by decide +kernel
theorem pl124 : plainFn Try.prog 124 = true := by decide +kernel
theorem pl125 : plainFn Try.prog 125 = true := by decide +kernel
theorem pl129 : plainFn Try.prog 129 = true := by decide +kernel
theorem pl130 : plainFn Try.prog 130 = true := by decide +kernel
theorem pl181 : plainFn Try.prog 181 = true := by decide +kernel
/- pagemend/locks.Cancel$1 -/
def locks_C1F (a0 : Grant) : Option Bool := some false
theorem locks_C1F_ok {h : Heap} {a0 : Grant}   {r : Bool} (hm : locks_C1F a0 = some r) : FnOK Try.prog 129 [.o (.agg [I (a0.tx), I (a0.lock.page), I (a0.lock.slot), I (a0.mode)])] h (fun v h' => v = VB (r) ∧ h' = h) := by
 refine FnOK.fin ?_
 refine FnOK.bodyC (N := 3) Try.func129 rfl rfl rfl (fun hC => ?_)
 replace hm := Ev.of hm
 rw [locks_C1F.eq_1] at hm
 show CdOK _ _ _ (look _ [(0, .o (.agg [I (a0.tx), I (a0.lock.page), I (a0.lock.slot), I (a0.mode)]))]) (h ++ ([] : Heap)) _
 refine .seq ?_
 refine .region ?_
 refine .t (.o (.c (.ptr (h.length + 0) 0))) (e_boxN (L' := [⟨[I (a0.tx), I (a0.lock.page), I (a0.lock.slot), I (a0.mode)], true, true⟩]) rfl (ev_t rfl) rfl rfl) ?_
 refine .t (VB (false)) (e_as rfl) ?_
 refine .nil ?_
 refine CdOK.seq ?_
 refine .region ?_
 refine .t (VB (false)) (e_as rfl) ?_
 refine .nil ?_
 refine CdOK.ret ?_
 refine ⟨.inr rfl, _, rfl, h, _, _, rfl, rfl, hC, ((renFlV rfl) : RenV _ _ _ _ (VB (false))), ?_⟩
 cases hm.ret; exact ⟨rfl, rfl⟩
/- slices.IndexFunc[[]pagemend/api.Grant,pagemend/api.Grant] -/
def IndexFuncC1.l1 (s_ : (List Grant)) : Nat → Int → Option (Sum Unit Int)
  | 0, _ => none
  | kk2 + 1, t81 => (if t81 < (s_.length : Int) then (if (0 : Int) ≤ t81 ∧ t81 < (s_.length : Int) then ((locks_C1F (gd s_ t81)).bind fun (x5 : Bool) => (if x5 = true then some (Sum.inr t81) else IndexFuncC1.l1 s_ kk2 (w64 (t81 + 1)))) else none) else some (Sum.inl ()))
def IndexFuncC1 (s_ : (List Grant)) : Option Int := ((IndexFuncC1.l1 s_ FU 0).bind fun (z : Sum Unit Int) => match z with | .inl (s9 : Unit) => some (-1) | .inr r => some r)
theorem IndexFuncC1_ok {h : Heap} {s_ : (List Grant)}   {r : Int} (hm : IndexFuncC1 s_ = some r) : FnOK Try.prog 127 [.o (.c (.L 4 (s_.map Grant.cs))), .o (.c (.fn 129 []))] h (fun v h' => v = VI (r) ∧ h' = h) := by
 refine FnOK.fin ?_
 refine FnOK.bodyC (N := 19) Try.func127 rfl rfl rfl (fun hC => ?_)
 replace hm := Ev.of hm
 rw [IndexFuncC1.eq_1] at hm
 show CdOK _ _ _ (look _ [(0, .o (.c (.L 4 (s_.map Grant.cs)))), (1, .o (.c (.fn 129 [])))]) (h ++ ([] : Heap)) _
 refine .seq ?_
 refine .region ?_
 refine .t (VI (0)) (e_as rfl) ?_
 refine .nil ?_
 refine CdOK.seq ?_
 refine .seq ?_
 refine .region ?_
 refine .m rfl ?_
 refine .t (VI ((s_.length : Int))) (e_lenM (ev_t rfl) is67) ?_
 refine .t (VI (0)) (e_mv rfl) ?_
 refine .nil ?_
 replace hm := hm.bnd
 refine CdOK.joinT (σ := Unit) (fun s => Sum.inl ()) hm (fun s => []) (fun s => h ++ ([] : Heap)) ?_ ?_
 ·intro hm
  refine .block ?_
  refine .loopE (σ := Int) (fun k s => Ev (IndexFuncC1.l1 s_ k s) _) (fun s => [(0, .o (.c (.L 4 (s_.map Grant.cs)))), (1, .o (.c (.fn 129 []))), (7, VI ((s_.length : Int))), (8, VI (s))]) (fun s => h ++ ([] : Heap)) FU 0 hm (.cons rfl (.cons rfl (.cons rfl (.cons rfl .nil)))) rfl ?_
  rintro kk2 t81 T0 hm
  replace hm : Ev (IndexFuncC1.l1 s_ kk2 t81) _ := hm
  cases kk2 with
  | zero => exact (Ev.non hm).elim
  | succ kk2 =>
  rw [IndexFuncC1.l1.eq_2] at hm
  show CdOK _ _ _ (look T0 [(0, .o (.c (.L 4 (s_.map Grant.cs)))), (1, .o (.c (.fn 129 []))), (7, VI ((s_.length : Int))), (8, VI (t81))]) (h ++ ([] : Heap)) _
  refine .seq ?_
  refine .region ?_
  refine .t (VB (decide (t81 < (s_.length : Int)))) (e_bin (ev_t rfl) (ev_t rfl) rfl rfl) ?_
  refine .nil ?_
  refine CdOK.seq ?_
  refine .condD (ev_t rfl) ?_ ?_
  ·intro c3; replace hm := hm.ifp c3
   refine .skip ?_
   refine CdOK.seq ?_
   refine .block ?_
   refine .seq ?_
   refine .region ?_
   refine .m rfl ?_
   refine .a rfl ?_
   refine .nil ?_
   refine CdOK.seq ?_
   refine .region ?_
   refine .m rfl ?_
   refine .m rfl ?_
   refine .m rfl ?_
   obtain ⟨c4, hm⟩ := hm.ifs
   refine .t (.o (.c (.rp [I ((gd s_ t81).tx), I ((gd s_ t81).lock.page), I ((gd s_ t81).lock.slot), I ((gd s_ t81).mode)]))) (e_ixM (f := Grant.cs) (l := s_) (i := t81) (ev_t rfl) (ev_t rfl) el67 c4) ?_
   refine .t _ (e_ldRA (ev_t rfl) ty75 rfl rfl) ?_
   obtain ⟨x5, e5, hm⟩ := hm.call
   refine .cl rfl rfl rfl rfl pl129 (R2.wk _) (locks_C1F_ok    e5) ?_
   rintro _ _ ⟨rfl, rfl⟩
   refine .nil ?_
   refine CdOK.condB (ev_t rfl) ?_ ?_
   ·intro c6; replace hm := hm.ifp c6
    refine .seq ?_
    refine .region ?_
    refine .m rfl ?_
    refine .a rfl ?_
    refine .nil ?_
    refine CdOK.ret ?_
    refine ⟨.inr rfl, _, rfl, h, _, _, rfl, rfl, hC, ((renFlV rfl) : RenV _ _ _ _ (VI (t81))), ?_⟩
    have hr := hm.ret; replace hr := Ev.ret hr; cases hr; exact ⟨rfl, rfl⟩
   ·intro c7; replace hm := hm.ifn c7
    refine .skip ?_
    refine CdOK.region ?_
    refine .t (VI ((w64 (t81 + 1)))) (e_bin (ev_t rfl) rfl rfl rfl) ?_
    refine .m rfl ?_
    refine .nil ?_
    refine .id ?_
    exact ⟨_, (w64 (t81 + 1)), Nat.lt_succ_self _, hm, (.cons rfl (.cons rfl (.cons rfl (.cons rfl .nil)))), rfl⟩
  ·intro c8; replace hm := hm.ifn c8
   refine .exit ?_
   refine .id ?_
   exact ⟨(), hm.ret, .nil, rfl⟩
 ·intro _ T0 hm
  refine CdOK.seq ?_
  refine .region ?_
  refine .t (VI ((-1))) (e_as rfl) ?_
  refine .nil ?_
  refine CdOK.ret ?_
  refine ⟨.inr rfl, _, rfl, h, _, _, rfl, rfl, hC, ((renFlV rfl) : RenV _ _ _ _ (VI ((-1)))), ?_⟩
  cases hm.ret; exact ⟨rfl, rfl⟩
/- slices.DeleteFunc[[]pagemend/api.Grant,pagemend/api.Grant] -/
def DeleteFuncC1.l1  : Nat → Int → Int → (List Grant) → Option (Int × (List Grant))
  | 0, _, _, _ => none
  | kk9 + 1, i6, j7, bx8 => (if j7 < ((bx8).length : Int) then (if 0 < bx8.length then (if (0 : Int) ≤ j7 ∧ j7 < (bx8.length : Int) then (if (0 : Int) ≤ j7 ∧ j7 < (bx8.length : Int) then ((locks_C1F (gd bx8 j7)).bind fun (x14 : Bool) => (if (!x14) = true then (if (0 : Int) ≤ i6 ∧ i6 < (bx8.length : Int) then (if (0 : Int) ≤ i6 ∧ i6 < (bx8.length : Int) then DeleteFuncC1.l1 kk9 (w64 (i6 + 1)) (w64 (j7 + 1)) (bx8.set (Int.toNat i6) (gd bx8 j7)) else none) else none) else DeleteFuncC1.l1 kk9 i6 (w64 (j7 + 1)) bx8)) else none) else none) else none) else some (i6, bx8))
def DeleteFuncC1 (s_ : (List Grant)) : Option (List Grant) := ((IndexFuncC1 s_).bind fun (x1 : Int) => (if x1 = (-1) then some s_ else ((DeleteFuncC1.l1 FU x1 (w64 (x1 + 1)) s_).bind fun (s20 : (Int × (List Grant))) => (if 0 < s20.2.length then (if (0 : Int) ≤ s20.1 ∧ s20.1 < (s20.2.length : Int) then (if (0 : Int) ≤ s20.1 ∧ s20.1 < (s20.2.length : Int) ∧ s20.2.length ≤ (s20.2.length : Int) then (if (0 : Int) ≤ s20.1 ∧ s20.1 ≤ (s20.2.length : Int) ∧ s20.1 ≤ ((s20.2.take (Int.toNat s20.1)).length : Int) then some ((s20.2.take (Int.toNat s20.1)).take (Int.toNat s20.1)) else none) else none) else none) else none))))
theorem DeleteFuncC1_ok {h : Heap} {s_ : (List Grant)} {A : Nat} (hA : h.length = A) {b_s_0 : Nat} {lv_s_0 : Bool} (hb_s_0 : h[b_s_0]? = some ⟨(s_.map Grant.cs).flatten, true, lv_s_0⟩)    {r : (List Grant)} (hm : DeleteFuncC1 s_ = some r) : FnOK Try.prog 181 [.o (.c (.g b_s_0 ((s_).length) 4 lv_s_0)), .o (.c (.fn 129 []))] h (fun v h' => ∃ lv0 : Bool, v = .o (.c (.g (A + 0) ((r).length) 4 lv0)) ∧ h' = (kill h b_s_0) ++ [⟨(r.map Grant.cs).flatten, true, lv0⟩]) := by
 subst hA
 refine FnOK.mono (Q := fun v h' => ∃ L3, h' = (kill h b_s_0) ++ L3 ∧ (∃ lv0 : Bool, v = .o (.c (.g (h.length + 0) ((r).length) 4 lv0)) ∧ L3 = [⟨(r.map Grant.cs).flatten, true, lv0⟩])) ?_ (by rintro v h' ⟨L3, rfl, lv0, rfl, rfl⟩; exact ⟨lv0, rfl, rfl⟩)
 refine FnOK.bodyO (N := 42) (argsF := fun A => [.o (.c (.g (A + 0) ((s_).length) 4 lv_s_0)), .o (.c (.fn 129 []))]) (L := [⟨(s_.map Grant.cs).flatten, true, lv_s_0⟩]) (H0 := (kill h b_s_0)) (Q := fun A v L3 => ∃ lv0 : Bool, v = .o (.c (.g (A + 0) ((r).length) 4 lv0)) ∧ L3 = [⟨(r.map Grant.cs).flatten, true, lv0⟩]) Try.func181 rfl rfl rfl (by simp [kill_len]) (Take.one hb_s_0 (R2.cons (.c (.g _ _)) (R2.cons (.refl _) (R2.nil _)))) (fun h hC hH => ?_)
 replace hm := Ev.of hm
 rw [DeleteFuncC1.eq_1] at hm
 show CdOK _ _ _ (look _ [(0, .o (.c (.g (h.length + 0) ((s_).length) 4 lv_s_0))), (1, .o (.c (.fn 129 [])))]) (h ++ ([⟨(s_.map Grant.cs).flatten, true, lv_s_0⟩] : Heap)) _
 refine .seq ?_
 refine .region ?_
 refine .t (.o (.c (.v (.slice none 0 0)))) (e_as rfl) ?_
 refine .nil ?_
 refine CdOK.seq ?_
 refine .region ?_
 refine .m rfl ?_
 refine .m rfl ?_
 obtain ⟨x1, e1, hm⟩ := hm.call
 refine .cl rfl rfl rfl rfl pl127 (R2.wk _) (FnOK.borrowB (bs := []) (L := []) Lent.nil (R2.cons (BorVB.c (BorCB.g (bx rfl rfl) (by simp; try omega) (by simp) (fun _ => rfl) (fun _ => rfl))) (R2.cons (BorVB.c (BorCB.fn (R2.nil _))) (R2.nil _))) (IndexFuncC1_ok (h := [])   e1) rfl) ?_
 rintro _ _ ⟨rfl, rfl⟩
 refine .a rfl ?_
 refine .nil ?_
 refine CdOK.seq ?_
 refine .seq ?_
 refine .region ?_
 refine .m rfl ?_
 refine .t (VB (decide (x1 = (-1)))) (e_eqK (ev_t rfl) rfl) ?_
 refine .nil ?_
 refine CdOK.condD (ev_t rfl) ?_ ?_
 ·intro c2; replace hm := hm.ifp c2
  refine .seq ?_
  refine .region ?_
  refine .m rfl ?_
  refine .a rfl ?_
  refine .nil ?_
  refine CdOK.ret ?_
  refine ⟨.inr rfl, _, rfl, h, _, [0], [⟨(s_.map Grant.cs).flatten, true, lv_s_0⟩], _, rfl, rfl, by decide, (.obj 0 rfl (renFl (flat_all (f := Grant.cs) (l := s_) (by intro x; rfl))) .nil), ((.o (.c (.gg 0 0 _ _ _ _ _ rfl (by first | rfl | (simp; done) | (dsimp only at *; simp only [List.length_take]; omega)) rfl))) : RenV _ _ _ _ (.o (.c (.g (h.length + 0) ((s_).length) 4 lv_s_0)))), ?_⟩
  cases hm.ret; exact ⟨lv_s_0, rfl, rfl⟩
 ·intro c3; replace hm := hm.ifn c3
  refine .skip ?_
  refine CdOK.seq ?_
  refine .seq ?_
  refine .region ?_
  refine .m rfl ?_
  refine .t (VI ((w64 (x1 + 1)))) (e_bin (ev_t rfl) rfl rfl rfl) ?_
  refine .a rfl ?_
  refine .nil ?_
  replace hm := hm.bnd
  refine CdOK.joinT (σ := (Int × (List Grant) × Bool)) (fun s => (s.1, s.2.1)) hm (fun s => [(0, .o (.c (.g (h.length + 0) ((s.2.1).length) 4 s.2.2))), (5, VI (s.1))]) (fun s => h ++ ([⟨(s.2.1.map Grant.cs).flatten, true, s.2.2⟩] : Heap)) ?_ ?_
  ·intro hm
   refine .block ?_
   refine .loopE (σ := (Int × Int × (List Grant) × Bool)) (fun k s => Ev (DeleteFuncC1.l1 k s.1 s.2.1 s.2.2.1) _) (fun s => [(0, .o (.c (.g (h.length + 0) ((s.2.2.1).length) 4 s.2.2.2))), (1, .o (.c (.fn 129 []))), (5, VI (s.1)), (6, VI (s.2.1))]) (fun s => h ++ ([⟨(s.2.2.1.map Grant.cs).flatten, true, s.2.2.2⟩] : Heap)) FU (x1, (w64 (x1 + 1)), s_, lv_s_0) hm (.cons rfl (.cons rfl (.cons rfl (.cons rfl .nil)))) rfl ?_
   rintro kk9 ⟨i6, j7, bx8, bx8v⟩ T0 hm
   replace hm : Ev (DeleteFuncC1.l1 kk9 i6 j7 bx8) _ := hm
   cases kk9 with
   | zero => exact (Ev.non hm).elim
   | succ kk9 =>
   rw [DeleteFuncC1.l1.eq_2] at hm
   show CdOK _ _ _ (look T0 [(0, .o (.c (.g (h.length + 0) ((bx8).length) 4 bx8v))), (1, .o (.c (.fn 129 []))), (5, VI (i6)), (6, VI (j7))]) (h ++ ([⟨(bx8.map Grant.cs).flatten, true, bx8v⟩] : Heap)) _
   refine .seq ?_
   refine .seq ?_
   refine .region ?_
   refine .m rfl ?_
   refine .m rfl ?_
   refine .t (VI (((bx8).length : Int))) (e_lenG (ev_t rfl) is67) ?_
   refine .t (VB (decide (j7 < ((bx8).length : Int)))) (e_bin (ev_t rfl) (ev_t rfl) rfl rfl) ?_
   refine .nil ?_
   refine CdOK.condD (ev_t rfl) ?_ ?_
   ·intro c10; replace hm := hm.ifp c10
    refine .skip ?_
    refine CdOK.seq ?_
    refine .block ?_
    refine .seq ?_
    obtain ⟨c11, hm⟩ := hm.ifs
    refine .glT (d := 0) (ev_t rfl) c11 (fun hlv => ?_)
    subst hlv
    skip
    refine .region ?_
    refine .m rfl ?_
    refine .m rfl ?_
    obtain ⟨c12, hm⟩ := hm.ifs
    refine .t (.o (.c (.ptr (h.length + 0) (0 + (Int.toNat j7) * 4)))) (e_ixg (ev_t rfl) (ev_t rfl) el67 c12) ?_
    obtain ⟨c13, hm⟩ := hm.ifs
    refine .t _ (e_ldgA (k := 4) (off := 0) (f := Grant.cs) (l := bx8) (i := j7) (ev_t rfl) ty75 (bx rfl rfl) (by intro x; rfl) c13 rfl rfl (by omega)) ?_
    refine .t (.o (.c (.ptr (h.length + 1) 0))) (e_allocN (L' := [⟨(bx8.map Grant.cs).flatten, true, true⟩, ⟨[I (0), I (0), I (0), I (0)], true, true⟩]) rfl zo75 rfl rfl) ?_
    refine .s0 rfl rfl (e_stN (L' := [⟨(bx8.map Grant.cs).flatten, true, true⟩, ⟨[I ((gd bx8 j7).tx), I ((gd bx8 j7).lock.page), I ((gd bx8 j7).lock.slot), I ((gd bx8 j7).mode)], true, true⟩]) rfl (ev_t rfl) (ev_t rfl) ty75 rfl rfl rfl rfl rfl) ?_
    refine .nil ?_
    refine CdOK.seq ?_
    refine .region ?_
    refine .m rfl ?_
    refine .t _ (e_ldbA (ev_t rfl) ty75 (bx rfl rfl) rfl rfl) ?_
    obtain ⟨x14, e14, hm⟩ := hm.call
    refine .cl rfl rfl rfl rfl pl129 (R2.wk _) (locks_C1F_ok    e14) ?_
    rintro _ _ ⟨rfl, rfl⟩
    refine .t (VB ((!x14))) (e_un (ev_t rfl) rfl) ?_
    refine .nil ?_
    refine CdOK.condB (ev_t rfl) ?_ ?_
    ·intro c15; replace hm := hm.ifp c15
     refine .seq ?_
     refine .region ?_
     refine .m rfl ?_
     refine .m rfl ?_
     refine .t _ (e_ldbA (ev_t rfl) ty75 (bx rfl rfl) rfl rfl) ?_
     obtain ⟨c16, hm⟩ := hm.ifs
     refine .t (.o (.c (.ptr (h.length + 0) (0 + (Int.toNat i6) * 4)))) (e_ixg (ev_t rfl) (ev_t rfl) el67 c16) ?_
     obtain ⟨c17, hm⟩ := hm.ifs
     refine .s0 rfl rfl (e_stg (k := 4) (off := 0) (f := Grant.cs) (l := bx8) (i := i6) (x := (gd bx8 j7)) (L' := [⟨((bx8.set (Int.toNat i6) (gd bx8 j7)).map Grant.cs).flatten, true, true⟩, ⟨[I ((gd bx8 j7).tx), I ((gd bx8 j7).lock.page), I ((gd bx8 j7).lock.slot), I ((gd bx8 j7).mode)], true, true⟩]) rfl (ev_t rfl) (ev_t rfl) ty75 rfl (by intro x; rfl) rfl rfl c17 (by omega) rfl) ?_
     refine .nil ?_
     refine CdOK.region ?_
     refine .m rfl ?_
     refine .t (VI ((w64 (i6 + 1)))) (e_bin (ev_t rfl) rfl rfl rfl) ?_
     refine .a rfl ?_
     refine .nil ?_
     refine CdOK.region ?_
     refine .m rfl ?_
     refine .t (VI ((w64 (j7 + 1)))) (e_bin (ev_t rfl) rfl rfl rfl) ?_
     refine .a rfl ?_
     refine .nil ?_
     refine .re (σ := [0]) (X := [(0, .o (.c (.g (h.length + 0) (((bx8.set (Int.toNat i6) (gd bx8 j7))).length) 4 true))), (1, .o (.c (.fn 129 []))), (5, VI ((w64 (i6 + 1)))), (6, VI ((w64 (j7 + 1))))]) (L' := [⟨((bx8.set (Int.toNat i6) (gd bx8 j7)).map Grant.cs).flatten, true, true⟩]) rfl rfl hC (by decide) (.obj 0 rfl (renFl (flat_all (f := Grant.cs) (l := (bx8.set (Int.toNat i6) (gd bx8 j7))) (by intro x; rfl))) .nil) (.cons (.o (.c (.gg 0 0 _ _ _ _ _ rfl (by first | rfl | (simp; done) | (dsimp only at *; simp only [List.length_take]; omega)) rfl))) (.cons (.o (.c (.fn _ _ _ (R2.nil _)))) (.cons (renFlV rfl) (.cons (renFlV rfl) .nil)))) ?_
     exact ⟨_, ((w64 (i6 + 1)), (w64 (j7 + 1)), (bx8.set (Int.toNat i6) (gd bx8 j7)), true), Nat.lt_succ_self _, hm, (.cons rfl (.cons rfl (.cons rfl (.cons rfl .nil)))), rfl⟩
    ·intro c18; replace hm := hm.ifn c18
     refine .skip ?_
     refine CdOK.region ?_
     refine .m rfl ?_
     refine .t (VI ((w64 (j7 + 1)))) (e_bin (ev_t rfl) rfl rfl rfl) ?_
     refine .a rfl ?_
     refine .nil ?_
     refine .re (σ := [0]) (X := [(0, .o (.c (.g (h.length + 0) ((bx8).length) 4 true))), (1, .o (.c (.fn 129 []))), (5, VI (i6)), (6, VI ((w64 (j7 + 1))))]) (L' := [⟨(bx8.map Grant.cs).flatten, true, true⟩]) rfl rfl hC (by decide) (.obj 0 rfl (renFl (flat_all (f := Grant.cs) (l := bx8) (by intro x; rfl))) .nil) (.cons (.o (.c (.gg 0 0 _ _ _ _ _ rfl (by first | rfl | (simp; done) | (dsimp only at *; simp only [List.length_take]; omega)) rfl))) (.cons (.o (.c (.fn _ _ _ (R2.nil _)))) (.cons (renFlV rfl) (.cons (renFlV rfl) .nil)))) ?_
     exact ⟨_, (i6, (w64 (j7 + 1)), bx8, true), Nat.lt_succ_self _, hm, (.cons rfl (.cons rfl (.cons rfl (.cons rfl .nil)))), rfl⟩
   ·intro c19; replace hm := hm.ifn c19
    refine .exit ?_
    refine .id ?_
    exact ⟨(i6, bx8, bx8v), hm.ret, (.cons rfl (.cons rfl .nil)), rfl⟩
  ·rintro ⟨i4, bx5, bx5v⟩ T0 hm
   refine CdOK.seq ?_
   obtain ⟨c21, hm⟩ := hm.ifs
   refine .glT (d := 0) (ev_t rfl) c21 (fun hlv => ?_)
   subst hlv
   skip
   refine .region ?_
   refine .m rfl ?_
   refine .m rfl ?_
   obtain ⟨c22, hm⟩ := hm.ifs
   refine .gtail (cs := (bx5.map Grant.cs).flatten) rfl rfl rfl slt67 (ev_t rfl) (ev_t rfl) (bx rfl rfl) c22 ?_
   obtain ⟨c23, hm⟩ := hm.ifs
   refine .gclear (f := Grant.cs) (l0 := bx5) (i := i4) (L' := [⟨((bx5.take (Int.toNat i4)).map Grant.cs).flatten, true, true⟩]) rfl rfl slt67 rfl (ev_t rfl) rfl (by intro x; rfl) c23 rfl ?_
   refine .nil ?_
   refine CdOK.seq ?_
   refine .region ?_
   refine .m rfl ?_
   refine .m rfl ?_
   obtain ⟨c24, hm⟩ := hm.ifs
   refine .ghead (f := Grant.cs) (l0 := (bx5.take (Int.toNat i4))) (i := i4) (L' := [⟨(((bx5.take (Int.toNat i4)).take (Int.toNat i4)).map Grant.cs).flatten, true, true⟩]) rfl rfl rfl slt67 rfl (ev_t rfl) (ev_t rfl) rfl (by intro x; rfl) c24 rfl ?_
   refine .a rfl ?_
   refine .nil ?_
   refine CdOK.ret ?_
   refine ⟨.inr rfl, _, rfl, h, _, [0], [⟨(((bx5.take (Int.toNat i4)).take (Int.toNat i4)).map Grant.cs).flatten, true, true⟩], _, rfl, rfl, by decide, (.obj 0 rfl (renFl (flat_all (f := Grant.cs) (l := ((bx5.take (Int.toNat i4)).take (Int.toNat i4))) (by intro x; rfl))) .nil), ((.o (.c (.gg 0 0 _ _ _ _ _ rfl (by first | rfl | (simp; done) | (dsimp only at *; simp only [List.length_take]; omega)) rfl))) : RenV _ _ _ _ (.o (.c (.g (h.length + 0) ((((bx5.take (Int.toNat i4)).take (Int.toNat i4))).length) 4 true)))), ?_⟩
   cases hm.ret; exact ⟨true, rfl, rfl⟩
/- pagemend/locks.Cancel$2 -/
def locks_C2F (g_ : Grant) (a1 : Int) : Option Bool := some (decide (g_.tx = a1))
theorem locks_C2F_ok {h : Heap} {g_ : Grant} {a1 : Int} {b_a1 : Nat} (hb_a1 : h[b_a1]? = some ⟨[I (a1)], true, true⟩)  {r : Bool} (hm : locks_C2F g_ a1 = some r) : FnOK Try.prog 130 [.o (.agg [I (g_.tx), I (g_.lock.page), I (g_.lock.slot), I (g_.mode)]), .o (.c (.ptr b_a1 0))] h (fun v h' => v = VB (r) ∧ h' = h) := by
 refine FnOK.fin ?_
 refine FnOK.bodyC (N := 8) Try.func130 rfl rfl rfl (fun hC => ?_)
 have hl_a1 := lt_of_get hb_a1
 replace hm := Ev.of hm
 rw [locks_C2F.eq_1] at hm
 show CdOK _ _ _ (look _ [(0, .o (.agg [I (g_.tx), I (g_.lock.page), I (g_.lock.slot), I (g_.mode)])), (1, .o (.c (.ptr b_a1 0)))]) (h ++ ([] : Heap)) _
 refine .seq ?_
 refine .region ?_
 refine .t (.o (.c (.ptr (h.length + 0) 0))) (e_boxN (L' := [⟨[I (g_.tx), I (g_.lock.page), I (g_.lock.slot), I (g_.mode)], true, true⟩]) rfl (ev_t rfl) rfl rfl) ?_
 refine .t (VB (false)) (e_as rfl) ?_
 refine .nil ?_
 refine CdOK.seq ?_
 refine .region ?_
 refine .t _ (e_fa' fa75_0 (ev_t rfl)) ?_
 refine .t _ (e_ldb1 (ev_t rfl) ty3 (bx rfl rfl) rfl) ?_
 refine .t _ (e_ldb1 (ev_t rfl) ty3 (pb hb_a1) rfl) ?_
 refine .t (VB (decide (g_.tx = a1))) (e_eqK (ev_t rfl) (ev_t rfl)) ?_
 refine .a rfl ?_
 refine .nil ?_
 refine CdOK.ret ?_
 refine ⟨.inr rfl, _, rfl, h, _, _, rfl, rfl, hC, ((renFlV rfl) : RenV _ _ _ _ (VB (decide (g_.tx = a1)))), ?_⟩
 cases hm.ret; exact ⟨rfl, rfl⟩
/- slices.IndexFunc[[]pagemend/api.Grant,pagemend/api.Grant] -/
def IndexFuncC2.l1 (s_ : (List Grant)) (f_0 : Int) : Nat → Int → Option (Sum Unit Int)
  | 0, _ => none
  | kk2 + 1, t81 => (if t81 < (s_.length : Int) then (if (0 : Int) ≤ t81 ∧ t81 < (s_.length : Int) then ((locks_C2F (gd s_ t81) f_0).bind fun (x5 : Bool) => (if x5 = true then some (Sum.inr t81) else IndexFuncC2.l1 s_ f_0 kk2 (w64 (t81 + 1)))) else none) else some (Sum.inl ()))
def IndexFuncC2 (s_ : (List Grant)) (f_0 : Int) : Option Int := ((IndexFuncC2.l1 s_ f_0 FU 0).bind fun (z : Sum Unit Int) => match z with | .inl (s9 : Unit) => some (-1) | .inr r => some r)
theorem IndexFuncC2_ok {h : Heap} {s_ : (List Grant)} {f_0 : Int} {b_f_0 : Nat} (hb_f_0 : h[b_f_0]? = some ⟨[I (f_0)], true, true⟩)  {r : Int} (hm : IndexFuncC2 s_ f_0 = some r) : FnOK Try.prog 127 [.o (.c (.L 4 (s_.map Grant.cs))), .o (.c (.fn 130 [(b_f_0, 0)]))] h (fun v h' => v = VI (r) ∧ h' = h) := by
 refine FnOK.fin ?_
 refine FnOK.bodyC (N := 19) Try.func127 rfl rfl rfl (fun hC => ?_)
 have hl_f_0 := lt_of_get hb_f_0
 replace hm := Ev.of hm
 rw [IndexFuncC2.eq_1] at hm
 show CdOK _ _ _ (look _ [(0, .o (.c (.L 4 (s_.map Grant.cs)))), (1, .o (.c (.fn 130 [(b_f_0, 0)])))]) (h ++ ([] : Heap)) _
 refine .seq ?_
 refine .region ?_
 refine .t (VI (0)) (e_as rfl) ?_
 refine .nil ?_
 refine CdOK.seq ?_
 refine .seq ?_
 refine .region ?_
 refine .m rfl ?_
 refine .t (VI ((s_.length : Int))) (e_lenM (ev_t rfl) is67) ?_
 refine .t (VI (0)) (e_mv rfl) ?_
 refine .nil ?_
 replace hm := hm.bnd
 refine CdOK.joinT (σ := Unit) (fun s => Sum.inl ()) hm (fun s => []) (fun s => h ++ ([] : Heap)) ?_ ?_
 ·intro hm
  refine .block ?_
  refine .loopE (σ := Int) (fun k s => Ev (IndexFuncC2.l1 s_ f_0 k s) _) (fun s => [(0, .o (.c (.L 4 (s_.map Grant.cs)))), (1, .o (.c (.fn 130 [(b_f_0, 0)]))), (7, VI ((s_.length : Int))), (8, VI (s))]) (fun s => h ++ ([] : Heap)) FU 0 hm (.cons rfl (.cons rfl (.cons rfl (.cons rfl .nil)))) rfl ?_
  rintro kk2 t81 T0 hm
  replace hm : Ev (IndexFuncC2.l1 s_ f_0 kk2 t81) _ := hm
  cases kk2 with
  | zero => exact (Ev.non hm).elim
  | succ kk2 =>
  rw [IndexFuncC2.l1.eq_2] at hm
  show CdOK _ _ _ (look T0 [(0, .o (.c (.L 4 (s_.map Grant.cs)))), (1, .o (.c (.fn 130 [(b_f_0, 0)]))), (7, VI ((s_.length : Int))), (8, VI (t81))]) (h ++ ([] : Heap)) _
  refine .seq ?_
  refine .region ?_
  refine .t (VB (decide (t81 < (s_.length : Int)))) (e_bin (ev_t rfl) (ev_t rfl) rfl rfl) ?_
  refine .nil ?_
  refine CdOK.seq ?_
  refine .condD (ev_t rfl) ?_ ?_
  ·intro c3; replace hm := hm.ifp c3
   refine .skip ?_
   refine CdOK.seq ?_
   refine .block ?_
   refine .seq ?_
   refine .region ?_
   refine .m rfl ?_
   refine .a rfl ?_
   refine .nil ?_
   refine CdOK.seq ?_
   refine .region ?_
   refine .m rfl ?_
   refine .m rfl ?_
   refine .m rfl ?_
   obtain ⟨c4, hm⟩ := hm.ifs
   refine .t (.o (.c (.rp [I ((gd s_ t81).tx), I ((gd s_ t81).lock.page), I ((gd s_ t81).lock.slot), I ((gd s_ t81).mode)]))) (e_ixM (f := Grant.cs) (l := s_) (i := t81) (ev_t rfl) (ev_t rfl) el67 c4) ?_
   refine .t _ (e_ldRA (ev_t rfl) ty75 rfl rfl) ?_
   obtain ⟨x5, e5, hm⟩ := hm.call
   refine .cl rfl rfl rfl rfl pl130 (R2.wk _) (locks_C2F_ok  (b_a1 := b_f_0) (pb hb_f_0) e5) ?_
   rintro _ _ ⟨rfl, rfl⟩
   refine .nil ?_
   refine CdOK.condB (ev_t rfl) ?_ ?_
   ·intro c6; replace hm := hm.ifp c6
    refine .seq ?_
    refine .region ?_
    refine .m rfl ?_
    refine .a rfl ?_
    refine .nil ?_
    refine CdOK.ret ?_
    refine ⟨.inr rfl, _, rfl, h, _, _, rfl, rfl, hC, ((renFlV rfl) : RenV _ _ _ _ (VI (t81))), ?_⟩
    have hr := hm.ret; replace hr := Ev.ret hr; cases hr; exact ⟨rfl, rfl⟩
   ·intro c7; replace hm := hm.ifn c7
    refine .skip ?_
    refine CdOK.region ?_
    refine .t (VI ((w64 (t81 + 1)))) (e_bin (ev_t rfl) rfl rfl rfl) ?_
    refine .m rfl ?_
    refine .nil ?_
    refine .id ?_
    exact ⟨_, (w64 (t81 + 1)), Nat.lt_succ_self _, hm, (.cons rfl (.cons rfl (.cons rfl (.cons rfl .nil)))), rfl⟩
  ·intro c8; replace hm := hm.ifn c8
   refine .exit ?_
   refine .id ?_
   exact ⟨(), hm.ret, .nil, rfl⟩
 ·intro _ T0 hm
  refine CdOK.seq ?_
  refine .region ?_
  refine .t (VI ((-1))) (e_as rfl) ?_
  refine .nil ?_
  refine CdOK.ret ?_
  refine ⟨.inr rfl, _, rfl, h, _, _, rfl, rfl, hC, ((renFlV rfl) : RenV _ _ _ _ (VI ((-1)))), ?_⟩
  cases hm.ret; exact ⟨rfl, rfl⟩
/- slices.DeleteFunc[[]pagemend/api.Grant,pagemend/api.Grant] -/
def DeleteFuncC2.l1 (del0 : Int) : Nat → Int → Int → (List Grant) → Option (Int × (List Grant))
  | 0, _, _, _ => none
  | kk9 + 1, i6, j7, bx8 => (if j7 < ((bx8).length : Int) then (if 0 < bx8.length then (if (0 : Int) ≤ j7 ∧ j7 < (bx8.length : Int) then (if (0 : Int) ≤ j7 ∧ j7 < (bx8.length : Int) then ((locks_C2F (gd bx8 j7) del0).bind fun (x14 : Bool) => (if (!x14) = true then (if (0 : Int) ≤ i6 ∧ i6 < (bx8.length : Int) then (if (0 : Int) ≤ i6 ∧ i6 < (bx8.length : Int) then DeleteFuncC2.l1 del0 kk9 (w64 (i6 + 1)) (w64 (j7 + 1)) (bx8.set (Int.toNat i6) (gd bx8 j7)) else none) else none) else DeleteFuncC2.l1 del0 kk9 i6 (w64 (j7 + 1)) bx8)) else none) else none) else none) else some (i6, bx8))
def DeleteFuncC2 (s_ : (List Grant)) (del0 : Int) : Option (List Grant) := ((IndexFuncC2 s_ del0).bind fun (x1 : Int) => (if x1 = (-1) then some s_ else ((DeleteFuncC2.l1 del0 FU x1 (w64 (x1 + 1)) s_).bind fun (s20 : (Int × (List Grant))) => (if 0 < s20.2.length then (if (0 : Int) ≤ s20.1 ∧ s20.1 < (s20.2.length : Int) then (if (0 : Int) ≤ s20.1 ∧ s20.1 < (s20.2.length : Int) ∧ s20.2.length ≤ (s20.2.length : Int) then (if (0 : Int) ≤ s20.1 ∧ s20.1 ≤ (s20.2.length : Int) ∧ s20.1 ≤ ((s20.2.take (Int.toNat s20.1)).length : Int) then some ((s20.2.take (Int.toNat s20.1)).take (Int.toNat s20.1)) else none) else none) else none) else none))))
theorem DeleteFuncC2_ok {h : Heap} {s_ : (List Grant)} {del0 : Int} {A : Nat} (hA : h.length = A) {b_s_0 : Nat} {lv_s_0 : Bool} (hb_s_0 : h[b_s_0]? = some ⟨(s_.map Grant.cs).flatten, true, lv_s_0⟩) {b_del0 : Nat} (hb_del0 : h[b_del0]? = some ⟨[I (del0)], true, true⟩)  (hne_del0_s_0 : b_del0 ≠ b_s_0) {r : (List Grant)} (hm : DeleteFuncC2 s_ del0 = some r) : FnOK Try.prog 181 [.o (.c (.g b_s_0 ((s_).length) 4 lv_s_0)), .o (.c (.fn 130 [(b_del0, 0)]))] h (fun v h' => ∃ lv0 : Bool, v = .o (.c (.g (A + 0) ((r).length) 4 lv0)) ∧ h' = (kill h b_s_0) ++ [⟨(r.map Grant.cs).flatten, true, lv0⟩]) := by
 subst hA
 refine FnOK.mono (Q := fun v h' => ∃ L3, h' = (kill h b_s_0) ++ L3 ∧ (∃ lv0 : Bool, v = .o (.c (.g (h.length + 0) ((r).length) 4 lv0)) ∧ L3 = [⟨(r.map Grant.cs).flatten, true, lv0⟩])) ?_ (by rintro v h' ⟨L3, rfl, lv0, rfl, rfl⟩; exact ⟨lv0, rfl, rfl⟩)
 refine FnOK.bodyO (N := 42) (argsF := fun A => [.o (.c (.g (A + 0) ((s_).length) 4 lv_s_0)), .o (.c (.fn 130 [(b_del0, 0)]))]) (L := [⟨(s_.map Grant.cs).flatten, true, lv_s_0⟩]) (H0 := (kill h b_s_0)) (Q := fun A v L3 => ∃ lv0 : Bool, v = .o (.c (.g (A + 0) ((r).length) 4 lv0)) ∧ L3 = [⟨(r.map Grant.cs).flatten, true, lv0⟩]) Try.func181 rfl rfl rfl (by simp [kill_len]) (Take.one hb_s_0 (R2.cons (.c (.g _ _)) (R2.cons (.refl _) (R2.nil _)))) (fun h hC hH => ?_)
 replace hb_del0 := (kill_ne hb_del0 hne_del0_s_0)
 rw [← hH] at hb_del0
 have hl_del0 := lt_of_get hb_del0
 replace hm := Ev.of hm
 rw [DeleteFuncC2.eq_1] at hm
 show CdOK _ _ _ (look _ [(0, .o (.c (.g (h.length + 0) ((s_).length) 4 lv_s_0))), (1, .o (.c (.fn 130 [(b_del0, 0)])))]) (h ++ ([⟨(s_.map Grant.cs).flatten, true, lv_s_0⟩] : Heap)) _
 refine .seq ?_
 refine .region ?_
 refine .t (.o (.c (.v (.slice none 0 0)))) (e_as rfl) ?_
 refine .nil ?_
 refine CdOK.seq ?_
 refine .region ?_
 refine .m rfl ?_
 refine .m rfl ?_
 obtain ⟨x1, e1, hm⟩ := hm.call
 refine .cl rfl rfl rfl rfl pl127 (R2.wk _) (FnOK.borrowB (bs := [b_del0]) (L := [⟨[I (del0)], true, true⟩]) (Lent.one (pb hb_del0) rfl) (R2.cons (BorVB.c (BorCB.g (bx rfl rfl) (by simp; try omega) (by simp) (fun _ => rfl) (fun _ => rfl))) (R2.cons (BorVB.c (BorCB.fn (R2.cons (y := (0, 0)) ⟨rfl, rfl⟩ (R2.nil _)))) (R2.nil _))) (IndexFuncC2_ok (h := [⟨[I (del0)], true, true⟩])  (b_f_0 := 0) (hb_f_0 := rfl) e1) rfl) ?_
 rintro _ _ ⟨rfl, rfl⟩
 refine .a rfl ?_
 refine .nil ?_
 refine CdOK.seq ?_
 refine .seq ?_
 refine .region ?_
 refine .m rfl ?_
 refine .t (VB (decide (x1 = (-1)))) (e_eqK (ev_t rfl) rfl) ?_
 refine .nil ?_
 refine CdOK.condD (ev_t rfl) ?_ ?_
 ·intro c2; replace hm := hm.ifp c2
  refine .seq ?_
  refine .region ?_
  refine .m rfl ?_
  refine .a rfl ?_
  refine .nil ?_
  refine CdOK.ret ?_
  refine ⟨.inr rfl, _, rfl, h, _, [0], [⟨(s_.map Grant.cs).flatten, true, lv_s_0⟩], _, rfl, rfl, by decide, (.obj 0 rfl (renFl (flat_all (f := Grant.cs) (l := s_) (by intro x; rfl))) .nil), ((.o (.c (.gg 0 0 _ _ _ _ _ rfl (by first | rfl | (simp; done) | (dsimp only at *; simp only [List.length_take]; omega)) rfl))) : RenV _ _ _ _ (.o (.c (.g (h.length + 0) ((s_).length) 4 lv_s_0)))), ?_⟩
  cases hm.ret; exact ⟨lv_s_0, rfl, rfl⟩
 ·intro c3; replace hm := hm.ifn c3
  refine .skip ?_
  refine CdOK.seq ?_
  refine .seq ?_
  refine .region ?_
  refine .m rfl ?_
  refine .t (VI ((w64 (x1 + 1)))) (e_bin (ev_t rfl) rfl rfl rfl) ?_
  refine .a rfl ?_
  refine .nil ?_
  replace hm := hm.bnd
  refine CdOK.joinT (σ := (Int × (List Grant) × Bool)) (fun s => (s.1, s.2.1)) hm (fun s => [(0, .o (.c (.g (h.length + 0) ((s.2.1).length) 4 s.2.2))), (5, VI (s.1))]) (fun s => h ++ ([⟨(s.2.1.map Grant.cs).flatten, true, s.2.2⟩] : Heap)) ?_ ?_
  ·intro hm
   refine .block ?_
   refine .loopE (σ := (Int × Int × (List Grant) × Bool)) (fun k s => Ev (DeleteFuncC2.l1 del0 k s.1 s.2.1 s.2.2.1) _) (fun s => [(0, .o (.c (.g (h.length + 0) ((s.2.2.1).length) 4 s.2.2.2))), (1, .o (.c (.fn 130 [(b_del0, 0)]))), (5, VI (s.1)), (6, VI (s.2.1))]) (fun s => h ++ ([⟨(s.2.2.1.map Grant.cs).flatten, true, s.2.2.2⟩] : Heap)) FU (x1, (w64 (x1 + 1)), s_, lv_s_0) hm (.cons rfl (.cons rfl (.cons rfl (.cons rfl .nil)))) rfl ?_
   rintro kk9 ⟨i6, j7, bx8, bx8v⟩ T0 hm
   replace hm : Ev (DeleteFuncC2.l1 del0 kk9 i6 j7 bx8) _ := hm
   cases kk9 with
   | zero => exact (Ev.non hm).elim
   | succ kk9 =>
   rw [DeleteFuncC2.l1.eq_2] at hm
   show CdOK _ _ _ (look T0 [(0, .o (.c (.g (h.length + 0) ((bx8).length) 4 bx8v))), (1, .o (.c (.fn 130 [(b_del0, 0)]))), (5, VI (i6)), (6, VI (j7))]) (h ++ ([⟨(bx8.map Grant.cs).flatten, true, bx8v⟩] : Heap)) _
   refine .seq ?_
   refine .seq ?_
   refine .region ?_
   refine .m rfl ?_
   refine .m rfl ?_
   refine .t (VI (((bx8).length : Int))) (e_lenG (ev_t rfl) is67) ?_
   refine .t (VB (decide (j7 < ((bx8).length : Int)))) (e_bin (ev_t rfl) (ev_t rfl) rfl rfl) ?_
   refine .nil ?_
   refine CdOK.condD (ev_t rfl) ?_ ?_
   ·intro c10; replace hm := hm.ifp c10
    refine .skip ?_
    refine CdOK.seq ?_
    refine .block ?_
    refine .seq ?_
    obtain ⟨c11, hm⟩ := hm.ifs
    refine .glT (d := 0) (ev_t rfl) c11 (fun hlv => ?_)
    subst hlv
    skip
    refine .region ?_
    refine .m rfl ?_
    refine .m rfl ?_
    obtain ⟨c12, hm⟩ := hm.ifs
    refine .t (.o (.c (.ptr (h.length + 0) (0 + (Int.toNat j7) * 4)))) (e_ixg (ev_t rfl) (ev_t rfl) el67 c12) ?_
    obtain ⟨c13, hm⟩ := hm.ifs
    refine .t _ (e_ldgA (k := 4) (off := 0) (f := Grant.cs) (l := bx8) (i := j7) (ev_t rfl) ty75 (bx rfl rfl) (by intro x; rfl) c13 rfl rfl (by omega)) ?_
    refine .t (.o (.c (.ptr (h.length + 1) 0))) (e_allocN (L' := [⟨(bx8.map Grant.cs).flatten, true, true⟩, ⟨[I (0), I (0), I (0), I (0)], true, true⟩]) rfl zo75 rfl rfl) ?_
    refine .s0 rfl rfl (e_stN (L' := [⟨(bx8.map Grant.cs).flatten, true, true⟩, ⟨[I ((gd bx8 j7).tx), I ((gd bx8 j7).lock.page), I ((gd bx8 j7).lock.slot), I ((gd bx8 j7).mode)], true, true⟩]) rfl (ev_t rfl) (ev_t rfl) ty75 rfl rfl rfl rfl rfl) ?_
    refine .nil ?_
    refine CdOK.seq ?_
    refine .region ?_
    refine .m rfl ?_
    refine .t _ (e_ldbA (ev_t rfl) ty75 (bx rfl rfl) rfl rfl) ?_
    obtain ⟨x14, e14, hm⟩ := hm.call
    refine .cl rfl rfl rfl rfl pl130 (R2.wk _) (locks_C2F_ok  (b_a1 := b_del0) (pb hb_del0) e14) ?_
    rintro _ _ ⟨rfl, rfl⟩
    refine .t (VB ((!x14))) (e_un (ev_t rfl) rfl) ?_
    refine .nil ?_
    refine CdOK.condB (ev_t rfl) ?_ ?_
    ·intro c15; replace hm := hm.ifp c15
     refine .seq ?_
     refine .region ?_
     refine .m rfl ?_
     refine .m rfl ?_
     refine .t _ (e_ldbA (ev_t rfl) ty75 (bx rfl rfl) rfl rfl) ?_
     obtain ⟨c16, hm⟩ := hm.ifs
     refine .t (.o (.c (.ptr (h.length + 0) (0 + (Int.toNat i6) * 4)))) (e_ixg (ev_t rfl) (ev_t rfl) el67 c16) ?_
     obtain ⟨c17, hm⟩ := hm.ifs
     refine .s0 rfl rfl (e_stg (k := 4) (off := 0) (f := Grant.cs) (l := bx8) (i := i6) (x := (gd bx8 j7)) (L' := [⟨((bx8.set (Int.toNat i6) (gd bx8 j7)).map Grant.cs).flatten, true, true⟩, ⟨[I ((gd bx8 j7).tx), I ((gd bx8 j7).lock.page), I ((gd bx8 j7).lock.slot), I ((gd bx8 j7).mode)], true, true⟩]) rfl (ev_t rfl) (ev_t rfl) ty75 rfl (by intro x; rfl) rfl rfl c17 (by omega) rfl) ?_
     refine .nil ?_
     refine CdOK.region ?_
     refine .m rfl ?_
     refine .t (VI ((w64 (i6 + 1)))) (e_bin (ev_t rfl) rfl rfl rfl) ?_
     refine .a rfl ?_
     refine .nil ?_
     refine CdOK.region ?_
     refine .m rfl ?_
     refine .t (VI ((w64 (j7 + 1)))) (e_bin (ev_t rfl) rfl rfl rfl) ?_
     refine .a rfl ?_
     refine .nil ?_
     refine .re (σ := [0]) (X := [(0, .o (.c (.g (h.length + 0) (((bx8.set (Int.toNat i6) (gd bx8 j7))).length) 4 true))), (1, .o (.c (.fn 130 [(b_del0, 0)]))), (5, VI ((w64 (i6 + 1)))), (6, VI ((w64 (j7 + 1))))]) (L' := [⟨((bx8.set (Int.toNat i6) (gd bx8 j7)).map Grant.cs).flatten, true, true⟩]) rfl rfl hC (by decide) (.obj 0 rfl (renFl (flat_all (f := Grant.cs) (l := (bx8.set (Int.toNat i6) (gd bx8 j7))) (by intro x; rfl))) .nil) (.cons (.o (.c (.gg 0 0 _ _ _ _ _ rfl (by first | rfl | (simp; done) | (dsimp only at *; simp only [List.length_take]; omega)) rfl))) (.cons (.o (.c (.fn _ _ _ (R2.of ⟨rfl, .inl ⟨hl_del0, rfl⟩⟩ (R2.nil _))))) (.cons (renFlV rfl) (.cons (renFlV rfl) .nil)))) ?_
     exact ⟨_, ((w64 (i6 + 1)), (w64 (j7 + 1)), (bx8.set (Int.toNat i6) (gd bx8 j7)), true), Nat.lt_succ_self _, hm, (.cons rfl (.cons rfl (.cons rfl (.cons rfl .nil)))), rfl⟩
    ·intro c18; replace hm := hm.ifn c18
     refine .skip ?_
     refine CdOK.region ?_
     refine .m rfl ?_
     refine .t (VI ((w64 (j7 + 1)))) (e_bin (ev_t rfl) rfl rfl rfl) ?_
     refine .a rfl ?_
     refine .nil ?_
     refine .re (σ := [0]) (X := [(0, .o (.c (.g (h.length + 0) ((bx8).length) 4 true))), (1, .o (.c (.fn 130 [(b_del0, 0)]))), (5, VI (i6)), (6, VI ((w64 (j7 + 1))))]) (L' := [⟨(bx8.map Grant.cs).flatten, true, true⟩]) rfl rfl hC (by decide) (.obj 0 rfl (renFl (flat_all (f := Grant.cs) (l := bx8) (by intro x; rfl))) .nil) (.cons (.o (.c (.gg 0 0 _ _ _ _ _ rfl (by first | rfl | (simp; done) | (dsimp only at *; simp only [List.length_take]; omega)) rfl))) (.cons (.o (.c (.fn _ _ _ (R2.of ⟨rfl, .inl ⟨hl_del0, rfl⟩⟩ (R2.nil _))))) (.cons (renFlV rfl) (.cons (renFlV rfl) .nil)))) ?_
     exact ⟨_, (i6, (w64 (j7 + 1)), bx8, true), Nat.lt_succ_self _, hm, (.cons rfl (.cons rfl (.cons rfl (.cons rfl .nil)))), rfl⟩
   ·intro c19; replace hm := hm.ifn c19
    refine .exit ?_
    refine .id ?_
    exact ⟨(i6, bx8, bx8v), hm.ret, (.cons rfl (.cons rfl .nil)), rfl⟩
  ·rintro ⟨i4, bx5, bx5v⟩ T0 hm
   refine CdOK.seq ?_
   obtain ⟨c21, hm⟩ := hm.ifs
   refine .glT (d := 0) (ev_t rfl) c21 (fun hlv => ?_)
   subst hlv
   skip
   refine .region ?_
   refine .m rfl ?_
   refine .m rfl ?_
   obtain ⟨c22, hm⟩ := hm.ifs
   refine .gtail (cs := (bx5.map Grant.cs).flatten) rfl rfl rfl slt67 (ev_t rfl) (ev_t rfl) (bx rfl rfl) c22 ?_
   obtain ⟨c23, hm⟩ := hm.ifs
   refine .gclear (f := Grant.cs) (l0 := bx5) (i := i4) (L' := [⟨((bx5.take (Int.toNat i4)).map Grant.cs).flatten, true, true⟩]) rfl rfl slt67 rfl (ev_t rfl) rfl (by intro x; rfl) c23 rfl ?_
   refine .nil ?_
   refine CdOK.seq ?_
   refine .region ?_
   refine .m rfl ?_
   refine .m rfl ?_
   obtain ⟨c24, hm⟩ := hm.ifs
   refine .ghead (f := Grant.cs) (l0 := (bx5.take (Int.toNat i4))) (i := i4) (L' := [⟨(((bx5.take (Int.toNat i4)).take (Int.toNat i4)).map Grant.cs).flatten, true, true⟩]) rfl rfl rfl slt67 rfl (ev_t rfl) (ev_t rfl) rfl (by intro x; rfl) c24 rfl ?_
   refine .a rfl ?_
   refine .nil ?_
   refine CdOK.ret ?_
   refine ⟨.inr rfl, _, rfl, h, _, [0], [⟨(((bx5.take (Int.toNat i4)).take (Int.toNat i4)).map Grant.cs).flatten, true, true⟩], _, rfl, rfl, by decide, (.obj 0 rfl (renFl (flat_all (f := Grant.cs) (l := ((bx5.take (Int.toNat i4)).take (Int.toNat i4))) (by intro x; rfl))) .nil), ((.o (.c (.gg 0 0 _ _ _ _ _ rfl (by first | rfl | (simp; done) | (dsimp only at *; simp only [List.length_take]; omega)) rfl))) : RenV _ _ _ _ (.o (.c (.g (h.length + 0) ((((bx5.take (Int.toNat i4)).take (Int.toNat i4))).length) 4 true)))), ?_⟩
   cases hm.ret; exact ⟨true, rfl, rfl⟩
/- pagemend/locks.Drop$1 -/
def locks_D1F (g_ : Grant) (a1 : Int) (a2 : Lock) : Option Bool := (if g_.tx = a1 then some (decide (g_.lock = a2)) else some false)
theorem locks_D1F_ok {h : Heap} {g_ : Grant} {a1 : Int} {a2 : Lock} {b_a1 : Nat} (hb_a1 : h[b_a1]? = some ⟨[I (a1)], true, true⟩) {b_a2 : Nat} (hb_a2 : h[b_a2]? = some ⟨[I (a2.page), I (a2.slot)], true, true⟩)  {r : Bool} (hm : locks_D1F g_ a1 a2 = some r) : FnOK Try.prog 124 [.o (.agg [I (g_.tx), I (g_.lock.page), I (g_.lock.slot), I (g_.mode)]), .o (.c (.ptr b_a1 0)), .o (.c (.ptr b_a2 0))] h (fun v h' => v = VB (r) ∧ h' = h) := by
 refine FnOK.fin ?_
 refine FnOK.bodyC (N := 15) Try.func124 rfl rfl rfl (fun hC => ?_)
 have hl_a1 := lt_of_get hb_a1
 have hl_a2 := lt_of_get hb_a2
 replace hm := Ev.of hm
 rw [locks_D1F.eq_1] at hm
 show CdOK _ _ _ (look _ [(0, .o (.agg [I (g_.tx), I (g_.lock.page), I (g_.lock.slot), I (g_.mode)])), (1, .o (.c (.ptr b_a1 0))), (2, .o (.c (.ptr b_a2 0)))]) (h ++ ([] : Heap)) _
 refine .seq ?_
 refine .region ?_
 refine .t (.o (.c (.ptr (h.length + 0) 0))) (e_boxN (L' := [⟨[I (g_.tx), I (g_.lock.page), I (g_.lock.slot), I (g_.mode)], true, true⟩]) rfl (ev_t rfl) rfl rfl) ?_
 refine .t (VB (false)) (e_as rfl) ?_
 refine .nil ?_
 refine CdOK.seq ?_
 refine .region ?_
 refine .t _ (e_fa' fa75_0 (ev_t rfl)) ?_
 refine .t _ (e_ldb1 (ev_t rfl) ty3 (bx rfl rfl) rfl) ?_
 refine .t _ (e_ldb1 (ev_t rfl) ty3 (pb hb_a1) rfl) ?_
 refine .sd rfl rfl rfl (e_eqK (ev_t rfl) (ev_t rfl)) ?_ ?_
 ·intro c1; replace hm := hm.ifp c1
  refine .m rfl ?_
  refine .t _ (e_fa' fa75_1 (ev_t rfl)) ?_
  refine .t _ (e_ldbA (ev_t rfl) ty71 (bx rfl rfl) rfl rfl) ?_
  refine .t _ (e_ldbA (ev_t rfl) ty71 (pb hb_a2) rfl rfl) ?_
  refine .t (VB (decide (g_.lock = a2))) (e_eqA (ev_t rfl) (ev_t rfl) rfl rfl (eqs71_eql g_.lock a2)) ?_
  refine .t (VB (decide (g_.lock = a2))) (e_pick (t := true) (ev_t rfl) (ev_t rfl)) ?_
  refine .a rfl ?_
  refine .nil ?_
  refine CdOK.ret ?_
  refine ⟨.inr rfl, _, rfl, h, _, _, rfl, rfl, hC, ((renFlV rfl) : RenV _ _ _ _ (VB (decide (g_.lock = a2)))), ?_⟩
  cases hm.ret; exact ⟨rfl, rfl⟩
 ·intro c2; replace hm := hm.ifn c2
  refine .m rfl ?_
  refine .k ?_
  refine .k ?_
  refine .k ?_
  refine .k ?_
  refine .t (VB (false)) (e_pick (t := false) (ev_t rfl) rfl) ?_
  refine .a rfl ?_
  refine .nil ?_
  refine CdOK.ret ?_
  refine ⟨.inr rfl, _, rfl, h, _, _, rfl, rfl, hC, ((renFlV rfl) : RenV _ _ _ _ (VB (false))), ?_⟩
  cases hm.ret; exact ⟨rfl, rfl⟩
/- slices.IndexFunc[[]pagemend/api.Grant,pagemend/api.Grant] -/
def IndexFuncD1.l1 (s_ : (List Grant)) (f_0 : Int) (f_1 : Lock) : Nat → Int → Option (Sum Unit Int)
  | 0, _ => none
  | kk2 + 1, t81 => (if t81 < (s_.length : Int) then (if (0 : Int) ≤ t81 ∧ t81 < (s_.length : Int) then ((locks_D1F (gd s_ t81) f_0 f_1).bind fun (x5 : Bool) => (if x5 = true then some (Sum.inr t81) else IndexFuncD1.l1 s_ f_0 f_1 kk2 (w64 (t81 + 1)))) else none) else some (Sum.inl ()))
def IndexFuncD1 (s_ : (List Grant)) (f_0 : Int) (f_1 : Lock) : Option Int := ((IndexFuncD1.l1 s_ f_0 f_1 FU 0).bind fun (z : Sum Unit Int) => match z with | .inl (s9 : Unit) => some (-1) | .inr r => some r)
theorem IndexFuncD1_ok {h : Heap} {s_ : (List Grant)} {f_0 : Int} {f_1 : Lock} {b_f_0 : Nat} (hb_f_0 : h[b_f_0]? = some ⟨[I (f_0)], true, true⟩) {b_f_1 : Nat} (hb_f_1 : h[b_f_1]? = some ⟨[I (f_1.page), I (f_1.slot)], true, true⟩)  {r : Int} (hm : IndexFuncD1 s_ f_0 f_1 = some r) : FnOK Try.prog 127 [.o (.c (.L 4 (s_.map Grant.cs))), .o (.c (.fn 124 [(b_f_0, 0), (b_f_1, 0)]))] h (fun v h' => v = VI (r) ∧ h' = h) := by
 refine FnOK.fin ?_
 refine FnOK.bodyC (N := 19) Try.func127 rfl rfl rfl (fun hC => ?_)
 have hl_f_0 := lt_of_get hb_f_0
 have hl_f_1 := lt_of_get hb_f_1
 replace hm := Ev.of hm
 rw [IndexFuncD1.eq_1] at hm
 show CdOK _ _ _ (look _ [(0, .o (.c (.L 4 (s_.map Grant.cs)))), (1, .o (.c (.fn 124 [(b_f_0, 0), (b_f_1, 0)])))]) (h ++ ([] : Heap)) _
 refine .seq ?_
 refine .region ?_
 refine .t (VI (0)) (e_as rfl) ?_
 refine .nil ?_
 refine CdOK.seq ?_
 refine .seq ?_
 refine .region ?_
 refine .m rfl ?_
 refine .t (VI ((s_.length : Int))) (e_lenM (ev_t rfl) is67) ?_
 refine .t (VI (0)) (e_mv rfl) ?_
 refine .nil ?_
 replace hm := hm.bnd
 refine CdOK.joinT (σ := Unit) (fun s => Sum.inl ()) hm (fun s => []) (fun s => h ++ ([] : Heap)) ?_ ?_
 ·intro hm
  refine .block ?_
  refine .loopE (σ := Int) (fun k s => Ev (IndexFuncD1.l1 s_ f_0 f_1 k s) _) (fun s => [(0, .o (.c (.L 4 (s_.map Grant.cs)))), (1, .o (.c (.fn 124 [(b_f_0, 0), (b_f_1, 0)]))), (7, VI ((s_.length : Int))), (8, VI (s))]) (fun s => h ++ ([] : Heap)) FU 0 hm (.cons rfl (.cons rfl (.cons rfl (.cons rfl .nil)))) rfl ?_
  rintro kk2 t81 T0 hm
  replace hm : Ev (IndexFuncD1.l1 s_ f_0 f_1 kk2 t81) _ := hm
  cases kk2 with
  | zero => exact (Ev.non hm).elim
  | succ kk2 =>
  rw [IndexFuncD1.l1.eq_2] at hm
  show CdOK _ _ _ (look T0 [(0, .o (.c (.L 4 (s_.map Grant.cs)))), (1, .o (.c (.fn 124 [(b_f_0, 0), (b_f_1, 0)]))), (7, VI ((s_.length : Int))), (8, VI (t81))]) (h ++ ([] : Heap)) _
  refine .seq ?_
  refine .region ?_
  refine .t (VB (decide (t81 < (s_.length : Int)))) (e_bin (ev_t rfl) (ev_t rfl) rfl rfl) ?_
  refine .nil ?_
  refine CdOK.seq ?_
  refine .condD (ev_t rfl) ?_ ?_
  ·intro c3; replace hm := hm.ifp c3
   refine .skip ?_
   refine CdOK.seq ?_
   refine .block ?_
   refine .seq ?_
   refine .region ?_
   refine .m rfl ?_
   refine .a rfl ?_
   refine .nil ?_
   refine CdOK.seq ?_
   refine .region ?_
   refine .m rfl ?_
   refine .m rfl ?_
   refine .m rfl ?_
   obtain ⟨c4, hm⟩ := hm.ifs
   refine .t (.o (.c (.rp [I ((gd s_ t81).tx), I ((gd s_ t81).lock.page), I ((gd s_ t81).lock.slot), I ((gd s_ t81).mode)]))) (e_ixM (f := Grant.cs) (l := s_) (i := t81) (ev_t rfl) (ev_t rfl) el67 c4) ?_
   refine .t _ (e_ldRA (ev_t rfl) ty75 rfl rfl) ?_
   obtain ⟨x5, e5, hm⟩ := hm.call
   refine .cl rfl rfl rfl rfl pl124 (R2.wk _) (locks_D1F_ok  (b_a1 := b_f_0) (b_a2 := b_f_1) (pb hb_f_0) (pb hb_f_1) e5) ?_
   rintro _ _ ⟨rfl, rfl⟩
   refine .nil ?_
   refine CdOK.condB (ev_t rfl) ?_ ?_
   ·intro c6; replace hm := hm.ifp c6
    refine .seq ?_
    refine .region ?_
    refine .m rfl ?_
    refine .a rfl ?_
    refine .nil ?_
    refine CdOK.ret ?_
    refine ⟨.inr rfl, _, rfl, h, _, _, rfl, rfl, hC, ((renFlV rfl) : RenV _ _ _ _ (VI (t81))), ?_⟩
    have hr := hm.ret; replace hr := Ev.ret hr; cases hr; exact ⟨rfl, rfl⟩
   ·intro c7; replace hm := hm.ifn c7
    refine .skip ?_
    refine CdOK.region ?_
    refine .t (VI ((w64 (t81 + 1)))) (e_bin (ev_t rfl) rfl rfl rfl) ?_
    refine .m rfl ?_
    refine .nil ?_
    refine .id ?_
    exact ⟨_, (w64 (t81 + 1)), Nat.lt_succ_self _, hm, (.cons rfl (.cons rfl (.cons rfl (.cons rfl .nil)))), rfl⟩
  ·intro c8; replace hm := hm.ifn c8
   refine .exit ?_
   refine .id ?_
   exact ⟨(), hm.ret, .nil, rfl⟩
 ·intro _ T0 hm
  refine CdOK.seq ?_
  refine .region ?_
  refine .t (VI ((-1))) (e_as rfl) ?_
  refine .nil ?_
  refine CdOK.ret ?_
  refine ⟨.inr rfl, _, rfl, h, _, _, rfl, rfl, hC, ((renFlV rfl) : RenV _ _ _ _ (VI ((-1)))), ?_⟩
  cases hm.ret; exact ⟨rfl, rfl⟩
/- slices.DeleteFunc[[]pagemend/api.Grant,pagemend/api.Grant] -/
def DeleteFuncD1.l1 (del0 : Int) (del1 : Lock) : Nat → Int → Int → (List Grant) → Option (Int × (List Grant))
  | 0, _, _, _ => none
  | kk9 + 1, i6, j7, bx8 => (if j7 < ((bx8).length : Int) then (if 0 < bx8.length then (if (0 : Int) ≤ j7 ∧ j7 < (bx8.length : Int) then (if (0 : Int) ≤ j7 ∧ j7 < (bx8.length : Int) then ((locks_D1F (gd bx8 j7) del0 del1).bind fun (x14 : Bool) => (if (!x14) = true then (if (0 : Int) ≤ i6 ∧ i6 < (bx8.length : Int) then (if (0 : Int) ≤ i6 ∧ i6 < (bx8.length : Int) then DeleteFuncD1.l1 del0 del1 kk9 (w64 (i6 + 1)) (w64 (j7 + 1)) (bx8.set (Int.toNat i6) (gd bx8 j7)) else none) else none) else DeleteFuncD1.l1 del0 del1 kk9 i6 (w64 (j7 + 1)) bx8)) else none) else none) else none) else some (i6, bx8))
def DeleteFuncD1 (s_ : (List Grant)) (del0 : Int) (del1 : Lock) : Option (List Grant) := ((IndexFuncD1 s_ del0 del1).bind fun (x1 : Int) => (if x1 = (-1) then some s_ else ((DeleteFuncD1.l1 del0 del1 FU x1 (w64 (x1 + 1)) s_).bind fun (s20 : (Int × (List Grant))) => (if 0 < s20.2.length then (if (0 : Int) ≤ s20.1 ∧ s20.1 < (s20.2.length : Int) then (if (0 : Int) ≤ s20.1 ∧ s20.1 < (s20.2.length : Int) ∧ s20.2.length ≤ (s20.2.length : Int) then (if (0 : Int) ≤ s20.1 ∧ s20.1 ≤ (s20.2.length : Int) ∧ s20.1 ≤ ((s20.2.take (Int.toNat s20.1)).length : Int) then some ((s20.2.take (Int.toNat s20.1)).take (Int.toNat s20.1)) else none) else none) else none) else none))))
theorem DeleteFuncD1_ok {h : Heap} {s_ : (List Grant)} {del0 : Int} {del1 : Lock} {A : Nat} (hA : h.length = A) {b_s_0 : Nat} {lv_s_0 : Bool} (hb_s_0 : h[b_s_0]? = some ⟨(s_.map Grant.cs).flatten, true, lv_s_0⟩) {b_del0 : Nat} (hb_del0 : h[b_del0]? = some ⟨[I (del0)], true, true⟩) {b_del1 : Nat} (hb_del1 : h[b_del1]? = some ⟨[I (del1.page), I (del1.slot)], true, true⟩) (hne_del0_del1 : b_del0 ≠ b_del1) (hne_del0_s_0 : b_del0 ≠ b_s_0) (hne_del1_s_0 : b_del1 ≠ b_s_0) {r : (List Grant)} (hm : DeleteFuncD1 s_ del0 del1 = some r) : FnOK Try.prog 181 [.o (.c (.g b_s_0 ((s_).length) 4 lv_s_0)), .o (.c (.fn 124 [(b_del0, 0), (b_del1, 0)]))] h (fun v h' => ∃ lv0 : Bool, v = .o (.c (.g (A + 0) ((r).length) 4 lv0)) ∧ h' = (kill h b_s_0) ++ [⟨(r.map Grant.cs).flatten, true, lv0⟩]) := by
 subst hA
 refine FnOK.mono (Q := fun v h' => ∃ L3, h' = (kill h b_s_0) ++ L3 ∧ (∃ lv0 : Bool, v = .o (.c (.g (h.length + 0) ((r).length) 4 lv0)) ∧ L3 = [⟨(r.map Grant.cs).flatten, true, lv0⟩])) ?_ (by rintro v h' ⟨L3, rfl, lv0, rfl, rfl⟩; exact ⟨lv0, rfl, rfl⟩)
 refine FnOK.bodyO (N := 42) (argsF := fun A => [.o (.c (.g (A + 0) ((s_).length) 4 lv_s_0)), .o (.c (.fn 124 [(b_del0, 0), (b_del1, 0)]))]) (L := [⟨(s_.map Grant.cs).flatten, true, lv_s_0⟩]) (H0 := (kill h b_s_0)) (Q := fun A v L3 => ∃ lv0 : Bool, v = .o (.c (.g (A + 0) ((r).length) 4 lv0)) ∧ L3 = [⟨(r.map Grant.cs).flatten, true, lv0⟩]) Try.func181 rfl rfl rfl (by simp [kill_len]) (Take.one hb_s_0 (R2.cons (.c (.g _ _)) (R2.cons (.refl _) (R2.nil _)))) (fun h hC hH => ?_)
 replace hb_del0 := (kill_ne hb_del0 hne_del0_s_0)
 rw [← hH] at hb_del0
 replace hb_del1 := (kill_ne hb_del1 hne_del1_s_0)
 rw [← hH] at hb_del1
 have hl_del0 := lt_of_get hb_del0
 have hl_del1 := lt_of_get hb_del1
 replace hm := Ev.of hm
 rw [DeleteFuncD1.eq_1] at hm
 show CdOK _ _ _ (look _ [(0, .o (.c (.g (h.length + 0) ((s_).length) 4 lv_s_0))), (1, .o (.c (.fn 124 [(b_del0, 0), (b_del1, 0)])))]) (h ++ ([⟨(s_.map Grant.cs).flatten, true, lv_s_0⟩] : Heap)) _
 refine .seq ?_
 refine .region ?_
 refine .t (.o (.c (.v (.slice none 0 0)))) (e_as rfl) ?_
 refine .nil ?_
 refine CdOK.seq ?_
 refine .region ?_
 refine .m rfl ?_
 refine .m rfl ?_
 obtain ⟨x1, e1, hm⟩ := hm.call
 refine .cl rfl rfl rfl rfl pl127 (R2.wk _) (FnOK.borrowB (bs := [b_del0, b_del1]) (L := [⟨[I (del0)], true, true⟩, ⟨[I (del1.page), I (del1.slot)], true, true⟩]) (Lent.two (by omega) (pb hb_del0) (pb hb_del1) rfl rfl) (R2.cons (BorVB.c (BorCB.g (bx rfl rfl) (by simp; try omega) (by simp) (fun _ => rfl) (fun _ => rfl))) (R2.cons (BorVB.c (BorCB.fn (R2.cons (y := (0, 0)) ⟨rfl, rfl⟩ (R2.cons (y := (1, 0)) ⟨rfl, rfl⟩ (R2.nil _))))) (R2.nil _))) (IndexFuncD1_ok (h := [⟨[I (del0)], true, true⟩, ⟨[I (del1.page), I (del1.slot)], true, true⟩])  (b_f_0 := 0) (hb_f_0 := rfl) (b_f_1 := 1) (hb_f_1 := rfl) e1) rfl) ?_
 rintro _ _ ⟨rfl, rfl⟩
 refine .a rfl ?_
 refine .nil ?_
 refine CdOK.seq ?_
 refine .seq ?_
 refine .region ?_
 refine .m rfl ?_
 refine .t (VB (decide (x1 = (-1)))) (e_eqK (ev_t rfl) rfl) ?_
 refine .nil ?_
 refine CdOK.condD (ev_t rfl) ?_ ?_
 ·intro c2; replace hm := hm.ifp c2
  refine .seq ?_
  refine .region ?_
  refine .m rfl ?_
  refine .a rfl ?_
  refine .nil ?_
  refine CdOK.ret ?_
  refine ⟨.inr rfl, _, rfl, h, _, [0], [⟨(s_.map Grant.cs).flatten, true, lv_s_0⟩], _, rfl, rfl, by decide, (.obj 0 rfl (renFl (flat_all (f := Grant.cs) (l := s_) (by intro x; rfl))) .nil), ((.o (.c (.gg 0 0 _ _ _ _ _ rfl (by first | rfl | (simp; done) | (dsimp only at *; simp only [List.length_take]; omega)) rfl))) : RenV _ _ _ _ (.o (.c (.g (h.length + 0) ((s_).length) 4 lv_s_0)))), ?_⟩
  cases hm.ret; exact ⟨lv_s_0, rfl, rfl⟩
 ·intro c3; replace hm := hm.ifn c3
  refine .skip ?_
  refine CdOK.seq ?_
  refine .seq ?_
  refine .region ?_
  refine .m rfl ?_
  refine .t (VI ((w64 (x1 + 1)))) (e_bin (ev_t rfl) rfl rfl rfl) ?_
  refine .a rfl ?_
  refine .nil ?_
  replace hm := hm.bnd
  refine CdOK.joinT (σ := (Int × (List Grant) × Bool)) (fun s => (s.1, s.2.1)) hm (fun s => [(0, .o (.c (.g (h.length + 0) ((s.2.1).length) 4 s.2.2))), (5, VI (s.1))]) (fun s => h ++ ([⟨(s.2.1.map Grant.cs).flatten, true, s.2.2⟩] : Heap)) ?_ ?_
  ·intro hm
   refine .block ?_
   refine .loopE (σ := (Int × Int × (List Grant) × Bool)) (fun k s => Ev (DeleteFuncD1.l1 del0 del1 k s.1 s.2.1 s.2.2.1) _) (fun s => [(0, .o (.c (.g (h.length + 0) ((s.2.2.1).length) 4 s.2.2.2))), (1, .o (.c (.fn 124 [(b_del0, 0), (b_del1, 0)]))), (5, VI (s.1)), (6, VI (s.2.1))]) (fun s => h ++ ([⟨(s.2.2.1.map Grant.cs).flatten, true, s.2.2.2⟩] : Heap)) FU (x1, (w64 (x1 + 1)), s_, lv_s_0) hm (.cons rfl (.cons rfl (.cons rfl (.cons rfl .nil)))) rfl ?_
   rintro kk9 ⟨i6, j7, bx8, bx8v⟩ T0 hm
   replace hm : Ev (DeleteFuncD1.l1 del0 del1 kk9 i6 j7 bx8) _ := hm
   cases kk9 with
   | zero => exact (Ev.non hm).elim
   | succ kk9 =>
   rw [DeleteFuncD1.l1.eq_2] at hm
   show CdOK _ _ _ (look T0 [(0, .o (.c (.g (h.length + 0) ((bx8).length) 4 bx8v))), (1, .o (.c (.fn 124 [(b_del0, 0), (b_del1, 0)]))), (5, VI (i6)), (6, VI (j7))]) (h ++ ([⟨(bx8.map Grant.cs).flatten, true, bx8v⟩] : Heap)) _
   refine .seq ?_
   refine .seq ?_
   refine .region ?_
   refine .m rfl ?_
   refine .m rfl ?_
   refine .t (VI (((bx8).length : Int))) (e_lenG (ev_t rfl) is67) ?_
   refine .t (VB (decide (j7 < ((bx8).length : Int)))) (e_bin (ev_t rfl) (ev_t rfl) rfl rfl) ?_
   refine .nil ?_
   refine CdOK.condD (ev_t rfl) ?_ ?_
   ·intro c10; replace hm := hm.ifp c10
    refine .skip ?_
    refine CdOK.seq ?_
    refine .block ?_
    refine .seq ?_
    obtain ⟨c11, hm⟩ := hm.ifs
    refine .glT (d := 0) (ev_t rfl) c11 (fun hlv => ?_)
    subst hlv
    skip
    refine .region ?_
    refine .m rfl ?_
    refine .m rfl ?_
    obtain ⟨c12, hm⟩ := hm.ifs
    refine .t (.o (.c (.ptr (h.length + 0) (0 + (Int.toNat j7) * 4)))) (e_ixg (ev_t rfl) (ev_t rfl) el67 c12) ?_
    obtain ⟨c13, hm⟩ := hm.ifs
    refine .t _ (e_ldgA (k := 4) (off := 0) (f := Grant.cs) (l := bx8) (i := j7) (ev_t rfl) ty75 (bx rfl rfl) (by intro x; rfl) c13 rfl rfl (by omega)) ?_
    refine .t (.o (.c (.ptr (h.length + 1) 0))) (e_allocN (L' := [⟨(bx8.map Grant.cs).flatten, true, true⟩, ⟨[I (0), I (0), I (0), I (0)], true, true⟩]) rfl zo75 rfl rfl) ?_
    refine .s0 rfl rfl (e_stN (L' := [⟨(bx8.map Grant.cs).flatten, true, true⟩, ⟨[I ((gd bx8 j7).tx), I ((gd bx8 j7).lock.page), I ((gd bx8 j7).lock.slot), I ((gd bx8 j7).mode)], true, true⟩]) rfl (ev_t rfl) (ev_t rfl) ty75 rfl rfl rfl rfl rfl) ?_
    refine .nil ?_
    refine CdOK.seq ?_
    refine .region ?_
    refine .m rfl ?_
    refine .t _ (e_ldbA (ev_t rfl) ty75 (bx rfl rfl) rfl rfl) ?_
    obtain ⟨x14, e14, hm⟩ := hm.call
    refine .cl rfl rfl rfl rfl pl124 (R2.wk _) (locks_D1F_ok  (b_a1 := b_del0) (b_a2 := b_del1) (pb hb_del0) (pb hb_del1) e14) ?_
    rintro _ _ ⟨rfl, rfl⟩
    refine .t (VB ((!x14))) (e_un (ev_t rfl) rfl) ?_
    refine .nil ?_
    refine CdOK.condB (ev_t rfl) ?_ ?_
    ·intro c15; replace hm := hm.ifp c15
     refine .seq ?_
     refine .region ?_
     refine .m rfl ?_
     refine .m rfl ?_
     refine .t _ (e_ldbA (ev_t rfl) ty75 (bx rfl rfl) rfl rfl) ?_
     obtain ⟨c16, hm⟩ := hm.ifs
     refine .t (.o (.c (.ptr (h.length + 0) (0 + (Int.toNat i6) * 4)))) (e_ixg (ev_t rfl) (ev_t rfl) el67 c16) ?_
     obtain ⟨c17, hm⟩ := hm.ifs
     refine .s0 rfl rfl (e_stg (k := 4) (off := 0) (f := Grant.cs) (l := bx8) (i := i6) (x := (gd bx8 j7)) (L' := [⟨((bx8.set (Int.toNat i6) (gd bx8 j7)).map Grant.cs).flatten, true, true⟩, ⟨[I ((gd bx8 j7).tx), I ((gd bx8 j7).lock.page), I ((gd bx8 j7).lock.slot), I ((gd bx8 j7).mode)], true, true⟩]) rfl (ev_t rfl) (ev_t rfl) ty75 rfl (by intro x; rfl) rfl rfl c17 (by omega) rfl) ?_
     refine .nil ?_
     refine CdOK.region ?_
     refine .m rfl ?_
     refine .t (VI ((w64 (i6 + 1)))) (e_bin (ev_t rfl) rfl rfl rfl) ?_
     refine .a rfl ?_
     refine .nil ?_
     refine CdOK.region ?_
     refine .m rfl ?_
     refine .t (VI ((w64 (j7 + 1)))) (e_bin (ev_t rfl) rfl rfl rfl) ?_
     refine .a rfl ?_
     refine .nil ?_
     refine .re (σ := [0]) (X := [(0, .o (.c (.g (h.length + 0) (((bx8.set (Int.toNat i6) (gd bx8 j7))).length) 4 true))), (1, .o (.c (.fn 124 [(b_del0, 0), (b_del1, 0)]))), (5, VI ((w64 (i6 + 1)))), (6, VI ((w64 (j7 + 1))))]) (L' := [⟨((bx8.set (Int.toNat i6) (gd bx8 j7)).map Grant.cs).flatten, true, true⟩]) rfl rfl hC (by decide) (.obj 0 rfl (renFl (flat_all (f := Grant.cs) (l := (bx8.set (Int.toNat i6) (gd bx8 j7))) (by intro x; rfl))) .nil) (.cons (.o (.c (.gg 0 0 _ _ _ _ _ rfl (by first | rfl | (simp; done) | (dsimp only at *; simp only [List.length_take]; omega)) rfl))) (.cons (.o (.c (.fn _ _ _ (R2.of ⟨rfl, .inl ⟨hl_del0, rfl⟩⟩ (R2.of ⟨rfl, .inl ⟨hl_del1, rfl⟩⟩ (R2.nil _)))))) (.cons (renFlV rfl) (.cons (renFlV rfl) .nil)))) ?_
     exact ⟨_, ((w64 (i6 + 1)), (w64 (j7 + 1)), (bx8.set (Int.toNat i6) (gd bx8 j7)), true), Nat.lt_succ_self _, hm, (.cons rfl (.cons rfl (.cons rfl (.cons rfl .nil)))), rfl⟩
    ·intro c18; replace hm := hm.ifn c18
     refine .skip ?_
     refine CdOK.region ?_
     refine .m rfl ?_
     refine .t (VI ((w64 (j7 + 1)))) (e_bin (ev_t rfl) rfl rfl rfl) ?_
     refine .a rfl ?_
     refine .nil ?_
     refine .re (σ := [0]) (X := [(0, .o (.c (.g (h.length + 0) ((bx8).length) 4 true))), (1, .o (.c (.fn 124 [(b_del0, 0), (b_del1, 0)]))), (5, VI (i6)), (6, VI ((w64 (j7 + 1))))]) (L' := [⟨(bx8.map Grant.cs).flatten, true, true⟩]) rfl rfl hC (by decide) (.obj 0 rfl (renFl (flat_all (f := Grant.cs) (l := bx8) (by intro x; rfl))) .nil) (.cons (.o (.c (.gg 0 0 _ _ _ _ _ rfl (by first | rfl | (simp; done) | (dsimp only at *; simp only [List.length_take]; omega)) rfl))) (.cons (.o (.c (.fn _ _ _ (R2.of ⟨rfl, .inl ⟨hl_del0, rfl⟩⟩ (R2.of ⟨rfl, .inl ⟨hl_del1, rfl⟩⟩ (R2.nil _)))))) (.cons (renFlV rfl) (.cons (renFlV rfl) .nil)))) ?_
     exact ⟨_, (i6, (w64 (j7 + 1)), bx8, true), Nat.lt_succ_self _, hm, (.cons rfl (.cons rfl (.cons rfl (.cons rfl .nil)))), rfl⟩
   ·intro c19; replace hm := hm.ifn c19
    refine .exit ?_
    refine .id ?_
    exact ⟨(i6, bx8, bx8v), hm.ret, (.cons rfl (.cons rfl .nil)), rfl⟩
  ·rintro ⟨i4, bx5, bx5v⟩ T0 hm
   refine CdOK.seq ?_
   obtain ⟨c21, hm⟩ := hm.ifs
   refine .glT (d := 0) (ev_t rfl) c21 (fun hlv => ?_)
   subst hlv
   skip
   refine .region ?_
   refine .m rfl ?_
   refine .m rfl ?_
   obtain ⟨c22, hm⟩ := hm.ifs
   refine .gtail (cs := (bx5.map Grant.cs).flatten) rfl rfl rfl slt67 (ev_t rfl) (ev_t rfl) (bx rfl rfl) c22 ?_
   obtain ⟨c23, hm⟩ := hm.ifs
   refine .gclear (f := Grant.cs) (l0 := bx5) (i := i4) (L' := [⟨((bx5.take (Int.toNat i4)).map Grant.cs).flatten, true, true⟩]) rfl rfl slt67 rfl (ev_t rfl) rfl (by intro x; rfl) c23 rfl ?_
   refine .nil ?_
   refine CdOK.seq ?_
   refine .region ?_
   refine .m rfl ?_
   refine .m rfl ?_
   obtain ⟨c24, hm⟩ := hm.ifs
   refine .ghead (f := Grant.cs) (l0 := (bx5.take (Int.toNat i4))) (i := i4) (L' := [⟨(((bx5.take (Int.toNat i4)).take (Int.toNat i4)).map Grant.cs).flatten, true, true⟩]) rfl rfl rfl slt67 rfl (ev_t rfl) (ev_t rfl) rfl (by intro x; rfl) c24 rfl ?_
   refine .a rfl ?_
   refine .nil ?_
   refine CdOK.ret ?_
   refine ⟨.inr rfl, _, rfl, h, _, [0], [⟨(((bx5.take (Int.toNat i4)).take (Int.toNat i4)).map Grant.cs).flatten, true, true⟩], _, rfl, rfl, by decide, (.obj 0 rfl (renFl (flat_all (f := Grant.cs) (l := ((bx5.take (Int.toNat i4)).take (Int.toNat i4))) (by intro x; rfl))) .nil), ((.o (.c (.gg 0 0 _ _ _ _ _ rfl (by first | rfl | (simp; done) | (dsimp only at *; simp only [List.length_take]; omega)) rfl))) : RenV _ _ _ _ (.o (.c (.g (h.length + 0) ((((bx5.take (Int.toNat i4)).take (Int.toNat i4))).length) 4 true)))), ?_⟩
   cases hm.ret; exact ⟨true, rfl, rfl⟩
/- pagemend/locks.Drop$2 -/
def locks_D2F (a0 : Grant) : Option Bool := some false
theorem locks_D2F_ok {h : Heap} {a0 : Grant}   {r : Bool} (hm : locks_D2F a0 = some r) : FnOK Try.prog 125 [.o (.agg [I (a0.tx), I (a0.lock.page), I (a0.lock.slot), I (a0.mode)])] h (fun v h' => v = VB (r) ∧ h' = h) := by
 refine FnOK.fin ?_
 refine FnOK.bodyC (N := 3) Try.func125 rfl rfl rfl (fun hC => ?_)
 replace hm := Ev.of hm
 rw [locks_D2F.eq_1] at hm
 show CdOK _ _ _ (look _ [(0, .o (.agg [I (a0.tx), I (a0.lock.page), I (a0.lock.slot), I (a0.mode)]))]) (h ++ ([] : Heap)) _
 refine .seq ?_
 refine .region ?_
 refine .t (.o (.c (.ptr (h.length + 0) 0))) (e_boxN (L' := [⟨[I (a0.tx), I (a0.lock.page), I (a0.lock.slot), I (a0.mode)], true, true⟩]) rfl (ev_t rfl) rfl rfl) ?_
 refine .t (VB (false)) (e_as rfl) ?_
 refine .nil ?_
 refine CdOK.seq ?_
 refine .region ?_
 refine .t (VB (false)) (e_as rfl) ?_
 refine .nil ?_
 refine CdOK.ret ?_
 refine ⟨.inr rfl, _, rfl, h, _, _, rfl, rfl, hC, ((renFlV rfl) : RenV _ _ _ _ (VB (false))), ?_⟩
 cases hm.ret; exact ⟨rfl, rfl⟩
/- slices.IndexFunc[[]pagemend/api.Grant,pagemend/api.Grant] -/
def IndexFuncD2.l1 (s_ : (List Grant)) : Nat → Int → Option (Sum Unit Int)
  | 0, _ => none
  | kk2 + 1, t81 => (if t81 < (s_.length : Int) then (if (0 : Int) ≤ t81 ∧ t81 < (s_.length : Int) then ((locks_D2F (gd s_ t81)).bind fun (x5 : Bool) => (if x5 = true then some (Sum.inr t81) else IndexFuncD2.l1 s_ kk2 (w64 (t81 + 1)))) else none) else some (Sum.inl ()))
def IndexFuncD2 (s_ : (List Grant)) : Option Int := ((IndexFuncD2.l1 s_ FU 0).bind fun (z : Sum Unit Int) => match z with | .inl (s9 : Unit) => some (-1) | .inr r => some r)
theorem IndexFuncD2_ok {h : Heap} {s_ : (List Grant)}   {r : Int} (hm : IndexFuncD2 s_ = some r) : FnOK Try.prog 127 [.o (.c (.L 4 (s_.map Grant.cs))), .o (.c (.fn 125 []))] h (fun v h' => v = VI (r) ∧ h' = h) := by
 refine FnOK.fin ?_
 refine FnOK.bodyC (N := 19) Try.func127 rfl rfl rfl (fun hC => ?_)
 replace hm := Ev.of hm
 rw [IndexFuncD2.eq_1] at hm
 show CdOK _ _ _ (look _ [(0, .o (.c (.L 4 (s_.map Grant.cs)))), (1, .o (.c (.fn 125 [])))]) (h ++ ([] : Heap)) _
 refine .seq ?_
 refine .region ?_
 refine .t (VI (0)) (e_as rfl) ?_
 refine .nil ?_
 refine CdOK.seq ?_
 refine .seq ?_
 refine .region ?_
 refine .m rfl ?_
 refine .t (VI ((s_.length : Int))) (e_lenM (ev_t rfl) is67) ?_
 refine .t (VI (0)) (e_mv rfl) ?_
 refine .nil ?_
 replace hm := hm.bnd
 refine CdOK.joinT (σ := Unit) (fun s => Sum.inl ()) hm (fun s => []) (fun s => h ++ ([] : Heap)) ?_ ?_
 ·intro hm
  refine .block ?_
  refine .loopE (σ := Int) (fun k s => Ev (IndexFuncD2.l1 s_ k s) _) (fun s => [(0, .o (.c (.L 4 (s_.map Grant.cs)))), (1, .o (.c (.fn 125 []))), (7, VI ((s_.length : Int))), (8, VI (s))]) (fun s => h ++ ([] : Heap)) FU 0 hm (.cons rfl (.cons rfl (.cons rfl (.cons rfl .nil)))) rfl ?_
  rintro kk2 t81 T0 hm
  replace hm : Ev (IndexFuncD2.l1 s_ kk2 t81) _ := hm
  cases kk2 with
  | zero => exact (Ev.non hm).elim
  | succ kk2 =>
  rw [IndexFuncD2.l1.eq_2] at hm
  show CdOK _ _ _ (look T0 [(0, .o (.c (.L 4 (s_.map Grant.cs)))), (1, .o (.c (.fn 125 []))), (7, VI ((s_.length : Int))), (8, VI (t81))]) (h ++ ([] : Heap)) _
  refine .seq ?_
  refine .region ?_
  refine .t (VB (decide (t81 < (s_.length : Int)))) (e_bin (ev_t rfl) (ev_t rfl) rfl rfl) ?_
  refine .nil ?_
  refine CdOK.seq ?_
  refine .condD (ev_t rfl) ?_ ?_
  ·intro c3; replace hm := hm.ifp c3
   refine .skip ?_
   refine CdOK.seq ?_
   refine .block ?_
   refine .seq ?_
   refine .region ?_
   refine .m rfl ?_
   refine .a rfl ?_
   refine .nil ?_
   refine CdOK.seq ?_
   refine .region ?_
   refine .m rfl ?_
   refine .m rfl ?_
   refine .m rfl ?_
   obtain ⟨c4, hm⟩ := hm.ifs
   refine .t (.o (.c (.rp [I ((gd s_ t81).tx), I ((gd s_ t81).lock.page), I ((gd s_ t81).lock.slot), I ((gd s_ t81).mode)]))) (e_ixM (f := Grant.cs) (l := s_) (i := t81) (ev_t rfl) (ev_t rfl) el67 c4) ?_
   refine .t _ (e_ldRA (ev_t rfl) ty75 rfl rfl) ?_
   obtain ⟨x5, e5, hm⟩ := hm.call
   refine .cl rfl rfl rfl rfl pl125 (R2.wk _) (locks_D2F_ok    e5) ?_
   rintro _ _ ⟨rfl, rfl⟩
   refine .nil ?_
   refine CdOK.condB (ev_t rfl) ?_ ?_
   ·intro c6; replace hm := hm.ifp c6
    refine .seq ?_
    refine .region ?_
    refine .m rfl ?_
    refine .a rfl ?_
    refine .nil ?_
    refine CdOK.ret ?_
    refine ⟨.inr rfl, _, rfl, h, _, _, rfl, rfl, hC, ((renFlV rfl) : RenV _ _ _ _ (VI (t81))), ?_⟩
    have hr := hm.ret; replace hr := Ev.ret hr; cases hr; exact ⟨rfl, rfl⟩
   ·intro c7; replace hm := hm.ifn c7
    refine .skip ?_
    refine CdOK.region ?_
    refine .t (VI ((w64 (t81 + 1)))) (e_bin (ev_t rfl) rfl rfl rfl) ?_
    refine .m rfl ?_
    refine .nil ?_
    refine .id ?_
    exact ⟨_, (w64 (t81 + 1)), Nat.lt_succ_self _, hm, (.cons rfl (.cons rfl (.cons rfl (.cons rfl .nil)))), rfl⟩
  ·intro c8; replace hm := hm.ifn c8
   refine .exit ?_
   refine .id ?_
   exact ⟨(), hm.ret, .nil, rfl⟩
 ·intro _ T0 hm
  refine CdOK.seq ?_
  refine .region ?_
  refine .t (VI ((-1))) (e_as rfl) ?_
  refine .nil ?_
  refine CdOK.ret ?_
  refine ⟨.inr rfl, _, rfl, h, _, _, rfl, rfl, hC, ((renFlV rfl) : RenV _ _ _ _ (VI ((-1)))), ?_⟩
  cases hm.ret; exact ⟨rfl, rfl⟩
/- slices.DeleteFunc[[]pagemend/api.Grant,pagemend/api.Grant] -/
def DeleteFuncD2.l1  : Nat → Int → Int → (List Grant) → Option (Int × (List Grant))
  | 0, _, _, _ => none
  | kk9 + 1, i6, j7, bx8 => (if j7 < ((bx8).length : Int) then (if 0 < bx8.length then (if (0 : Int) ≤ j7 ∧ j7 < (bx8.length : Int) then (if (0 : Int) ≤ j7 ∧ j7 < (bx8.length : Int) then ((locks_D2F (gd bx8 j7)).bind fun (x14 : Bool) => (if (!x14) = true then (if (0 : Int) ≤ i6 ∧ i6 < (bx8.length : Int) then (if (0 : Int) ≤ i6 ∧ i6 < (bx8.length : Int) then DeleteFuncD2.l1 kk9 (w64 (i6 + 1)) (w64 (j7 + 1)) (bx8.set (Int.toNat i6) (gd bx8 j7)) else none) else none) else DeleteFuncD2.l1 kk9 i6 (w64 (j7 + 1)) bx8)) else none) else none) else none) else some (i6, bx8))
def DeleteFuncD2 (s_ : (List Grant)) : Option (List Grant) := ((IndexFuncD2 s_).bind fun (x1 : Int) => (if x1 = (-1) then some s_ else ((DeleteFuncD2.l1 FU x1 (w64 (x1 + 1)) s_).bind fun (s20 : (Int × (List Grant))) => (if 0 < s20.2.length then (if (0 : Int) ≤ s20.1 ∧ s20.1 < (s20.2.length : Int) then (if (0 : Int) ≤ s20.1 ∧ s20.1 < (s20.2.length : Int) ∧ s20.2.length ≤ (s20.2.length : Int) then (if (0 : Int) ≤ s20.1 ∧ s20.1 ≤ (s20.2.length : Int) ∧ s20.1 ≤ ((s20.2.take (Int.toNat s20.1)).length : Int) then some ((s20.2.take (Int.toNat s20.1)).take (Int.toNat s20.1)) else none) else none) else none) else none))))
theorem DeleteFuncD2_ok {h : Heap} {s_ : (List Grant)} {A : Nat} (hA : h.length = A) {b_s_0 : Nat} {lv_s_0 : Bool} (hb_s_0 : h[b_s_0]? = some ⟨(s_.map Grant.cs).flatten, true, lv_s_0⟩)    {r : (List Grant)} (hm : DeleteFuncD2 s_ = some r) : FnOK Try.prog 181 [.o (.c (.g b_s_0 ((s_).length) 4 lv_s_0)), .o (.c (.fn 125 []))] h (fun v h' => ∃ lv0 : Bool, v = .o (.c (.g (A + 0) ((r).length) 4 lv0)) ∧ h' = (kill h b_s_0) ++ [⟨(r.map Grant.cs).flatten, true, lv0⟩]) := by
 subst hA
 refine FnOK.mono (Q := fun v h' => ∃ L3, h' = (kill h b_s_0) ++ L3 ∧ (∃ lv0 : Bool, v = .o (.c (.g (h.length + 0) ((r).length) 4 lv0)) ∧ L3 = [⟨(r.map Grant.cs).flatten, true, lv0⟩])) ?_ (by rintro v h' ⟨L3, rfl, lv0, rfl, rfl⟩; exact ⟨lv0, rfl, rfl⟩)
 refine FnOK.bodyO (N := 42) (argsF := fun A => [.o (.c (.g (A + 0) ((s_).length) 4 lv_s_0)), .o (.c (.fn 125 []))]) (L := [⟨(s_.map Grant.cs).flatten, true, lv_s_0⟩]) (H0 := (kill h b_s_0)) (Q := fun A v L3 => ∃ lv0 : Bool, v = .o (.c (.g (A + 0) ((r).length) 4 lv0)) ∧ L3 = [⟨(r.map Grant.cs).flatten, true, lv0⟩]) Try.func181 rfl rfl rfl (by simp [kill_len]) (Take.one hb_s_0 (R2.cons (.c (.g _ _)) (R2.cons (.refl _) (R2.nil _)))) (fun h hC hH => ?_)
 replace hm := Ev.of hm
 rw [DeleteFuncD2.eq_1] at hm
 show CdOK _ _ _ (look _ [(0, .o (.c (.g (h.length + 0) ((s_).length) 4 lv_s_0))), (1, .o (.c (.fn 125 [])))]) (h ++ ([⟨(s_.map Grant.cs).flatten, true, lv_s_0⟩] : Heap)) _
 refine .seq ?_
 refine .region ?_
 refine .t (.o (.c (.v (.slice none 0 0)))) (e_as rfl) ?_
 refine .nil ?_
 refine CdOK.seq ?_
 refine .region ?_
 refine .m rfl ?_
 refine .m rfl ?_
 obtain ⟨x1, e1, hm⟩ := hm.call
 refine .cl rfl rfl rfl rfl pl127 (R2.wk _) (FnOK.borrowB (bs := []) (L := []) Lent.nil (R2.cons (BorVB.c (BorCB.g (bx rfl rfl) (by simp; try omega) (by simp) (fun _ => rfl) (fun _ => rfl))) (R2.cons (BorVB.c (BorCB.fn (R2.nil _))) (R2.nil _))) (IndexFuncD2_ok (h := [])   e1) rfl) ?_
 rintro _ _ ⟨rfl, rfl⟩
 refine .a rfl ?_
 refine .nil ?_
 refine CdOK.seq ?_
 refine .seq ?_
 refine .region ?_
 refine .m rfl ?_
 refine .t (VB (decide (x1 = (-1)))) (e_eqK (ev_t rfl) rfl) ?_
 refine .nil ?_
 refine CdOK.condD (ev_t rfl) ?_ ?_
 ·intro c2; replace hm := hm.ifp c2
  refine .seq ?_
  refine .region ?_
  refine .m rfl ?_
  refine .a rfl ?_
  refine .nil ?_
  refine CdOK.ret ?_
  refine ⟨.inr rfl, _, rfl, h, _, [0], [⟨(s_.map Grant.cs).flatten, true, lv_s_0⟩], _, rfl, rfl, by decide, (.obj 0 rfl (renFl (flat_all (f := Grant.cs) (l := s_) (by intro x; rfl))) .nil), ((.o (.c (.gg 0 0 _ _ _ _ _ rfl (by first | rfl | (simp; done) | (dsimp only at *; simp only [List.length_take]; omega)) rfl))) : RenV _ _ _ _ (.o (.c (.g (h.length + 0) ((s_).length) 4 lv_s_0)))), ?_⟩
  cases hm.ret; exact ⟨lv_s_0, rfl, rfl⟩
 ·intro c3; replace hm := hm.ifn c3
  refine .skip ?_
  refine CdOK.seq ?_
  refine .seq ?_
  refine .region ?_
  refine .m rfl ?_
  refine .t (VI ((w64 (x1 + 1)))) (e_bin (ev_t rfl) rfl rfl rfl) ?_
  refine .a rfl ?_
  refine .nil ?_
  replace hm := hm.bnd
  refine CdOK.joinT (σ := (Int × (List Grant) × Bool)) (fun s => (s.1, s.2.1)) hm (fun s => [(0, .o (.c (.g (h.length + 0) ((s.2.1).length) 4 s.2.2))), (5, VI (s.1))]) (fun s => h ++ ([⟨(s.2.1.map Grant.cs).flatten, true, s.2.2⟩] : Heap)) ?_ ?_
  ·intro hm
   refine .block ?_
   refine .loopE (σ := (Int × Int × (List Grant) × Bool)) (fun k s => Ev (DeleteFuncD2.l1 k s.1 s.2.1 s.2.2.1) _) (fun s => [(0, .o (.c (.g (h.length + 0) ((s.2.2.1).length) 4 s.2.2.2))), (1, .o (.c (.fn 125 []))), (5, VI (s.1)), (6, VI (s.2.1))]) (fun s => h ++ ([⟨(s.2.2.1.map Grant.cs).flatten, true, s.2.2.2⟩] : Heap)) FU (x1, (w64 (x1 + 1)), s_, lv_s_0) hm (.cons rfl (.cons rfl (.cons rfl (.cons rfl .nil)))) rfl ?_
   rintro kk9 ⟨i6, j7, bx8, bx8v⟩ T0 hm
   replace hm : Ev (DeleteFuncD2.l1 kk9 i6 j7 bx8) _ := hm
   cases kk9 with
   | zero => exact (Ev.non hm).elim
   | succ kk9 =>
   rw [DeleteFuncD2.l1.eq_2] at hm
   show CdOK _ _ _ (look T0 [(0, .o (.c (.g (h.length + 0) ((bx8).length) 4 bx8v))), (1, .o (.c (.fn 125 []))), (5, VI (i6)), (6, VI (j7))]) (h ++ ([⟨(bx8.map Grant.cs).flatten, true, bx8v⟩] : Heap)) _
   refine .seq ?_
   refine .seq ?_
   refine .region ?_
   refine .m rfl ?_
   refine .m rfl ?_
   refine .t (VI (((bx8).length : Int))) (e_lenG (ev_t rfl) is67) ?_
   refine .t (VB (decide (j7 < ((bx8).length : Int)))) (e_bin (ev_t rfl) (ev_t rfl) rfl rfl) ?_
   refine .nil ?_
   refine CdOK.condD (ev_t rfl) ?_ ?_
   ·intro c10; replace hm := hm.ifp c10
    refine .skip ?_
    refine CdOK.seq ?_
    refine .block ?_
    refine .seq ?_
    obtain ⟨c11, hm⟩ := hm.ifs
    refine .glT (d := 0) (ev_t rfl) c11 (fun hlv => ?_)
    subst hlv
    skip
    refine .region ?_
    refine .m rfl ?_
    refine .m rfl ?_
    obtain ⟨c12, hm⟩ := hm.ifs
    refine .t (.o (.c (.ptr (h.length + 0) (0 + (Int.toNat j7) * 4)))) (e_ixg (ev_t rfl) (ev_t rfl) el67 c12) ?_
    obtain ⟨c13, hm⟩ := hm.ifs
    refine .t _ (e_ldgA (k := 4) (off := 0) (f := Grant.cs) (l := bx8) (i := j7) (ev_t rfl) ty75 (bx rfl rfl) (by intro x; rfl) c13 rfl rfl (by omega)) ?_
    refine .t (.o (.c (.ptr (h.length + 1) 0))) (e_allocN (L' := [⟨(bx8.map Grant.cs).flatten, true, true⟩, ⟨[I (0), I (0), I (0), I (0)], true, true⟩]) rfl zo75 rfl rfl) ?_
    refine .s0 rfl rfl (e_stN (L' := [⟨(bx8.map Grant.cs).flatten, true, true⟩, ⟨[I ((gd bx8 j7).tx), I ((gd bx8 j7).lock.page), I ((gd bx8 j7).lock.slot), I ((gd bx8 j7).mode)], true, true⟩]) rfl (ev_t rfl) (ev_t rfl) ty75 rfl rfl rfl rfl rfl) ?_
    refine .nil ?_
    refine CdOK.seq ?_
    refine .region ?_
    refine .m rfl ?_
    refine .t _ (e_ldbA (ev_t rfl) ty75 (bx rfl rfl) rfl rfl) ?_
    obtain ⟨x14, e14, hm⟩ := hm.call
    refine .cl rfl rfl rfl rfl pl125 (R2.wk _) (locks_D2F_ok    e14) ?_
    rintro _ _ ⟨rfl, rfl⟩
    refine .t (VB ((!x14))) (e_un (ev_t rfl) rfl) ?_
    refine .nil ?_
    refine CdOK.condB (ev_t rfl) ?_ ?_
    ·intro c15; replace hm := hm.ifp c15
     refine .seq ?_
     refine .region ?_
     refine .m rfl ?_
     refine .m rfl ?_
     refine .t _ (e_ldbA (ev_t rfl) ty75 (bx rfl rfl) rfl rfl) ?_
     obtain ⟨c16, hm⟩ := hm.ifs
     refine .t (.o (.c (.ptr (h.length + 0) (0 + (Int.toNat i6) * 4)))) (e_ixg (ev_t rfl) (ev_t rfl) el67 c16) ?_
     obtain ⟨c17, hm⟩ := hm.ifs
     refine .s0 rfl rfl (e_stg (k := 4) (off := 0) (f := Grant.cs) (l := bx8) (i := i6) (x := (gd bx8 j7)) (L' := [⟨((bx8.set (Int.toNat i6) (gd bx8 j7)).map Grant.cs).flatten, true, true⟩, ⟨[I ((gd bx8 j7).tx), I ((gd bx8 j7).lock.page), I ((gd bx8 j7).lock.slot), I ((gd bx8 j7).mode)], true, true⟩]) rfl (ev_t rfl) (ev_t rfl) ty75 rfl (by intro x; rfl) rfl rfl c17 (by omega) rfl) ?_
     refine .nil ?_
     refine CdOK.region ?_
     refine .m rfl ?_
     refine .t (VI ((w64 (i6 + 1)))) (e_bin (ev_t rfl) rfl rfl rfl) ?_
     refine .a rfl ?_
     refine .nil ?_
     refine CdOK.region ?_
     refine .m rfl ?_
     refine .t (VI ((w64 (j7 + 1)))) (e_bin (ev_t rfl) rfl rfl rfl) ?_
     refine .a rfl ?_
     refine .nil ?_
     refine .re (σ := [0]) (X := [(0, .o (.c (.g (h.length + 0) (((bx8.set (Int.toNat i6) (gd bx8 j7))).length) 4 true))), (1, .o (.c (.fn 125 []))), (5, VI ((w64 (i6 + 1)))), (6, VI ((w64 (j7 + 1))))]) (L' := [⟨((bx8.set (Int.toNat i6) (gd bx8 j7)).map Grant.cs).flatten, true, true⟩]) rfl rfl hC (by decide) (.obj 0 rfl (renFl (flat_all (f := Grant.cs) (l := (bx8.set (Int.toNat i6) (gd bx8 j7))) (by intro x; rfl))) .nil) (.cons (.o (.c (.gg 0 0 _ _ _ _ _ rfl (by first | rfl | (simp; done) | (dsimp only at *; simp only [List.length_take]; omega)) rfl))) (.cons (.o (.c (.fn _ _ _ (R2.nil _)))) (.cons (renFlV rfl) (.cons (renFlV rfl) .nil)))) ?_
     exact ⟨_, ((w64 (i6 + 1)), (w64 (j7 + 1)), (bx8.set (Int.toNat i6) (gd bx8 j7)), true), Nat.lt_succ_self _, hm, (.cons rfl (.cons rfl (.cons rfl (.cons rfl .nil)))), rfl⟩
    ·intro c18; replace hm := hm.ifn c18
     refine .skip ?_
     refine CdOK.region ?_
     refine .m rfl ?_
     refine .t (VI ((w64 (j7 + 1)))) (e_bin (ev_t rfl) rfl rfl rfl) ?_
     refine .a rfl ?_
     refine .nil ?_
     refine .re (σ := [0]) (X := [(0, .o (.c (.g (h.length + 0) ((bx8).length) 4 true))), (1, .o (.c (.fn 125 []))), (5, VI (i6)), (6, VI ((w64 (j7 + 1))))]) (L' := [⟨(bx8.map Grant.cs).flatten, true, true⟩]) rfl rfl hC (by decide) (.obj 0 rfl (renFl (flat_all (f := Grant.cs) (l := bx8) (by intro x; rfl))) .nil) (.cons (.o (.c (.gg 0 0 _ _ _ _ _ rfl (by first | rfl | (simp; done) | (dsimp only at *; simp only [List.length_take]; omega)) rfl))) (.cons (.o (.c (.fn _ _ _ (R2.nil _)))) (.cons (renFlV rfl) (.cons (renFlV rfl) .nil)))) ?_
     exact ⟨_, (i6, (w64 (j7 + 1)), bx8, true), Nat.lt_succ_self _, hm, (.cons rfl (.cons rfl (.cons rfl (.cons rfl .nil)))), rfl⟩
   ·intro c19; replace hm := hm.ifn c19
    refine .exit ?_
    refine .id ?_
    exact ⟨(i6, bx8, bx8v), hm.ret, (.cons rfl (.cons rfl .nil)), rfl⟩
  ·rintro ⟨i4, bx5, bx5v⟩ T0 hm
   refine CdOK.seq ?_
   obtain ⟨c21, hm⟩ := hm.ifs
   refine .glT (d := 0) (ev_t rfl) c21 (fun hlv => ?_)
   subst hlv
   skip
   refine .region ?_
   refine .m rfl ?_
   refine .m rfl ?_
   obtain ⟨c22, hm⟩ := hm.ifs
   refine .gtail (cs := (bx5.map Grant.cs).flatten) rfl rfl rfl slt67 (ev_t rfl) (ev_t rfl) (bx rfl rfl) c22 ?_
   obtain ⟨c23, hm⟩ := hm.ifs
   refine .gclear (f := Grant.cs) (l0 := bx5) (i := i4) (L' := [⟨((bx5.take (Int.toNat i4)).map Grant.cs).flatten, true, true⟩]) rfl rfl slt67 rfl (ev_t rfl) rfl (by intro x; rfl) c23 rfl ?_
   refine .nil ?_
   refine CdOK.seq ?_
   refine .region ?_
   refine .m rfl ?_
   refine .m rfl ?_
   obtain ⟨c24, hm⟩ := hm.ifs
   refine .ghead (f := Grant.cs) (l0 := (bx5.take (Int.toNat i4))) (i := i4) (L' := [⟨(((bx5.take (Int.toNat i4)).take (Int.toNat i4)).map Grant.cs).flatten, true, true⟩]) rfl rfl rfl slt67 rfl (ev_t rfl) (ev_t rfl) rfl (by intro x; rfl) c24 rfl ?_
   refine .a rfl ?_
   refine .nil ?_
   refine CdOK.ret ?_
   refine ⟨.inr rfl, _, rfl, h, _, [0], [⟨(((bx5.take (Int.toNat i4)).take (Int.toNat i4)).map Grant.cs).flatten, true, true⟩], _, rfl, rfl, by decide, (.obj 0 rfl (renFl (flat_all (f := Grant.cs) (l := ((bx5.take (Int.toNat i4)).take (Int.toNat i4))) (by intro x; rfl))) .nil), ((.o (.c (.gg 0 0 _ _ _ _ _ rfl (by first | rfl | (simp; done) | (dsimp only at *; simp only [List.length_take]; omega)) rfl))) : RenV _ _ _ _ (.o (.c (.g (h.length + 0) ((((bx5.take (Int.toNat i4)).take (Int.toNat i4))).length) 4 true)))), ?_⟩
   cases hm.ret; exact ⟨true, rfl, rfl⟩
/- pagemend/locks.Release$1 -/
def locks_R1F (g_ : Grant) (a1 : Int) : Option Bool := some (decide (g_.tx = a1))
theorem locks_R1F_ok {h : Heap} {g_ : Grant} {a1 : Int} {b_a1 : Nat} (hb_a1 : h[b_a1]? = some ⟨[I (a1)], true, true⟩)  {r : Bool} (hm : locks_R1F g_ a1 = some r) : FnOK Try.prog 111 [.o (.agg [I (g_.tx), I (g_.lock.page), I (g_.lock.slot), I (g_.mode)]), .o (.c (.ptr b_a1 0))] h (fun v h' => v = VB (r) ∧ h' = h) := by
 refine FnOK.fin ?_
 refine FnOK.bodyC (N := 8) Try.func111 rfl rfl rfl (fun hC => ?_)
 have hl_a1 := lt_of_get hb_a1
 replace hm := Ev.of hm
 rw [locks_R1F.eq_1] at hm
 show CdOK _ _ _ (look _ [(0, .o (.agg [I (g_.tx), I (g_.lock.page), I (g_.lock.slot), I (g_.mode)])), (1, .o (.c (.ptr b_a1 0)))]) (h ++ ([] : Heap)) _
 refine .seq ?_
 refine .region ?_
 refine .t (.o (.c (.ptr (h.length + 0) 0))) (e_boxN (L' := [⟨[I (g_.tx), I (g_.lock.page), I (g_.lock.slot), I (g_.mode)], true, true⟩]) rfl (ev_t rfl) rfl rfl) ?_
 refine .t (VB (false)) (e_as rfl) ?_
 refine .nil ?_
 refine CdOK.seq ?_
 refine .region ?_
 refine .t _ (e_fa' fa75_0 (ev_t rfl)) ?_
 refine .t _ (e_ldb1 (ev_t rfl) ty3 (bx rfl rfl) rfl) ?_
 refine .t _ (e_ldb1 (ev_t rfl) ty3 (pb hb_a1) rfl) ?_
 refine .t (VB (decide (g_.tx = a1))) (e_eqK (ev_t rfl) (ev_t rfl)) ?_
 refine .a rfl ?_
 refine .nil ?_
 refine CdOK.ret ?_
 refine ⟨.inr rfl, _, rfl, h, _, _, rfl, rfl, hC, ((renFlV rfl) : RenV _ _ _ _ (VB (decide (g_.tx = a1)))), ?_⟩
 cases hm.ret; exact ⟨rfl, rfl⟩
/- slices.IndexFunc[[]pagemend/api.Grant,pagemend/api.Grant] -/
def IndexFuncR1.l1 (s_ : (List Grant)) (f_0 : Int) : Nat → Int → Option (Sum Unit Int)
  | 0, _ => none
  | kk2 + 1, t81 => (if t81 < (s_.length : Int) then (if (0 : Int) ≤ t81 ∧ t81 < (s_.length : Int) then ((locks_R1F (gd s_ t81) f_0).bind fun (x5 : Bool) => (if x5 = true then some (Sum.inr t81) else IndexFuncR1.l1 s_ f_0 kk2 (w64 (t81 + 1)))) else none) else some (Sum.inl ()))
def IndexFuncR1 (s_ : (List Grant)) (f_0 : Int) : Option Int := ((IndexFuncR1.l1 s_ f_0 FU 0).bind fun (z : Sum Unit Int) => match z with | .inl (s9 : Unit) => some (-1) | .inr r => some r)
theorem IndexFuncR1_ok {h : Heap} {s_ : (List Grant)} {f_0 : Int} {b_f_0 : Nat} (hb_f_0 : h[b_f_0]? = some ⟨[I (f_0)], true, true⟩)  {r : Int} (hm : IndexFuncR1 s_ f_0 = some r) : FnOK Try.prog 127 [.o (.c (.L 4 (s_.map Grant.cs))), .o (.c (.fn 111 [(b_f_0, 0)]))] h (fun v h' => v = VI (r) ∧ h' = h) := by
 refine FnOK.fin ?_
 refine FnOK.bodyC (N := 19) Try.func127 rfl rfl rfl (fun hC => ?_)
 have hl_f_0 := lt_of_get hb_f_0
 replace hm := Ev.of hm
 rw [IndexFuncR1.eq_1] at hm
 show CdOK _ _ _ (look _ [(0, .o (.c (.L 4 (s_.map Grant.cs)))), (1, .o (.c (.fn 111 [(b_f_0, 0)])))]) (h ++ ([] : Heap)) _
 refine .seq ?_
 refine .region ?_
 refine .t (VI (0)) (e_as rfl) ?_
 refine .nil ?_
 refine CdOK.seq ?_
 refine .seq ?_
 refine .region ?_
 refine .m rfl ?_
 refine .t (VI ((s_.length : Int))) (e_lenM (ev_t rfl) is67) ?_
 refine .t (VI (0)) (e_mv rfl) ?_
 refine .nil ?_
 replace hm := hm.bnd
 refine CdOK.joinT (σ := Unit) (fun s => Sum.inl ()) hm (fun s => []) (fun s => h ++ ([] : Heap)) ?_ ?_
 ·intro hm
  refine .block ?_
  refine .loopE (σ := Int) (fun k s => Ev (IndexFuncR1.l1 s_ f_0 k s) _) (fun s => [(0, .o (.c (.L 4 (s_.map Grant.cs)))), (1, .o (.c (.fn 111 [(b_f_0, 0)]))), (7, VI ((s_.length : Int))), (8, VI (s))]) (fun s => h ++ ([] : Heap)) FU 0 hm (.cons rfl (.cons rfl (.cons rfl (.cons rfl .nil)))) rfl ?_
  rintro kk2 t81 T0 hm
  replace hm : Ev (IndexFuncR1.l1 s_ f_0 kk2 t81) _ := hm
  cases kk2 with
  | zero => exact (Ev.non hm).elim
  | succ kk2 =>
  rw [IndexFuncR1.l1.eq_2] at hm
  show CdOK _ _ _ (look T0 [(0, .o (.c (.L 4 (s_.map Grant.cs)))), (1, .o (.c (.fn 111 [(b_f_0, 0)]))), (7, VI ((s_.length : Int))), (8, VI (t81))]) (h ++ ([] : Heap)) _
  refine .seq ?_
  refine .region ?_
  refine .t (VB (decide (t81 < (s_.length : Int)))) (e_bin (ev_t rfl) (ev_t rfl) rfl rfl) ?_
  refine .nil ?_
  refine CdOK.seq ?_
  refine .condD (ev_t rfl) ?_ ?_
  ·intro c3; replace hm := hm.ifp c3
   refine .skip ?_
   refine CdOK.seq ?_
   refine .block ?_
   refine .seq ?_
   refine .region ?_
   refine .m rfl ?_
   refine .a rfl ?_
   refine .nil ?_
   refine CdOK.seq ?_
   refine .region ?_
   refine .m rfl ?_
   refine .m rfl ?_
   refine .m rfl ?_
   obtain ⟨c4, hm⟩ := hm.ifs
   refine .t (.o (.c (.rp [I ((gd s_ t81).tx), I ((gd s_ t81).lock.page), I ((gd s_ t81).lock.slot), I ((gd s_ t81).mode)]))) (e_ixM (f := Grant.cs) (l := s_) (i := t81) (ev_t rfl) (ev_t rfl) el67 c4) ?_
   refine .t _ (e_ldRA (ev_t rfl) ty75 rfl rfl) ?_
   obtain ⟨x5, e5, hm⟩ := hm.call
   refine .cl rfl rfl rfl rfl pl111 (R2.wk _) (locks_R1F_ok  (b_a1 := b_f_0) (pb hb_f_0) e5) ?_
   rintro _ _ ⟨rfl, rfl⟩
   refine .nil ?_
   refine CdOK.condB (ev_t rfl) ?_ ?_
   ·intro c6; replace hm := hm.ifp c6
    refine .seq ?_
    refine .region ?_
    refine .m rfl ?_
    refine .a rfl ?_
    refine .nil ?_
    refine CdOK.ret ?_
    refine ⟨.inr rfl, _, rfl, h, _, _, rfl, rfl, hC, ((renFlV rfl) : RenV _ _ _ _ (VI (t81))), ?_⟩
    have hr := hm.ret; replace hr := Ev.ret hr; cases hr; exact ⟨rfl, rfl⟩
   ·intro c7; replace hm := hm.ifn c7
    refine .skip ?_
    refine CdOK.region ?_
    refine .t (VI ((w64 (t81 + 1)))) (e_bin (ev_t rfl) rfl rfl rfl) ?_
    refine .m rfl ?_
    refine .nil ?_
    refine .id ?_
    exact ⟨_, (w64 (t81 + 1)), Nat.lt_succ_self _, hm, (.cons rfl (.cons rfl (.cons rfl (.cons rfl .nil)))), rfl⟩
  ·intro c8; replace hm := hm.ifn c8
   refine .exit ?_
   refine .id ?_
   exact ⟨(), hm.ret, .nil, rfl⟩
 ·intro _ T0 hm
  refine CdOK.seq ?_
  refine .region ?_
  refine .t (VI ((-1))) (e_as rfl) ?_
  refine .nil ?_
  refine CdOK.ret ?_
  refine ⟨.inr rfl, _, rfl, h, _, _, rfl, rfl, hC, ((renFlV rfl) : RenV _ _ _ _ (VI ((-1)))), ?_⟩
  cases hm.ret; exact ⟨rfl, rfl⟩
/- slices.DeleteFunc[[]pagemend/api.Grant,pagemend/api.Grant] -/
def DeleteFuncR1.l1 (del0 : Int) : Nat → Int → Int → (List Grant) → Option (Int × (List Grant))
  | 0, _, _, _ => none
  | kk9 + 1, i6, j7, bx8 => (if j7 < ((bx8).length : Int) then (if 0 < bx8.length then (if (0 : Int) ≤ j7 ∧ j7 < (bx8.length : Int) then (if (0 : Int) ≤ j7 ∧ j7 < (bx8.length : Int) then ((locks_R1F (gd bx8 j7) del0).bind fun (x14 : Bool) => (if (!x14) = true then (if (0 : Int) ≤ i6 ∧ i6 < (bx8.length : Int) then (if (0 : Int) ≤ i6 ∧ i6 < (bx8.length : Int) then DeleteFuncR1.l1 del0 kk9 (w64 (i6 + 1)) (w64 (j7 + 1)) (bx8.set (Int.toNat i6) (gd bx8 j7)) else none) else none) else DeleteFuncR1.l1 del0 kk9 i6 (w64 (j7 + 1)) bx8)) else none) else none) else none) else some (i6, bx8))
def DeleteFuncR1 (s_ : (List Grant)) (del0 : Int) : Option (List Grant) := ((IndexFuncR1 s_ del0).bind fun (x1 : Int) => (if x1 = (-1) then some s_ else ((DeleteFuncR1.l1 del0 FU x1 (w64 (x1 + 1)) s_).bind fun (s20 : (Int × (List Grant))) => (if 0 < s20.2.length then (if (0 : Int) ≤ s20.1 ∧ s20.1 < (s20.2.length : Int) then (if (0 : Int) ≤ s20.1 ∧ s20.1 < (s20.2.length : Int) ∧ s20.2.length ≤ (s20.2.length : Int) then (if (0 : Int) ≤ s20.1 ∧ s20.1 ≤ (s20.2.length : Int) ∧ s20.1 ≤ ((s20.2.take (Int.toNat s20.1)).length : Int) then some ((s20.2.take (Int.toNat s20.1)).take (Int.toNat s20.1)) else none) else none) else none) else none))))
theorem DeleteFuncR1_ok {h : Heap} {s_ : (List Grant)} {del0 : Int} {A : Nat} (hA : h.length = A) {b_s_0 : Nat} {lv_s_0 : Bool} (hb_s_0 : h[b_s_0]? = some ⟨(s_.map Grant.cs).flatten, true, lv_s_0⟩) {b_del0 : Nat} (hb_del0 : h[b_del0]? = some ⟨[I (del0)], true, true⟩)  (hne_del0_s_0 : b_del0 ≠ b_s_0) {r : (List Grant)} (hm : DeleteFuncR1 s_ del0 = some r) : FnOK Try.prog 181 [.o (.c (.g b_s_0 ((s_).length) 4 lv_s_0)), .o (.c (.fn 111 [(b_del0, 0)]))] h (fun v h' => ∃ lv0 : Bool, v = .o (.c (.g (A + 0) ((r).length) 4 lv0)) ∧ h' = (kill h b_s_0) ++ [⟨(r.map Grant.cs).flatten, true, lv0⟩]) := by
 subst hA
 refine FnOK.mono (Q := fun v h' => ∃ L3, h' = (kill h b_s_0) ++ L3 ∧ (∃ lv0 : Bool, v = .o (.c (.g (h.length + 0) ((r).length) 4 lv0)) ∧ L3 = [⟨(r.map Grant.cs).flatten, true, lv0⟩])) ?_ (by rintro v h' ⟨L3, rfl, lv0, rfl, rfl⟩; exact ⟨lv0, rfl, rfl⟩)
 refine FnOK.bodyO (N := 42) (argsF := fun A => [.o (.c (.g (A + 0) ((s_).length) 4 lv_s_0)), .o (.c (.fn 111 [(b_del0, 0)]))]) (L := [⟨(s_.map Grant.cs).flatten, true, lv_s_0⟩]) (H0 := (kill h b_s_0)) (Q := fun A v L3 => ∃ lv0 : Bool, v = .o (.c (.g (A + 0) ((r).length) 4 lv0)) ∧ L3 = [⟨(r.map Grant.cs).flatten, true, lv0⟩]) Try.func181 rfl rfl rfl (by simp [kill_len]) (Take.one hb_s_0 (R2.cons (.c (.g _ _)) (R2.cons (.refl _) (R2.nil _)))) (fun h hC hH => ?_)
 replace hb_del0 := (kill_ne hb_del0 hne_del0_s_0)
 rw [← hH] at hb_del0
 have hl_del0 := lt_of_get hb_del0
 replace hm := Ev.of hm
 rw [DeleteFuncR1.eq_1] at hm
 show CdOK _ _ _ (look _ [(0, .o (.c (.g (h.length + 0) ((s_).length) 4 lv_s_0))), (1, .o (.c (.fn 111 [(b_del0, 0)])))]) (h ++ ([⟨(s_.map Grant.cs).flatten, true, lv_s_0⟩] : Heap)) _
 refine .seq ?_
 refine .region ?_
 refine .t (.o (.c (.v (.slice none 0 0)))) (e_as rfl) ?_
 refine .nil ?_
 refine CdOK.seq ?_
 refine .region ?_
 refine .m rfl ?_
 refine .m rfl ?_
 obtain ⟨x1, e1, hm⟩ := hm.call
 refine .cl rfl rfl rfl rfl pl127 (R2.wk _) (FnOK.borrowB (bs := [b_del0]) (L := [⟨[I (del0)], true, true⟩]) (Lent.one (pb hb_del0) rfl) (R2.cons (BorVB.c (BorCB.g (bx rfl rfl) (by simp; try omega) (by simp) (fun _ => rfl) (fun _ => rfl))) (R2.cons (BorVB.c (BorCB.fn (R2.cons (y := (0, 0)) ⟨rfl, rfl⟩ (R2.nil _)))) (R2.nil _))) (IndexFuncR1_ok (h := [⟨[I (del0)], true, true⟩])  (b_f_0 := 0) (hb_f_0 := rfl) e1) rfl) ?_
 rintro _ _ ⟨rfl, rfl⟩
 refine .a rfl ?_
 refine .nil ?_
 refine CdOK.seq ?_
 refine .seq ?_
 refine .region ?_
 refine .m rfl ?_
 refine .t (VB (decide (x1 = (-1)))) (e_eqK (ev_t rfl) rfl) ?_
 refine .nil ?_
 refine CdOK.condD (ev_t rfl) ?_ ?_
 ·intro c2; replace hm := hm.ifp c2
  refine .seq ?_
  refine .region ?_
  refine .m rfl ?_
  refine .a rfl ?_
  refine .nil ?_
  refine CdOK.ret ?_
  refine ⟨.inr rfl, _, rfl, h, _, [0], [⟨(s_.map Grant.cs).flatten, true, lv_s_0⟩], _, rfl, rfl, by decide, (.obj 0 rfl (renFl (flat_all (f := Grant.cs) (l := s_) (by intro x; rfl))) .nil), ((.o (.c (.gg 0 0 _ _ _ _ _ rfl (by first | rfl | (simp; done) | (dsimp only at *; simp only [List.length_take]; omega)) rfl))) : RenV _ _ _ _ (.o (.c (.g (h.length + 0) ((s_).length) 4 lv_s_0)))), ?_⟩
  cases hm.ret; exact ⟨lv_s_0, rfl, rfl⟩
 ·intro c3; replace hm := hm.ifn c3
  refine .skip ?_
  refine CdOK.seq ?_
  refine .seq ?_
  refine .region ?_
  refine .m rfl ?_
  refine .t (VI ((w64 (x1 + 1)))) (e_bin (ev_t rfl) rfl rfl rfl) ?_
  refine .a rfl ?_
  refine .nil ?_
  replace hm := hm.bnd
  refine CdOK.joinT (σ := (Int × (List Grant) × Bool)) (fun s => (s.1, s.2.1)) hm (fun s => [(0, .o (.c (.g (h.length + 0) ((s.2.1).length) 4 s.2.2))), (5, VI (s.1))]) (fun s => h ++ ([⟨(s.2.1.map Grant.cs).flatten, true, s.2.2⟩] : Heap)) ?_ ?_
  ·intro hm
   refine .block ?_
   refine .loopE (σ := (Int × Int × (List Grant) × Bool)) (fun k s => Ev (DeleteFuncR1.l1 del0 k s.1 s.2.1 s.2.2.1) _) (fun s => [(0, .o (.c (.g (h.length + 0) ((s.2.2.1).length) 4 s.2.2.2))), (1, .o (.c (.fn 111 [(b_del0, 0)]))), (5, VI (s.1)), (6, VI (s.2.1))]) (fun s => h ++ ([⟨(s.2.2.1.map Grant.cs).flatten, true, s.2.2.2⟩] : Heap)) FU (x1, (w64 (x1 + 1)), s_, lv_s_0) hm (.cons rfl (.cons rfl (.cons rfl (.cons rfl .nil)))) rfl ?_
   rintro kk9 ⟨i6, j7, bx8, bx8v⟩ T0 hm
   replace hm : Ev (DeleteFuncR1.l1 del0 kk9 i6 j7 bx8) _ := hm
   cases kk9 with
   | zero => exact (Ev.non hm).elim
   | succ kk9 =>
   rw [DeleteFuncR1.l1.eq_2] at hm
   show CdOK _ _ _ (look T0 [(0, .o (.c (.g (h.length + 0) ((bx8).length) 4 bx8v))), (1, .o (.c (.fn 111 [(b_del0, 0)]))), (5, VI (i6)), (6, VI (j7))]) (h ++ ([⟨(bx8.map Grant.cs).flatten, true, bx8v⟩] : Heap)) _
   refine .seq ?_
   refine .seq ?_
   refine .region ?_
   refine .m rfl ?_
   refine .m rfl ?_
   refine .t (VI (((bx8).length : Int))) (e_lenG (ev_t rfl) is67) ?_
   refine .t (VB (decide (j7 < ((bx8).length : Int)))) (e_bin (ev_t rfl) (ev_t rfl) rfl rfl) ?_
   refine .nil ?_
   refine CdOK.condD (ev_t rfl) ?_ ?_
   ·intro c10; replace hm := hm.ifp c10
    refine .skip ?_
    refine CdOK.seq ?_
    refine .block ?_
    refine .seq ?_
    obtain ⟨c11, hm⟩ := hm.ifs
    refine .glT (d := 0) (ev_t rfl) c11 (fun hlv => ?_)
    subst hlv
    skip
    refine .region ?_
    refine .m rfl ?_
    refine .m rfl ?_
    obtain ⟨c12, hm⟩ := hm.ifs
    refine .t (.o (.c (.ptr (h.length + 0) (0 + (Int.toNat j7) * 4)))) (e_ixg (ev_t rfl) (ev_t rfl) el67 c12) ?_
    obtain ⟨c13, hm⟩ := hm.ifs
    refine .t _ (e_ldgA (k := 4) (off := 0) (f := Grant.cs) (l := bx8) (i := j7) (ev_t rfl) ty75 (bx rfl rfl) (by intro x; rfl) c13 rfl rfl (by omega)) ?_
    refine .t (.o (.c (.ptr (h.length + 1) 0))) (e_allocN (L' := [⟨(bx8.map Grant.cs).flatten, true, true⟩, ⟨[I (0), I (0), I (0), I (0)], true, true⟩]) rfl zo75 rfl rfl) ?_
    refine .s0 rfl rfl (e_stN (L' := [⟨(bx8.map Grant.cs).flatten, true, true⟩, ⟨[I ((gd bx8 j7).tx), I ((gd bx8 j7).lock.page), I ((gd bx8 j7).lock.slot), I ((gd bx8 j7).mode)], true, true⟩]) rfl (ev_t rfl) (ev_t rfl) ty75 rfl rfl rfl rfl rfl) ?_
    refine .nil ?_
    refine CdOK.seq ?_
    refine .region ?_
    refine .m rfl ?_
    refine .t _ (e_ldbA (ev_t rfl) ty75 (bx rfl rfl) rfl rfl) ?_
    obtain ⟨x14, e14, hm⟩ := hm.call
    refine .cl rfl rfl rfl rfl pl111 (R2.wk _) (locks_R1F_ok  (b_a1 := b_del0) (pb hb_del0) e14) ?_
    rintro _ _ ⟨rfl, rfl⟩
    refine .t (VB ((!x14))) (e_un (ev_t rfl) rfl) ?_
    refine .nil ?_
    refine CdOK.condB (ev_t rfl) ?_ ?_
    ·intro c15; replace hm := hm.ifp c15
     refine .seq ?_
     refine .region ?_
     refine .m rfl ?_
     refine .m rfl ?_
     refine .t _ (e_ldbA (ev_t rfl) ty75 (bx rfl rfl) rfl rfl) ?_
     obtain ⟨c16, hm⟩ := hm.ifs
     refine .t (.o (.c (.ptr (h.length + 0) (0 + (Int.toNat i6) * 4)))) (e_ixg (ev_t rfl) (ev_t rfl) el67 c16) ?_
     obtain ⟨c17, hm⟩ := hm.ifs
     refine .s0 rfl rfl (e_stg (k := 4) (off := 0) (f := Grant.cs) (l := bx8) (i := i6) (x := (gd bx8 j7)) (L' := [⟨((bx8.set (Int.toNat i6) (gd bx8 j7)).map Grant.cs).flatten, true, true⟩, ⟨[I ((gd bx8 j7).tx), I ((gd bx8 j7).lock.page), I ((gd bx8 j7).lock.slot), I ((gd bx8 j7).mode)], true, true⟩]) rfl (ev_t rfl) (ev_t rfl) ty75 rfl (by intro x; rfl) rfl rfl c17 (by omega) rfl) ?_
     refine .nil ?_
     refine CdOK.region ?_
     refine .m rfl ?_
     refine .t (VI ((w64 (i6 + 1)))) (e_bin (ev_t rfl) rfl rfl rfl) ?_
     refine .a rfl ?_
     refine .nil ?_
     refine CdOK.region ?_
     refine .m rfl ?_
     refine .t (VI ((w64 (j7 + 1)))) (e_bin (ev_t rfl) rfl rfl rfl) ?_
     refine .a rfl ?_
     refine .nil ?_
     refine .re (σ := [0]) (X := [(0, .o (.c (.g (h.length + 0) (((bx8.set (Int.toNat i6) (gd bx8 j7))).length) 4 true))), (1, .o (.c (.fn 111 [(b_del0, 0)]))), (5, VI ((w64 (i6 + 1)))), (6, VI ((w64 (j7 + 1))))]) (L' := [⟨((bx8.set (Int.toNat i6) (gd bx8 j7)).map Grant.cs).flatten, true, true⟩]) rfl rfl hC (by decide) (.obj 0 rfl (renFl (flat_all (f := Grant.cs) (l := (bx8.set (Int.toNat i6) (gd bx8 j7))) (by intro x; rfl))) .nil) (.cons (.o (.c (.gg 0 0 _ _ _ _ _ rfl (by first | rfl | (simp; done) | (dsimp only at *; simp only [List.length_take]; omega)) rfl))) (.cons (.o (.c (.fn _ _ _ (R2.of ⟨rfl, .inl ⟨hl_del0, rfl⟩⟩ (R2.nil _))))) (.cons (renFlV rfl) (.cons (renFlV rfl) .nil)))) ?_
     exact ⟨_, ((w64 (i6 + 1)), (w64 (j7 + 1)), (bx8.set (Int.toNat i6) (gd bx8 j7)), true), Nat.lt_succ_self _, hm, (.cons rfl (.cons rfl (.cons rfl (.cons rfl .nil)))), rfl⟩
    ·intro c18; replace hm := hm.ifn c18
     refine .skip ?_
     refine CdOK.region ?_
     refine .m rfl ?_
     refine .t (VI ((w64 (j7 + 1)))) (e_bin (ev_t rfl) rfl rfl rfl) ?_
     refine .a rfl ?_
     refine .nil ?_
     refine .re (σ := [0]) (X := [(0, .o (.c (.g (h.length + 0) ((bx8).length) 4 true))), (1, .o (.c (.fn 111 [(b_del0, 0)]))), (5, VI (i6)), (6, VI ((w64 (j7 + 1))))]) (L' := [⟨(bx8.map Grant.cs).flatten, true, true⟩]) rfl rfl hC (by decide) (.obj 0 rfl (renFl (flat_all (f := Grant.cs) (l := bx8) (by intro x; rfl))) .nil) (.cons (.o (.c (.gg 0 0 _ _ _ _ _ rfl (by first | rfl | (simp; done) | (dsimp only at *; simp only [List.length_take]; omega)) rfl))) (.cons (.o (.c (.fn _ _ _ (R2.of ⟨rfl, .inl ⟨hl_del0, rfl⟩⟩ (R2.nil _))))) (.cons (renFlV rfl) (.cons (renFlV rfl) .nil)))) ?_
     exact ⟨_, (i6, (w64 (j7 + 1)), bx8, true), Nat.lt_succ_self _, hm, (.cons rfl (.cons rfl (.cons rfl (.cons rfl .nil)))), rfl⟩
   ·intro c19; replace hm := hm.ifn c19
    refine .exit ?_
    refine .id ?_
    exact ⟨(i6, bx8, bx8v), hm.ret, (.cons rfl (.cons rfl .nil)), rfl⟩
  ·rintro ⟨i4, bx5, bx5v⟩ T0 hm
   refine CdOK.seq ?_
   obtain ⟨c21, hm⟩ := hm.ifs
   refine .glT (d := 0) (ev_t rfl) c21 (fun hlv => ?_)
   subst hlv
   skip
   refine .region ?_
   refine .m rfl ?_
   refine .m rfl ?_
   obtain ⟨c22, hm⟩ := hm.ifs
   refine .gtail (cs := (bx5.map Grant.cs).flatten) rfl rfl rfl slt67 (ev_t rfl) (ev_t rfl) (bx rfl rfl) c22 ?_
   obtain ⟨c23, hm⟩ := hm.ifs
   refine .gclear (f := Grant.cs) (l0 := bx5) (i := i4) (L' := [⟨((bx5.take (Int.toNat i4)).map Grant.cs).flatten, true, true⟩]) rfl rfl slt67 rfl (ev_t rfl) rfl (by intro x; rfl) c23 rfl ?_
   refine .nil ?_
   refine CdOK.seq ?_
   refine .region ?_
   refine .m rfl ?_
   refine .m rfl ?_
   obtain ⟨c24, hm⟩ := hm.ifs
   refine .ghead (f := Grant.cs) (l0 := (bx5.take (Int.toNat i4))) (i := i4) (L' := [⟨(((bx5.take (Int.toNat i4)).take (Int.toNat i4)).map Grant.cs).flatten, true, true⟩]) rfl rfl rfl slt67 rfl (ev_t rfl) (ev_t rfl) rfl (by intro x; rfl) c24 rfl ?_
   refine .a rfl ?_
   refine .nil ?_
   refine CdOK.ret ?_
   refine ⟨.inr rfl, _, rfl, h, _, [0], [⟨(((bx5.take (Int.toNat i4)).take (Int.toNat i4)).map Grant.cs).flatten, true, true⟩], _, rfl, rfl, by decide, (.obj 0 rfl (renFl (flat_all (f := Grant.cs) (l := ((bx5.take (Int.toNat i4)).take (Int.toNat i4))) (by intro x; rfl))) .nil), ((.o (.c (.gg 0 0 _ _ _ _ _ rfl (by first | rfl | (simp; done) | (dsimp only at *; simp only [List.length_take]; omega)) rfl))) : RenV _ _ _ _ (.o (.c (.g (h.length + 0) ((((bx5.take (Int.toNat i4)).take (Int.toNat i4))).length) 4 true)))), ?_⟩
   cases hm.ret; exact ⟨true, rfl, rfl⟩
/- pagemend/locks.without -/
def locks_withoutC (t_ : Locks) (waiting0 : Int) : Option Locks := ((locks_Valid t_).bind fun (x1 : Bool) => (if (!x1) = true then some t_ else ((locks_own t_).bind fun (x4 : Locks) => ((DeleteFuncC1 x4.held).bind fun (x7 : (List Grant)) => ((DeleteFuncC2 x4.waiting waiting0).bind fun (x9 : (List Grant)) => ((locks_settle (⟨x7, x9⟩ : Locks)).bind fun (x11 : Locks) => some x11))))))
theorem locks_withoutC_ok {h : Heap} {t_ : Locks} {waiting0 : Int} {b_waiting0 : Nat} (hb_waiting0 : h[b_waiting0]? = some ⟨[I (waiting0)], true, true⟩)  {r : Locks} (hm : locks_withoutC t_ waiting0 = some r) : FnOK Try.prog 112 [.o (.agg [.L 4 (t_.held.map Grant.cs), .L 4 (t_.waiting.map Grant.cs)]), .o (.c (.fn 129 [])), .o (.c (.fn 130 [(b_waiting0, 0)]))] h (fun v h' => v = .o (.agg [.L 4 (r.held.map Grant.cs), .L 4 (r.waiting.map Grant.cs)]) ∧ h' = h) := by
 refine FnOK.fin ?_
 refine FnOK.bodyC (N := 25) Try.func112 rfl rfl rfl (fun hC => ?_)
 have hl_waiting0 := lt_of_get hb_waiting0
 replace hm := Ev.of hm
 rw [locks_withoutC.eq_1] at hm
 show CdOK _ _ _ (look _ [(0, .o (.agg [.L 4 (t_.held.map Grant.cs), .L 4 (t_.waiting.map Grant.cs)])), (1, .o (.c (.fn 129 []))), (2, .o (.c (.fn 130 [(b_waiting0, 0)])))]) (h ++ ([] : Heap)) _
 refine .seq ?_
 refine .region ?_
 refine .t (.o (.c (.ptr (h.length + 0) 0))) (e_boxN (L' := [⟨[.L 4 (t_.held.map Grant.cs), .L 4 (t_.waiting.map Grant.cs)], true, true⟩]) rfl (ev_t rfl) rfl rfl) ?_
 refine .t (.o (.c (.ptr (h.length + 1) 0))) (e_allocN (L' := [⟨[.L 4 (t_.held.map Grant.cs), .L 4 (t_.waiting.map Grant.cs)], true, true⟩, ⟨[.v (.slice none 0 0), .v (.slice none 0 0)], true, true⟩]) rfl zo69 rfl rfl) ?_
 refine .nil ?_
 refine CdOK.seq ?_
 refine .seq ?_
 refine .region ?_
 refine .t _ (e_ldbA (ev_t rfl) ty69 (bx rfl rfl) rfl rfl) ?_
 obtain ⟨x1, e1, hm⟩ := hm.call
 refine .cl rfl rfl rfl rfl pl44 (R2.wk _) (locks_Valid_ok    e1) ?_
 rintro _ _ ⟨rfl, rfl⟩
 refine .t (VB ((!x1))) (e_un (ev_t rfl) rfl) ?_
 refine .nil ?_
 refine CdOK.condB (ev_t rfl) ?_ ?_
 ·intro c2; replace hm := hm.ifp c2
  refine .seq ?_
  refine .region ?_
  refine .t _ (e_ldbA (ev_t rfl) ty69 (bx rfl rfl) rfl rfl) ?_
  refine .s0 rfl rfl (e_stN (L' := [⟨[.L 4 (t_.held.map Grant.cs), .L 4 (t_.waiting.map Grant.cs)], true, true⟩, ⟨[.L 4 (t_.held.map Grant.cs), .L 4 (t_.waiting.map Grant.cs)], true, true⟩]) rfl (ev_t rfl) (ev_t rfl) ty69 rfl rfl rfl rfl rfl) ?_
  refine .nil ?_
  refine CdOK.ret ?_
  refine ⟨.inr rfl, _, (resA_c (look_find rfl) (eLoad_A ty69 (bx rfl rfl) rfl rfl rfl) resA_n), h, _, _, rfl, rfl, hC, ((renFlV rfl) : RenV _ _ _ _ (.o (.agg [.L 4 (t_.held.map Grant.cs), .L 4 (t_.waiting.map Grant.cs)]))), ?_⟩
  cases hm.ret; exact ⟨rfl, rfl⟩
 ·intro c3; replace hm := hm.ifn c3
  refine .skip ?_
  refine CdOK.seq ?_
  refine .region ?_
  refine .t _ (e_ldbA (ev_t rfl) ty69 (bx rfl rfl) rfl rfl) ?_
  obtain ⟨x4, e4, hm⟩ := hm.call
  refine .cl rfl rfl rfl rfl pl107 (R2.wk _) (locks_own_ok (A := (h.length + 2)) (hA := lenN rfl rfl)    (hm := e4)) ?_
  rintro _ _ ⟨lv5, lv6, rfl, rfl⟩
  rw [show (h ++ ([⟨[.L 4 (t_.held.map Grant.cs), .L 4 (t_.waiting.map Grant.cs)], true, true⟩, ⟨[.v (.slice none 0 0), .v (.slice none 0 0)], true, true⟩] : Heap)) ++ [⟨(x4.held.map Grant.cs).flatten, true, lv5⟩, ⟨(x4.waiting.map Grant.cs).flatten, true, lv6⟩] = h ++ ([⟨[.L 4 (t_.held.map Grant.cs), .L 4 (t_.waiting.map Grant.cs)], true, true⟩, ⟨[.v (.slice none 0 0), .v (.slice none 0 0)], true, true⟩, ⟨(x4.held.map Grant.cs).flatten, true, lv5⟩, ⟨(x4.waiting.map Grant.cs).flatten, true, lv6⟩] : Heap) from apnd rfl]
  refine .s0 rfl rfl (e_stN (L' := [⟨[.g (h.length + 2) ((x4.held).length) 4 lv5, .g (h.length + 3) ((x4.waiting).length) 4 lv6], true, true⟩, ⟨[.v (.slice none 0 0), .v (.slice none 0 0)], true, true⟩, ⟨(x4.held.map Grant.cs).flatten, true, lv5⟩, ⟨(x4.waiting.map Grant.cs).flatten, true, lv6⟩]) rfl (ev_t rfl) (ev_t rfl) ty69 rfl rfl rfl rfl rfl) ?_
  refine .nil ?_
  refine CdOK.seq ?_
  refine .region ?_
  refine .t _ (e_fa' fa69_0 (ev_t rfl)) ?_
  refine .t _ (e_ldb1 (ev_t rfl) ty67 (bx rfl rfl) rfl) ?_
  refine .m rfl ?_
  obtain ⟨x7, e7, hm⟩ := hm.call
  refine .cl rfl rfl rfl rfl pl181 (R2.wk _) (DeleteFuncC1_ok (A := (h.length + 4)) (hA := lenN rfl rfl) (b_s_0 := (h.length + 2)) (hb_s_0 := bx rfl rfl)   (hm := e7)) ?_
  rintro _ _ ⟨lv8, rfl, rfl⟩
  rw [show (kill (h ++ ([⟨[.g (h.length + 2) ((x4.held).length) 4 lv5, .g (h.length + 3) ((x4.waiting).length) 4 lv6], true, true⟩, ⟨[.v (.slice none 0 0), .v (.slice none 0 0)], true, true⟩, ⟨(x4.held.map Grant.cs).flatten, true, lv5⟩, ⟨(x4.waiting.map Grant.cs).flatten, true, lv6⟩] : Heap)) (h.length + 2)) ++ [⟨(x7.map Grant.cs).flatten, true, lv8⟩] = h ++ ([⟨[.g (h.length + 2) ((x4.held).length) 4 lv5, .g (h.length + 3) ((x4.waiting).length) 4 lv6], true, true⟩, ⟨[.v (.slice none 0 0), .v (.slice none 0 0)], true, true⟩, ⟨(x4.held.map Grant.cs).flatten, true, false⟩, ⟨(x4.waiting.map Grant.cs).flatten, true, lv6⟩, ⟨(x7.map Grant.cs).flatten, true, lv8⟩] : Heap) from apndK rfl rfl]
  refine .t _ (e_fa' fa69_0 (ev_t rfl)) ?_
  refine .s0 rfl rfl (e_stN (L' := [⟨[.g (h.length + 4) ((x7).length) 4 lv8, .g (h.length + 3) ((x4.waiting).length) 4 lv6], true, true⟩, ⟨[.v (.slice none 0 0), .v (.slice none 0 0)], true, true⟩, ⟨(x4.held.map Grant.cs).flatten, true, false⟩, ⟨(x4.waiting.map Grant.cs).flatten, true, lv6⟩, ⟨(x7.map Grant.cs).flatten, true, lv8⟩]) rfl (ev_t rfl) (ev_t rfl) ty67 rfl rfl rfl rfl rfl) ?_
  refine .nil ?_
  refine CdOK.seq ?_
  refine .region ?_
  refine .t _ (e_fa' fa69_1 (ev_t rfl)) ?_
  refine .t _ (e_ldb1 (ev_t rfl) ty67 (bx rfl rfl) rfl) ?_
  refine .m rfl ?_
  obtain ⟨x9, e9, hm⟩ := hm.call
  refine .cl rfl rfl rfl rfl pl181 (R2.wk _) (DeleteFuncC2_ok (A := (h.length + 5)) (hA := lenN rfl rfl) (b_s_0 := (h.length + 3)) (hb_s_0 := bx rfl rfl) (hne_del0_s_0 := by omega) (b_del0 := b_waiting0) (hb_del0 := (pb hb_waiting0)) (hm := e9)) ?_
  rintro _ _ ⟨lv10, rfl, rfl⟩
  rw [show (kill (h ++ ([⟨[.g (h.length + 4) ((x7).length) 4 lv8, .g (h.length + 3) ((x4.waiting).length) 4 lv6], true, true⟩, ⟨[.v (.slice none 0 0), .v (.slice none 0 0)], true, true⟩, ⟨(x4.held.map Grant.cs).flatten, true, false⟩, ⟨(x4.waiting.map Grant.cs).flatten, true, lv6⟩, ⟨(x7.map Grant.cs).flatten, true, lv8⟩] : Heap)) (h.length + 3)) ++ [⟨(x9.map Grant.cs).flatten, true, lv10⟩] = h ++ ([⟨[.g (h.length + 4) ((x7).length) 4 lv8, .g (h.length + 3) ((x4.waiting).length) 4 lv6], true, true⟩, ⟨[.v (.slice none 0 0), .v (.slice none 0 0)], true, true⟩, ⟨(x4.held.map Grant.cs).flatten, true, false⟩, ⟨(x4.waiting.map Grant.cs).flatten, true, false⟩, ⟨(x7.map Grant.cs).flatten, true, lv8⟩, ⟨(x9.map Grant.cs).flatten, true, lv10⟩] : Heap) from apndK rfl rfl]
  refine .t _ (e_fa' fa69_1 (ev_t rfl)) ?_
  refine .s0 rfl rfl (e_stN (L' := [⟨[.g (h.length + 4) ((x7).length) 4 lv8, .g (h.length + 5) ((x9).length) 4 lv10], true, true⟩, ⟨[.v (.slice none 0 0), .v (.slice none 0 0)], true, true⟩, ⟨(x4.held.map Grant.cs).flatten, true, false⟩, ⟨(x4.waiting.map Grant.cs).flatten, true, false⟩, ⟨(x7.map Grant.cs).flatten, true, lv8⟩, ⟨(x9.map Grant.cs).flatten, true, lv10⟩]) rfl (ev_t rfl) (ev_t rfl) ty67 rfl rfl rfl rfl rfl) ?_
  refine .nil ?_
  refine CdOK.seq ?_
  refine .region ?_
  refine .t _ (e_ldbA (ev_t rfl) ty69 (bx rfl rfl) rfl rfl) ?_
  obtain ⟨x11, e11, hm⟩ := hm.call
  refine .cl rfl rfl rfl rfl pl110 (R2.wk _) (locks_settle_ok (A := (h.length + 6)) (hA := lenN rfl rfl) (b_t_0 := (h.length + 4)) (hb_t_0 := bx rfl rfl) (b_t_1 := (h.length + 5)) (hb_t_1 := bx rfl rfl) (hne_t_0_t_1 := by omega)  (hm := e11)) ?_
  rintro _ _ ⟨rfl, rfl⟩
  rw [show (kill (kill (h ++ ([⟨[.g (h.length + 4) ((x7).length) 4 lv8, .g (h.length + 5) ((x9).length) 4 lv10], true, true⟩, ⟨[.v (.slice none 0 0), .v (.slice none 0 0)], true, true⟩, ⟨(x4.held.map Grant.cs).flatten, true, false⟩, ⟨(x4.waiting.map Grant.cs).flatten, true, false⟩, ⟨(x7.map Grant.cs).flatten, true, lv8⟩, ⟨(x9.map Grant.cs).flatten, true, lv10⟩] : Heap)) (h.length + 4)) (h.length + 5)) ++ [] = h ++ ([⟨[.g (h.length + 4) ((x7).length) 4 lv8, .g (h.length + 5) ((x9).length) 4 lv10], true, true⟩, ⟨[.v (.slice none 0 0), .v (.slice none 0 0)], true, true⟩, ⟨(x4.held.map Grant.cs).flatten, true, false⟩, ⟨(x4.waiting.map Grant.cs).flatten, true, false⟩, ⟨(x7.map Grant.cs).flatten, true, false⟩, ⟨(x9.map Grant.cs).flatten, true, false⟩] : Heap) from apndK2 rfl rfl]
  refine .s0 rfl rfl (e_stN (L' := [⟨[.g (h.length + 4) ((x7).length) 4 lv8, .g (h.length + 5) ((x9).length) 4 lv10], true, true⟩, ⟨[.L 4 (x11.held.map Grant.cs), .L 4 (x11.waiting.map Grant.cs)], true, true⟩, ⟨(x4.held.map Grant.cs).flatten, true, false⟩, ⟨(x4.waiting.map Grant.cs).flatten, true, false⟩, ⟨(x7.map Grant.cs).flatten, true, false⟩, ⟨(x9.map Grant.cs).flatten, true, false⟩]) rfl (ev_t rfl) (ev_t rfl) ty69 rfl rfl rfl rfl rfl) ?_
  refine .nil ?_
  refine CdOK.ret ?_
  refine ⟨.inr rfl, _, (resA_c (look_find rfl) (eLoad_A ty69 (bx rfl rfl) rfl rfl rfl) resA_n), h, _, _, rfl, rfl, hC, ((renFlV rfl) : RenV _ _ _ _ (.o (.agg [.L 4 (x11.held.map Grant.cs), .L 4 (x11.waiting.map Grant.cs)]))), ?_⟩
  cases hm.ret; exact ⟨rfl, rfl⟩
/- pagemend/locks.without -/
def locks_withoutD (t_ : Locks) (held0 : Int) (held1 : Lock) : Option Locks := ((locks_Valid t_).bind fun (x1 : Bool) => (if (!x1) = true then some t_ else ((locks_own t_).bind fun (x4 : Locks) => ((DeleteFuncD1 x4.held held0 held1).bind fun (x7 : (List Grant)) => ((DeleteFuncD2 x4.waiting).bind fun (x9 : (List Grant)) => ((locks_settle (⟨x7, x9⟩ : Locks)).bind fun (x11 : Locks) => some x11))))))
theorem locks_withoutD_ok {h : Heap} {t_ : Locks} {held0 : Int} {held1 : Lock} {b_held0 : Nat} (hb_held0 : h[b_held0]? = some ⟨[I (held0)], true, true⟩) {b_held1 : Nat} (hb_held1 : h[b_held1]? = some ⟨[I (held1.page), I (held1.slot)], true, true⟩) (hne_held0_held1 : b_held0 ≠ b_held1) {r : Locks} (hm : locks_withoutD t_ held0 held1 = some r) : FnOK Try.prog 112 [.o (.agg [.L 4 (t_.held.map Grant.cs), .L 4 (t_.waiting.map Grant.cs)]), .o (.c (.fn 124 [(b_held0, 0), (b_held1, 0)])), .o (.c (.fn 125 []))] h (fun v h' => v = .o (.agg [.L 4 (r.held.map Grant.cs), .L 4 (r.waiting.map Grant.cs)]) ∧ h' = h) := by
 refine FnOK.fin ?_
 refine FnOK.bodyC (N := 25) Try.func112 rfl rfl rfl (fun hC => ?_)
 have hl_held0 := lt_of_get hb_held0
 have hl_held1 := lt_of_get hb_held1
 replace hm := Ev.of hm
 rw [locks_withoutD.eq_1] at hm
 show CdOK _ _ _ (look _ [(0, .o (.agg [.L 4 (t_.held.map Grant.cs), .L 4 (t_.waiting.map Grant.cs)])), (1, .o (.c (.fn 124 [(b_held0, 0), (b_held1, 0)]))), (2, .o (.c (.fn 125 [])))]) (h ++ ([] : Heap)) _
 refine .seq ?_
 refine .region ?_
 refine .t (.o (.c (.ptr (h.length + 0) 0))) (e_boxN (L' := [⟨[.L 4 (t_.held.map Grant.cs), .L 4 (t_.waiting.map Grant.cs)], true, true⟩]) rfl (ev_t rfl) rfl rfl) ?_
 refine .t (.o (.c (.ptr (h.length + 1) 0))) (e_allocN (L' := [⟨[.L 4 (t_.held.map Grant.cs), .L 4 (t_.waiting.map Grant.cs)], true, true⟩, ⟨[.v (.slice none 0 0), .v (.slice none 0 0)], true, true⟩]) rfl zo69 rfl rfl) ?_
 refine .nil ?_
 refine CdOK.seq ?_
 refine .seq ?_
 refine .region ?_
 refine .t _ (e_ldbA (ev_t rfl) ty69 (bx rfl rfl) rfl rfl) ?_
 obtain ⟨x1, e1, hm⟩ := hm.call
 refine .cl rfl rfl rfl rfl pl44 (R2.wk _) (locks_Valid_ok    e1) ?_
 rintro _ _ ⟨rfl, rfl⟩
 refine .t (VB ((!x1))) (e_un (ev_t rfl) rfl) ?_
 refine .nil ?_
 refine CdOK.condB (ev_t rfl) ?_ ?_
 ·intro c2; replace hm := hm.ifp c2
  refine .seq ?_
  refine .region ?_
  refine .t _ (e_ldbA (ev_t rfl) ty69 (bx rfl rfl) rfl rfl) ?_
  refine .s0 rfl rfl (e_stN (L' := [⟨[.L 4 (t_.held.map Grant.cs), .L 4 (t_.waiting.map Grant.cs)], true, true⟩, ⟨[.L 4 (t_.held.map Grant.cs), .L 4 (t_.waiting.map Grant.cs)], true, true⟩]) rfl (ev_t rfl) (ev_t rfl) ty69 rfl rfl rfl rfl rfl) ?_
  refine .nil ?_
  refine CdOK.ret ?_
  refine ⟨.inr rfl, _, (resA_c (look_find rfl) (eLoad_A ty69 (bx rfl rfl) rfl rfl rfl) resA_n), h, _, _, rfl, rfl, hC, ((renFlV rfl) : RenV _ _ _ _ (.o (.agg [.L 4 (t_.held.map Grant.cs), .L 4 (t_.waiting.map Grant.cs)]))), ?_⟩
  cases hm.ret; exact ⟨rfl, rfl⟩
 ·intro c3; replace hm := hm.ifn c3
  refine .skip ?_
  refine CdOK.seq ?_
  refine .region ?_
  refine .t _ (e_ldbA (ev_t rfl) ty69 (bx rfl rfl) rfl rfl) ?_
  obtain ⟨x4, e4, hm⟩ := hm.call
  refine .cl rfl rfl rfl rfl pl107 (R2.wk _) (locks_own_ok (A := (h.length + 2)) (hA := lenN rfl rfl)    (hm := e4)) ?_
  rintro _ _ ⟨lv5, lv6, rfl, rfl⟩
  rw [show (h ++ ([⟨[.L 4 (t_.held.map Grant.cs), .L 4 (t_.waiting.map Grant.cs)], true, true⟩, ⟨[.v (.slice none 0 0), .v (.slice none 0 0)], true, true⟩] : Heap)) ++ [⟨(x4.held.map Grant.cs).flatten, true, lv5⟩, ⟨(x4.waiting.map Grant.cs).flatten, true, lv6⟩] = h ++ ([⟨[.L 4 (t_.held.map Grant.cs), .L 4 (t_.waiting.map Grant.cs)], true, true⟩, ⟨[.v (.slice none 0 0), .v (.slice none 0 0)], true, true⟩, ⟨(x4.held.map Grant.cs).flatten, true, lv5⟩, ⟨(x4.waiting.map Grant.cs).flatten, true, lv6⟩] : Heap) from apnd rfl]
  refine .s0 rfl rfl (e_stN (L' := [⟨[.g (h.length + 2) ((x4.held).length) 4 lv5, .g (h.length + 3) ((x4.waiting).length) 4 lv6], true, true⟩, ⟨[.v (.slice none 0 0), .v (.slice none 0 0)], true, true⟩, ⟨(x4.held.map Grant.cs).flatten, true, lv5⟩, ⟨(x4.waiting.map Grant.cs).flatten, true, lv6⟩]) rfl (ev_t rfl) (ev_t rfl) ty69 rfl rfl rfl rfl rfl) ?_
  refine .nil ?_
  refine CdOK.seq ?_
  refine .region ?_
  refine .t _ (e_fa' fa69_0 (ev_t rfl)) ?_
  refine .t _ (e_ldb1 (ev_t rfl) ty67 (bx rfl rfl) rfl) ?_
  refine .m rfl ?_
  obtain ⟨x7, e7, hm⟩ := hm.call
  refine .cl rfl rfl rfl rfl pl181 (R2.wk _) (DeleteFuncD1_ok (A := (h.length + 4)) (hA := lenN rfl rfl) (b_s_0 := (h.length + 2)) (hb_s_0 := bx rfl rfl) (hne_del0_s_0 := by omega) (hne_del1_s_0 := by omega) (hne_del0_del1 := by omega) (b_del0 := b_held0) (hb_del0 := (pb hb_held0)) (b_del1 := b_held1) (hb_del1 := (pb hb_held1)) (hm := e7)) ?_
  rintro _ _ ⟨lv8, rfl, rfl⟩
  rw [show (kill (h ++ ([⟨[.g (h.length + 2) ((x4.held).length) 4 lv5, .g (h.length + 3) ((x4.waiting).length) 4 lv6], true, true⟩, ⟨[.v (.slice none 0 0), .v (.slice none 0 0)], true, true⟩, ⟨(x4.held.map Grant.cs).flatten, true, lv5⟩, ⟨(x4.waiting.map Grant.cs).flatten, true, lv6⟩] : Heap)) (h.length + 2)) ++ [⟨(x7.map Grant.cs).flatten, true, lv8⟩] = h ++ ([⟨[.g (h.length + 2) ((x4.held).length) 4 lv5, .g (h.length + 3) ((x4.waiting).length) 4 lv6], true, true⟩, ⟨[.v (.slice none 0 0), .v (.slice none 0 0)], true, true⟩, ⟨(x4.held.map Grant.cs).flatten, true, false⟩, ⟨(x4.waiting.map Grant.cs).flatten, true, lv6⟩, ⟨(x7.map Grant.cs).flatten, true, lv8⟩] : Heap) from apndK rfl rfl]
  refine .t _ (e_fa' fa69_0 (ev_t rfl)) ?_
  refine .s0 rfl rfl (e_stN (L' := [⟨[.g (h.length + 4) ((x7).length) 4 lv8, .g (h.length + 3) ((x4.waiting).length) 4 lv6], true, true⟩, ⟨[.v (.slice none 0 0), .v (.slice none 0 0)], true, true⟩, ⟨(x4.held.map Grant.cs).flatten, true, false⟩, ⟨(x4.waiting.map Grant.cs).flatten, true, lv6⟩, ⟨(x7.map Grant.cs).flatten, true, lv8⟩]) rfl (ev_t rfl) (ev_t rfl) ty67 rfl rfl rfl rfl rfl) ?_
  refine .nil ?_
  refine CdOK.seq ?_
  refine .region ?_
  refine .t _ (e_fa' fa69_1 (ev_t rfl)) ?_
  refine .t _ (e_ldb1 (ev_t rfl) ty67 (bx rfl rfl) rfl) ?_
  refine .m rfl ?_
  obtain ⟨x9, e9, hm⟩ := hm.call
  refine .cl rfl rfl rfl rfl pl181 (R2.wk _) (DeleteFuncD2_ok (A := (h.length + 5)) (hA := lenN rfl rfl) (b_s_0 := (h.length + 3)) (hb_s_0 := bx rfl rfl)   (hm := e9)) ?_
  rintro _ _ ⟨lv10, rfl, rfl⟩
  rw [show (kill (h ++ ([⟨[.g (h.length + 4) ((x7).length) 4 lv8, .g (h.length + 3) ((x4.waiting).length) 4 lv6], true, true⟩, ⟨[.v (.slice none 0 0), .v (.slice none 0 0)], true, true⟩, ⟨(x4.held.map Grant.cs).flatten, true, false⟩, ⟨(x4.waiting.map Grant.cs).flatten, true, lv6⟩, ⟨(x7.map Grant.cs).flatten, true, lv8⟩] : Heap)) (h.length + 3)) ++ [⟨(x9.map Grant.cs).flatten, true, lv10⟩] = h ++ ([⟨[.g (h.length + 4) ((x7).length) 4 lv8, .g (h.length + 3) ((x4.waiting).length) 4 lv6], true, true⟩, ⟨[.v (.slice none 0 0), .v (.slice none 0 0)], true, true⟩, ⟨(x4.held.map Grant.cs).flatten, true, false⟩, ⟨(x4.waiting.map Grant.cs).flatten, true, false⟩, ⟨(x7.map Grant.cs).flatten, true, lv8⟩, ⟨(x9.map Grant.cs).flatten, true, lv10⟩] : Heap) from apndK rfl rfl]
  refine .t _ (e_fa' fa69_1 (ev_t rfl)) ?_
  refine .s0 rfl rfl (e_stN (L' := [⟨[.g (h.length + 4) ((x7).length) 4 lv8, .g (h.length + 5) ((x9).length) 4 lv10], true, true⟩, ⟨[.v (.slice none 0 0), .v (.slice none 0 0)], true, true⟩, ⟨(x4.held.map Grant.cs).flatten, true, false⟩, ⟨(x4.waiting.map Grant.cs).flatten, true, false⟩, ⟨(x7.map Grant.cs).flatten, true, lv8⟩, ⟨(x9.map Grant.cs).flatten, true, lv10⟩]) rfl (ev_t rfl) (ev_t rfl) ty67 rfl rfl rfl rfl rfl) ?_
  refine .nil ?_
  refine CdOK.seq ?_
  refine .region ?_
  refine .t _ (e_ldbA (ev_t rfl) ty69 (bx rfl rfl) rfl rfl) ?_
  obtain ⟨x11, e11, hm⟩ := hm.call
  refine .cl rfl rfl rfl rfl pl110 (R2.wk _) (locks_settle_ok (A := (h.length + 6)) (hA := lenN rfl rfl) (b_t_0 := (h.length + 4)) (hb_t_0 := bx rfl rfl) (b_t_1 := (h.length + 5)) (hb_t_1 := bx rfl rfl) (hne_t_0_t_1 := by omega)  (hm := e11)) ?_
  rintro _ _ ⟨rfl, rfl⟩
  rw [show (kill (kill (h ++ ([⟨[.g (h.length + 4) ((x7).length) 4 lv8, .g (h.length + 5) ((x9).length) 4 lv10], true, true⟩, ⟨[.v (.slice none 0 0), .v (.slice none 0 0)], true, true⟩, ⟨(x4.held.map Grant.cs).flatten, true, false⟩, ⟨(x4.waiting.map Grant.cs).flatten, true, false⟩, ⟨(x7.map Grant.cs).flatten, true, lv8⟩, ⟨(x9.map Grant.cs).flatten, true, lv10⟩] : Heap)) (h.length + 4)) (h.length + 5)) ++ [] = h ++ ([⟨[.g (h.length + 4) ((x7).length) 4 lv8, .g (h.length + 5) ((x9).length) 4 lv10], true, true⟩, ⟨[.v (.slice none 0 0), .v (.slice none 0 0)], true, true⟩, ⟨(x4.held.map Grant.cs).flatten, true, false⟩, ⟨(x4.waiting.map Grant.cs).flatten, true, false⟩, ⟨(x7.map Grant.cs).flatten, true, false⟩, ⟨(x9.map Grant.cs).flatten, true, false⟩] : Heap) from apndK2 rfl rfl]
  refine .s0 rfl rfl (e_stN (L' := [⟨[.g (h.length + 4) ((x7).length) 4 lv8, .g (h.length + 5) ((x9).length) 4 lv10], true, true⟩, ⟨[.L 4 (x11.held.map Grant.cs), .L 4 (x11.waiting.map Grant.cs)], true, true⟩, ⟨(x4.held.map Grant.cs).flatten, true, false⟩, ⟨(x4.waiting.map Grant.cs).flatten, true, false⟩, ⟨(x7.map Grant.cs).flatten, true, false⟩, ⟨(x9.map Grant.cs).flatten, true, false⟩]) rfl (ev_t rfl) (ev_t rfl) ty69 rfl rfl rfl rfl rfl) ?_
  refine .nil ?_
  refine CdOK.ret ?_
  refine ⟨.inr rfl, _, (resA_c (look_find rfl) (eLoad_A ty69 (bx rfl rfl) rfl rfl rfl) resA_n), h, _, _, rfl, rfl, hC, ((renFlV rfl) : RenV _ _ _ _ (.o (.agg [.L 4 (x11.held.map Grant.cs), .L 4 (x11.waiting.map Grant.cs)]))), ?_⟩
  cases hm.ret; exact ⟨rfl, rfl⟩
/- pagemend/locks.without -/
def locks_withoutR (t_ : Locks) (held0 : Int) (waiting0 : Int) : Option Locks := ((locks_Valid t_).bind fun (x1 : Bool) => (if (!x1) = true then some t_ else ((locks_own t_).bind fun (x4 : Locks) => ((DeleteFuncR1 x4.held held0).bind fun (x7 : (List Grant)) => ((DeleteFuncR1 x4.waiting waiting0).bind fun (x9 : (List Grant)) => ((locks_settle (⟨x7, x9⟩ : Locks)).bind fun (x11 : Locks) => some x11))))))
theorem locks_withoutR_ok {h : Heap} {t_ : Locks} {held0 : Int} {waiting0 : Int} {b_held0 : Nat} (hb_held0 : h[b_held0]? = some ⟨[I (held0)], true, true⟩) {b_waiting0 : Nat} (hb_waiting0 : h[b_waiting0]? = some ⟨[I (waiting0)], true, true⟩)  {r : Locks} (hm : locks_withoutR t_ held0 waiting0 = some r) : FnOK Try.prog 112 [.o (.agg [.L 4 (t_.held.map Grant.cs), .L 4 (t_.waiting.map Grant.cs)]), .o (.c (.fn 111 [(b_held0, 0)])), .o (.c (.fn 111 [(b_waiting0, 0)]))] h (fun v h' => v = .o (.agg [.L 4 (r.held.map Grant.cs), .L 4 (r.waiting.map Grant.cs)]) ∧ h' = h) := by
 refine FnOK.fin ?_
 refine FnOK.bodyC (N := 25) Try.func112 rfl rfl rfl (fun hC => ?_)
 have hl_held0 := lt_of_get hb_held0
 have hl_waiting0 := lt_of_get hb_waiting0
 replace hm := Ev.of hm
 rw [locks_withoutR.eq_1] at hm
 show CdOK _ _ _ (look _ [(0, .o (.agg [.L 4 (t_.held.map Grant.cs), .L 4 (t_.waiting.map Grant.cs)])), (1, .o (.c (.fn 111 [(b_held0, 0)]))), (2, .o (.c (.fn 111 [(b_waiting0, 0)])))]) (h ++ ([] : Heap)) _
 refine .seq ?_
 refine .region ?_
 refine .t (.o (.c (.ptr (h.length + 0) 0))) (e_boxN (L' := [⟨[.L 4 (t_.held.map Grant.cs), .L 4 (t_.waiting.map Grant.cs)], true, true⟩]) rfl (ev_t rfl) rfl rfl) ?_
 refine .t (.o (.c (.ptr (h.length + 1) 0))) (e_allocN (L' := [⟨[.L 4 (t_.held.map Grant.cs), .L 4 (t_.waiting.map Grant.cs)], true, true⟩, ⟨[.v (.slice none 0 0), .v (.slice none 0 0)], true, true⟩]) rfl zo69 rfl rfl) ?_
 refine .nil ?_
 refine CdOK.seq ?_
 refine .seq ?_
 refine .region ?_
 refine .t _ (e_ldbA (ev_t rfl) ty69 (bx rfl rfl) rfl rfl) ?_
 obtain ⟨x1, e1, hm⟩ := hm.call
 refine .cl rfl rfl rfl rfl pl44 (R2.wk _) (locks_Valid_ok    e1) ?_
 rintro _ _ ⟨rfl, rfl⟩
 refine .t (VB ((!x1))) (e_un (ev_t rfl) rfl) ?_
 refine .nil ?_
 refine CdOK.condB (ev_t rfl) ?_ ?_
 ·intro c2; replace hm := hm.ifp c2
  refine .seq ?_
  refine .region ?_
  refine .t _ (e_ldbA (ev_t rfl) ty69 (bx rfl rfl) rfl rfl) ?_
  refine .s0 rfl rfl (e_stN (L' := [⟨[.L 4 (t_.held.map Grant.cs), .L 4 (t_.waiting.map Grant.cs)], true, true⟩, ⟨[.L 4 (t_.held.map Grant.cs), .L 4 (t_.waiting.map Grant.cs)], true, true⟩]) rfl (ev_t rfl) (ev_t rfl) ty69 rfl rfl rfl rfl rfl) ?_
  refine .nil ?_
  refine CdOK.ret ?_
  refine ⟨.inr rfl, _, (resA_c (look_find rfl) (eLoad_A ty69 (bx rfl rfl) rfl rfl rfl) resA_n), h, _, _, rfl, rfl, hC, ((renFlV rfl) : RenV _ _ _ _ (.o (.agg [.L 4 (t_.held.map Grant.cs), .L 4 (t_.waiting.map Grant.cs)]))), ?_⟩
  cases hm.ret; exact ⟨rfl, rfl⟩
 ·intro c3; replace hm := hm.ifn c3
  refine .skip ?_
  refine CdOK.seq ?_
  refine .region ?_
  refine .t _ (e_ldbA (ev_t rfl) ty69 (bx rfl rfl) rfl rfl) ?_
  obtain ⟨x4, e4, hm⟩ := hm.call
  refine .cl rfl rfl rfl rfl pl107 (R2.wk _) (locks_own_ok (A := (h.length + 2)) (hA := lenN rfl rfl)    (hm := e4)) ?_
  rintro _ _ ⟨lv5, lv6, rfl, rfl⟩
  rw [show (h ++ ([⟨[.L 4 (t_.held.map Grant.cs), .L 4 (t_.waiting.map Grant.cs)], true, true⟩, ⟨[.v (.slice none 0 0), .v (.slice none 0 0)], true, true⟩] : Heap)) ++ [⟨(x4.held.map Grant.cs).flatten, true, lv5⟩, ⟨(x4.waiting.map Grant.cs).flatten, true, lv6⟩] = h ++ ([⟨[.L 4 (t_.held.map Grant.cs), .L 4 (t_.waiting.map Grant.cs)], true, true⟩, ⟨[.v (.slice none 0 0), .v (.slice none 0 0)], true, true⟩, ⟨(x4.held.map Grant.cs).flatten, true, lv5⟩, ⟨(x4.waiting.map Grant.cs).flatten, true, lv6⟩] : Heap) from apnd rfl]
  refine .s0 rfl rfl (e_stN (L' := [⟨[.g (h.length + 2) ((x4.held).length) 4 lv5, .g (h.length + 3) ((x4.waiting).length) 4 lv6], true, true⟩, ⟨[.v (.slice none 0 0), .v (.slice none 0 0)], true, true⟩, ⟨(x4.held.map Grant.cs).flatten, true, lv5⟩, ⟨(x4.waiting.map Grant.cs).flatten, true, lv6⟩]) rfl (ev_t rfl) (ev_t rfl) ty69 rfl rfl rfl rfl rfl) ?_
  refine .nil ?_
  refine CdOK.seq ?_
  refine .region ?_
  refine .t _ (e_fa' fa69_0 (ev_t rfl)) ?_
  refine .t _ (e_ldb1 (ev_t rfl) ty67 (bx rfl rfl) rfl) ?_
  refine .m rfl ?_
  obtain ⟨x7, e7, hm⟩ := hm.call
  refine .cl rfl rfl rfl rfl pl181 (R2.wk _) (DeleteFuncR1_ok (A := (h.length + 4)) (hA := lenN rfl rfl) (b_s_0 := (h.length + 2)) (hb_s_0 := bx rfl rfl) (hne_del0_s_0 := by omega) (b_del0 := b_held0) (hb_del0 := (pb hb_held0)) (hm := e7)) ?_
  rintro _ _ ⟨lv8, rfl, rfl⟩
  rw [show (kill (h ++ ([⟨[.g (h.length + 2) ((x4.held).length) 4 lv5, .g (h.length + 3) ((x4.waiting).length) 4 lv6], true, true⟩, ⟨[.v (.slice none 0 0), .v (.slice none 0 0)], true, true⟩, ⟨(x4.held.map Grant.cs).flatten, true, lv5⟩, ⟨(x4.waiting.map Grant.cs).flatten, true, lv6⟩] : Heap)) (h.length + 2)) ++ [⟨(x7.map Grant.cs).flatten, true, lv8⟩] = h ++ ([⟨[.g (h.length + 2) ((x4.held).length) 4 lv5, .g (h.length + 3) ((x4.waiting).length) 4 lv6], true, true⟩, ⟨[.v (.slice none 0 0), .v (.slice none 0 0)], true, true⟩, ⟨(x4.held.map Grant.cs).flatten, true, false⟩, ⟨(x4.waiting.map Grant.cs).flatten, true, lv6⟩, ⟨(x7.map Grant.cs).flatten, true, lv8⟩] : Heap) from apndK rfl rfl]
  refine .t _ (e_fa' fa69_0 (ev_t rfl)) ?_
  refine .s0 rfl rfl (e_stN (L' := [⟨[.g (h.length + 4) ((x7).length) 4 lv8, .g (h.length + 3) ((x4.waiting).length) 4 lv6], true, true⟩, ⟨[.v (.slice none 0 0), .v (.slice none 0 0)], true, true⟩, ⟨(x4.held.map Grant.cs).flatten, true, false⟩, ⟨(x4.waiting.map Grant.cs).flatten, true, lv6⟩, ⟨(x7.map Grant.cs).flatten, true, lv8⟩]) rfl (ev_t rfl) (ev_t rfl) ty67 rfl rfl rfl rfl rfl) ?_
  refine .nil ?_
  refine CdOK.seq ?_
  refine .region ?_
  refine .t _ (e_fa' fa69_1 (ev_t rfl)) ?_
  refine .t _ (e_ldb1 (ev_t rfl) ty67 (bx rfl rfl) rfl) ?_
  refine .m rfl ?_
  obtain ⟨x9, e9, hm⟩ := hm.call
  refine .cl rfl rfl rfl rfl pl181 (R2.wk _) (DeleteFuncR1_ok (A := (h.length + 5)) (hA := lenN rfl rfl) (b_s_0 := (h.length + 3)) (hb_s_0 := bx rfl rfl) (hne_del0_s_0 := by omega) (b_del0 := b_waiting0) (hb_del0 := (pb hb_waiting0)) (hm := e9)) ?_
  rintro _ _ ⟨lv10, rfl, rfl⟩
  rw [show (kill (h ++ ([⟨[.g (h.length + 4) ((x7).length) 4 lv8, .g (h.length + 3) ((x4.waiting).length) 4 lv6], true, true⟩, ⟨[.v (.slice none 0 0), .v (.slice none 0 0)], true, true⟩, ⟨(x4.held.map Grant.cs).flatten, true, false⟩, ⟨(x4.waiting.map Grant.cs).flatten, true, lv6⟩, ⟨(x7.map Grant.cs).flatten, true, lv8⟩] : Heap)) (h.length + 3)) ++ [⟨(x9.map Grant.cs).flatten, true, lv10⟩] = h ++ ([⟨[.g (h.length + 4) ((x7).length) 4 lv8, .g (h.length + 3) ((x4.waiting).length) 4 lv6], true, true⟩, ⟨[.v (.slice none 0 0), .v (.slice none 0 0)], true, true⟩, ⟨(x4.held.map Grant.cs).flatten, true, false⟩, ⟨(x4.waiting.map Grant.cs).flatten, true, false⟩, ⟨(x7.map Grant.cs).flatten, true, lv8⟩, ⟨(x9.map Grant.cs).flatten, true, lv10⟩] : Heap) from apndK rfl rfl]
  refine .t _ (e_fa' fa69_1 (ev_t rfl)) ?_
  refine .s0 rfl rfl (e_stN (L' := [⟨[.g (h.length + 4) ((x7).length) 4 lv8, .g (h.length + 5) ((x9).length) 4 lv10], true, true⟩, ⟨[.v (.slice none 0 0), .v (.slice none 0 0)], true, true⟩, ⟨(x4.held.map Grant.cs).flatten, true, false⟩, ⟨(x4.waiting.map Grant.cs).flatten, true, false⟩, ⟨(x7.map Grant.cs).flatten, true, lv8⟩, ⟨(x9.map Grant.cs).flatten, true, lv10⟩]) rfl (ev_t rfl) (ev_t rfl) ty67 rfl rfl rfl rfl rfl) ?_
  refine .nil ?_
  refine CdOK.seq ?_
  refine .region ?_
  refine .t _ (e_ldbA (ev_t rfl) ty69 (bx rfl rfl) rfl rfl) ?_
  obtain ⟨x11, e11, hm⟩ := hm.call
  refine .cl rfl rfl rfl rfl pl110 (R2.wk _) (locks_settle_ok (A := (h.length + 6)) (hA := lenN rfl rfl) (b_t_0 := (h.length + 4)) (hb_t_0 := bx rfl rfl) (b_t_1 := (h.length + 5)) (hb_t_1 := bx rfl rfl) (hne_t_0_t_1 := by omega)  (hm := e11)) ?_
  rintro _ _ ⟨rfl, rfl⟩
  rw [show (kill (kill (h ++ ([⟨[.g (h.length + 4) ((x7).length) 4 lv8, .g (h.length + 5) ((x9).length) 4 lv10], true, true⟩, ⟨[.v (.slice none 0 0), .v (.slice none 0 0)], true, true⟩, ⟨(x4.held.map Grant.cs).flatten, true, false⟩, ⟨(x4.waiting.map Grant.cs).flatten, true, false⟩, ⟨(x7.map Grant.cs).flatten, true, lv8⟩, ⟨(x9.map Grant.cs).flatten, true, lv10⟩] : Heap)) (h.length + 4)) (h.length + 5)) ++ [] = h ++ ([⟨[.g (h.length + 4) ((x7).length) 4 lv8, .g (h.length + 5) ((x9).length) 4 lv10], true, true⟩, ⟨[.v (.slice none 0 0), .v (.slice none 0 0)], true, true⟩, ⟨(x4.held.map Grant.cs).flatten, true, false⟩, ⟨(x4.waiting.map Grant.cs).flatten, true, false⟩, ⟨(x7.map Grant.cs).flatten, true, false⟩, ⟨(x9.map Grant.cs).flatten, true, false⟩] : Heap) from apndK2 rfl rfl]
  refine .s0 rfl rfl (e_stN (L' := [⟨[.g (h.length + 4) ((x7).length) 4 lv8, .g (h.length + 5) ((x9).length) 4 lv10], true, true⟩, ⟨[.L 4 (x11.held.map Grant.cs), .L 4 (x11.waiting.map Grant.cs)], true, true⟩, ⟨(x4.held.map Grant.cs).flatten, true, false⟩, ⟨(x4.waiting.map Grant.cs).flatten, true, false⟩, ⟨(x7.map Grant.cs).flatten, true, false⟩, ⟨(x9.map Grant.cs).flatten, true, false⟩]) rfl (ev_t rfl) (ev_t rfl) ty69 rfl rfl rfl rfl rfl) ?_
  refine .nil ?_
  refine CdOK.ret ?_
  refine ⟨.inr rfl, _, (resA_c (look_find rfl) (eLoad_A ty69 (bx rfl rfl) rfl rfl rfl) resA_n), h, _, _, rfl, rfl, hC, ((renFlV rfl) : RenV _ _ _ _ (.o (.agg [.L 4 (x11.held.map Grant.cs), .L 4 (x11.waiting.map Grant.cs)]))), ?_⟩
  cases hm.ret; exact ⟨rfl, rfl⟩
/- pagemend/locks.Cancel -/
def locks_Cancel (t_ : Locks) (tx : Int) : Option Locks := ((locks_withoutC t_ tx).bind fun (x1 : Locks) => some x1)
theorem locks_Cancel_ok {h : Heap} {t_ : Locks} {tx : Int}   {r : Locks} (hm : locks_Cancel t_ tx = some r) : FnOK Try.prog 57 [.o (.agg [.L 4 (t_.held.map Grant.cs), .L 4 (t_.waiting.map Grant.cs)]), VI (tx)] h (fun v h' => v = .o (.agg [.L 4 (r.held.map Grant.cs), .L 4 (r.waiting.map Grant.cs)]) ∧ h' = h) := by
 refine FnOK.fin ?_
 refine FnOK.bodyC (N := 8) Try.func57 rfl rfl rfl (fun hC => ?_)
 replace hm := Ev.of hm
 rw [locks_Cancel.eq_1] at hm
 show CdOK _ _ _ (look _ [(0, .o (.agg [.L 4 (t_.held.map Grant.cs), .L 4 (t_.waiting.map Grant.cs)])), (1, VI (tx))]) (h ++ ([] : Heap)) _
 refine .seq ?_
 refine .region ?_
 refine .t (.o (.c (.ptr (h.length + 0) 0))) (e_boxN (L' := [⟨[.L 4 (t_.held.map Grant.cs), .L 4 (t_.waiting.map Grant.cs)], true, true⟩]) rfl (ev_t rfl) rfl rfl) ?_
 refine .t (.o (.c (.ptr (h.length + 1) 0))) (e_boxN (L' := [⟨[.L 4 (t_.held.map Grant.cs), .L 4 (t_.waiting.map Grant.cs)], true, true⟩, ⟨[I (tx)], true, true⟩]) rfl (ev_t rfl) rfl rfl) ?_
 refine .t (.o (.c (.ptr (h.length + 2) 0))) (e_allocN (L' := [⟨[.L 4 (t_.held.map Grant.cs), .L 4 (t_.waiting.map Grant.cs)], true, true⟩, ⟨[I (tx)], true, true⟩, ⟨[.v (.slice none 0 0), .v (.slice none 0 0)], true, true⟩]) rfl zo69 rfl rfl) ?_
 refine .nil ?_
 refine CdOK.seq ?_
 refine .region ?_
 refine .t _ (e_ldbA (ev_t rfl) ty69 (bx rfl rfl) rfl rfl) ?_
 refine .t (.o (.c (.fn 130 [((h.length + 1), 0)]))) (e_mkf rfl rfl) ?_
 obtain ⟨x1, e1, hm⟩ := hm.call
 refine .cl rfl rfl rfl rfl pl112 (R2.wk _) (locks_withoutC_ok  (b_waiting0 := (h.length + 1)) (bx rfl rfl) e1) ?_
 rintro _ _ ⟨rfl, rfl⟩
 refine .s0 rfl rfl (e_stN (L' := [⟨[.L 4 (t_.held.map Grant.cs), .L 4 (t_.waiting.map Grant.cs)], true, true⟩, ⟨[I (tx)], true, true⟩, ⟨[.L 4 (x1.held.map Grant.cs), .L 4 (x1.waiting.map Grant.cs)], true, true⟩]) rfl (ev_t rfl) (ev_t rfl) ty69 rfl rfl rfl rfl rfl) ?_
 refine .nil ?_
 refine CdOK.ret ?_
 refine ⟨.inr rfl, _, (resA_c (look_find rfl) (eLoad_A ty69 (bx rfl rfl) rfl rfl rfl) resA_n), h, _, _, rfl, rfl, hC, ((renFlV rfl) : RenV _ _ _ _ (.o (.agg [.L 4 (x1.held.map Grant.cs), .L 4 (x1.waiting.map Grant.cs)]))), ?_⟩
 cases hm.ret; exact ⟨rfl, rfl⟩
/- pagemend/locks.Drop -/
def locks_Drop (t_ : Locks) (tx : Int) (k_ : Lock) : Option Locks := ((locks_withoutD t_ tx k_).bind fun (x1 : Locks) => some x1)
theorem locks_Drop_ok {h : Heap} {t_ : Locks} {tx : Int} {k_ : Lock}   {r : Locks} (hm : locks_Drop t_ tx k_ = some r) : FnOK Try.prog 53 [.o (.agg [.L 4 (t_.held.map Grant.cs), .L 4 (t_.waiting.map Grant.cs)]), VI (tx), .o (.agg [I (k_.page), I (k_.slot)])] h (fun v h' => v = .o (.agg [.L 4 (r.held.map Grant.cs), .L 4 (r.waiting.map Grant.cs)]) ∧ h' = h) := by
 refine FnOK.fin ?_
 refine FnOK.bodyC (N := 10) Try.func53 rfl rfl rfl (fun hC => ?_)
 replace hm := Ev.of hm
 rw [locks_Drop.eq_1] at hm
 show CdOK _ _ _ (look _ [(0, .o (.agg [.L 4 (t_.held.map Grant.cs), .L 4 (t_.waiting.map Grant.cs)])), (1, VI (tx)), (2, .o (.agg [I (k_.page), I (k_.slot)]))]) (h ++ ([] : Heap)) _
 refine .seq ?_
 refine .region ?_
 refine .t (.o (.c (.ptr (h.length + 0) 0))) (e_boxN (L' := [⟨[.L 4 (t_.held.map Grant.cs), .L 4 (t_.waiting.map Grant.cs)], true, true⟩]) rfl (ev_t rfl) rfl rfl) ?_
 refine .t (.o (.c (.ptr (h.length + 1) 0))) (e_boxN (L' := [⟨[.L 4 (t_.held.map Grant.cs), .L 4 (t_.waiting.map Grant.cs)], true, true⟩, ⟨[I (tx)], true, true⟩]) rfl (ev_t rfl) rfl rfl) ?_
 refine .t (.o (.c (.ptr (h.length + 2) 0))) (e_boxN (L' := [⟨[.L 4 (t_.held.map Grant.cs), .L 4 (t_.waiting.map Grant.cs)], true, true⟩, ⟨[I (tx)], true, true⟩, ⟨[I (k_.page), I (k_.slot)], true, true⟩]) rfl (ev_t rfl) rfl rfl) ?_
 refine .t (.o (.c (.ptr (h.length + 3) 0))) (e_allocN (L' := [⟨[.L 4 (t_.held.map Grant.cs), .L 4 (t_.waiting.map Grant.cs)], true, true⟩, ⟨[I (tx)], true, true⟩, ⟨[I (k_.page), I (k_.slot)], true, true⟩, ⟨[.v (.slice none 0 0), .v (.slice none 0 0)], true, true⟩]) rfl zo69 rfl rfl) ?_
 refine .nil ?_
 refine CdOK.seq ?_
 refine .region ?_
 refine .t _ (e_ldbA (ev_t rfl) ty69 (bx rfl rfl) rfl rfl) ?_
 refine .t (.o (.c (.fn 124 [((h.length + 1), 0), ((h.length + 2), 0)]))) (e_mkf rfl rfl) ?_
 obtain ⟨x1, e1, hm⟩ := hm.call
 refine .cl rfl rfl rfl rfl pl112 (R2.wk _) (locks_withoutD_ok (hne_held0_held1 := by omega) (b_held0 := (h.length + 1)) (b_held1 := (h.length + 2)) (bx rfl rfl) (bx rfl rfl) e1) ?_
 rintro _ _ ⟨rfl, rfl⟩
 refine .s0 rfl rfl (e_stN (L' := [⟨[.L 4 (t_.held.map Grant.cs), .L 4 (t_.waiting.map Grant.cs)], true, true⟩, ⟨[I (tx)], true, true⟩, ⟨[I (k_.page), I (k_.slot)], true, true⟩, ⟨[.L 4 (x1.held.map Grant.cs), .L 4 (x1.waiting.map Grant.cs)], true, true⟩]) rfl (ev_t rfl) (ev_t rfl) ty69 rfl rfl rfl rfl rfl) ?_
 refine .nil ?_
 refine CdOK.ret ?_
 refine ⟨.inr rfl, _, (resA_c (look_find rfl) (eLoad_A ty69 (bx rfl rfl) rfl rfl rfl) resA_n), h, _, _, rfl, rfl, hC, ((renFlV rfl) : RenV _ _ _ _ (.o (.agg [.L 4 (x1.held.map Grant.cs), .L 4 (x1.waiting.map Grant.cs)]))), ?_⟩
 cases hm.ret; exact ⟨rfl, rfl⟩
/- pagemend/locks.Release -/
def locks_Release (t_ : Locks) (tx : Int) : Option Locks := ((locks_withoutR t_ tx tx).bind fun (x1 : Locks) => some x1)
theorem locks_Release_ok {h : Heap} {t_ : Locks} {tx : Int}   {r : Locks} (hm : locks_Release t_ tx = some r) : FnOK Try.prog 43 [.o (.agg [.L 4 (t_.held.map Grant.cs), .L 4 (t_.waiting.map Grant.cs)]), VI (tx)] h (fun v h' => v = .o (.agg [.L 4 (r.held.map Grant.cs), .L 4 (r.waiting.map Grant.cs)]) ∧ h' = h) := by
 refine FnOK.fin ?_
 refine FnOK.bodyC (N := 11) Try.func43 rfl rfl rfl (fun hC => ?_)
 replace hm := Ev.of hm
 rw [locks_Release.eq_1] at hm
 show CdOK _ _ _ (look _ [(0, .o (.agg [.L 4 (t_.held.map Grant.cs), .L 4 (t_.waiting.map Grant.cs)])), (1, VI (tx))]) (h ++ ([] : Heap)) _
 refine .seq ?_
 refine .region ?_
 refine .t (.o (.c (.ptr (h.length + 0) 0))) (e_boxN (L' := [⟨[.L 4 (t_.held.map Grant.cs), .L 4 (t_.waiting.map Grant.cs)], true, true⟩]) rfl (ev_t rfl) rfl rfl) ?_
 refine .t (.o (.c (.ptr (h.length + 1) 0))) (e_boxN (L' := [⟨[.L 4 (t_.held.map Grant.cs), .L 4 (t_.waiting.map Grant.cs)], true, true⟩, ⟨[I (tx)], true, true⟩]) rfl (ev_t rfl) rfl rfl) ?_
 refine .t (.o (.c (.ptr (h.length + 2) 0))) (e_allocN (L' := [⟨[.L 4 (t_.held.map Grant.cs), .L 4 (t_.waiting.map Grant.cs)], true, true⟩, ⟨[I (tx)], true, true⟩, ⟨[.v (.slice none 0 0), .v (.slice none 0 0)], true, true⟩]) rfl zo69 rfl rfl) ?_
 refine .nil ?_
 refine CdOK.seq ?_
 refine .region ?_
 refine .t (.o (.c (.fn 111 [((h.length + 1), 0)]))) (e_mkf rfl rfl) ?_
 refine .a rfl ?_
 refine .nil ?_
 refine CdOK.seq ?_
 refine .region ?_
 refine .t _ (e_ldbA (ev_t rfl) ty69 (bx rfl rfl) rfl rfl) ?_
 refine .m rfl ?_
 refine .m rfl ?_
 obtain ⟨x1, e1, hm⟩ := hm.call
 refine .cl rfl rfl rfl rfl pl112 (R2.wk _) (locks_withoutR_ok  (b_held0 := (h.length + 1)) (b_waiting0 := (h.length + 1)) (bx rfl rfl) (bx rfl rfl) e1) ?_
 rintro _ _ ⟨rfl, rfl⟩
 refine .s0 rfl rfl (e_stN (L' := [⟨[.L 4 (t_.held.map Grant.cs), .L 4 (t_.waiting.map Grant.cs)], true, true⟩, ⟨[I (tx)], true, true⟩, ⟨[.L 4 (x1.held.map Grant.cs), .L 4 (x1.waiting.map Grant.cs)], true, true⟩]) rfl (ev_t rfl) (ev_t rfl) ty69 rfl rfl rfl rfl rfl) ?_
 refine .nil ?_
 refine CdOK.ret ?_
 refine ⟨.inr rfl, _, (resA_c (look_find rfl) (eLoad_A ty69 (bx rfl rfl) rfl rfl rfl) resA_n), h, _, _, rfl, rfl, hC, ((renFlV rfl) : RenV _ _ _ _ (.o (.agg [.L 4 (x1.held.map Grant.cs), .L 4 (x1.waiting.map Grant.cs)]))), ?_⟩
 cases hm.ret; exact ⟨rfl, rfl⟩
end Rv
