/- Chapter 8: the program's functions that change tables, as plain functions. -/
import Derived.Test.YtnlpkgamglhnbaaRvLck
import Derived.Test.YtnlpkgamglhnbaaRvBor2
set_option linter.unusedVariables false
set_option linter.unusedSimpArgs false
namespace Rv
open Go Go.RowKit Go.Proofs
theorem bl69 : bldf Try.prog 69 [(0, 1), (1, 1)] = true := by decide +kernel
theorem eqs75_r (x y : Grant) : (eqF [some (x.tx == y.tx), (eqF [some (x.lock.page == y.lock.page), some (x.lock.slot == y.lock.slot)]), some (x.mode == y.mode)]) = some (decide (x = y)) := by
  have h := (show (eqF [some (x.tx == y.tx), (eqF [some (x.lock.page == y.lock.page), some (x.lock.slot == y.lock.slot)]), some (x.mode == y.mode)]) = some _ from (eqF_cons (b := _) (eqF_cons2 (eqF_cons (b := _) (eqF_cons (b := _) rfl)) (eqF_cons (b := _) rfl))))
  rw [h]
  congr 1
  rw [Bool.eq_iff_iff]
  rcases x with ⟨a1, ⟨a1, a2⟩, a2⟩
  rcases y with ⟨b1, ⟨b3, b4⟩, b2⟩
  simp only [Bool.and_eq_true, beq_iff_eq, decide_eq_true_eq, Grant.mk.injEq, Lock.mk.injEq, and_true, and_assoc]
theorem eqs75_eql (x y : Grant) : eEqAgg Try.prog .eql 75 [.int .i64 (x.tx), .int .i64 (x.lock.page), .int .i64 (x.lock.slot), .int .i64 (x.mode)].toArray [.int .i64 (y.tx), .int .i64 (y.lock.page), .int .i64 (y.lock.slot), .int .i64 (y.mode)].toArray = some (.bool (decide (x = y))) := by
  have h : eqS Try.prog Op.maxDepth 75 (.agg [.int .i64 (x.tx), .int .i64 (x.lock.page), .int .i64 (x.lock.slot), .int .i64 (x.mode)].toArray) (.agg [.int .i64 (y.tx), .int .i64 (y.lock.page), .int .i64 (y.lock.slot), .int .i64 (y.mode)].toArray) = (eqF [some (x.tx == y.tx), (eqF [some (x.lock.page == y.lock.page), some (x.lock.slot == y.lock.slot)]), some (x.mode == y.mode)]) := by kernel_rfl
  unfold eEqAgg
  rw [if_neg (by decide +kernel), h, eqs75_r]
theorem eqs75_neq (x y : Grant) : eEqAgg Try.prog .neq 75 [.int .i64 (x.tx), .int .i64 (x.lock.page), .int .i64 (x.lock.slot), .int .i64 (x.mode)].toArray [.int .i64 (y.tx), .int .i64 (y.lock.page), .int .i64 (y.lock.slot), .int .i64 (y.mode)].toArray = some (.bool (decide (¬ x = y))) := by
  have h : eqS Try.prog Op.maxDepth 75 (.agg [.int .i64 (x.tx), .int .i64 (x.lock.page), .int .i64 (x.lock.slot), .int .i64 (x.mode)].toArray) (.agg [.int .i64 (y.tx), .int .i64 (y.lock.page), .int .i64 (y.lock.slot), .int .i64 (y.mode)].toArray) = (eqF [some (x.tx == y.tx), (eqF [some (x.lock.page == y.lock.page), some (x.lock.slot == y.lock.slot)]), some (x.mode == y.mode)]) := by kernel_rfl
  unfold eEqAgg
  rw [if_neg (by decide +kernel), h, eqs75_r]
  by_cases e : x = y <;> simp [e]
theorem pl55 : plainFn Try.prog 55 = true := by decide +kernel
theorem pl107 : plainFn Try.prog 107 = true := by decide +kernel
theorem pl108 : plainFn Try.prog 108 = true := by decide +kernel
theorem pl109 : plainFn Try.prog 109 = true := by decide +kernel
theorem pl110 : plainFn Try.prog 110 = true := by decide +kernel
theorem pl176 : plainFn Try.prog 176 = true := by decide +kernel
theorem pl179 : plainFn Try.prog 179 = true := by decide +kernel
theorem pl180 : plainFn Try.prog 180 = true := by decide +kernel
theorem pl202 : plainFn Try.prog 202 = true := by decide +kernel
theorem zo69 : zeroOf Try.prog 69 = some ([.v (.slice none 0 0)] ++ [.v (.slice none 0 0)]) := by kernel_rfl
/- pagemend/locks.own -/
def locks_own (t_ : Locks) : Option Locks := (if t_.held.length ≤ 4398046511104 then (if t_.waiting.length ≤ 4398046511104 then some t_ else none) else none)
theorem locks_own_ok {h : Heap} {t_ : Locks} {A : Nat} (hA : h.length = A)     {r : Locks} (hm : locks_own t_ = some r) : FnOK Try.prog 107 [.o (.agg [.L 4 (t_.held.map Grant.cs), .L 4 (t_.waiting.map Grant.cs)])] h (fun v h' => ∃ lv0 lv1 : Bool, v = .o (.agg [.g (A + 0) ((r.held).length) 4 lv0, .g (A + 1) ((r.waiting).length) 4 lv1]) ∧ h' = h ++ [⟨(r.held.map Grant.cs).flatten, true, lv0⟩, ⟨(r.waiting.map Grant.cs).flatten, true, lv1⟩]) := by
 subst hA
 refine FnOK.mono (Q := fun v h' => ∃ L3, h' = h ++ L3 ∧ (∃ lv0 lv1 : Bool, v = .o (.agg [.g (h.length + 0) ((r.held).length) 4 lv0, .g (h.length + 1) ((r.waiting).length) 4 lv1]) ∧ L3 = [⟨(r.held.map Grant.cs).flatten, true, lv0⟩, ⟨(r.waiting.map Grant.cs).flatten, true, lv1⟩])) ?_ (by rintro v h' ⟨L3, rfl, lv0, lv1, rfl, rfl⟩; exact ⟨lv0, lv1, rfl, rfl⟩)
 refine FnOK.bodyO (N := 10) (argsF := fun A => [.o (.agg [.L 4 (t_.held.map Grant.cs), .L 4 (t_.waiting.map Grant.cs)])]) (L := []) (H0 := h) (Q := fun A v L3 => ∃ lv0 lv1 : Bool, v = .o (.agg [.g (A + 0) ((r.held).length) 4 lv0, .g (A + 1) ((r.waiting).length) 4 lv1]) ∧ L3 = [⟨(r.held.map Grant.cs).flatten, true, lv0⟩, ⟨(r.waiting.map Grant.cs).flatten, true, lv1⟩]) Try.func107 rfl rfl rfl (by simp [kill_len]) Take.none (fun h hC hH => ?_)
 replace hm := Ev.of hm
 rw [locks_own.eq_1] at hm
 show CdOK _ _ _ (look _ [(0, .o (.agg [.L 4 (t_.held.map Grant.cs), .L 4 (t_.waiting.map Grant.cs)]))]) (h ++ ([] : Heap)) _
 refine .seq ?_
 refine .region ?_
 refine .t (.o (.c (.ptr (h.length + 0) 0))) (e_boxN (L' := [⟨[.L 4 (t_.held.map Grant.cs), .L 4 (t_.waiting.map Grant.cs)], true, true⟩]) rfl (ev_t rfl) rfl rfl) ?_
 refine .t (.o (.c (.ptr (h.length + 1) 0))) (e_allocN (L' := [⟨[.L 4 (t_.held.map Grant.cs), .L 4 (t_.waiting.map Grant.cs)], true, true⟩, ⟨[.v (.slice none 0 0), .v (.slice none 0 0)], true, true⟩]) rfl zo69 rfl rfl) ?_
 refine .nil ?_
 refine CdOK.seq ?_
 refine .draw2 (ord := [0, 1, 3, 4, 2, 5, 6, 7]) (chain := [2, 5, 7]) fol (by decide +kernel) (by decide +kernel) ?_
 refine .p _ (e_fa' fa69_0 (ev_t rfl)) ?_
 refine .q _ (e_ldb1 (ev_t rfl) ty67 (bx rfl rfl) rfl) ?_
 refine .p _ (e_fa' fa69_1 (ev_t rfl)) ?_
 refine .q _ (e_ldb1 (ev_t rfl) ty67 (bx rfl rfl) rfl) ?_
 obtain ⟨c2, hm⟩ := hm.ifs
 refine .cl rfl rfl rfl rfl rfl rfl pl176 (R2.wk _) (cloneG_ok (A := (h.length + 2)) (l := t_.held) (lenN rfl rfl) c2) ?_
 rintro _ _ ⟨lv1, rfl, rfl⟩
 rw [show (h ++ ([⟨[.L 4 (t_.held.map Grant.cs), .L 4 (t_.waiting.map Grant.cs)], true, true⟩, ⟨[.v (.slice none 0 0), .v (.slice none 0 0)], true, true⟩] : Heap)) ++ [⟨(t_.held.map Grant.cs).flatten, true, lv1⟩] = h ++ ([⟨[.L 4 (t_.held.map Grant.cs), .L 4 (t_.waiting.map Grant.cs)], true, true⟩, ⟨[.v (.slice none 0 0), .v (.slice none 0 0)], true, true⟩, ⟨(t_.held.map Grant.cs).flatten, true, lv1⟩] : Heap) from apnd rfl]
 refine ⟨(.e rfl rfl (e_ldb1 (ev_t rfl) ty67 (bx rfl rfl) rfl) (.m (by decide +kernel) .nil)), ?_⟩
 obtain ⟨c4, hm⟩ := hm.ifs
 refine .cl rfl rfl rfl rfl rfl rfl pl176 (R2.wk _) (cloneG_ok (A := (h.length + 3)) (l := t_.waiting) (lenN rfl rfl) c4) ?_
 rintro _ _ ⟨lv3, rfl, rfl⟩
 rw [show (h ++ ([⟨[.L 4 (t_.held.map Grant.cs), .L 4 (t_.waiting.map Grant.cs)], true, true⟩, ⟨[.v (.slice none 0 0), .v (.slice none 0 0)], true, true⟩, ⟨(t_.held.map Grant.cs).flatten, true, lv1⟩] : Heap)) ++ [⟨(t_.waiting.map Grant.cs).flatten, true, lv3⟩] = h ++ ([⟨[.L 4 (t_.held.map Grant.cs), .L 4 (t_.waiting.map Grant.cs)], true, true⟩, ⟨[.v (.slice none 0 0), .v (.slice none 0 0)], true, true⟩, ⟨(t_.held.map Grant.cs).flatten, true, lv1⟩, ⟨(t_.waiting.map Grant.cs).flatten, true, lv3⟩] : Heap) from apnd rfl]
 refine ⟨(.m (by decide +kernel) (.m (by decide +kernel) .nil)), ?_⟩
 refine .p (.o (.agg [.g (h.length + 2) ((t_.held).length) 4 lv1, .g (h.length + 3) ((t_.waiting).length) 4 lv3])) (e_bld (cs := [.g (h.length + 2) ((t_.held).length) 4 lv1, .g (h.length + 3) ((t_.waiting).length) 4 lv3]) zo69 bl69 rfl rfl) ?_
 refine .c0 rfl rfl rfl rfl (e_stN (L' := [⟨[.L 4 (t_.held.map Grant.cs), .L 4 (t_.waiting.map Grant.cs)], true, true⟩, ⟨[.g (h.length + 2) ((t_.held).length) 4 lv1, .g (h.length + 3) ((t_.waiting).length) 4 lv3], true, true⟩, ⟨(t_.held.map Grant.cs).flatten, true, lv1⟩, ⟨(t_.waiting.map Grant.cs).flatten, true, lv3⟩]) rfl (ev_t rfl) (ev_t rfl) ty69 rfl rfl rfl rfl rfl) (.m (by decide +kernel) (.m (by decide +kernel) .nil)) ?_
 refine .nil ?_
 refine CdOK.ret ?_
 refine ⟨.inr rfl, _, (resA_c (look_find rfl) (eLoad_A ty69 (bx rfl rfl) rfl rfl rfl) resA_n), h, _, [2, 3], [⟨(t_.held.map Grant.cs).flatten, true, lv1⟩, ⟨(t_.waiting.map Grant.cs).flatten, true, lv3⟩], _, rfl, rfl, by decide, (.obj 2 rfl (renFl (flat_all (f := Grant.cs) (l := t_.held) (by intro x; rfl))) (.obj 3 rfl (renFl (flat_all (f := Grant.cs) (l := t_.waiting) (by intro x; rfl))) .nil)), ((.o (.agg (R2.of (.gg 2 0 _ _ _ _ _ rfl (by first | rfl | (simp; done) | (dsimp only at *; simp only [List.length_take]; omega)) rfl) (R2.of (.gg 3 1 _ _ _ _ _ rfl (by first | rfl | (simp; done) | (dsimp only at *; simp only [List.length_take]; omega)) rfl) (R2.nil _))))) : RenV _ _ _ _ (.o (.agg [.g (h.length + 0) ((t_.held).length) 4 lv1, .g (h.length + 1) ((t_.waiting).length) 4 lv3]))), ?_⟩
 cases hm.ret; exact ⟨lv1, lv3, rfl, rfl⟩
/- pagemend/locks.blocked$1 -/
def locks_blockedF (g_ : Grant) (a1 : Locks) (a2 : Int) : Option Bool := (if (0 : Int) ≤ a2 ∧ a2 < (a1.waiting.length : Int) then ((locks_conflict g_ (gd a1.waiting a2)).bind fun (x2 : Bool) => some x2) else none)
theorem locks_blockedF_ok {h : Heap} {g_ : Grant} {a1 : Locks} {a2 : Int} {b_a1 : Nat} (hb_a1 : h[b_a1]? = some ⟨[.L 4 (a1.held.map Grant.cs), .L 4 (a1.waiting.map Grant.cs)], true, true⟩) {b_a2 : Nat} (hb_a2 : h[b_a2]? = some ⟨[I (a2)], true, true⟩)  {r : Bool} (hm : locks_blockedF g_ a1 a2 = some r) : FnOK Try.prog 202 [.o (.agg [I (g_.tx), I (g_.lock.page), I (g_.lock.slot), I (g_.mode)]), .o (.c (.ptr b_a1 0)), .o (.c (.ptr b_a2 0))] h (fun v h' => v = VB (r) ∧ h' = h) := by
 refine FnOK.fin ?_
 refine FnOK.bodyC (N := 12) Try.func202 rfl rfl rfl (fun hC => ?_)
 have hl_a1 := lt_of_get hb_a1
 have hl_a2 := lt_of_get hb_a2
 replace hm := Ev.of hm
 rw [locks_blockedF.eq_1] at hm
 show CdOK _ _ _ (look _ [(0, .o (.agg [I (g_.tx), I (g_.lock.page), I (g_.lock.slot), I (g_.mode)])), (1, .o (.c (.ptr b_a1 0))), (2, .o (.c (.ptr b_a2 0)))]) (h ++ ([] : Heap)) _
 refine .seq ?_
 refine .region ?_
 refine .t (.o (.c (.ptr (h.length + 0) 0))) (e_boxN (L' := [⟨[I (g_.tx), I (g_.lock.page), I (g_.lock.slot), I (g_.mode)], true, true⟩]) rfl (ev_t rfl) rfl rfl) ?_
 refine .t (VB (false)) (e_as rfl) ?_
 refine .nil ?_
 refine CdOK.seq ?_
 refine .draw fol (by decide +kernel) ?_
 refine .t _ (e_ldbA (ev_t rfl) ty75 (bx rfl rfl) rfl rfl) ?_
 refine .t _ (e_fa' fa69_1 (ev_t rfl)) ?_
 refine .t _ (e_ldb1 (ev_t rfl) ty67 (pb hb_a1) rfl) ?_
 refine .t _ (e_ldb1 (ev_t rfl) ty3 (pb hb_a2) rfl) ?_
 obtain ⟨c1, hm⟩ := hm.ifs
 refine .t (.o (.c (.rp [I ((gd a1.waiting a2).tx), I ((gd a1.waiting a2).lock.page), I ((gd a1.waiting a2).lock.slot), I ((gd a1.waiting a2).mode)]))) (e_ixM (f := Grant.cs) (l := a1.waiting) (i := a2) (ev_t rfl) (ev_t rfl) el67 c1) ?_
 refine .t _ (e_ldRA (ev_t rfl) ty75 rfl rfl) ?_
 obtain ⟨x2, e2, hm⟩ := hm.call
 refine .cl rfl rfl rfl rfl pl114 (R2.wk _) (locks_conflict_ok    e2) ?_
 refine .a rfl ?_
 refine .nil ?_
 refine CdOK.ret ?_
 refine ⟨.inr rfl, _, rfl, h, _, _, rfl, rfl, hC, ((renFlV rfl) : RenV _ _ _ _ (VB (x2))), ?_⟩
 cases hm.ret; exact ⟨rfl, rfl⟩
/- slices.IndexFunc[[]pagemend/api.Grant,pagemend/api.Grant] -/
def IndexFuncK.l1 (s_ : (List Grant)) (f_0 : Locks) (f_1 : Int) : Nat → Int → Option (Sum Unit Int)
  | 0, _ => none
  | kk2 + 1, t81 => (if t81 < (s_.length : Int) then (if (0 : Int) ≤ t81 ∧ t81 < (s_.length : Int) then ((locks_blockedF (gd s_ t81) f_0 f_1).bind fun (x5 : Bool) => (if x5 = true then some (Sum.inr t81) else IndexFuncK.l1 s_ f_0 f_1 kk2 (w64 (t81 + 1)))) else none) else some (Sum.inl ()))
def IndexFuncK (s_ : (List Grant)) (f_0 : Locks) (f_1 : Int) : Option Int := ((IndexFuncK.l1 s_ f_0 f_1 FU 0).bind fun (z : Sum Unit Int) => match z with | .inl (s9 : Unit) => some (-1) | .inr r => some r)
theorem IndexFuncK_ok {h : Heap} {s_ : (List Grant)} {f_0 : Locks} {f_1 : Int} {b_f_0 : Nat} (hb_f_0 : h[b_f_0]? = some ⟨[.L 4 (f_0.held.map Grant.cs), .L 4 (f_0.waiting.map Grant.cs)], true, true⟩) {b_f_1 : Nat} (hb_f_1 : h[b_f_1]? = some ⟨[I (f_1)], true, true⟩)  {r : Int} (hm : IndexFuncK s_ f_0 f_1 = some r) : FnOK Try.prog 127 [.o (.c (.L 4 (s_.map Grant.cs))), .o (.c (.fn 202 [(b_f_0, 0), (b_f_1, 0)]))] h (fun v h' => v = VI (r) ∧ h' = h) := by
 refine FnOK.fin ?_
 refine FnOK.bodyC (N := 19) Try.func127 rfl rfl rfl (fun hC => ?_)
 have hl_f_0 := lt_of_get hb_f_0
 have hl_f_1 := lt_of_get hb_f_1
 replace hm := Ev.of hm
 rw [IndexFuncK.eq_1] at hm
 show CdOK _ _ _ (look _ [(0, .o (.c (.L 4 (s_.map Grant.cs)))), (1, .o (.c (.fn 202 [(b_f_0, 0), (b_f_1, 0)])))]) (h ++ ([] : Heap)) _
 refine .seq ?_
 refine .region ?_
 refine .t (VI (0)) (e_as rfl) ?_
 refine .nil ?_
 refine CdOK.seq ?_
 refine .seq ?_
 refine .region ?_
 refine .m rfl ?_
 refine .t (VI ((s_.length : Int))) (e_lenM (ev_t rfl) is67) ?_
 refine .t (VI (0)) (e_mv rfl) ?_
 refine .nil ?_
 replace hm := hm.bnd
 refine CdOK.joinT (σ := Unit) (fun s => Sum.inl ()) hm (fun s => []) (fun s => h ++ ([] : Heap)) ?_ ?_
 ·intro hm
  refine .block ?_
  refine .loopE (σ := Int) (fun k s => Ev (IndexFuncK.l1 s_ f_0 f_1 k s) _) (fun s => [(0, .o (.c (.L 4 (s_.map Grant.cs)))), (1, .o (.c (.fn 202 [(b_f_0, 0), (b_f_1, 0)]))), (7, VI ((s_.length : Int))), (8, VI (s))]) (fun s => h ++ ([] : Heap)) FU 0 hm (.cons rfl (.cons rfl (.cons rfl (.cons rfl .nil)))) rfl ?_
  rintro kk2 t81 T0 hm
  replace hm : Ev (IndexFuncK.l1 s_ f_0 f_1 kk2 t81) _ := hm
  cases kk2 with
  | zero => exact (Ev.non hm).elim
  | succ kk2 =>
  rw [IndexFuncK.l1.eq_2] at hm
  show CdOK _ _ _ (look T0 [(0, .o (.c (.L 4 (s_.map Grant.cs)))), (1, .o (.c (.fn 202 [(b_f_0, 0), (b_f_1, 0)]))), (7, VI ((s_.length : Int))), (8, VI (t81))]) (h ++ ([] : Heap)) _
  refine .seq ?_
  refine .region ?_
  refine .t (VB (decide (t81 < (s_.length : Int)))) (e_bin (ev_t rfl) (ev_t rfl) rfl rfl) ?_
  refine .nil ?_
  refine CdOK.seq ?_
  refine .condD (ev_t rfl) ?_ ?_
  ·intro c3; replace hm := hm.ifp c3
   refine .skip ?_
   refine CdOK.seq ?_
   refine .block ?_
   refine .seq ?_
   refine .region ?_
   refine .m rfl ?_
   refine .a rfl ?_
   refine .nil ?_
   refine CdOK.seq ?_
   refine .region ?_
   refine .m rfl ?_
   refine .m rfl ?_
   refine .m rfl ?_
   obtain ⟨c4, hm⟩ := hm.ifs
   refine .t (.o (.c (.rp [I ((gd s_ t81).tx), I ((gd s_ t81).lock.page), I ((gd s_ t81).lock.slot), I ((gd s_ t81).mode)]))) (e_ixM (f := Grant.cs) (l := s_) (i := t81) (ev_t rfl) (ev_t rfl) el67 c4) ?_
   refine .t _ (e_ldRA (ev_t rfl) ty75 rfl rfl) ?_
   obtain ⟨x5, e5, hm⟩ := hm.call
   refine .cl rfl rfl rfl rfl pl202 (R2.wk _) (locks_blockedF_ok  (b_a1 := b_f_0) (b_a2 := b_f_1) (pb hb_f_0) (pb hb_f_1) e5) ?_
   rintro _ _ ⟨rfl, rfl⟩
   refine .nil ?_
   refine CdOK.condB (ev_t rfl) ?_ ?_
   ·intro c6; replace hm := hm.ifp c6
    refine .seq ?_
    refine .region ?_
    refine .m rfl ?_
    refine .a rfl ?_
    refine .nil ?_
    refine CdOK.ret ?_
    refine ⟨.inr rfl, _, rfl, h, _, _, rfl, rfl, hC, ((renFlV rfl) : RenV _ _ _ _ (VI (t81))), ?_⟩
    have hr := hm.ret; replace hr := Ev.ret hr; cases hr; exact ⟨rfl, rfl⟩
   ·intro c7; replace hm := hm.ifn c7
    refine .skip ?_
    refine CdOK.region ?_
    refine .t (VI ((w64 (t81 + 1)))) (e_bin (ev_t rfl) rfl rfl rfl) ?_
    refine .m rfl ?_
    refine .nil ?_
    refine .id ?_
    exact ⟨_, (w64 (t81 + 1)), Nat.lt_succ_self _, hm, (.cons rfl (.cons rfl (.cons rfl (.cons rfl .nil)))), rfl⟩
  ·intro c8; replace hm := hm.ifn c8
   refine .exit ?_
   refine .id ?_
   exact ⟨(), hm.ret, .nil, rfl⟩
 ·intro _ T0 hm
  refine CdOK.seq ?_
  refine .region ?_
  refine .t (VI ((-1))) (e_as rfl) ?_
  refine .nil ?_
  refine CdOK.ret ?_
  refine ⟨.inr rfl, _, rfl, h, _, _, rfl, rfl, hC, ((renFlV rfl) : RenV _ _ _ _ (VI ((-1)))), ?_⟩
  cases hm.ret; exact ⟨rfl, rfl⟩
/- slices.ContainsFunc[[]pagemend/api.Grant,pagemend/api.Grant] -/
def ContainsFuncK (s_ : (List Grant)) (f_0 : Locks) (f_1 : Int) : Option Bool := ((IndexFuncK s_ f_0 f_1).bind fun (x1 : Int) => some (decide (0 ≤ x1)))
theorem ContainsFuncK_ok {h : Heap} {s_ : (List Grant)} {f_0 : Locks} {f_1 : Int} {b_f_0 : Nat} (hb_f_0 : h[b_f_0]? = some ⟨[.L 4 (f_0.held.map Grant.cs), .L 4 (f_0.waiting.map Grant.cs)], true, true⟩) {b_f_1 : Nat} (hb_f_1 : h[b_f_1]? = some ⟨[I (f_1)], true, true⟩)  {r : Bool} (hm : ContainsFuncK s_ f_0 f_1 = some r) : FnOK Try.prog 115 [.o (.c (.L 4 (s_.map Grant.cs))), .o (.c (.fn 202 [(b_f_0, 0), (b_f_1, 0)]))] h (fun v h' => v = VB (r) ∧ h' = h) := by
 refine FnOK.fin ?_
 refine FnOK.bodyC (N := 9) Try.func115 rfl rfl rfl (fun hC => ?_)
 have hl_f_0 := lt_of_get hb_f_0
 have hl_f_1 := lt_of_get hb_f_1
 replace hm := Ev.of hm
 rw [ContainsFuncK.eq_1] at hm
 show CdOK _ _ _ (look _ [(0, .o (.c (.L 4 (s_.map Grant.cs)))), (1, .o (.c (.fn 202 [(b_f_0, 0), (b_f_1, 0)])))]) (h ++ ([] : Heap)) _
 refine .seq ?_
 refine .region ?_
 refine .t (VB (false)) (e_as rfl) ?_
 refine .nil ?_
 refine CdOK.seq ?_
 refine .region ?_
 refine .m rfl ?_
 refine .m rfl ?_
 obtain ⟨x1, e1, hm⟩ := hm.call
 refine .cl rfl rfl rfl rfl pl127 (R2.wk _) (IndexFuncK_ok  (b_f_0 := b_f_0) (b_f_1 := b_f_1) (pb hb_f_0) (pb hb_f_1) e1) ?_
 rintro _ _ ⟨rfl, rfl⟩
 refine .t (VB (decide (0 ≤ x1))) (e_bin (ev_t rfl) rfl rfl rfl) ?_
 refine .a rfl ?_
 refine .nil ?_
 refine CdOK.ret ?_
 refine ⟨.inr rfl, _, rfl, h, _, _, rfl, rfl, hC, ((renFlV rfl) : RenV _ _ _ _ (VB (decide (0 ≤ x1)))), ?_⟩
 cases hm.ret; exact ⟨rfl, rfl⟩
/- pagemend/locks.blocked -/
def locks_blocked (t_ : Locks) (i_ : Int) : Option Bool := ((ContainsFuncK t_.held t_ i_).bind fun (x1 : Bool) => (if x1 = true then some true else (if (0 : Int) ≤ i_ ∧ i_ ≤ (t_.waiting.length : Int) then ((ContainsFuncK (t_.waiting.take (Int.toNat i_)) t_ i_).bind fun (x3 : Bool) => some x3) else none)))
theorem locks_blocked_ok {h : Heap} {t_ : Locks} {i_ : Int}   {r : Bool} (hm : locks_blocked t_ i_ = some r) : FnOK Try.prog 179 [.o (.agg [.L 4 (t_.held.map Grant.cs), .L 4 (t_.waiting.map Grant.cs)]), VI (i_)] h (fun v h' => v = VB (r) ∧ h' = h) := by
 refine FnOK.fin ?_
 refine FnOK.bodyC (N := 19) Try.func179 rfl rfl rfl (fun hC => ?_)
 replace hm := Ev.of hm
 rw [locks_blocked.eq_1] at hm
 show CdOK _ _ _ (look _ [(0, .o (.agg [.L 4 (t_.held.map Grant.cs), .L 4 (t_.waiting.map Grant.cs)])), (1, VI (i_))]) (h ++ ([] : Heap)) _
 refine .seq ?_
 refine .region ?_
 refine .t (.o (.c (.ptr (h.length + 0) 0))) (e_boxN (L' := [⟨[.L 4 (t_.held.map Grant.cs), .L 4 (t_.waiting.map Grant.cs)], true, true⟩]) rfl (ev_t rfl) rfl rfl) ?_
 refine .t (.o (.c (.ptr (h.length + 1) 0))) (e_boxN (L' := [⟨[.L 4 (t_.held.map Grant.cs), .L 4 (t_.waiting.map Grant.cs)], true, true⟩, ⟨[I (i_)], true, true⟩]) rfl (ev_t rfl) rfl rfl) ?_
 refine .t (VB (false)) (e_as rfl) ?_
 refine .nil ?_
 refine CdOK.seq ?_
 refine .region ?_
 refine .t (.o (.c (.fn 202 [((h.length + 0), 0), ((h.length + 1), 0)]))) (e_mkf rfl rfl) ?_
 refine .a rfl ?_
 refine .nil ?_
 refine CdOK.seq ?_
 refine .region ?_
 refine .t _ (e_fa' fa69_0 (ev_t rfl)) ?_
 refine .t _ (e_ldb1 (ev_t rfl) ty67 (bx rfl rfl) rfl) ?_
 refine .m rfl ?_
 obtain ⟨x1, e1, hm⟩ := hm.call
 cases x1 with
 | true =>
  replace hm := hm.ifp rfl
  refine .cl rfl rfl rfl rfl pl115 (R2.wk _) (ContainsFuncK_ok  (b_f_0 := (h.length + 0)) (b_f_1 := (h.length + 1)) (bx rfl rfl) (bx rfl rfl) e1) ?_
  rintro _ _ ⟨rfl, rfl⟩
  refine .m rfl ?_
  refine .k ?_
  refine .k ?_
  refine .k ?_
  refine .k ?_
  refine .k ?_
  refine .k ?_
  refine .t (VB (true)) (e_pick (t := true) (ev_t rfl) rfl) ?_
  refine .a rfl ?_
  refine .nil ?_
  refine CdOK.ret ?_
  refine ⟨.inr rfl, _, rfl, h, _, _, rfl, rfl, hC, ((renFlV rfl) : RenV _ _ _ _ (VB (true))), ?_⟩
  cases hm.ret; exact ⟨rfl, rfl⟩
 | false =>
  replace hm := hm.ifn Bool.false_ne_true
  refine .cl rfl rfl rfl rfl pl115 (R2.wk _) (ContainsFuncK_ok  (b_f_0 := (h.length + 0)) (b_f_1 := (h.length + 1)) (bx rfl rfl) (bx rfl rfl) e1) ?_
  rintro _ _ ⟨rfl, rfl⟩
  refine .m rfl ?_
  refine .t _ (e_fa' fa69_1 (ev_t rfl)) ?_
  refine .t _ (e_ldb1 (ev_t rfl) ty67 (bx rfl rfl) rfl) ?_
  refine .t _ (e_ldb1 (ev_t rfl) ty3 (bx rfl rfl) rfl) ?_
  obtain ⟨c2, hm⟩ := hm.ifs
  refine .t (.o (.c (.L 4 ((t_.waiting.take (Int.toNat i_)).map Grant.cs)))) (e_slhM el67 (ev_t rfl) (ev_t rfl) c2) ?_
  refine .m rfl ?_
  obtain ⟨x3, e3, hm⟩ := hm.call
  refine .cl rfl rfl rfl rfl pl115 (R2.wk _) (ContainsFuncK_ok  (b_f_0 := (h.length + 0)) (b_f_1 := (h.length + 1)) (bx rfl rfl) (bx rfl rfl) e3) ?_
  rintro _ _ ⟨rfl, rfl⟩
  refine .t (VB (x3)) (e_pick (t := false) (ev_t rfl) (ev_t rfl)) ?_
  refine .a rfl ?_
  refine .nil ?_
  refine CdOK.ret ?_
  refine ⟨.inr rfl, _, rfl, h, _, _, rfl, rfl, hC, ((renFlV rfl) : RenV _ _ _ _ (VB (x3))), ?_⟩
  cases hm.ret; exact ⟨rfl, rfl⟩
/- pagemend/locks.settle -/
def locks_settle.l2  : Nat → Bool → Int → Locks → Option (Bool × Locks)
  | 0, _, _, _ => none
  | kk11 + 1, changed8, i9, bx10 => (if i9 < ((bx10.waiting).length : Int) then ((locks_blocked bx10 i9).bind fun (x13 : Bool) => (if x13 = true then locks_settle.l2 kk11 changed8 (w64 (i9 + 1)) bx10 else (if 0 < bx10.waiting.length then (if (0 : Int) ≤ i9 ∧ i9 < (bx10.waiting.length : Int) then (if (0 : Int) ≤ i9 ∧ i9 < (bx10.waiting.length : Int) then (if ((0 : Int) ≤ i9 ∧ (w64 (i9 + 1)) = i9 + 1 ∧ (w64 (i9 + 1)) ≤ (bx10.waiting.length : Int)) ∧ bx10.waiting.length ≤ 1000000 then ((locks_find bx10.held ((gd bx10.waiting i9).tx) ((gd bx10.waiting i9).lock)).bind fun (x20 : (Int × Bool)) => (if x20.2 = true then (if 0 < bx10.held.length then (if (0 : Int) ≤ x20.1 ∧ x20.1 < (bx10.held.length : Int) then (if (0 : Int) ≤ x20.1 ∧ x20.1 < (bx10.held.length : Int) then locks_settle.l2 kk11 true i9 (⟨(bx10.held.set (Int.toNat x20.1) (⟨(gd bx10.held x20.1).tx, (gd bx10.held x20.1).lock, (gd bx10.waiting i9).mode⟩ : Grant)), (delL bx10.waiting (Int.toNat i9))⟩ : Locks) else none) else none) else none) else (if ((0 : Int) ≤ x20.1 ∧ x20.1 ≤ (bx10.held.length : Int)) ∧ bx10.held.length ≤ 1000000 then locks_settle.l2 kk11 true i9 (⟨(insL bx10.held (Int.toNat x20.1) (gd bx10.waiting i9)), (delL bx10.waiting (Int.toNat i9))⟩ : Locks) else none))) else none) else none) else none) else none))) else some (changed8, bx10))
def locks_settle.l1  : Nat → Bool → Locks → Option Locks
  | 0, _, _ => none
  | kk4 + 1, changed2, bx3 => (if changed2 = true then ((locks_settle.l2 FU false 0 bx3).bind fun (s28 : (Bool × Locks)) => locks_settle.l1 kk4 s28.1 s28.2) else some bx3)
def locks_settle (t_ : Locks) : Option Locks := ((locks_settle.l1 FU true t_).bind fun (s30 : Locks) => some s30)
theorem locks_settle_ok {h : Heap} {t_ : Locks} {A : Nat} (hA : h.length = A) {b_t_0 : Nat} {lv_t_0 : Bool} (hb_t_0 : h[b_t_0]? = some ⟨(t_.held.map Grant.cs).flatten, true, lv_t_0⟩) {b_t_1 : Nat} {lv_t_1 : Bool} (hb_t_1 : h[b_t_1]? = some ⟨(t_.waiting.map Grant.cs).flatten, true, lv_t_1⟩)   (hne_t_0_t_1 : b_t_0 ≠ b_t_1) {r : Locks} (hm : locks_settle t_ = some r) : FnOK Try.prog 110 [.o (.agg [.g b_t_0 ((t_.held).length) 4 lv_t_0, .g b_t_1 ((t_.waiting).length) 4 lv_t_1])] h (fun v h' => v = .o (.agg [.L 4 (r.held.map Grant.cs), .L 4 (r.waiting.map Grant.cs)]) ∧ h' = (kill (kill h b_t_0) b_t_1) ++ []) := by
 subst hA
 refine FnOK.mono (Q := fun v h' => ∃ L3, h' = (kill (kill h b_t_0) b_t_1) ++ L3 ∧ (v = .o (.agg [.L 4 (r.held.map Grant.cs), .L 4 (r.waiting.map Grant.cs)]) ∧ L3 = [])) ?_ (by rintro v h' ⟨L3, rfl, rfl, rfl⟩; exact ⟨rfl, rfl⟩)
 refine FnOK.bodyO (N := 57) (argsF := fun A => [.o (.agg [.g (A + 0) ((t_.held).length) 4 lv_t_0, .g (A + 1) ((t_.waiting).length) 4 lv_t_1])]) (L := [⟨(t_.held.map Grant.cs).flatten, true, lv_t_0⟩, ⟨(t_.waiting.map Grant.cs).flatten, true, lv_t_1⟩]) (H0 := (kill (kill h b_t_0) b_t_1)) (Q := fun A v L3 => v = .o (.agg [.L 4 (r.held.map Grant.cs), .L 4 (r.waiting.map Grant.cs)]) ∧ L3 = []) Try.func110 rfl rfl rfl (by simp [kill_len]) (Take.two hb_t_0 hb_t_1 hne_t_0_t_1 (R2.cons (.agg (R2.cons (.g _ _) (R2.cons (.refl _) (R2.nil _)))) (R2.nil _)) (R2.cons (.agg (R2.cons (.refl _) (R2.cons (.g _ _) (R2.nil _)))) (R2.nil _))) (fun h hC hH => ?_)
 replace hm := Ev.of hm
 rw [locks_settle.eq_1] at hm
 show CdOK _ _ _ (look _ [(0, .o (.agg [.g (h.length + 0) ((t_.held).length) 4 lv_t_0, .g (h.length + 1) ((t_.waiting).length) 4 lv_t_1]))]) (h ++ ([⟨(t_.held.map Grant.cs).flatten, true, lv_t_0⟩, ⟨(t_.waiting.map Grant.cs).flatten, true, lv_t_1⟩] : Heap)) _
 refine .seq ?_
 refine .region ?_
 refine .t (.o (.c (.ptr (h.length + 2) 0))) (e_boxN (L' := [⟨(t_.held.map Grant.cs).flatten, true, lv_t_0⟩, ⟨(t_.waiting.map Grant.cs).flatten, true, lv_t_1⟩, ⟨[.g (h.length + 0) ((t_.held).length) 4 lv_t_0, .g (h.length + 1) ((t_.waiting).length) 4 lv_t_1], true, true⟩]) rfl (ev_t rfl) rfl rfl) ?_
 refine .t (.o (.c (.ptr (h.length + 3) 0))) (e_allocN (L' := [⟨(t_.held.map Grant.cs).flatten, true, lv_t_0⟩, ⟨(t_.waiting.map Grant.cs).flatten, true, lv_t_1⟩, ⟨[.g (h.length + 0) ((t_.held).length) 4 lv_t_0, .g (h.length + 1) ((t_.waiting).length) 4 lv_t_1], true, true⟩, ⟨[.v (.slice none 0 0), .v (.slice none 0 0)], true, true⟩]) rfl zo69 rfl rfl) ?_
 refine .nil ?_
 refine CdOK.seq ?_
 refine .seq ?_
 refine .region ?_
 refine .t (VB (true)) (e_as rfl) ?_
 refine .nil ?_
 replace hm := hm.bnd
 refine CdOK.joinT (σ := (Locks × Bool × Bool)) (fun s => s.1) hm (fun s => [(1, .o (.c (.ptr (h.length + 0) 0))), (2, .o (.c (.ptr (h.length + 1) 0)))]) (fun s => h ++ ([⟨[.g (h.length + 2) ((s.1.held).length) 4 s.2.1, .g (h.length + 3) ((s.1.waiting).length) 4 s.2.2], true, true⟩, ⟨[.v (.slice none 0 0), .v (.slice none 0 0)], true, true⟩, ⟨(s.1.held.map Grant.cs).flatten, true, s.2.1⟩, ⟨(s.1.waiting.map Grant.cs).flatten, true, s.2.2⟩] : Heap)) ?_ ?_
 ·intro hm
  refine .block ?_
  refine .re (σ := [2, 3, 0, 1]) (X := [(1, .o (.c (.ptr (h.length + 0) 0))), (2, .o (.c (.ptr (h.length + 1) 0))), (3, VB (true))]) (L' := [⟨[.g (h.length + 2) ((t_.held).length) 4 lv_t_0, .g (h.length + 3) ((t_.waiting).length) 4 lv_t_1], true, true⟩, ⟨[.v (.slice none 0 0), .v (.slice none 0 0)], true, true⟩, ⟨(t_.held.map Grant.cs).flatten, true, lv_t_0⟩, ⟨(t_.waiting.map Grant.cs).flatten, true, lv_t_1⟩]) rfl rfl hC (by decide) (.obj 2 rfl (R2.of (.gg 0 2 _ _ _ _ _ rfl (by first | rfl | (simp; done) | (dsimp only at *; simp only [List.length_take]; omega)) rfl) (R2.of (.gg 1 3 _ _ _ _ _ rfl (by first | rfl | (simp; done) | (dsimp only at *; simp only [List.length_take]; omega)) rfl) (R2.nil _))) (.obj 3 rfl (renFl rfl) (.obj 0 rfl (renFl (flat_all (f := Grant.cs) (l := t_.held) (by intro x; rfl))) (.obj 1 rfl (renFl (flat_all (f := Grant.cs) (l := t_.waiting) (by intro x; rfl))) .nil)))) (.cons (.o (.c (.ptr 2 0 _ rfl))) (.cons (.o (.c (.ptr 3 1 _ rfl))) (.cons (renFlV rfl) .nil))) ?_
  refine .loopE (σ := (Bool × Locks × Bool × Bool)) (fun k s => Ev (locks_settle.l1 k s.1 s.2.1) _) (fun s => [(1, .o (.c (.ptr (h.length + 0) 0))), (2, .o (.c (.ptr (h.length + 1) 0))), (3, VB (s.1))]) (fun s => h ++ ([⟨[.g (h.length + 2) ((s.2.1.held).length) 4 s.2.2.1, .g (h.length + 3) ((s.2.1.waiting).length) 4 s.2.2.2], true, true⟩, ⟨[.v (.slice none 0 0), .v (.slice none 0 0)], true, true⟩, ⟨(s.2.1.held.map Grant.cs).flatten, true, s.2.2.1⟩, ⟨(s.2.1.waiting.map Grant.cs).flatten, true, s.2.2.2⟩] : Heap)) FU (true, t_, lv_t_0, lv_t_1) hm (.cons rfl (.cons rfl (.cons rfl .nil))) rfl ?_
  rintro kk4 ⟨changed2, bx3, bx3v0, bx3v1⟩ T0 hm
  replace hm : Ev (locks_settle.l1 kk4 changed2 bx3) _ := hm
  cases kk4 with
  | zero => exact (Ev.non hm).elim
  | succ kk4 =>
  rw [locks_settle.l1.eq_2] at hm
  show CdOK _ _ _ (look T0 [(1, .o (.c (.ptr (h.length + 0) 0))), (2, .o (.c (.ptr (h.length + 1) 0))), (3, VB (changed2))]) (h ++ ([⟨[.g (h.length + 2) ((bx3.held).length) 4 bx3v0, .g (h.length + 3) ((bx3.waiting).length) 4 bx3v1], true, true⟩, ⟨[.v (.slice none 0 0), .v (.slice none 0 0)], true, true⟩, ⟨(bx3.held.map Grant.cs).flatten, true, bx3v0⟩, ⟨(bx3.waiting.map Grant.cs).flatten, true, bx3v1⟩] : Heap)) _
  refine .seq ?_
  refine .seq ?_
  refine .region ?_
  refine .m rfl ?_
  refine .nil ?_
  refine CdOK.condB (ev_t rfl) ?_ ?_
  ·intro c5; replace hm := hm.ifp c5
   refine .skip ?_
   refine CdOK.block ?_
   refine .seq ?_
   refine .region ?_
   refine .t (VB (false)) (e_as rfl) ?_
   refine .nil ?_
   refine CdOK.seq ?_
   refine .region ?_
   refine .t (VI (0)) (e_as rfl) ?_
   refine .nil ?_
   replace hm := hm.bnd
   refine CdOK.joinT (σ := (Bool × Locks × Bool × Bool)) (fun s => (s.1, s.2.1)) hm (fun s => [(1, .o (.c (.ptr (h.length + 0) 0))), (2, .o (.c (.ptr (h.length + 1) 0))), (3, VB (s.1))]) (fun s => h ++ ([⟨[.g (h.length + 2) ((s.2.1.held).length) 4 s.2.2.1, .g (h.length + 3) ((s.2.1.waiting).length) 4 s.2.2.2], true, true⟩, ⟨[.v (.slice none 0 0), .v (.slice none 0 0)], true, true⟩, ⟨(s.2.1.held.map Grant.cs).flatten, true, s.2.2.1⟩, ⟨(s.2.1.waiting.map Grant.cs).flatten, true, s.2.2.2⟩] : Heap)) ?_ ?_
   ·intro hm
    refine .block ?_
    refine .loopE (σ := (Bool × Int × Locks × Bool × Bool)) (fun k s => Ev (locks_settle.l2 k s.1 s.2.1 s.2.2.1) _) (fun s => [(1, .o (.c (.ptr (h.length + 0) 0))), (2, .o (.c (.ptr (h.length + 1) 0))), (3, VB (s.1)), (4, VI (s.2.1))]) (fun s => h ++ ([⟨[.g (h.length + 2) ((s.2.2.1.held).length) 4 s.2.2.2.1, .g (h.length + 3) ((s.2.2.1.waiting).length) 4 s.2.2.2.2], true, true⟩, ⟨[.v (.slice none 0 0), .v (.slice none 0 0)], true, true⟩, ⟨(s.2.2.1.held.map Grant.cs).flatten, true, s.2.2.2.1⟩, ⟨(s.2.2.1.waiting.map Grant.cs).flatten, true, s.2.2.2.2⟩] : Heap)) FU (false, 0, bx3, bx3v0, bx3v1) hm (.cons rfl (.cons rfl (.cons rfl (.cons rfl .nil)))) rfl ?_
    rintro kk11 ⟨changed8, i9, bx10, bx10v0, bx10v1⟩ T0 hm
    replace hm : Ev (locks_settle.l2 kk11 changed8 i9 bx10) _ := hm
    cases kk11 with
    | zero => exact (Ev.non hm).elim
    | succ kk11 =>
    rw [locks_settle.l2.eq_2] at hm
    show CdOK _ _ _ (look T0 [(1, .o (.c (.ptr (h.length + 0) 0))), (2, .o (.c (.ptr (h.length + 1) 0))), (3, VB (changed8)), (4, VI (i9))]) (h ++ ([⟨[.g (h.length + 2) ((bx10.held).length) 4 bx10v0, .g (h.length + 3) ((bx10.waiting).length) 4 bx10v1], true, true⟩, ⟨[.v (.slice none 0 0), .v (.slice none 0 0)], true, true⟩, ⟨(bx10.held.map Grant.cs).flatten, true, bx10v0⟩, ⟨(bx10.waiting.map Grant.cs).flatten, true, bx10v1⟩] : Heap)) _
    refine .seq ?_
    refine .seq ?_
    refine .region ?_
    refine .m rfl ?_
    refine .t _ (e_fa' fa69_1 (ev_t rfl)) ?_
    refine .t _ (e_ldb1 (ev_t rfl) ty67 (bx rfl rfl) rfl) ?_
    refine .t (VI (((bx10.waiting).length : Int))) (e_lenG (ev_t rfl) is67) ?_
    refine .t (VB (decide (i9 < ((bx10.waiting).length : Int)))) (e_bin (ev_t rfl) (ev_t rfl) rfl rfl) ?_
    refine .nil ?_
    refine CdOK.condD (ev_t rfl) ?_ ?_
    ·intro c12; replace hm := hm.ifp c12
     refine .skip ?_
     refine CdOK.block ?_
     refine .seq ?_
     refine .seq ?_
     refine .region ?_
     refine .t _ (e_ldbA (ev_t rfl) ty69 (bx rfl rfl) rfl rfl) ?_
     refine .m rfl ?_
     obtain ⟨x13, e13, hm⟩ := hm.call
     refine .cl rfl rfl rfl rfl pl179 (R2.wk _) (FnOK.borrow (R2.cons (BorV.agg (R2.cons (BorC.g (bx rfl rfl) (by simp) (fun _ => rfl) (fun _ => rfl)) (R2.cons (BorC.g (bx rfl rfl) (by simp) (fun _ => rfl) (fun _ => rfl)) (R2.nil _)))) (R2.cons (BorV.c BorC.v) (R2.nil _))) (locks_blocked_ok (h := []) e13) rfl) ?_
     rintro _ _ ⟨rfl, rfl⟩
     refine .nil ?_
     refine CdOK.condB (ev_t rfl) ?_ ?_
     ·intro c14; replace hm := hm.ifp c14
      refine .seq ?_
      refine .region ?_
      refine .m rfl ?_
      refine .t (VI ((w64 (i9 + 1)))) (e_bin (ev_t rfl) rfl rfl rfl) ?_
      refine .a rfl ?_
      refine .nil ?_
      refine CdOK.exit ?_
      refine .id ?_
      exact ⟨_, (changed8, (w64 (i9 + 1)), bx10, bx10v0, bx10v1), Nat.lt_succ_self _, hm, (.cons rfl (.cons rfl (.cons rfl (.cons rfl .nil)))), rfl⟩
     ·intro c15; replace hm := hm.ifn c15
      refine .skip ?_
      refine CdOK.seq ?_
      obtain ⟨c16, hm⟩ := hm.ifs
      refine .glT (d := 11) (ev_t rfl) c16 (fun hlv => ?_)
      subst hlv
      skip
      refine .region ?_
      refine .t _ (e_fa' fa69_1 (ev_t rfl)) ?_
      refine .t _ (e_ldb1 (ev_t rfl) ty67 (bx rfl rfl) rfl) ?_
      refine .m rfl ?_
      obtain ⟨c17, hm⟩ := hm.ifs
      refine .t (.o (.c (.ptr (h.length + 3) (0 + (Int.toNat i9) * 4)))) (e_ixg (ev_t rfl) (ev_t rfl) el67 c17) ?_
      obtain ⟨c18, hm⟩ := hm.ifs
      refine .t _ (e_ldgA (k := 4) (off := 0) (f := Grant.cs) (l := bx10.waiting) (i := i9) (ev_t rfl) ty75 (bx rfl rfl) (by intro x; rfl) c18 rfl rfl (by omega)) ?_
      refine .t (.o (.c (.ptr (h.length + 4) 0))) (e_allocN (L' := [⟨[.g (h.length + 2) ((bx10.held).length) 4 bx10v0, .g (h.length + 3) ((bx10.waiting).length) 4 true], true, true⟩, ⟨[.v (.slice none 0 0), .v (.slice none 0 0)], true, true⟩, ⟨(bx10.held.map Grant.cs).flatten, true, bx10v0⟩, ⟨(bx10.waiting.map Grant.cs).flatten, true, true⟩, ⟨[I (0), I (0), I (0), I (0)], true, true⟩]) rfl zo75 rfl rfl) ?_
      refine .s0 rfl rfl (e_stN (L' := [⟨[.g (h.length + 2) ((bx10.held).length) 4 bx10v0, .g (h.length + 3) ((bx10.waiting).length) 4 true], true, true⟩, ⟨[.v (.slice none 0 0), .v (.slice none 0 0)], true, true⟩, ⟨(bx10.held.map Grant.cs).flatten, true, bx10v0⟩, ⟨(bx10.waiting.map Grant.cs).flatten, true, true⟩, ⟨[I ((gd bx10.waiting i9).tx), I ((gd bx10.waiting i9).lock.page), I ((gd bx10.waiting i9).lock.slot), I ((gd bx10.waiting i9).mode)], true, true⟩]) rfl (ev_t rfl) (ev_t rfl) ty75 rfl rfl rfl rfl rfl) ?_
      refine .nil ?_
      refine CdOK.seq ?_
      refine .region ?_
      refine .t _ (e_fa' fa69_1 (ev_t rfl)) ?_
      refine .t _ (e_ldb1 (ev_t rfl) ty67 (bx rfl rfl) rfl) ?_
      refine .m rfl ?_
      refine .m rfl ?_
      refine .t (VI ((w64 (i9 + 1)))) (e_bin (ev_t rfl) rfl rfl rfl) ?_
      obtain ⟨c19, hm⟩ := hm.ifs
      refine .cl rfl rfl rfl rfl pl180 (R2.wk _) (delG_ok (A := (h.length + 5)) (l := bx10.waiting) (lenN rfl rfl) (bx rfl rfl) c19.1 c19.2) ?_
      rintro _ _ ⟨rfl, rfl⟩
      rw [show kill (h ++ ([⟨[.g (h.length + 2) ((bx10.held).length) 4 bx10v0, .g (h.length + 3) ((bx10.waiting).length) 4 true], true, true⟩, ⟨[.v (.slice none 0 0), .v (.slice none 0 0)], true, true⟩, ⟨(bx10.held.map Grant.cs).flatten, true, bx10v0⟩, ⟨(bx10.waiting.map Grant.cs).flatten, true, true⟩, ⟨[I ((gd bx10.waiting i9).tx), I ((gd bx10.waiting i9).lock.page), I ((gd bx10.waiting i9).lock.slot), I ((gd bx10.waiting i9).mode)], true, true⟩] : Heap)) (h.length + 3) ++ [⟨((delL bx10.waiting (Int.toNat i9)).map Grant.cs).flatten, true, true⟩] = h ++ ([⟨[.g (h.length + 2) ((bx10.held).length) 4 bx10v0, .g (h.length + 3) ((bx10.waiting).length) 4 true], true, true⟩, ⟨[.v (.slice none 0 0), .v (.slice none 0 0)], true, true⟩, ⟨(bx10.held.map Grant.cs).flatten, true, bx10v0⟩, ⟨(bx10.waiting.map Grant.cs).flatten, true, false⟩, ⟨[I ((gd bx10.waiting i9).tx), I ((gd bx10.waiting i9).lock.page), I ((gd bx10.waiting i9).lock.slot), I ((gd bx10.waiting i9).mode)], true, true⟩, ⟨((delL bx10.waiting (Int.toNat i9)).map Grant.cs).flatten, true, true⟩] : Heap) from apndK rfl rfl]
      refine .t _ (e_fa' fa69_1 (ev_t rfl)) ?_
      refine .s0 rfl rfl (e_stN (L' := [⟨[.g (h.length + 2) ((bx10.held).length) 4 bx10v0, .g (h.length + 5) (((delL bx10.waiting (Int.toNat i9))).length) 4 true], true, true⟩, ⟨[.v (.slice none 0 0), .v (.slice none 0 0)], true, true⟩, ⟨(bx10.held.map Grant.cs).flatten, true, bx10v0⟩, ⟨(bx10.waiting.map Grant.cs).flatten, true, false⟩, ⟨[I ((gd bx10.waiting i9).tx), I ((gd bx10.waiting i9).lock.page), I ((gd bx10.waiting i9).lock.slot), I ((gd bx10.waiting i9).mode)], true, true⟩, ⟨((delL bx10.waiting (Int.toNat i9)).map Grant.cs).flatten, true, true⟩]) rfl (ev_t rfl) (ev_t rfl) ty67 rfl rfl rfl rfl rfl) ?_
      refine .nil ?_
      refine CdOK.seq ?_
      refine .seq ?_
      refine .region ?_
      refine .t _ (e_fa' fa69_0 (ev_t rfl)) ?_
      refine .t _ (e_ldb1 (ev_t rfl) ty67 (bx rfl rfl) rfl) ?_
      refine .t _ (e_fa' fa75_0 (ev_t rfl)) ?_
      refine .t _ (e_ldb1 (ev_t rfl) ty3 (bx rfl rfl) rfl) ?_
      refine .t _ (e_fa' fa75_1 (ev_t rfl)) ?_
      refine .t _ (e_ldbA (ev_t rfl) ty71 (bx rfl rfl) rfl rfl) ?_
      obtain ⟨x20, e20, hm⟩ := hm.call
      refine .cl rfl rfl rfl rfl pl175 (R2.wk _) (FnOK.borrow (R2.cons (BorV.c (BorC.g (bx rfl rfl) (by simp) (fun _ => rfl) (fun _ => rfl))) (R2.cons (BorV.c BorC.v) (R2.cons (BorV.agg (R2.cons BorC.v (R2.cons BorC.v (R2.nil _)))) (R2.nil _)))) (locks_find_ok (h := []) e20) rfl) ?_
      rintro _ _ ⟨rfl, rfl⟩
      refine .m rfl ?_
      refine .t (VI (x20.1)) (e_ext (ev_t rfl) rfl) ?_
      refine .t (VB (x20.2)) (e_ext (ev_t rfl) rfl) ?_
      refine .a rfl ?_
      refine .a rfl ?_
      refine .nil ?_
      refine CdOK.seq ?_
      refine .region ?_
      refine .m rfl ?_
      refine .nil ?_
      refine CdOK.condB (ev_t rfl) ?_ ?_
      ·intro c21; replace hm := hm.ifp c21
       obtain ⟨c22, hm⟩ := hm.ifs
       refine .glT (d := 33) (ev_t rfl) c22 (fun hlv => ?_)
       subst hlv
       skip
       refine .region ?_
       refine .t _ (e_fa' fa69_0 (ev_t rfl)) ?_
       refine .t _ (e_ldb1 (ev_t rfl) ty67 (bx rfl rfl) rfl) ?_
       refine .m rfl ?_
       refine .t _ (e_fa' fa75_2 (ev_t rfl)) ?_
       refine .t _ (e_ldb1 (ev_t rfl) ty3 (bx rfl rfl) rfl) ?_
       obtain ⟨c23, hm⟩ := hm.ifs
       refine .t (.o (.c (.ptr (h.length + 2) (0 + (Int.toNat x20.1) * 4)))) (e_ixg (ev_t rfl) (ev_t rfl) el67 c23) ?_
       refine .t _ (e_fa' fa75_2 (ev_t rfl)) ?_
       obtain ⟨c24, hm⟩ := hm.ifs
       refine .s0 rfl rfl (e_stg (k := 4) (off := 3) (f := Grant.cs) (l := bx10.held) (i := x20.1) (x := (⟨(gd bx10.held x20.1).tx, (gd bx10.held x20.1).lock, (gd bx10.waiting i9).mode⟩ : Grant)) (L' := [⟨[.g (h.length + 2) ((bx10.held).length) 4 true, .g (h.length + 5) (((delL bx10.waiting (Int.toNat i9))).length) 4 true], true, true⟩, ⟨[.v (.slice none 0 0), .v (.slice none 0 0)], true, true⟩, ⟨((bx10.held.set (Int.toNat x20.1) (⟨(gd bx10.held x20.1).tx, (gd bx10.held x20.1).lock, (gd bx10.waiting i9).mode⟩ : Grant)).map Grant.cs).flatten, true, true⟩, ⟨(bx10.waiting.map Grant.cs).flatten, true, false⟩, ⟨[I ((gd bx10.waiting i9).tx), I ((gd bx10.waiting i9).lock.page), I ((gd bx10.waiting i9).lock.slot), I ((gd bx10.waiting i9).mode)], true, true⟩, ⟨((delL bx10.waiting (Int.toNat i9)).map Grant.cs).flatten, true, true⟩]) rfl (ev_t rfl) (ev_t rfl) ty3 rfl (by intro x; rfl) rfl rfl c24 (by omega) rfl) ?_
       refine .nil ?_
       refine CdOK.region ?_
       refine .t (VB (true)) (e_as rfl) ?_
       refine .nil ?_
       refine .re (σ := [0, 1, 2, 5]) (X := [(1, .o (.c (.ptr (h.length + 0) 0))), (2, .o (.c (.ptr (h.length + 1) 0))), (3, VB (true)), (4, VI (i9))]) (L' := [⟨[.g (h.length + 2) (((⟨(bx10.held.set (Int.toNat x20.1) (⟨(gd bx10.held x20.1).tx, (gd bx10.held x20.1).lock, (gd bx10.waiting i9).mode⟩ : Grant)), (delL bx10.waiting (Int.toNat i9))⟩ : Locks).held).length) 4 true, .g (h.length + 3) (((⟨(bx10.held.set (Int.toNat x20.1) (⟨(gd bx10.held x20.1).tx, (gd bx10.held x20.1).lock, (gd bx10.waiting i9).mode⟩ : Grant)), (delL bx10.waiting (Int.toNat i9))⟩ : Locks).waiting).length) 4 true], true, true⟩, ⟨[.v (.slice none 0 0), .v (.slice none 0 0)], true, true⟩, ⟨((⟨(bx10.held.set (Int.toNat x20.1) (⟨(gd bx10.held x20.1).tx, (gd bx10.held x20.1).lock, (gd bx10.waiting i9).mode⟩ : Grant)), (delL bx10.waiting (Int.toNat i9))⟩ : Locks).held.map Grant.cs).flatten, true, true⟩, ⟨((⟨(bx10.held.set (Int.toNat x20.1) (⟨(gd bx10.held x20.1).tx, (gd bx10.held x20.1).lock, (gd bx10.waiting i9).mode⟩ : Grant)), (delL bx10.waiting (Int.toNat i9))⟩ : Locks).waiting.map Grant.cs).flatten, true, true⟩]) rfl rfl hC (by decide) (.obj 0 rfl (R2.of (.gg 2 2 _ _ _ _ _ rfl (by first | rfl | (simp; done) | (dsimp only at *; simp only [List.length_take]; omega)) rfl) (R2.of (.gg 5 3 _ _ _ _ _ rfl (by first | rfl | (simp; done) | (dsimp only at *; simp only [List.length_take]; omega)) rfl) (R2.nil _))) (.obj 1 rfl (renFl rfl) (.obj 2 rfl (renFl (flat_all (f := Grant.cs) (l := (bx10.held.set (Int.toNat x20.1) (⟨(gd bx10.held x20.1).tx, (gd bx10.held x20.1).lock, (gd bx10.waiting i9).mode⟩ : Grant))) (by intro x; rfl))) (.obj 5 rfl (renFl (flat_all (f := Grant.cs) (l := (delL bx10.waiting (Int.toNat i9))) (by intro x; rfl))) .nil)))) (.cons (.o (.c (.ptr 0 0 _ rfl))) (.cons (.o (.c (.ptr 1 1 _ rfl))) (.cons (renFlV rfl) (.cons (renFlV rfl) .nil)))) ?_
       exact ⟨_, (true, i9, (⟨(bx10.held.set (Int.toNat x20.1) (⟨(gd bx10.held x20.1).tx, (gd bx10.held x20.1).lock, (gd bx10.waiting i9).mode⟩ : Grant)), (delL bx10.waiting (Int.toNat i9))⟩ : Locks), true, true), Nat.lt_succ_self _, hm, (.cons rfl (.cons rfl (.cons rfl (.cons rfl .nil)))), rfl⟩
      ·intro c25; replace hm := hm.ifn c25
       refine .region ?_
       refine .t _ (e_fa' fa69_0 (ev_t rfl)) ?_
       refine .t _ (e_ldb1 (ev_t rfl) ty67 (bx rfl rfl) rfl) ?_
       refine .m rfl ?_
       refine .t _ (e_ldbA (ev_t rfl) ty75 (bx rfl rfl) rfl rfl) ?_
       refine .t (.o (.c (.LC 4 (([(gd bx10.waiting i9)] : List Grant).map Grant.cs)))) (e_lit (cs := [I ((gd bx10.waiting i9).tx), I ((gd bx10.waiting i9).lock.page), I ((gd bx10.waiting i9).lock.slot), I ((gd bx10.waiting i9).mode)]) (xs := ([(gd bx10.waiting i9)]).map Grant.cs) slt67 rfl rfl rfl rfl rfl) ?_
       obtain ⟨c26, hm⟩ := hm.ifs
       refine .cl rfl rfl rfl rfl pl108 (R2.wk _) (insG_ok (A := (h.length + 6)) (l := bx10.held) (x := (gd bx10.waiting i9)) (lenN rfl rfl) (bx rfl rfl) c26.1 c26.2) ?_
       rintro _ _ ⟨rfl, rfl⟩
       rw [show kill (h ++ ([⟨[.g (h.length + 2) ((bx10.held).length) 4 bx10v0, .g (h.length + 5) (((delL bx10.waiting (Int.toNat i9))).length) 4 true], true, true⟩, ⟨[.v (.slice none 0 0), .v (.slice none 0 0)], true, true⟩, ⟨(bx10.held.map Grant.cs).flatten, true, bx10v0⟩, ⟨(bx10.waiting.map Grant.cs).flatten, true, false⟩, ⟨[I ((gd bx10.waiting i9).tx), I ((gd bx10.waiting i9).lock.page), I ((gd bx10.waiting i9).lock.slot), I ((gd bx10.waiting i9).mode)], true, true⟩, ⟨((delL bx10.waiting (Int.toNat i9)).map Grant.cs).flatten, true, true⟩] : Heap)) (h.length + 2) ++ [⟨((insL bx10.held (Int.toNat x20.1) (gd bx10.waiting i9)).map Grant.cs).flatten, true, true⟩] = h ++ ([⟨[.g (h.length + 2) ((bx10.held).length) 4 bx10v0, .g (h.length + 5) (((delL bx10.waiting (Int.toNat i9))).length) 4 true], true, true⟩, ⟨[.v (.slice none 0 0), .v (.slice none 0 0)], true, true⟩, ⟨(bx10.held.map Grant.cs).flatten, true, false⟩, ⟨(bx10.waiting.map Grant.cs).flatten, true, false⟩, ⟨[I ((gd bx10.waiting i9).tx), I ((gd bx10.waiting i9).lock.page), I ((gd bx10.waiting i9).lock.slot), I ((gd bx10.waiting i9).mode)], true, true⟩, ⟨((delL bx10.waiting (Int.toNat i9)).map Grant.cs).flatten, true, true⟩, ⟨((insL bx10.held (Int.toNat x20.1) (gd bx10.waiting i9)).map Grant.cs).flatten, true, true⟩] : Heap) from apndK rfl rfl]
       refine .t _ (e_fa' fa69_0 (ev_t rfl)) ?_
       refine .s0 rfl rfl (e_stN (L' := [⟨[.g (h.length + 6) (((insL bx10.held (Int.toNat x20.1) (gd bx10.waiting i9))).length) 4 true, .g (h.length + 5) (((delL bx10.waiting (Int.toNat i9))).length) 4 true], true, true⟩, ⟨[.v (.slice none 0 0), .v (.slice none 0 0)], true, true⟩, ⟨(bx10.held.map Grant.cs).flatten, true, false⟩, ⟨(bx10.waiting.map Grant.cs).flatten, true, false⟩, ⟨[I ((gd bx10.waiting i9).tx), I ((gd bx10.waiting i9).lock.page), I ((gd bx10.waiting i9).lock.slot), I ((gd bx10.waiting i9).mode)], true, true⟩, ⟨((delL bx10.waiting (Int.toNat i9)).map Grant.cs).flatten, true, true⟩, ⟨((insL bx10.held (Int.toNat x20.1) (gd bx10.waiting i9)).map Grant.cs).flatten, true, true⟩]) rfl (ev_t rfl) (ev_t rfl) ty67 rfl rfl rfl rfl rfl) ?_
       refine .nil ?_
       refine CdOK.region ?_
       refine .t (VB (true)) (e_as rfl) ?_
       refine .nil ?_
       refine .re (σ := [0, 1, 6, 5]) (X := [(1, .o (.c (.ptr (h.length + 0) 0))), (2, .o (.c (.ptr (h.length + 1) 0))), (3, VB (true)), (4, VI (i9))]) (L' := [⟨[.g (h.length + 2) (((⟨(insL bx10.held (Int.toNat x20.1) (gd bx10.waiting i9)), (delL bx10.waiting (Int.toNat i9))⟩ : Locks).held).length) 4 true, .g (h.length + 3) (((⟨(insL bx10.held (Int.toNat x20.1) (gd bx10.waiting i9)), (delL bx10.waiting (Int.toNat i9))⟩ : Locks).waiting).length) 4 true], true, true⟩, ⟨[.v (.slice none 0 0), .v (.slice none 0 0)], true, true⟩, ⟨((⟨(insL bx10.held (Int.toNat x20.1) (gd bx10.waiting i9)), (delL bx10.waiting (Int.toNat i9))⟩ : Locks).held.map Grant.cs).flatten, true, true⟩, ⟨((⟨(insL bx10.held (Int.toNat x20.1) (gd bx10.waiting i9)), (delL bx10.waiting (Int.toNat i9))⟩ : Locks).waiting.map Grant.cs).flatten, true, true⟩]) rfl rfl hC (by decide) (.obj 0 rfl (R2.of (.gg 6 2 _ _ _ _ _ rfl (by first | rfl | (simp; done) | (dsimp only at *; simp only [List.length_take]; omega)) rfl) (R2.of (.gg 5 3 _ _ _ _ _ rfl (by first | rfl | (simp; done) | (dsimp only at *; simp only [List.length_take]; omega)) rfl) (R2.nil _))) (.obj 1 rfl (renFl rfl) (.obj 6 rfl (renFl (flat_all (f := Grant.cs) (l := (insL bx10.held (Int.toNat x20.1) (gd bx10.waiting i9))) (by intro x; rfl))) (.obj 5 rfl (renFl (flat_all (f := Grant.cs) (l := (delL bx10.waiting (Int.toNat i9))) (by intro x; rfl))) .nil)))) (.cons (.o (.c (.ptr 0 0 _ rfl))) (.cons (.o (.c (.ptr 1 1 _ rfl))) (.cons (renFlV rfl) (.cons (renFlV rfl) .nil)))) ?_
       exact ⟨_, (true, i9, (⟨(insL bx10.held (Int.toNat x20.1) (gd bx10.waiting i9)), (delL bx10.waiting (Int.toNat i9))⟩ : Locks), true, true), Nat.lt_succ_self _, hm, (.cons rfl (.cons rfl (.cons rfl (.cons rfl .nil)))), rfl⟩
    ·intro c27; replace hm := hm.ifn c27
     refine .exit ?_
     refine .id ?_
     exact ⟨(changed8, bx10, bx10v0, bx10v1), hm.ret, (.cons rfl (.cons rfl (.cons rfl .nil))), rfl⟩
   ·rintro ⟨changed6, bx7, bx7v0, bx7v1⟩ T0 hm
    refine .id ?_
    exact ⟨_, (changed6, bx7, bx7v0, bx7v1), Nat.lt_succ_self _, hm, (.cons rfl (.cons rfl (.cons rfl .nil))), rfl⟩
  ·intro c29; replace hm := hm.ifn c29
   refine .exit ?_
   refine .id ?_
   exact ⟨(bx3, bx3v0, bx3v1), hm.ret, (.cons rfl (.cons rfl .nil)), rfl⟩
 ·rintro ⟨bx1, bx1v0, bx1v1⟩ T0 hm
  refine CdOK.seq ?_
  refine .region ?_
  refine .t _ (e_ldbA (ev_t rfl) ty69 (bx rfl rfl) rfl rfl) ?_
  refine .s0 rfl rfl (e_stN (L' := [⟨[.g (h.length + 2) ((bx1.held).length) 4 bx1v0, .g (h.length + 3) ((bx1.waiting).length) 4 bx1v1], true, true⟩, ⟨[.g (h.length + 2) ((bx1.held).length) 4 bx1v0, .g (h.length + 3) ((bx1.waiting).length) 4 bx1v1], true, true⟩, ⟨(bx1.held.map Grant.cs).flatten, true, bx1v0⟩, ⟨(bx1.waiting.map Grant.cs).flatten, true, bx1v1⟩]) rfl (ev_t rfl) (ev_t rfl) ty69 rfl rfl rfl rfl rfl) ?_
  refine .nil ?_
  refine CdOK.ret ?_
  refine ⟨.inr rfl, _, (resA_c (look_find rfl) (eLoad_A ty69 (bx rfl rfl) rfl rfl rfl) resA_n), h, _, [], [], _, rfl, rfl, by decide, .nil, ((.o (.agg (R2.of (.fzg 2 _ 4 _ (bx1.held.map Grant.cs) rfl (by decide) (by first | exact List.length_map .. | simp) (lens_all (by intro x; rfl)) (vl_all (by intro x; rfl))) (R2.of (.fzg 3 _ 4 _ (bx1.waiting.map Grant.cs) rfl (by decide) (by first | exact List.length_map .. | simp) (lens_all (by intro x; rfl)) (vl_all (by intro x; rfl))) (R2.nil _))))) : RenV _ _ _ _ (.o (.agg [.L 4 (bx1.held.map Grant.cs), .L 4 (bx1.waiting.map Grant.cs)]))), ?_⟩
  cases hm.ret; exact ⟨rfl, rfl⟩
/- pagemend/locks.place -/
def locks_place.l1 (t_ : Locks) (g_ : Grant) : Nat → Int → Option (Sum Unit Int)
  | 0, _ => none
  | kk5 + 1, t204 => (if t204 < (t_.waiting.length : Int) then (if (0 : Int) ≤ t204 ∧ t204 < (t_.waiting.length : Int) then (if ((gd t_.waiting t204).tx) ≠ g_.tx then (if (gd t_.waiting t204).lock = g_.lock then ((locks_mode1 t_ ((gd t_.waiting t204).tx) ((gd t_.waiting t204).lock)).bind fun (x10 : Int) => (if x10 = 0 then some (Sum.inr t204) else locks_place.l1 t_ g_ kk5 (w64 (t204 + 1)))) else locks_place.l1 t_ g_ kk5 (w64 (t204 + 1))) else locks_place.l1 t_ g_ kk5 (w64 (t204 + 1))) else none) else some (Sum.inl ()))
def locks_place (t_ : Locks) (g_ : Grant) : Option Int := ((locks_mode1 t_ g_.tx g_.lock).bind fun (x1 : Int) => (if x1 = 0 then some (t_.waiting.length : Int) else ((locks_place.l1 t_ g_ FU 0).bind fun (z : Sum Unit Int) => match z with | .inl (s16 : Unit) => some (t_.waiting.length : Int) | .inr r => some r)))
theorem locks_place_ok {h : Heap} {t_ : Locks} {g_ : Grant}   {r : Int} (hm : locks_place t_ g_ = some r) : FnOK Try.prog 109 [.o (.agg [.L 4 (t_.held.map Grant.cs), .L 4 (t_.waiting.map Grant.cs)]), .o (.agg [I (g_.tx), I (g_.lock.page), I (g_.lock.slot), I (g_.mode)])] h (fun v h' => v = VI (r) ∧ h' = h) := by
 refine FnOK.fin ?_
 refine FnOK.bodyC (N := 51) Try.func109 rfl rfl rfl (fun hC => ?_)
 replace hm := Ev.of hm
 rw [locks_place.eq_1] at hm
 show CdOK _ _ _ (look _ [(0, .o (.agg [.L 4 (t_.held.map Grant.cs), .L 4 (t_.waiting.map Grant.cs)])), (1, .o (.agg [I (g_.tx), I (g_.lock.page), I (g_.lock.slot), I (g_.mode)]))]) (h ++ ([] : Heap)) _
 refine .seq ?_
 refine .region ?_
 refine .t (.o (.c (.ptr (h.length + 0) 0))) (e_boxN (L' := [⟨[.L 4 (t_.held.map Grant.cs), .L 4 (t_.waiting.map Grant.cs)], true, true⟩]) rfl (ev_t rfl) rfl rfl) ?_
 refine .t (.o (.c (.ptr (h.length + 1) 0))) (e_boxN (L' := [⟨[.L 4 (t_.held.map Grant.cs), .L 4 (t_.waiting.map Grant.cs)], true, true⟩, ⟨[I (g_.tx), I (g_.lock.page), I (g_.lock.slot), I (g_.mode)], true, true⟩]) rfl (ev_t rfl) rfl rfl) ?_
 refine .t (VI (0)) (e_as rfl) ?_
 refine .nil ?_
 refine CdOK.seq ?_
 refine .seq ?_
 refine .region ?_
 refine .t _ (e_ldbA (ev_t rfl) ty69 (bx rfl rfl) rfl rfl) ?_
 refine .t _ (e_fa' fa75_0 (ev_t rfl)) ?_
 refine .t _ (e_ldb1 (ev_t rfl) ty3 (bx rfl rfl) rfl) ?_
 refine .t _ (e_fa' fa75_1 (ev_t rfl)) ?_
 refine .t _ (e_ldbA (ev_t rfl) ty71 (bx rfl rfl) rfl rfl) ?_
 obtain ⟨x1, e1, hm⟩ := hm.call
 refine .cl rfl rfl rfl rfl pl106 (R2.wk _) (locks_mode1_ok    e1) ?_
 rintro _ _ ⟨rfl, rfl⟩
 refine .t (VB (decide (x1 = 0))) (e_eqK (ev_t rfl) rfl) ?_
 refine .nil ?_
 refine CdOK.condD (ev_t rfl) ?_ ?_
 ·intro c2; replace hm := hm.ifp c2
  refine .seq ?_
  refine .region ?_
  refine .t _ (e_fa' fa69_1 (ev_t rfl)) ?_
  refine .t _ (e_ldb1 (ev_t rfl) ty67 (bx rfl rfl) rfl) ?_
  refine .t (VI ((t_.waiting.length : Int))) (e_lenM (ev_t rfl) is67) ?_
  refine .a rfl ?_
  refine .nil ?_
  refine CdOK.ret ?_
  refine ⟨.inr rfl, _, rfl, h, _, _, rfl, rfl, hC, ((renFlV rfl) : RenV _ _ _ _ (VI ((t_.waiting.length : Int)))), ?_⟩
  cases hm.ret; exact ⟨rfl, rfl⟩
 ·intro c3; replace hm := hm.ifn c3
  refine .skip ?_
  refine CdOK.seq ?_
  refine .seq ?_
  refine .region ?_
  refine .t _ (e_fa' fa69_1 (ev_t rfl)) ?_
  refine .t _ (e_ldb1 (ev_t rfl) ty67 (bx rfl rfl) rfl) ?_
  refine .t (VI ((t_.waiting.length : Int))) (e_lenM (ev_t rfl) is67) ?_
  refine .t (VI (0)) (e_mv rfl) ?_
  refine .nil ?_
  replace hm := hm.bnd
  refine CdOK.joinT (σ := Unit) (fun s => Sum.inl ()) hm (fun s => [(2, .o (.c (.ptr (h.length + 0) 0)))]) (fun s => h ++ ([⟨[.L 4 (t_.held.map Grant.cs), .L 4 (t_.waiting.map Grant.cs)], true, true⟩] : Heap)) ?_ ?_
  ·intro hm
   refine .block ?_
   refine .loopE (σ := Int) (fun k s => Ev (locks_place.l1 t_ g_ k s) _) (fun s => [(2, .o (.c (.ptr (h.length + 0) 0))), (3, .o (.c (.ptr (h.length + 1) 0))), (18, .o (.c (.L 4 (t_.waiting.map Grant.cs)))), (19, VI ((t_.waiting.length : Int))), (20, VI (s))]) (fun s => h ++ ([⟨[.L 4 (t_.held.map Grant.cs), .L 4 (t_.waiting.map Grant.cs)], true, true⟩, ⟨[I (g_.tx), I (g_.lock.page), I (g_.lock.slot), I (g_.mode)], true, true⟩] : Heap)) FU 0 hm (.cons rfl (.cons rfl (.cons rfl (.cons rfl (.cons rfl .nil))))) rfl ?_
   rintro kk5 t204 T0 hm
   replace hm : Ev (locks_place.l1 t_ g_ kk5 t204) _ := hm
   cases kk5 with
   | zero => exact (Ev.non hm).elim
   | succ kk5 =>
   rw [locks_place.l1.eq_2] at hm
   show CdOK _ _ _ (look T0 [(2, .o (.c (.ptr (h.length + 0) 0))), (3, .o (.c (.ptr (h.length + 1) 0))), (18, .o (.c (.L 4 (t_.waiting.map Grant.cs)))), (19, VI ((t_.waiting.length : Int))), (20, VI (t204))]) (h ++ ([⟨[.L 4 (t_.held.map Grant.cs), .L 4 (t_.waiting.map Grant.cs)], true, true⟩, ⟨[I (g_.tx), I (g_.lock.page), I (g_.lock.slot), I (g_.mode)], true, true⟩] : Heap)) _
   refine .seq ?_
   refine .region ?_
   refine .t (VB (decide (t204 < (t_.waiting.length : Int)))) (e_bin (ev_t rfl) (ev_t rfl) rfl rfl) ?_
   refine .nil ?_
   refine CdOK.seq ?_
   refine .condD (ev_t rfl) ?_ ?_
   ·intro c6; replace hm := hm.ifp c6
    refine .skip ?_
    refine CdOK.seq ?_
    refine .block ?_
    refine .seq ?_
    refine .region ?_
    refine .m rfl ?_
    obtain ⟨c7, hm⟩ := hm.ifs
    refine .t (.o (.c (.rp [I ((gd t_.waiting t204).tx), I ((gd t_.waiting t204).lock.page), I ((gd t_.waiting t204).lock.slot), I ((gd t_.waiting t204).mode)]))) (e_ixM (f := Grant.cs) (l := t_.waiting) (i := t204) (ev_t rfl) (ev_t rfl) el67 c7) ?_
    refine .t _ (e_ldRA (ev_t rfl) ty75 rfl rfl) ?_
    refine .t (.o (.c (.ptr (h.length + 2) 0))) (e_allocN (L' := [⟨[.L 4 (t_.held.map Grant.cs), .L 4 (t_.waiting.map Grant.cs)], true, true⟩, ⟨[I (g_.tx), I (g_.lock.page), I (g_.lock.slot), I (g_.mode)], true, true⟩, ⟨[I (0), I (0), I (0), I (0)], true, true⟩]) rfl zo75 rfl rfl) ?_
    refine .a rfl ?_
    refine .s0 rfl rfl (e_stN (L' := [⟨[.L 4 (t_.held.map Grant.cs), .L 4 (t_.waiting.map Grant.cs)], true, true⟩, ⟨[I (g_.tx), I (g_.lock.page), I (g_.lock.slot), I (g_.mode)], true, true⟩, ⟨[I ((gd t_.waiting t204).tx), I ((gd t_.waiting t204).lock.page), I ((gd t_.waiting t204).lock.slot), I ((gd t_.waiting t204).mode)], true, true⟩]) rfl (ev_t rfl) (ev_t rfl) ty75 rfl rfl rfl rfl rfl) ?_
    refine .nil ?_
    refine CdOK.seq ?_
    refine .region ?_
    refine .t _ (e_fa' fa75_0 (ev_t rfl)) ?_
    refine .t _ (e_ldb1 (ev_t rfl) ty3 (bx rfl rfl) rfl) ?_
    refine .t _ (e_fa' fa75_0 (ev_t rfl)) ?_
    refine .t _ (e_ldb1 (ev_t rfl) ty3 (bx rfl rfl) rfl) ?_
    refine .sd rfl rfl rfl (e_neK (ev_t rfl) (ev_t rfl)) ?_ ?_
    ·intro c8; replace hm := hm.ifp c8
     refine .m rfl ?_
     refine .t _ (e_fa' fa75_1 (ev_t rfl)) ?_
     refine .t _ (e_ldbA (ev_t rfl) ty71 (bx rfl rfl) rfl rfl) ?_
     refine .t _ (e_fa' fa75_1 (ev_t rfl)) ?_
     refine .t _ (e_ldbA (ev_t rfl) ty71 (bx rfl rfl) rfl rfl) ?_
     refine .sd rfl rfl rfl (e_eqA (ev_t rfl) (ev_t rfl) rfl rfl (eqs71_eql ((gd t_.waiting t204).lock) g_.lock)) ?_ ?_
     ·intro c9; replace hm := hm.ifp c9
      refine .t (VB (true)) (e_pick (t := true) (ev_t rfl) (ev_t rfl)) ?_
      refine .m rfl ?_
      refine .t _ (e_ldbA (ev_t rfl) ty69 (bx rfl rfl) rfl rfl) ?_
      refine .t _ (e_fa' fa75_0 (ev_t rfl)) ?_
      refine .t _ (e_ldb1 (ev_t rfl) ty3 (bx rfl rfl) rfl) ?_
      refine .t _ (e_fa' fa75_1 (ev_t rfl)) ?_
      refine .t _ (e_ldbA (ev_t rfl) ty71 (bx rfl rfl) rfl rfl) ?_
      obtain ⟨x10, e10, hm⟩ := hm.call
      refine .cl rfl rfl rfl rfl pl106 (R2.wk _) (locks_mode1_ok    e10) ?_
      rintro _ _ ⟨rfl, rfl⟩
      refine .t (VB (decide (x10 = 0))) (e_eqK (ev_t rfl) rfl) ?_
      refine .t (VB (decide (x10 = 0))) (e_pick (t := true) (ev_t rfl) (ev_t rfl)) ?_
      refine .nil ?_
      refine CdOK.condD (ev_t rfl) ?_ ?_
      ·intro c11; replace hm := hm.ifp c11
       refine .seq ?_
       refine .region ?_
       refine .m rfl ?_
       refine .a rfl ?_
       refine .nil ?_
       refine CdOK.ret ?_
       refine ⟨.inr rfl, _, rfl, h, _, _, rfl, rfl, hC, ((renFlV rfl) : RenV _ _ _ _ (VI (t204))), ?_⟩
       have hr := hm.ret; replace hr := Ev.ret hr; cases hr; exact ⟨rfl, rfl⟩
      ·intro c12; replace hm := hm.ifn c12
       refine .skip ?_
       refine CdOK.region ?_
       refine .t (VI ((w64 (t204 + 1)))) (e_bin (ev_t rfl) rfl rfl rfl) ?_
       refine .m rfl ?_
       refine .nil ?_
       refine .re (σ := [0, 1]) (X := [(2, .o (.c (.ptr (h.length + 0) 0))), (3, .o (.c (.ptr (h.length + 1) 0))), (18, .o (.c (.L 4 (t_.waiting.map Grant.cs)))), (19, VI ((t_.waiting.length : Int))), (20, VI ((w64 (t204 + 1))))]) (L' := [⟨[.L 4 (t_.held.map Grant.cs), .L 4 (t_.waiting.map Grant.cs)], true, true⟩, ⟨[I (g_.tx), I (g_.lock.page), I (g_.lock.slot), I (g_.mode)], true, true⟩]) rfl rfl hC (by decide) (.obj 0 rfl (renFl rfl) (.obj 1 rfl (renFl rfl) .nil)) (.cons (.o (.c (.ptr 0 0 _ rfl))) (.cons (.o (.c (.ptr 1 1 _ rfl))) (.cons (renFlV rfl) (.cons (renFlV rfl) (.cons (renFlV rfl) .nil))))) ?_
       exact ⟨_, (w64 (t204 + 1)), Nat.lt_succ_self _, hm, (.cons rfl (.cons rfl (.cons rfl (.cons rfl (.cons rfl .nil))))), rfl⟩
     ·intro c13; replace hm := hm.ifn c13
      refine .t (VB (false)) (e_pick (t := true) (ev_t rfl) (ev_t rfl)) ?_
      refine .m rfl ?_
      refine .k ?_
      refine .k ?_
      refine .k ?_
      refine .k ?_
      refine .k ?_
      refine .k ?_
      refine .k ?_
      refine .t (VB (false)) (e_pick (t := false) (ev_t rfl) rfl) ?_
      refine .nil ?_
      refine CdOK.cond_false rfl ?_
      refine .skip ?_
      refine CdOK.region ?_
      refine .t (VI ((w64 (t204 + 1)))) (e_bin (ev_t rfl) rfl rfl rfl) ?_
      refine .m rfl ?_
      refine .nil ?_
      refine .re (σ := [0, 1]) (X := [(2, .o (.c (.ptr (h.length + 0) 0))), (3, .o (.c (.ptr (h.length + 1) 0))), (18, .o (.c (.L 4 (t_.waiting.map Grant.cs)))), (19, VI ((t_.waiting.length : Int))), (20, VI ((w64 (t204 + 1))))]) (L' := [⟨[.L 4 (t_.held.map Grant.cs), .L 4 (t_.waiting.map Grant.cs)], true, true⟩, ⟨[I (g_.tx), I (g_.lock.page), I (g_.lock.slot), I (g_.mode)], true, true⟩]) rfl rfl hC (by decide) (.obj 0 rfl (renFl rfl) (.obj 1 rfl (renFl rfl) .nil)) (.cons (.o (.c (.ptr 0 0 _ rfl))) (.cons (.o (.c (.ptr 1 1 _ rfl))) (.cons (renFlV rfl) (.cons (renFlV rfl) (.cons (renFlV rfl) .nil))))) ?_
      exact ⟨_, (w64 (t204 + 1)), Nat.lt_succ_self _, hm, (.cons rfl (.cons rfl (.cons rfl (.cons rfl (.cons rfl .nil))))), rfl⟩
    ·intro c14; replace hm := hm.ifn c14
     refine .m rfl ?_
     refine .k ?_
     refine .k ?_
     refine .k ?_
     refine .k ?_
     refine .k ?_
     refine .t (VB (false)) (e_pick (t := false) (ev_t rfl) rfl) ?_
     refine .m rfl ?_
     refine .k ?_
     refine .k ?_
     refine .k ?_
     refine .k ?_
     refine .k ?_
     refine .k ?_
     refine .k ?_
     refine .t (VB (false)) (e_pick (t := false) (ev_t rfl) rfl) ?_
     refine .nil ?_
     refine CdOK.cond_false rfl ?_
     refine .skip ?_
     refine CdOK.region ?_
     refine .t (VI ((w64 (t204 + 1)))) (e_bin (ev_t rfl) rfl rfl rfl) ?_
     refine .m rfl ?_
     refine .nil ?_
     refine .re (σ := [0, 1]) (X := [(2, .o (.c (.ptr (h.length + 0) 0))), (3, .o (.c (.ptr (h.length + 1) 0))), (18, .o (.c (.L 4 (t_.waiting.map Grant.cs)))), (19, VI ((t_.waiting.length : Int))), (20, VI ((w64 (t204 + 1))))]) (L' := [⟨[.L 4 (t_.held.map Grant.cs), .L 4 (t_.waiting.map Grant.cs)], true, true⟩, ⟨[I (g_.tx), I (g_.lock.page), I (g_.lock.slot), I (g_.mode)], true, true⟩]) rfl rfl hC (by decide) (.obj 0 rfl (renFl rfl) (.obj 1 rfl (renFl rfl) .nil)) (.cons (.o (.c (.ptr 0 0 _ rfl))) (.cons (.o (.c (.ptr 1 1 _ rfl))) (.cons (renFlV rfl) (.cons (renFlV rfl) (.cons (renFlV rfl) .nil))))) ?_
     exact ⟨_, (w64 (t204 + 1)), Nat.lt_succ_self _, hm, (.cons rfl (.cons rfl (.cons rfl (.cons rfl (.cons rfl .nil))))), rfl⟩
   ·intro c15; replace hm := hm.ifn c15
    refine .exit ?_
    refine .re (σ := [0]) (X := [(2, .o (.c (.ptr (h.length + 0) 0)))]) (L' := [⟨[.L 4 (t_.held.map Grant.cs), .L 4 (t_.waiting.map Grant.cs)], true, true⟩]) rfl rfl hC (by decide) (.obj 0 rfl (renFl rfl) .nil) (.cons (.o (.c (.ptr 0 0 _ rfl))) .nil) ?_
    exact ⟨(), hm.ret, (.cons rfl .nil), rfl⟩
  ·intro _ T0 hm
   refine CdOK.seq ?_
   refine .region ?_
   refine .t _ (e_fa' fa69_1 (ev_t rfl)) ?_
   refine .t _ (e_ldb1 (ev_t rfl) ty67 (bx rfl rfl) rfl) ?_
   refine .t (VI ((t_.waiting.length : Int))) (e_lenM (ev_t rfl) is67) ?_
   refine .a rfl ?_
   refine .nil ?_
   refine CdOK.ret ?_
   refine ⟨.inr rfl, _, rfl, h, _, _, rfl, rfl, hC, ((renFlV rfl) : RenV _ _ _ _ (VI ((t_.waiting.length : Int)))), ?_⟩
   cases hm.ret; exact ⟨rfl, rfl⟩
/- pagemend/locks.Request -/
def locks_Request (t_ : Locks) (g_ : Grant) : Option (Locks × Bool × Int) := ((locks_Valid t_).bind fun (x1 : Bool) => (if (!x1) = true then some ((⟨([] : List Grant), ([] : List Grant)⟩ : Locks), false, 17) else ((locks_valid1 g_).bind fun (x4 : Bool) => (if (!x4) = true then some ((⟨([] : List Grant), ([] : List Grant)⟩ : Locks), false, 1) else ((((locks_Waiting t_ g_.tx).bind fun (x9 : (Grant × Bool)) => (if x9.2 = true then some (x9.1, true) else some (x9.1, false)))).bind fun (s12 : (Grant × Bool)) => (((if s12.2 = true then (if ¬ s12.1 = g_ then some (Sum.inr ((⟨([] : List Grant), ([] : List Grant)⟩ : Locks), false, 15)) else (if s12.2 = true then some (Sum.inr (t_, false, 0)) else ((locks_mode1 t_ g_.tx g_.lock).bind fun (x19 : Int) => (if g_.mode ≤ x19 then some (Sum.inr (t_, true, 0)) else (if (w64 ((t_.held.length : Int) + (t_.waiting.length : Int))) = 1024 then some (Sum.inr ((⟨([] : List Grant), ([] : List Grant)⟩ : Locks), false, 21)) else some (Sum.inl (⟨([] : List Grant), ([] : List Grant)⟩ : Locks))))))) else (if s12.2 = true then some (Sum.inr (t_, false, 0)) else ((locks_mode1 t_ g_.tx g_.lock).bind fun (x27 : Int) => (if g_.mode ≤ x27 then some (Sum.inr (t_, true, 0)) else (if (w64 ((t_.held.length : Int) + (t_.waiting.length : Int))) = 1024 then some (Sum.inr ((⟨([] : List Grant), ([] : List Grant)⟩ : Locks), false, 21)) else some (Sum.inl (⟨([] : List Grant), ([] : List Grant)⟩ : Locks)))))))).bind fun (z : Sum Locks (Locks × Bool × Int)) => match z with | .inl (s32 : Locks) => ((locks_own t_).bind fun (x33 : Locks) => ((locks_place x33 g_).bind fun (x36 : Int) => (if ((0 : Int) ≤ x36 ∧ x36 ≤ (x33.waiting.length : Int)) ∧ x33.waiting.length ≤ 1000000 then ((locks_settle (⟨x33.held, (insL x33.waiting (Int.toNat x36) g_)⟩ : Locks)).bind fun (x38 : Locks) => ((locks_mode1 x38 g_.tx g_.lock).bind fun (x39 : Int) => some (x38, (decide (g_.mode ≤ x39)), 0))) else none))) | .inr r => some r))))))
theorem locks_Request_ok {h : Heap} {t_ : Locks} {g_ : Grant}   {r : (Locks × Bool × Int)} (hm : locks_Request t_ g_ = some r) : FnOK Try.prog 41 [.o (.agg [.L 4 (t_.held.map Grant.cs), .L 4 (t_.waiting.map Grant.cs)]), .o (.agg [I (g_.tx), I (g_.lock.page), I (g_.lock.slot), I (g_.mode)])] h (fun v h' => v = .tup [.agg [.L 4 (r.1.held.map Grant.cs), .L 4 (r.1.waiting.map Grant.cs)], .c (Bo (r.2.1)), .c (I (r.2.2))] ∧ h' = h) := by
 refine FnOK.fin ?_
 refine FnOK.bodyC (N := 81) Try.func41 rfl rfl rfl (fun hC => ?_)
 replace hm := Ev.of hm
 rw [locks_Request.eq_1] at hm
 show CdOK _ _ _ (look _ [(0, .o (.agg [.L 4 (t_.held.map Grant.cs), .L 4 (t_.waiting.map Grant.cs)])), (1, .o (.agg [I (g_.tx), I (g_.lock.page), I (g_.lock.slot), I (g_.mode)]))]) (h ++ ([] : Heap)) _
 refine .seq ?_
 refine .region ?_
 refine .t (.o (.c (.ptr (h.length + 0) 0))) (e_boxN (L' := [⟨[.L 4 (t_.held.map Grant.cs), .L 4 (t_.waiting.map Grant.cs)], true, true⟩]) rfl (ev_t rfl) rfl rfl) ?_
 refine .t (.o (.c (.ptr (h.length + 1) 0))) (e_boxN (L' := [⟨[.L 4 (t_.held.map Grant.cs), .L 4 (t_.waiting.map Grant.cs)], true, true⟩, ⟨[I (g_.tx), I (g_.lock.page), I (g_.lock.slot), I (g_.mode)], true, true⟩]) rfl (ev_t rfl) rfl rfl) ?_
 refine .t (.o (.c (.ptr (h.length + 2) 0))) (e_allocN (L' := [⟨[.L 4 (t_.held.map Grant.cs), .L 4 (t_.waiting.map Grant.cs)], true, true⟩, ⟨[I (g_.tx), I (g_.lock.page), I (g_.lock.slot), I (g_.mode)], true, true⟩, ⟨[.v (.slice none 0 0), .v (.slice none 0 0)], true, true⟩]) rfl zo69 rfl rfl) ?_
 refine .t (VB (false)) (e_as rfl) ?_
 refine .t (VI (0)) (e_as rfl) ?_
 refine .nil ?_
 refine CdOK.seq ?_
 refine .block ?_
 refine .seq ?_
 refine .region ?_
 refine .t _ (e_ldbA (ev_t rfl) ty69 (bx rfl rfl) rfl rfl) ?_
 obtain ⟨x1, e1, hm⟩ := hm.call
 refine .cl rfl rfl rfl rfl pl44 (R2.wk _) (locks_Valid_ok    e1) ?_
 rintro _ _ ⟨rfl, rfl⟩
 refine .t (VB ((!x1))) (e_un (ev_t rfl) rfl) ?_
 refine .a rfl ?_
 refine .nil ?_
 refine CdOK.condB (ev_t rfl) ?_ ?_
 ·intro c2; replace hm := hm.ifp c2
  refine .seq ?_
  refine .region ?_
  refine .t (.o (.agg [.v (.slice none 0 0), .v (.slice none 0 0)])) (e_bld (cs := [.v (.slice none 0 0), .v (.slice none 0 0)]) zo69 bl69 rfl rfl) ?_
  refine .s0 rfl rfl (e_stN (L' := [⟨[.L 4 (t_.held.map Grant.cs), .L 4 (t_.waiting.map Grant.cs)], true, true⟩, ⟨[I (g_.tx), I (g_.lock.page), I (g_.lock.slot), I (g_.mode)], true, true⟩, ⟨[.v (.slice none 0 0), .v (.slice none 0 0)], true, true⟩]) rfl (ev_t rfl) (ev_t rfl) ty69 rfl rfl rfl rfl rfl) ?_
  refine .t (VB (false)) (e_as rfl) ?_
  refine .t (VI (17)) (e_as rfl) ?_
  refine .nil ?_
  refine CdOK.ret ?_
  refine ⟨.inr rfl, _, (resA_c (look_find rfl) (eLoad_A ty69 (bx rfl rfl) rfl rfl rfl) (resA_t (look_find rfl) (resA_t (look_find rfl) resA_n))), h, _, _, rfl, rfl, hC, ((.tup (R2.of (.agg (R2.of (.wk (.fl _ rfl) (.nlL _)) (R2.of (.wk (.fl _ rfl) (.nlL _)) (R2.nil _)))) (R2.of (.c (.fl _ rfl)) (R2.of (.c (.fl _ rfl)) (R2.nil _))))) : RenV _ _ _ _ (.tup [.agg [.L 4 (([] : List Grant).map Grant.cs), .L 4 (([] : List Grant).map Grant.cs)], .c (Bo false), .c (I (17))])), ?_⟩
  cases hm.ret; exact ⟨rfl, rfl⟩
 ·intro c3; replace hm := hm.ifn c3
  refine .seq ?_
  refine .region ?_
  refine .t _ (e_ldbA (ev_t rfl) ty75 (bx rfl rfl) rfl rfl) ?_
  obtain ⟨x4, e4, hm⟩ := hm.call
  refine .cl rfl rfl rfl rfl pl105 (R2.wk _) (locks_valid1_ok    e4) ?_
  rintro _ _ ⟨rfl, rfl⟩
  refine .t (VB ((!x4))) (e_un (ev_t rfl) rfl) ?_
  refine .a rfl ?_
  refine .nil ?_
  refine CdOK.condB (ev_t rfl) ?_ ?_
  ·intro c5; replace hm := hm.ifp c5
   refine .seq ?_
   refine .region ?_
   refine .t (.o (.agg [.v (.slice none 0 0), .v (.slice none 0 0)])) (e_bld (cs := [.v (.slice none 0 0), .v (.slice none 0 0)]) zo69 bl69 rfl rfl) ?_
   refine .s0 rfl rfl (e_stN (L' := [⟨[.L 4 (t_.held.map Grant.cs), .L 4 (t_.waiting.map Grant.cs)], true, true⟩, ⟨[I (g_.tx), I (g_.lock.page), I (g_.lock.slot), I (g_.mode)], true, true⟩, ⟨[.v (.slice none 0 0), .v (.slice none 0 0)], true, true⟩]) rfl (ev_t rfl) (ev_t rfl) ty69 rfl rfl rfl rfl rfl) ?_
   refine .t (VB (false)) (e_as rfl) ?_
   refine .t (VI (1)) (e_as rfl) ?_
   refine .nil ?_
   refine CdOK.ret ?_
   refine ⟨.inr rfl, _, (resA_c (look_find rfl) (eLoad_A ty69 (bx rfl rfl) rfl rfl rfl) (resA_t (look_find rfl) (resA_t (look_find rfl) resA_n))), h, _, _, rfl, rfl, hC, ((.tup (R2.of (.agg (R2.of (.wk (.fl _ rfl) (.nlL _)) (R2.of (.wk (.fl _ rfl) (.nlL _)) (R2.nil _)))) (R2.of (.c (.fl _ rfl)) (R2.of (.c (.fl _ rfl)) (R2.nil _))))) : RenV _ _ _ _ (.tup [.agg [.L 4 (([] : List Grant).map Grant.cs), .L 4 (([] : List Grant).map Grant.cs)], .c (Bo false), .c (I (1))])), ?_⟩
   cases hm.ret; exact ⟨rfl, rfl⟩
  ·intro c6; replace hm := hm.ifn c6
   refine .skip ?_
   replace hm := hm.bnd
   refine CdOK.joinE (σ := (Grant × Bool)) (fun s => (s.1, s.2)) hm (fun s => [(2, .o (.c (.ptr (h.length + 0) 0))), (3, .o (.c (.ptr (h.length + 1) 0))), (4, .o (.c (.ptr (h.length + 2) 0))), (7, .o (.c (.ptr (h.length + 3) 0))), (8, VB (s.2))]) (fun s => h ++ ([⟨[.L 4 (t_.held.map Grant.cs), .L 4 (t_.waiting.map Grant.cs)], true, true⟩, ⟨[I (g_.tx), I (g_.lock.page), I (g_.lock.slot), I (g_.mode)], true, true⟩, ⟨[.v (.slice none 0 0), .v (.slice none 0 0)], true, true⟩, ⟨[I (s.1.tx), I (s.1.lock.page), I (s.1.lock.slot), I (s.1.mode)], true, true⟩] : Heap)) ?_ ?_
   ·intro hm
    refine .region ?_
    refine .t _ (e_ldbA (ev_t rfl) ty69 (bx rfl rfl) rfl rfl) ?_
    refine .t _ (e_fa' fa75_0 (ev_t rfl)) ?_
    refine .t _ (e_ldb1 (ev_t rfl) ty3 (bx rfl rfl) rfl) ?_
    obtain ⟨x9, e9, hm⟩ := hm.call
    refine .cl rfl rfl rfl rfl pl55 (R2.wk _) (locks_Waiting_ok    e9) ?_
    rintro _ _ ⟨rfl, rfl⟩
    refine .m rfl ?_
    refine .t (.o (.agg [I (x9.1.tx), I (x9.1.lock.page), I (x9.1.lock.slot), I (x9.1.mode)])) (e_ext (ev_t rfl) rfl) ?_
    refine .sb rfl rfl rfl (e_ext (ev_t rfl) rfl) ?_ ?_
    ·intro c10; replace hm := hm.ifp c10
     refine .t (.o (.c (.ptr (h.length + 3) 0))) (e_allocN (L' := [⟨[.L 4 (t_.held.map Grant.cs), .L 4 (t_.waiting.map Grant.cs)], true, true⟩, ⟨[I (g_.tx), I (g_.lock.page), I (g_.lock.slot), I (g_.mode)], true, true⟩, ⟨[.v (.slice none 0 0), .v (.slice none 0 0)], true, true⟩, ⟨[I (0), I (0), I (0), I (0)], true, true⟩]) rfl zo75 rfl rfl) ?_
     refine .s0 rfl rfl (e_stN (L' := [⟨[.L 4 (t_.held.map Grant.cs), .L 4 (t_.waiting.map Grant.cs)], true, true⟩, ⟨[I (g_.tx), I (g_.lock.page), I (g_.lock.slot), I (g_.mode)], true, true⟩, ⟨[.v (.slice none 0 0), .v (.slice none 0 0)], true, true⟩, ⟨[I (x9.1.tx), I (x9.1.lock.page), I (x9.1.lock.slot), I (x9.1.mode)], true, true⟩]) rfl (ev_t rfl) (ev_t rfl) ty75 rfl rfl rfl rfl rfl) ?_
     refine .a rfl ?_
     refine .nil ?_
     refine .id ?_
     exact ⟨(x9.1, true), hm.ret, (.cons rfl (.cons rfl (.cons rfl (.cons rfl (.cons rfl .nil))))), rfl⟩
    ·intro c11; replace hm := hm.ifn (by rw [c11]; exact Bool.false_ne_true)
     refine .t (.o (.c (.ptr (h.length + 3) 0))) (e_allocN (L' := [⟨[.L 4 (t_.held.map Grant.cs), .L 4 (t_.waiting.map Grant.cs)], true, true⟩, ⟨[I (g_.tx), I (g_.lock.page), I (g_.lock.slot), I (g_.mode)], true, true⟩, ⟨[.v (.slice none 0 0), .v (.slice none 0 0)], true, true⟩, ⟨[I (0), I (0), I (0), I (0)], true, true⟩]) rfl zo75 rfl rfl) ?_
     refine .s0 rfl rfl (e_stN (L' := [⟨[.L 4 (t_.held.map Grant.cs), .L 4 (t_.waiting.map Grant.cs)], true, true⟩, ⟨[I (g_.tx), I (g_.lock.page), I (g_.lock.slot), I (g_.mode)], true, true⟩, ⟨[.v (.slice none 0 0), .v (.slice none 0 0)], true, true⟩, ⟨[I (x9.1.tx), I (x9.1.lock.page), I (x9.1.lock.slot), I (x9.1.mode)], true, true⟩]) rfl (ev_t rfl) (ev_t rfl) ty75 rfl rfl rfl rfl rfl) ?_
     refine .a rfl ?_
     refine .nil ?_
     refine .id ?_
     exact ⟨(x9.1, false), hm.ret, (.cons rfl (.cons rfl (.cons rfl (.cons rfl (.cons rfl .nil))))), rfl⟩
   ·rintro ⟨w7, waits8⟩ T0 hm
    show CdOK _ _ _ (look T0 [(2, .o (.c (.ptr (h.length + 0) 0))), (3, .o (.c (.ptr (h.length + 1) 0))), (4, .o (.c (.ptr (h.length + 2) 0))), (7, .o (.c (.ptr (h.length + 3) 0))), (8, VB (waits8))]) (h ++ ([⟨[.L 4 (t_.held.map Grant.cs), .L 4 (t_.waiting.map Grant.cs)], true, true⟩, ⟨[I (g_.tx), I (g_.lock.page), I (g_.lock.slot), I (g_.mode)], true, true⟩, ⟨[.v (.slice none 0 0), .v (.slice none 0 0)], true, true⟩, ⟨[I (w7.tx), I (w7.lock.page), I (w7.lock.slot), I (w7.mode)], true, true⟩] : Heap)) _
    replace hm := hm.bnd
    refine .joinE (σ := Locks) (fun s => Sum.inl s) hm (fun s => [(2, .o (.c (.ptr (h.length + 0) 0))), (3, .o (.c (.ptr (h.length + 1) 0))), (4, .o (.c (.ptr (h.length + 2) 0)))]) (fun s => h ++ ([⟨[.L 4 (t_.held.map Grant.cs), .L 4 (t_.waiting.map Grant.cs)], true, true⟩, ⟨[I (g_.tx), I (g_.lock.page), I (g_.lock.slot), I (g_.mode)], true, true⟩, ⟨[.L 4 (s.held.map Grant.cs), .L 4 (s.waiting.map Grant.cs)], true, true⟩] : Heap)) ?_ ?_
    ·intro hm
     refine .block ?_
     refine .seq ?_
     refine .region ?_
     refine .sb rfl rfl rfl (e_mv (ev_t rfl)) ?_ ?_
     ·intro c14; replace hm := hm.ifp c14
      refine .m rfl ?_
      refine .t _ (e_ldbA (ev_t rfl) ty75 (bx rfl rfl) rfl rfl) ?_
      refine .t _ (e_ldbA (ev_t rfl) ty75 (bx rfl rfl) rfl rfl) ?_
      refine .t (VB (decide (¬ w7 = g_))) (e_eqA (ev_t rfl) (ev_t rfl) rfl rfl (eqs75_neq w7 g_)) ?_
      refine .t (VB (decide (¬ w7 = g_))) (e_pick (t := true) (ev_t rfl) (ev_t rfl)) ?_
      refine .a rfl ?_
      refine .nil ?_
      refine CdOK.condD (ev_t rfl) ?_ ?_
      ·intro c15; replace hm := hm.ifp c15
       refine .seq ?_
       refine .region ?_
       refine .t (.o (.agg [.v (.slice none 0 0), .v (.slice none 0 0)])) (e_bld (cs := [.v (.slice none 0 0), .v (.slice none 0 0)]) zo69 bl69 rfl rfl) ?_
       refine .s0 rfl rfl (e_stN (L' := [⟨[.L 4 (t_.held.map Grant.cs), .L 4 (t_.waiting.map Grant.cs)], true, true⟩, ⟨[I (g_.tx), I (g_.lock.page), I (g_.lock.slot), I (g_.mode)], true, true⟩, ⟨[.v (.slice none 0 0), .v (.slice none 0 0)], true, true⟩, ⟨[I (w7.tx), I (w7.lock.page), I (w7.lock.slot), I (w7.mode)], true, true⟩]) rfl (ev_t rfl) (ev_t rfl) ty69 rfl rfl rfl rfl rfl) ?_
       refine .t (VB (false)) (e_as rfl) ?_
       refine .t (VI (15)) (e_as rfl) ?_
       refine .nil ?_
       refine CdOK.ret ?_
       refine ⟨.inr rfl, _, (resA_c (look_find rfl) (eLoad_A ty69 (bx rfl rfl) rfl rfl rfl) (resA_t (look_find rfl) (resA_t (look_find rfl) resA_n))), h, _, _, rfl, rfl, hC, ((.tup (R2.of (.agg (R2.of (.wk (.fl _ rfl) (.nlL _)) (R2.of (.wk (.fl _ rfl) (.nlL _)) (R2.nil _)))) (R2.of (.c (.fl _ rfl)) (R2.of (.c (.fl _ rfl)) (R2.nil _))))) : RenV _ _ _ _ (.tup [.agg [.L 4 (([] : List Grant).map Grant.cs), .L 4 (([] : List Grant).map Grant.cs)], .c (Bo false), .c (I (15))])), ?_⟩
       have hr := hm.ret; replace hr := Ev.ret hr; cases hr; exact ⟨rfl, rfl⟩
      ·intro c16; replace hm := hm.ifn c16
       refine .seq ?_
       refine .region ?_
       refine .m rfl ?_
       refine .a rfl ?_
       refine .nil ?_
       refine CdOK.condB (ev_t rfl) ?_ ?_
       ·intro c17; replace hm := hm.ifp c17
        refine .seq ?_
        refine .region ?_
        refine .t _ (e_ldbA (ev_t rfl) ty69 (bx rfl rfl) rfl rfl) ?_
        refine .s0 rfl rfl (e_stN (L' := [⟨[.L 4 (t_.held.map Grant.cs), .L 4 (t_.waiting.map Grant.cs)], true, true⟩, ⟨[I (g_.tx), I (g_.lock.page), I (g_.lock.slot), I (g_.mode)], true, true⟩, ⟨[.L 4 (t_.held.map Grant.cs), .L 4 (t_.waiting.map Grant.cs)], true, true⟩, ⟨[I (w7.tx), I (w7.lock.page), I (w7.lock.slot), I (w7.mode)], true, true⟩]) rfl (ev_t rfl) (ev_t rfl) ty69 rfl rfl rfl rfl rfl) ?_
        refine .t (VB (false)) (e_as rfl) ?_
        refine .t (VI (0)) (e_as rfl) ?_
        refine .nil ?_
        refine CdOK.ret ?_
        refine ⟨.inr rfl, _, (resA_c (look_find rfl) (eLoad_A ty69 (bx rfl rfl) rfl rfl rfl) (resA_t (look_find rfl) (resA_t (look_find rfl) resA_n))), h, _, _, rfl, rfl, hC, ((renFlV rfl) : RenV _ _ _ _ (.tup [.agg [.L 4 (t_.held.map Grant.cs), .L 4 (t_.waiting.map Grant.cs)], .c (Bo false), .c (I (0))])), ?_⟩
        have hr := hm.ret; replace hr := Ev.ret hr; cases hr; exact ⟨rfl, rfl⟩
       ·intro c18; replace hm := hm.ifn c18
        refine .seq ?_
        refine .draw fol (by decide +kernel) ?_
        refine .t _ (e_ldbA (ev_t rfl) ty69 (bx rfl rfl) rfl rfl) ?_
        refine .t _ (e_fa' fa75_0 (ev_t rfl)) ?_
        refine .t _ (e_ldb1 (ev_t rfl) ty3 (bx rfl rfl) rfl) ?_
        refine .t _ (e_fa' fa75_1 (ev_t rfl)) ?_
        refine .t _ (e_ldbA (ev_t rfl) ty71 (bx rfl rfl) rfl rfl) ?_
        obtain ⟨x19, e19, hm⟩ := hm.call
        refine .cl rfl rfl rfl rfl pl106 (R2.wk _) (locks_mode1_ok    e19) ?_
        refine .t _ (e_fa' fa75_2 (ev_t rfl)) ?_
        refine .t _ (e_ldb1 (ev_t rfl) ty3 (bx rfl rfl) rfl) ?_
        refine .t (VB (decide (g_.mode ≤ x19))) (e_bin (ev_t rfl) (ev_t rfl) rfl rfl) ?_
        refine .a rfl ?_
        refine .nil ?_
        refine CdOK.condD (ev_t rfl) ?_ ?_
        ·intro c20; replace hm := hm.ifp c20
         refine .seq ?_
         refine .region ?_
         refine .t _ (e_ldbA (ev_t rfl) ty69 (bx rfl rfl) rfl rfl) ?_
         refine .s0 rfl rfl (e_stN (L' := [⟨[.L 4 (t_.held.map Grant.cs), .L 4 (t_.waiting.map Grant.cs)], true, true⟩, ⟨[I (g_.tx), I (g_.lock.page), I (g_.lock.slot), I (g_.mode)], true, true⟩, ⟨[.L 4 (t_.held.map Grant.cs), .L 4 (t_.waiting.map Grant.cs)], true, true⟩, ⟨[I (w7.tx), I (w7.lock.page), I (w7.lock.slot), I (w7.mode)], true, true⟩]) rfl (ev_t rfl) (ev_t rfl) ty69 rfl rfl rfl rfl rfl) ?_
         refine .t (VB (true)) (e_as rfl) ?_
         refine .t (VI (0)) (e_as rfl) ?_
         refine .nil ?_
         refine CdOK.ret ?_
         refine ⟨.inr rfl, _, (resA_c (look_find rfl) (eLoad_A ty69 (bx rfl rfl) rfl rfl rfl) (resA_t (look_find rfl) (resA_t (look_find rfl) resA_n))), h, _, _, rfl, rfl, hC, ((renFlV rfl) : RenV _ _ _ _ (.tup [.agg [.L 4 (t_.held.map Grant.cs), .L 4 (t_.waiting.map Grant.cs)], .c (Bo true), .c (I (0))])), ?_⟩
         have hr := hm.ret; replace hr := Ev.ret hr; cases hr; exact ⟨rfl, rfl⟩
        ·intro c21; replace hm := hm.ifn c21
         refine .seq ?_
         refine .region ?_
         refine .t _ (e_fa' fa69_0 (ev_t rfl)) ?_
         refine .t _ (e_ldb1 (ev_t rfl) ty67 (bx rfl rfl) rfl) ?_
         refine .t (VI ((t_.held.length : Int))) (e_lenM (ev_t rfl) is67) ?_
         refine .t _ (e_fa' fa69_1 (ev_t rfl)) ?_
         refine .t _ (e_ldb1 (ev_t rfl) ty67 (bx rfl rfl) rfl) ?_
         refine .t (VI ((t_.waiting.length : Int))) (e_lenM (ev_t rfl) is67) ?_
         refine .t (VI ((w64 ((t_.held.length : Int) + (t_.waiting.length : Int))))) (e_bin (ev_t rfl) (ev_t rfl) rfl rfl) ?_
         refine .t (VB (decide ((w64 ((t_.held.length : Int) + (t_.waiting.length : Int))) = 1024))) (e_eqK (ev_t rfl) rfl) ?_
         refine .a rfl ?_
         refine .nil ?_
         refine CdOK.condD (ev_t rfl) ?_ ?_
         ·intro c22; replace hm := hm.ifp c22
          refine .seq ?_
          refine .region ?_
          refine .t (.o (.agg [.v (.slice none 0 0), .v (.slice none 0 0)])) (e_bld (cs := [.v (.slice none 0 0), .v (.slice none 0 0)]) zo69 bl69 rfl rfl) ?_
          refine .s0 rfl rfl (e_stN (L' := [⟨[.L 4 (t_.held.map Grant.cs), .L 4 (t_.waiting.map Grant.cs)], true, true⟩, ⟨[I (g_.tx), I (g_.lock.page), I (g_.lock.slot), I (g_.mode)], true, true⟩, ⟨[.v (.slice none 0 0), .v (.slice none 0 0)], true, true⟩, ⟨[I (w7.tx), I (w7.lock.page), I (w7.lock.slot), I (w7.mode)], true, true⟩]) rfl (ev_t rfl) (ev_t rfl) ty69 rfl rfl rfl rfl rfl) ?_
          refine .t (VB (false)) (e_as rfl) ?_
          refine .t (VI (21)) (e_as rfl) ?_
          refine .nil ?_
          refine CdOK.ret ?_
          refine ⟨.inr rfl, _, (resA_c (look_find rfl) (eLoad_A ty69 (bx rfl rfl) rfl rfl rfl) (resA_t (look_find rfl) (resA_t (look_find rfl) resA_n))), h, _, _, rfl, rfl, hC, ((.tup (R2.of (.agg (R2.of (.wk (.fl _ rfl) (.nlL _)) (R2.of (.wk (.fl _ rfl) (.nlL _)) (R2.nil _)))) (R2.of (.c (.fl _ rfl)) (R2.of (.c (.fl _ rfl)) (R2.nil _))))) : RenV _ _ _ _ (.tup [.agg [.L 4 (([] : List Grant).map Grant.cs), .L 4 (([] : List Grant).map Grant.cs)], .c (Bo false), .c (I (21))])), ?_⟩
          have hr := hm.ret; replace hr := Ev.ret hr; cases hr; exact ⟨rfl, rfl⟩
         ·intro c23; replace hm := hm.ifn c23
          refine .skip ?_
          refine .re (σ := [0, 1, 2]) (X := [(2, .o (.c (.ptr (h.length + 0) 0))), (3, .o (.c (.ptr (h.length + 1) 0))), (4, .o (.c (.ptr (h.length + 2) 0)))]) (L' := [⟨[.L 4 (t_.held.map Grant.cs), .L 4 (t_.waiting.map Grant.cs)], true, true⟩, ⟨[I (g_.tx), I (g_.lock.page), I (g_.lock.slot), I (g_.mode)], true, true⟩, ⟨[.L 4 ((⟨([] : List Grant), ([] : List Grant)⟩ : Locks).held.map Grant.cs), .L 4 ((⟨([] : List Grant), ([] : List Grant)⟩ : Locks).waiting.map Grant.cs)], true, true⟩]) rfl rfl hC (by decide) (.obj 0 rfl (renFl rfl) (.obj 1 rfl (renFl rfl) (.obj 2 rfl (R2.of (.wk (.fl _ rfl) (.nlL _)) (R2.of (.wk (.fl _ rfl) (.nlL _)) (R2.nil _))) .nil))) (.cons (.o (.c (.ptr 0 0 _ rfl))) (.cons (.o (.c (.ptr 1 1 _ rfl))) (.cons (.o (.c (.ptr 2 2 _ rfl))) .nil))) ?_
          exact ⟨(⟨([] : List Grant), ([] : List Grant)⟩ : Locks), hm.ret, (.cons rfl (.cons rfl (.cons rfl .nil))), rfl⟩
     ·intro c24; replace hm := hm.ifn (by rw [c24]; exact Bool.false_ne_true)
      refine .m rfl ?_
      refine .k ?_
      refine .k ?_
      refine .k ?_
      refine .t (VB (false)) (e_pick (t := false) (ev_t rfl) rfl) ?_
      refine .a rfl ?_
      refine .nil ?_
      refine CdOK.cond_false rfl ?_
      refine .seq ?_
      refine .region ?_
      refine .m rfl ?_
      refine .a rfl ?_
      refine .nil ?_
      refine CdOK.condB (ev_t rfl) ?_ ?_
      ·intro c25; replace hm := hm.ifp c25
       refine .seq ?_
       refine .region ?_
       refine .t _ (e_ldbA (ev_t rfl) ty69 (bx rfl rfl) rfl rfl) ?_
       refine .s0 rfl rfl (e_stN (L' := [⟨[.L 4 (t_.held.map Grant.cs), .L 4 (t_.waiting.map Grant.cs)], true, true⟩, ⟨[I (g_.tx), I (g_.lock.page), I (g_.lock.slot), I (g_.mode)], true, true⟩, ⟨[.L 4 (t_.held.map Grant.cs), .L 4 (t_.waiting.map Grant.cs)], true, true⟩, ⟨[I (w7.tx), I (w7.lock.page), I (w7.lock.slot), I (w7.mode)], true, true⟩]) rfl (ev_t rfl) (ev_t rfl) ty69 rfl rfl rfl rfl rfl) ?_
       refine .t (VB (false)) (e_as rfl) ?_
       refine .t (VI (0)) (e_as rfl) ?_
       refine .nil ?_
       refine CdOK.ret ?_
       refine ⟨.inr rfl, _, (resA_c (look_find rfl) (eLoad_A ty69 (bx rfl rfl) rfl rfl rfl) (resA_t (look_find rfl) (resA_t (look_find rfl) resA_n))), h, _, _, rfl, rfl, hC, ((renFlV rfl) : RenV _ _ _ _ (.tup [.agg [.L 4 (t_.held.map Grant.cs), .L 4 (t_.waiting.map Grant.cs)], .c (Bo false), .c (I (0))])), ?_⟩
       have hr := hm.ret; replace hr := Ev.ret hr; cases hr; exact ⟨rfl, rfl⟩
      ·intro c26; replace hm := hm.ifn c26
       refine .seq ?_
       refine .draw fol (by decide +kernel) ?_
       refine .t _ (e_ldbA (ev_t rfl) ty69 (bx rfl rfl) rfl rfl) ?_
       refine .t _ (e_fa' fa75_0 (ev_t rfl)) ?_
       refine .t _ (e_ldb1 (ev_t rfl) ty3 (bx rfl rfl) rfl) ?_
       refine .t _ (e_fa' fa75_1 (ev_t rfl)) ?_
       refine .t _ (e_ldbA (ev_t rfl) ty71 (bx rfl rfl) rfl rfl) ?_
       obtain ⟨x27, e27, hm⟩ := hm.call
       refine .cl rfl rfl rfl rfl pl106 (R2.wk _) (locks_mode1_ok    e27) ?_
       refine .t _ (e_fa' fa75_2 (ev_t rfl)) ?_
       refine .t _ (e_ldb1 (ev_t rfl) ty3 (bx rfl rfl) rfl) ?_
       refine .t (VB (decide (g_.mode ≤ x27))) (e_bin (ev_t rfl) (ev_t rfl) rfl rfl) ?_
       refine .a rfl ?_
       refine .nil ?_
       refine CdOK.condD (ev_t rfl) ?_ ?_
       ·intro c28; replace hm := hm.ifp c28
        refine .seq ?_
        refine .region ?_
        refine .t _ (e_ldbA (ev_t rfl) ty69 (bx rfl rfl) rfl rfl) ?_
        refine .s0 rfl rfl (e_stN (L' := [⟨[.L 4 (t_.held.map Grant.cs), .L 4 (t_.waiting.map Grant.cs)], true, true⟩, ⟨[I (g_.tx), I (g_.lock.page), I (g_.lock.slot), I (g_.mode)], true, true⟩, ⟨[.L 4 (t_.held.map Grant.cs), .L 4 (t_.waiting.map Grant.cs)], true, true⟩, ⟨[I (w7.tx), I (w7.lock.page), I (w7.lock.slot), I (w7.mode)], true, true⟩]) rfl (ev_t rfl) (ev_t rfl) ty69 rfl rfl rfl rfl rfl) ?_
        refine .t (VB (true)) (e_as rfl) ?_
        refine .t (VI (0)) (e_as rfl) ?_
        refine .nil ?_
        refine CdOK.ret ?_
        refine ⟨.inr rfl, _, (resA_c (look_find rfl) (eLoad_A ty69 (bx rfl rfl) rfl rfl rfl) (resA_t (look_find rfl) (resA_t (look_find rfl) resA_n))), h, _, _, rfl, rfl, hC, ((renFlV rfl) : RenV _ _ _ _ (.tup [.agg [.L 4 (t_.held.map Grant.cs), .L 4 (t_.waiting.map Grant.cs)], .c (Bo true), .c (I (0))])), ?_⟩
        have hr := hm.ret; replace hr := Ev.ret hr; cases hr; exact ⟨rfl, rfl⟩
       ·intro c29; replace hm := hm.ifn c29
        refine .seq ?_
        refine .region ?_
        refine .t _ (e_fa' fa69_0 (ev_t rfl)) ?_
        refine .t _ (e_ldb1 (ev_t rfl) ty67 (bx rfl rfl) rfl) ?_
        refine .t (VI ((t_.held.length : Int))) (e_lenM (ev_t rfl) is67) ?_
        refine .t _ (e_fa' fa69_1 (ev_t rfl)) ?_
        refine .t _ (e_ldb1 (ev_t rfl) ty67 (bx rfl rfl) rfl) ?_
        refine .t (VI ((t_.waiting.length : Int))) (e_lenM (ev_t rfl) is67) ?_
        refine .t (VI ((w64 ((t_.held.length : Int) + (t_.waiting.length : Int))))) (e_bin (ev_t rfl) (ev_t rfl) rfl rfl) ?_
        refine .t (VB (decide ((w64 ((t_.held.length : Int) + (t_.waiting.length : Int))) = 1024))) (e_eqK (ev_t rfl) rfl) ?_
        refine .a rfl ?_
        refine .nil ?_
        refine CdOK.condD (ev_t rfl) ?_ ?_
        ·intro c30; replace hm := hm.ifp c30
         refine .seq ?_
         refine .region ?_
         refine .t (.o (.agg [.v (.slice none 0 0), .v (.slice none 0 0)])) (e_bld (cs := [.v (.slice none 0 0), .v (.slice none 0 0)]) zo69 bl69 rfl rfl) ?_
         refine .s0 rfl rfl (e_stN (L' := [⟨[.L 4 (t_.held.map Grant.cs), .L 4 (t_.waiting.map Grant.cs)], true, true⟩, ⟨[I (g_.tx), I (g_.lock.page), I (g_.lock.slot), I (g_.mode)], true, true⟩, ⟨[.v (.slice none 0 0), .v (.slice none 0 0)], true, true⟩, ⟨[I (w7.tx), I (w7.lock.page), I (w7.lock.slot), I (w7.mode)], true, true⟩]) rfl (ev_t rfl) (ev_t rfl) ty69 rfl rfl rfl rfl rfl) ?_
         refine .t (VB (false)) (e_as rfl) ?_
         refine .t (VI (21)) (e_as rfl) ?_
         refine .nil ?_
         refine CdOK.ret ?_
         refine ⟨.inr rfl, _, (resA_c (look_find rfl) (eLoad_A ty69 (bx rfl rfl) rfl rfl rfl) (resA_t (look_find rfl) (resA_t (look_find rfl) resA_n))), h, _, _, rfl, rfl, hC, ((.tup (R2.of (.agg (R2.of (.wk (.fl _ rfl) (.nlL _)) (R2.of (.wk (.fl _ rfl) (.nlL _)) (R2.nil _)))) (R2.of (.c (.fl _ rfl)) (R2.of (.c (.fl _ rfl)) (R2.nil _))))) : RenV _ _ _ _ (.tup [.agg [.L 4 (([] : List Grant).map Grant.cs), .L 4 (([] : List Grant).map Grant.cs)], .c (Bo false), .c (I (21))])), ?_⟩
         have hr := hm.ret; replace hr := Ev.ret hr; cases hr; exact ⟨rfl, rfl⟩
        ·intro c31; replace hm := hm.ifn c31
         refine .skip ?_
         refine .re (σ := [0, 1, 2]) (X := [(2, .o (.c (.ptr (h.length + 0) 0))), (3, .o (.c (.ptr (h.length + 1) 0))), (4, .o (.c (.ptr (h.length + 2) 0)))]) (L' := [⟨[.L 4 (t_.held.map Grant.cs), .L 4 (t_.waiting.map Grant.cs)], true, true⟩, ⟨[I (g_.tx), I (g_.lock.page), I (g_.lock.slot), I (g_.mode)], true, true⟩, ⟨[.L 4 ((⟨([] : List Grant), ([] : List Grant)⟩ : Locks).held.map Grant.cs), .L 4 ((⟨([] : List Grant), ([] : List Grant)⟩ : Locks).waiting.map Grant.cs)], true, true⟩]) rfl rfl hC (by decide) (.obj 0 rfl (renFl rfl) (.obj 1 rfl (renFl rfl) (.obj 2 rfl (R2.of (.wk (.fl _ rfl) (.nlL _)) (R2.of (.wk (.fl _ rfl) (.nlL _)) (R2.nil _))) .nil))) (.cons (.o (.c (.ptr 0 0 _ rfl))) (.cons (.o (.c (.ptr 1 1 _ rfl))) (.cons (.o (.c (.ptr 2 2 _ rfl))) .nil))) ?_
         exact ⟨(⟨([] : List Grant), ([] : List Grant)⟩ : Locks), hm.ret, (.cons rfl (.cons rfl (.cons rfl .nil))), rfl⟩
    ·rintro bx13 T0 hm
     show CdOK _ _ _ (look T0 [(2, .o (.c (.ptr (h.length + 0) 0))), (3, .o (.c (.ptr (h.length + 1) 0))), (4, .o (.c (.ptr (h.length + 2) 0)))]) (h ++ ([⟨[.L 4 (t_.held.map Grant.cs), .L 4 (t_.waiting.map Grant.cs)], true, true⟩, ⟨[I (g_.tx), I (g_.lock.page), I (g_.lock.slot), I (g_.mode)], true, true⟩, ⟨[.L 4 (bx13.held.map Grant.cs), .L 4 (bx13.waiting.map Grant.cs)], true, true⟩] : Heap)) _
     replace hm : Ev _ _ := hm
     refine .seq ?_
     refine .region ?_
     refine .t _ (e_ldbA (ev_t rfl) ty69 (bx rfl rfl) rfl rfl) ?_
     obtain ⟨x33, e33, hm⟩ := hm.call
     refine .cl rfl rfl rfl rfl pl107 (R2.wk _) (locks_own_ok (A := (h.length + 3)) (hA := lenN rfl rfl)    (hm := e33)) ?_
     rintro _ _ ⟨lv34, lv35, rfl, rfl⟩
     rw [show (h ++ ([⟨[.L 4 (t_.held.map Grant.cs), .L 4 (t_.waiting.map Grant.cs)], true, true⟩, ⟨[I (g_.tx), I (g_.lock.page), I (g_.lock.slot), I (g_.mode)], true, true⟩, ⟨[.L 4 (bx13.held.map Grant.cs), .L 4 (bx13.waiting.map Grant.cs)], true, true⟩] : Heap)) ++ [⟨(x33.held.map Grant.cs).flatten, true, lv34⟩, ⟨(x33.waiting.map Grant.cs).flatten, true, lv35⟩] = h ++ ([⟨[.L 4 (t_.held.map Grant.cs), .L 4 (t_.waiting.map Grant.cs)], true, true⟩, ⟨[I (g_.tx), I (g_.lock.page), I (g_.lock.slot), I (g_.mode)], true, true⟩, ⟨[.L 4 (bx13.held.map Grant.cs), .L 4 (bx13.waiting.map Grant.cs)], true, true⟩, ⟨(x33.held.map Grant.cs).flatten, true, lv34⟩, ⟨(x33.waiting.map Grant.cs).flatten, true, lv35⟩] : Heap) from apnd rfl]
     refine .s0 rfl rfl (e_stN (L' := [⟨[.g (h.length + 3) ((x33.held).length) 4 lv34, .g (h.length + 4) ((x33.waiting).length) 4 lv35], true, true⟩, ⟨[I (g_.tx), I (g_.lock.page), I (g_.lock.slot), I (g_.mode)], true, true⟩, ⟨[.L 4 (bx13.held.map Grant.cs), .L 4 (bx13.waiting.map Grant.cs)], true, true⟩, ⟨(x33.held.map Grant.cs).flatten, true, lv34⟩, ⟨(x33.waiting.map Grant.cs).flatten, true, lv35⟩]) rfl (ev_t rfl) (ev_t rfl) ty69 rfl rfl rfl rfl rfl) ?_
     refine .nil ?_
     refine CdOK.seq ?_
     refine .draw2 (ord := [0, 1, 2, 3, 4, 5, 6, 7, 8, 9]) (chain := [7, 9]) fol (by decide +kernel) (by decide +kernel) ?_
     refine .p _ (e_fa' fa69_1 (ev_t rfl)) ?_
     refine .q _ (e_ldb1 (ev_t rfl) ty67 (bx rfl rfl) rfl) ?_
     refine .q _ (e_ldbA (ev_t rfl) ty69 (bx rfl rfl) rfl rfl) ?_
     refine .q _ (e_ldbA (ev_t rfl) ty75 (bx rfl rfl) rfl rfl) ?_
     obtain ⟨x36, e36, hm⟩ := hm.call
     refine .fc (v := VI (x36)) rfl rfl rfl rfl rfl rfl rfl pl109 (R2.wk _) (FnOK.borrow (R2.cons (BorV.agg (R2.cons (BorC.g (bx rfl rfl) (by simp) (fun _ => rfl) (fun _ => rfl)) (R2.cons (BorC.g (bx rfl rfl) (by simp) (fun _ => rfl) (fun _ => rfl)) (R2.nil _)))) (R2.cons (BorV.agg (R2.cons BorC.v (R2.cons BorC.v (R2.cons BorC.v (R2.cons BorC.v (R2.nil _)))))) (R2.nil _))) (locks_place_ok (h := []) e36) rfl) ?_
     refine .q _ (e_ldbA (ev_t rfl) ty75 (bx rfl rfl) rfl rfl) ?_
     refine .p (.o (.c (.LC 4 (([g_] : List Grant).map Grant.cs)))) (e_lit (cs := [I (g_.tx), I (g_.lock.page), I (g_.lock.slot), I (g_.mode)]) (xs := ([g_]).map Grant.cs) slt67 rfl rfl rfl rfl rfl) ?_
     obtain ⟨c37, hm⟩ := hm.ifs
     refine .cl rfl rfl rfl rfl rfl rfl pl108 (R2.wk _) (insG_ok (A := (h.length + 5)) (l := x33.waiting) (x := g_) (lenN rfl rfl) (bx rfl rfl) c37.1 c37.2) ?_
     rintro _ _ ⟨rfl, rfl⟩
     rw [show kill (h ++ ([⟨[.g (h.length + 3) ((x33.held).length) 4 lv34, .g (h.length + 4) ((x33.waiting).length) 4 lv35], true, true⟩, ⟨[I (g_.tx), I (g_.lock.page), I (g_.lock.slot), I (g_.mode)], true, true⟩, ⟨[.L 4 (bx13.held.map Grant.cs), .L 4 (bx13.waiting.map Grant.cs)], true, true⟩, ⟨(x33.held.map Grant.cs).flatten, true, lv34⟩, ⟨(x33.waiting.map Grant.cs).flatten, true, lv35⟩] : Heap)) (h.length + 4) ++ [⟨((insL x33.waiting (Int.toNat x36) g_).map Grant.cs).flatten, true, true⟩] = h ++ ([⟨[.g (h.length + 3) ((x33.held).length) 4 lv34, .g (h.length + 4) ((x33.waiting).length) 4 lv35], true, true⟩, ⟨[I (g_.tx), I (g_.lock.page), I (g_.lock.slot), I (g_.mode)], true, true⟩, ⟨[.L 4 (bx13.held.map Grant.cs), .L 4 (bx13.waiting.map Grant.cs)], true, true⟩, ⟨(x33.held.map Grant.cs).flatten, true, lv34⟩, ⟨(x33.waiting.map Grant.cs).flatten, true, false⟩, ⟨((insL x33.waiting (Int.toNat x36) g_).map Grant.cs).flatten, true, true⟩] : Heap) from apndK rfl rfl]
     refine ⟨(.m (by decide +kernel) (.m (by decide +kernel) (.m (by decide +kernel) (.m (by decide +kernel) (.m (by decide +kernel) .nil))))), ?_⟩
     refine .p _ (e_fa' fa69_1 (ev_t rfl)) ?_
     refine .c0 rfl rfl rfl rfl (e_stN (L' := [⟨[.g (h.length + 3) ((x33.held).length) 4 lv34, .g (h.length + 5) (((insL x33.waiting (Int.toNat x36) g_)).length) 4 true], true, true⟩, ⟨[I (g_.tx), I (g_.lock.page), I (g_.lock.slot), I (g_.mode)], true, true⟩, ⟨[.L 4 (bx13.held.map Grant.cs), .L 4 (bx13.waiting.map Grant.cs)], true, true⟩, ⟨(x33.held.map Grant.cs).flatten, true, lv34⟩, ⟨(x33.waiting.map Grant.cs).flatten, true, false⟩, ⟨((insL x33.waiting (Int.toNat x36) g_).map Grant.cs).flatten, true, true⟩]) rfl (ev_t rfl) (ev_t rfl) ty67 rfl rfl rfl rfl rfl) (.m (by decide +kernel) (.m (by decide +kernel) (.m (by decide +kernel) (.m (by decide +kernel) (.m (by decide +kernel) .nil))))) ?_
     refine .nil ?_
     refine CdOK.seq ?_
     refine .region ?_
     refine .t _ (e_ldbA (ev_t rfl) ty69 (bx rfl rfl) rfl rfl) ?_
     obtain ⟨x38, e38, hm⟩ := hm.call
     refine .cl rfl rfl rfl rfl pl110 (R2.wk _) (locks_settle_ok (A := (h.length + 6)) (hA := lenN rfl rfl) (b_t_0 := (h.length + 3)) (hb_t_0 := bx rfl rfl) (b_t_1 := (h.length + 5)) (hb_t_1 := bx rfl rfl) (hne_t_0_t_1 := by omega)  (hm := e38)) ?_
     rintro _ _ ⟨rfl, rfl⟩
     rw [show (kill (kill (h ++ ([⟨[.g (h.length + 3) ((x33.held).length) 4 lv34, .g (h.length + 5) (((insL x33.waiting (Int.toNat x36) g_)).length) 4 true], true, true⟩, ⟨[I (g_.tx), I (g_.lock.page), I (g_.lock.slot), I (g_.mode)], true, true⟩, ⟨[.L 4 (bx13.held.map Grant.cs), .L 4 (bx13.waiting.map Grant.cs)], true, true⟩, ⟨(x33.held.map Grant.cs).flatten, true, lv34⟩, ⟨(x33.waiting.map Grant.cs).flatten, true, false⟩, ⟨((insL x33.waiting (Int.toNat x36) g_).map Grant.cs).flatten, true, true⟩] : Heap)) (h.length + 3)) (h.length + 5)) ++ [] = h ++ ([⟨[.g (h.length + 3) ((x33.held).length) 4 lv34, .g (h.length + 5) (((insL x33.waiting (Int.toNat x36) g_)).length) 4 true], true, true⟩, ⟨[I (g_.tx), I (g_.lock.page), I (g_.lock.slot), I (g_.mode)], true, true⟩, ⟨[.L 4 (bx13.held.map Grant.cs), .L 4 (bx13.waiting.map Grant.cs)], true, true⟩, ⟨(x33.held.map Grant.cs).flatten, true, false⟩, ⟨(x33.waiting.map Grant.cs).flatten, true, false⟩, ⟨((insL x33.waiting (Int.toNat x36) g_).map Grant.cs).flatten, true, false⟩] : Heap) from apndK2 rfl rfl]
     refine .s0 rfl rfl (e_stN (L' := [⟨[.L 4 (x38.held.map Grant.cs), .L 4 (x38.waiting.map Grant.cs)], true, true⟩, ⟨[I (g_.tx), I (g_.lock.page), I (g_.lock.slot), I (g_.mode)], true, true⟩, ⟨[.L 4 (bx13.held.map Grant.cs), .L 4 (bx13.waiting.map Grant.cs)], true, true⟩, ⟨(x33.held.map Grant.cs).flatten, true, false⟩, ⟨(x33.waiting.map Grant.cs).flatten, true, false⟩, ⟨((insL x33.waiting (Int.toNat x36) g_).map Grant.cs).flatten, true, false⟩]) rfl (ev_t rfl) (ev_t rfl) ty69 rfl rfl rfl rfl rfl) ?_
     refine .nil ?_
     refine CdOK.seq ?_
     refine .draw2 (ord := [0, 1, 2, 3, 4, 5, 6, 7, 8, 9, 10, 11, 12]) (chain := [10]) fol (by decide +kernel) (by decide +kernel) ?_
     refine .q _ (e_ldbA (ev_t rfl) ty69 (bx rfl rfl) rfl rfl) ?_
     refine .q _ (e_ldbA (ev_t rfl) ty69 (bx rfl rfl) rfl rfl) ?_
     refine .p _ (e_fa' fa75_0 (ev_t rfl)) ?_
     refine .q _ (e_ldb1 (ev_t rfl) ty3 (bx rfl rfl) rfl) ?_
     refine .p _ (e_fa' fa75_1 (ev_t rfl)) ?_
     refine .q _ (e_ldbA (ev_t rfl) ty71 (bx rfl rfl) rfl rfl) ?_
     obtain ⟨x39, e39, hm⟩ := hm.call
     refine .fc (v := VI (x39)) rfl rfl rfl rfl rfl rfl rfl pl106 (R2.wk _) (locks_mode1_ok    e39) ?_
     refine .p _ (e_fa' fa75_2 (ev_t rfl)) ?_
     refine .q _ (e_ldb1 (ev_t rfl) ty3 (bx rfl rfl) rfl) ?_
     refine .p (VB (decide (g_.mode ≤ x39))) (e_bin (ev_t rfl) (ev_t rfl) rfl rfl) ?_
     refine .c0 rfl rfl rfl rfl (e_stN (L' := [⟨[.L 4 (x38.held.map Grant.cs), .L 4 (x38.waiting.map Grant.cs)], true, true⟩, ⟨[I (g_.tx), I (g_.lock.page), I (g_.lock.slot), I (g_.mode)], true, true⟩, ⟨[.L 4 (x38.held.map Grant.cs), .L 4 (x38.waiting.map Grant.cs)], true, true⟩, ⟨(x33.held.map Grant.cs).flatten, true, false⟩, ⟨(x33.waiting.map Grant.cs).flatten, true, false⟩, ⟨((insL x33.waiting (Int.toNat x36) g_).map Grant.cs).flatten, true, false⟩]) rfl (ev_t rfl) (ev_t rfl) ty69 rfl rfl rfl rfl rfl) (.e rfl rfl (e_ldb1 (ev_t rfl) ty3 (bx rfl rfl) rfl) (.m (by decide +kernel) (.m (by decide +kernel) (.m (by decide +kernel) (.m (by decide +kernel) (.m (by decide +kernel) .nil)))))) ?_
     refine .p (VB (decide (g_.mode ≤ x39))) (e_as (ev_t rfl)) ?_
     refine .p (VI (0)) (e_as rfl) ?_
     refine .nil ?_
     refine CdOK.ret ?_
     refine ⟨.inr rfl, _, (resA_c (look_find rfl) (eLoad_A ty69 (bx rfl rfl) rfl rfl rfl) (resA_t (look_find rfl) (resA_t (look_find rfl) resA_n))), h, _, _, rfl, rfl, hC, ((renFlV rfl) : RenV _ _ _ _ (.tup [.agg [.L 4 (x38.held.map Grant.cs), .L 4 (x38.waiting.map Grant.cs)], .c (Bo (decide (g_.mode ≤ x39))), .c (I (0))])), ?_⟩
     cases hm.ret; exact ⟨rfl, rfl⟩
end Rv
