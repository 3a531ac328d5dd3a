/- Chapter 8: the program's functions, as plain functions. -/
import Derived.Test.YtnlpkgamglhnbaaRvR08
set_option linter.unusedVariables false
set_option linter.unusedSimpArgs false
namespace Rv
open Go Go.RowKit Go.Proofs
theorem bl69 : bldf Try.prog 69 [(0, 1), (1, 1)] = true := by decide +kernel
theorem bl71 : bldf Try.prog 71 [(0, 1), (1, 1)] = true := by decide +kernel
theorem pl48 : plainFn Try.prog 48 = true := by decide +kernel
theorem pl50 : plainFn Try.prog 50 = true := by decide +kernel
theorem pl56 : plainFn Try.prog 56 = true := by decide +kernel
theorem pl58 : plainFn Try.prog 58 = true := by decide +kernel
theorem pl59 : plainFn Try.prog 59 = true := by decide +kernel
theorem pl121 : plainFn Try.prog 121 = true := by decide +kernel
theorem pl122 : plainFn Try.prog 122 = true := by decide +kernel
theorem pl126 : plainFn Try.prog 126 = true := by decide +kernel
theorem pl184 : plainFn Try.prog 184 = true := by decide +kernel
theorem pl185 : plainFn Try.prog 185 = true := by decide +kernel
theorem zo69 : zeroOf Try.prog 69 = some ([.v (.slice none 0 0)] ++ [.v (.slice none 0 0)]) := by kernel_rfl
theorem zo71 : zeroOf Try.prog 71 = some ([.v (.int .i64 0)] ++ [.v (.int .i64 0)]) := by kernel_rfl
/- pagemend/pagemendref08.settle -/
def ref08_settle.l1  : Nat → Int → Locks → Option Locks
  | 0, _, _ => none
  | kk4 + 1, i2, bx3 => (if i2 < (bx3.waiting.length : Int) then ((ref08_able bx3 i2).bind fun (x6 : Bool) => (if x6 = true then (if (0 : Int) ≤ i2 ∧ i2 < (bx3.waiting.length : Int) then ((ref08_hold bx3.held (gd bx3.waiting i2)).bind fun (x9 : (List Grant)) => (if (0 : Int) ≤ i2 ∧ i2 ≤ (bx3.waiting.length : Int) then (if (0 : Int) ≤ (w64 (i2 + 1)) ∧ (w64 (i2 + 1)) ≤ (bx3.waiting.length : Int) then (if (bx3.waiting.take (Int.toNat i2)).length ≤ 4398046511104 then (if ((bx3.waiting.take (Int.toNat i2))).length + (bx3.waiting.drop (Int.toNat (w64 (i2 + 1)))).length ≤ 4398046511104 then ref08_settle.l1 kk4 (0) (⟨x9, ((bx3.waiting.take (Int.toNat i2)) ++ (bx3.waiting.drop (Int.toNat (w64 (i2 + 1)))))⟩ : Locks) else none) else none) else none) else none)) else none) else ref08_settle.l1 kk4 (w64 (i2 + 1)) bx3)) else some bx3)
def ref08_settle (t_ : Locks) : Option Locks := ((ref08_settle.l1 FU 0 t_).bind fun (s16 : Locks) => some s16)
theorem ref08_settle_ok {h : Heap} {t_ : Locks}   {r : Locks} (hm : ref08_settle t_ = some r) : FnOK Try.prog 122 [.o (.agg [.L 4 (t_.held.map Grant.cs), .L 4 (t_.waiting.map Grant.cs)])] h (fun v h' => v = .o (.agg [.L 4 (r.held.map Grant.cs), .L 4 (r.waiting.map Grant.cs)]) ∧ h' = h) := by
 refine FnOK.fin ?_
 refine FnOK.bodyC (N := 36) Try.func122 rfl rfl rfl (fun hC => ?_)
 replace hm := Ev.of hm
 rw [ref08_settle.eq_1] at hm
 show CdOK _ _ _ (look _ [(0, .o (.agg [.L 4 (t_.held.map Grant.cs), .L 4 (t_.waiting.map Grant.cs)]))]) (h ++ ([] : Heap)) _
 refine .seq ?_
 refine .region ?_
 refine .t (.o (.c (.ptr (h.length + 0) 0))) (e_boxN (L' := [⟨[.L 4 (t_.held.map Grant.cs), .L 4 (t_.waiting.map Grant.cs)], true, true⟩]) rfl (ev_t rfl) rfl rfl) ?_
 refine .t (.o (.c (.ptr (h.length + 1) 0))) (e_allocN (L' := [⟨[.L 4 (t_.held.map Grant.cs), .L 4 (t_.waiting.map Grant.cs)], true, true⟩, ⟨[.v (.slice none 0 0), .v (.slice none 0 0)], true, true⟩]) rfl zo69 rfl rfl) ?_
 refine .nil ?_
 refine CdOK.seq ?_
 refine .seq ?_
 refine .region ?_
 refine .t (VI (0)) (e_as rfl) ?_
 refine .nil ?_
 replace hm := hm.bnd
 refine CdOK.joinT (σ := Locks) (fun s => s) hm (fun s => [(1, .o (.c (.ptr (h.length + 0) 0))), (2, .o (.c (.ptr (h.length + 1) 0)))]) (fun s => h ++ ([⟨[.L 4 (s.held.map Grant.cs), .L 4 (s.waiting.map Grant.cs)], true, true⟩, ⟨[.v (.slice none 0 0), .v (.slice none 0 0)], true, true⟩] : Heap)) ?_ ?_
 ·intro hm
  refine .block ?_
  refine .loopE (σ := (Int × Locks)) (fun k s => Ev (ref08_settle.l1 k s.1 s.2) _) (fun s => [(1, .o (.c (.ptr (h.length + 0) 0))), (2, .o (.c (.ptr (h.length + 1) 0))), (3, VI (s.1))]) (fun s => h ++ ([⟨[.L 4 (s.2.held.map Grant.cs), .L 4 (s.2.waiting.map Grant.cs)], true, true⟩, ⟨[.v (.slice none 0 0), .v (.slice none 0 0)], true, true⟩] : Heap)) FU (0, t_) hm (.cons rfl (.cons rfl (.cons rfl .nil))) rfl ?_
  rintro kk4 ⟨i2, bx3⟩ T0 hm
  replace hm : Ev (ref08_settle.l1 kk4 i2 bx3) _ := hm
  cases kk4 with
  | zero => exact (Ev.non hm).elim
  | succ kk4 =>
  rw [ref08_settle.l1.eq_2] at hm
  show CdOK _ _ _ (look T0 [(1, .o (.c (.ptr (h.length + 0) 0))), (2, .o (.c (.ptr (h.length + 1) 0))), (3, VI (i2))]) (h ++ ([⟨[.L 4 (bx3.held.map Grant.cs), .L 4 (bx3.waiting.map Grant.cs)], true, true⟩, ⟨[.v (.slice none 0 0), .v (.slice none 0 0)], true, true⟩] : Heap)) _
  refine .seq ?_
  refine .seq ?_
  refine .region ?_
  refine .m rfl ?_
  refine .t _ (e_fa' fa69_1 (ev_t rfl)) ?_
  refine .t _ (e_ldb1 (ev_t rfl) ty67 (bx rfl rfl) rfl) ?_
  refine .t (VI ((bx3.waiting.length : Int))) (e_lenM (ev_t rfl) is67) ?_
  refine .t (VB (decide (i2 < (bx3.waiting.length : Int)))) (e_bin (ev_t rfl) (ev_t rfl) rfl rfl) ?_
  refine .nil ?_
  refine CdOK.condD (ev_t rfl) ?_ ?_
  ·intro c5; replace hm := hm.ifp c5
   refine .skip ?_
   refine CdOK.seq ?_
   refine .block ?_
   refine .seq ?_
   refine .region ?_
   refine .t _ (e_ldbA (ev_t rfl) ty69 (bx rfl rfl) rfl rfl) ?_
   refine .m rfl ?_
   obtain ⟨x6, e6, hm⟩ := hm.call
   refine .cl rfl rfl rfl rfl pl184 (R2.wk _) (ref08_able_ok    e6) ?_
   rintro _ _ ⟨rfl, rfl⟩
   refine .nil ?_
   refine CdOK.condB (ev_t rfl) ?_ ?_
   ·intro c7; replace hm := hm.ifp c7
    refine .seq ?_
    refine .draw2 (ord := [0, 1, 2, 3, 4, 5, 6, 7, 8, 9]) (chain := [9]) fol (by decide +kernel) (by decide +kernel) ?_
    refine .p _ (e_fa' fa69_0 (ev_t rfl)) ?_
    refine .q _ (e_ldb1 (ev_t rfl) ty67 (bx rfl rfl) rfl) ?_
    refine .p _ (e_fa' fa69_1 (ev_t rfl)) ?_
    refine .q _ (e_ldb1 (ev_t rfl) ty67 (bx rfl rfl) rfl) ?_
    refine .p (VI (i2)) (e_mv (ev_t rfl)) ?_
    obtain ⟨c8, hm⟩ := hm.ifs
    refine .p (.o (.c (.rp [I ((gd bx3.waiting i2).tx), I ((gd bx3.waiting i2).lock.page), I ((gd bx3.waiting i2).lock.slot), I ((gd bx3.waiting i2).mode)]))) (e_ixM (f := Grant.cs) (l := bx3.waiting) (i := i2) (ev_t rfl) (ev_t rfl) el67 c8) ?_
    refine .q _ (e_ldRA (ev_t rfl) ty75 rfl rfl) ?_
    obtain ⟨x9, e9, hm⟩ := hm.call
    refine .fc (v := .o (.c (.L 4 (x9.map Grant.cs)))) rfl rfl rfl rfl rfl rfl rfl pl185 (R2.wk _) (ref08_hold_ok    e9) ?_
    refine .p _ (e_fa' fa69_0 (ev_t rfl)) ?_
    refine .c0 rfl rfl rfl rfl (e_stN (L' := [⟨[.L 4 (x9.map Grant.cs), .L 4 (bx3.waiting.map Grant.cs)], true, true⟩, ⟨[.v (.slice none 0 0), .v (.slice none 0 0)], true, true⟩]) rfl (ev_t rfl) (ev_t rfl) ty67 rfl rfl rfl rfl rfl) (.m (by decide +kernel) (.m (by decide +kernel) (.m (by decide +kernel) (.m (by decide +kernel) .nil)))) ?_
    refine .nil ?_
    refine CdOK.seq ?_
    refine .draw2 (ord := [0, 1, 2, 3, 5, 6, 7, 8, 9, 4, 10, 11, 12]) (chain := [4, 10, 12]) fol (by decide +kernel) (by decide +kernel) ?_
    refine .p _ (e_fa' fa69_1 (ev_t rfl)) ?_
    refine .q _ (e_ldb1 (ev_t rfl) ty67 (bx rfl rfl) rfl) ?_
    refine .p (VI (i2)) (e_mv (ev_t rfl)) ?_
    obtain ⟨c10, hm⟩ := hm.ifs
    refine .p (.o (.c (.L 4 ((bx3.waiting.take (Int.toNat i2)).map Grant.cs)))) (e_slhM el67 (ev_t rfl) (ev_t rfl) c10) ?_
    refine .p _ (e_fa' fa69_1 (ev_t rfl)) ?_
    refine .q _ (e_ldb1 (ev_t rfl) ty67 (bx rfl rfl) rfl) ?_
    refine .p (VI (i2)) (e_mv (ev_t rfl)) ?_
    refine .p (VI ((w64 (i2 + 1)))) (e_bin (ev_t rfl) rfl rfl rfl) ?_
    obtain ⟨c11, hm⟩ := hm.ifs
    refine .p (.o (.c (.L 4 ((bx3.waiting.drop (Int.toNat (w64 (i2 + 1)))).map Grant.cs)))) (e_sllM el67 (ev_t rfl) (ev_t rfl) c11) ?_
    obtain ⟨c12, hm⟩ := hm.ifs
    refine .c (v := .o (.c (.g (h.length + 2) (((bx3.waiting.take (Int.toNat i2))).length) 4 (decide (0 < (bx3.waiting.take (Int.toNat i2)).length))))) rfl rfl rfl rfl rfl (e_apN (k := 4) (q := 4398046511104) (m := (bx3.waiting.take (Int.toNat i2)).length) (lv := (decide (0 < (bx3.waiting.take (Int.toNat i2)).length))) (f := Grant.cs) (xs := (bx3.waiting.take (Int.toNat i2))) (L' := [⟨[.L 4 (x9.map Grant.cs), .L 4 (bx3.waiting.map Grant.cs)], true, true⟩, ⟨[.v (.slice none 0 0), .v (.slice none 0 0)], true, true⟩, ⟨((bx3.waiting.take (Int.toNat i2)).map Grant.cs).flatten, true, (decide (0 < (bx3.waiting.take (Int.toNat i2)).length))⟩]) slt67 rfl rfl (ev_t rfl) src_L c12 rfl rfl rfl rfl) (.e rfl rfl (e_ldb1 (ev_t rfl) ty67 (bx rfl rfl) rfl) (.m (by decide +kernel) .nil)) ?_
    obtain ⟨c13, hm⟩ := hm.ifs
    refine .c (v := .o (.c (.g (h.length + 3) ((((bx3.waiting.take (Int.toNat i2)) ++ (bx3.waiting.drop (Int.toNat (w64 (i2 + 1)))))).length) 4 ((decide (0 < (bx3.waiting.take (Int.toNat i2)).length)) || decide (0 < (bx3.waiting.drop (Int.toNat (w64 (i2 + 1)))).length))))) rfl rfl rfl rfl rfl (e_apG (k := 4) (q := 4398046511104) (m := (bx3.waiting.drop (Int.toNat (w64 (i2 + 1)))).length) (j := 2) (f := Grant.cs) (xs := (bx3.waiting.take (Int.toNat i2))) (ys := (bx3.waiting.drop (Int.toNat (w64 (i2 + 1))))) (L' := [⟨[.L 4 (x9.map Grant.cs), .L 4 (bx3.waiting.map Grant.cs)], true, true⟩, ⟨[.v (.slice none 0 0), .v (.slice none 0 0)], true, true⟩, ⟨((bx3.waiting.take (Int.toNat i2)).map Grant.cs).flatten, true, false⟩, ⟨(((bx3.waiting.take (Int.toNat i2)) ++ (bx3.waiting.drop (Int.toNat (w64 (i2 + 1))))).map Grant.cs).flatten, true, ((decide (0 < (bx3.waiting.take (Int.toNat i2)).length)) || decide (0 < (bx3.waiting.drop (Int.toNat (w64 (i2 + 1)))).length))⟩]) slt67 rfl (ev_t rfl) (ev_t rfl) (bx rfl rfl) (by intro x; rfl) src_L rfl c13 rfl (by first | rfl | simp) rfl rfl) (.m (by decide +kernel) (.m (by decide +kernel) .nil)) ?_
    refine .p _ (e_fa' fa69_1 (ev_t rfl)) ?_
    refine .c0 rfl rfl rfl rfl (e_stN (L' := [⟨[.L 4 (x9.map Grant.cs), .g (h.length + 3) ((((bx3.waiting.take (Int.toNat i2)) ++ (bx3.waiting.drop (Int.toNat (w64 (i2 + 1)))))).length) 4 ((decide (0 < (bx3.waiting.take (Int.toNat i2)).length)) || decide (0 < (bx3.waiting.drop (Int.toNat (w64 (i2 + 1)))).length))], true, true⟩, ⟨[.v (.slice none 0 0), .v (.slice none 0 0)], true, true⟩, ⟨((bx3.waiting.take (Int.toNat i2)).map Grant.cs).flatten, true, false⟩, ⟨(((bx3.waiting.take (Int.toNat i2)) ++ (bx3.waiting.drop (Int.toNat (w64 (i2 + 1))))).map Grant.cs).flatten, true, ((decide (0 < (bx3.waiting.take (Int.toNat i2)).length)) || decide (0 < (bx3.waiting.drop (Int.toNat (w64 (i2 + 1)))).length))⟩]) rfl (ev_t rfl) (ev_t rfl) ty67 rfl rfl rfl rfl rfl) (.m (by decide +kernel) (.m (by decide +kernel) .nil)) ?_
    refine .nil ?_
    refine CdOK.region ?_
    refine .t (VI ((-1))) (e_as rfl) ?_
    refine .nil ?_
    refine CdOK.region ?_
    refine .m rfl ?_
    refine .t (VI ((0))) (e_bin (ev_t rfl) rfl rfl rfl) ?_
    refine .a rfl ?_
    refine .nil ?_
    refine .re (σ := [0, 1]) (X := [(1, .o (.c (.ptr (h.length + 0) 0))), (2, .o (.c (.ptr (h.length + 1) 0))), (3, VI ((0)))]) (L' := [⟨[.L 4 ((⟨x9, ((bx3.waiting.take (Int.toNat i2)) ++ (bx3.waiting.drop (Int.toNat (w64 (i2 + 1)))))⟩ : Locks).held.map Grant.cs), .L 4 ((⟨x9, ((bx3.waiting.take (Int.toNat i2)) ++ (bx3.waiting.drop (Int.toNat (w64 (i2 + 1)))))⟩ : Locks).waiting.map Grant.cs)], true, true⟩, ⟨[.v (.slice none 0 0), .v (.slice none 0 0)], true, true⟩]) rfl rfl hC (by decide) (.obj 0 rfl (R2.of (.fl _ rfl) (R2.of (.fzg 3 _ 4 _ (((bx3.waiting.take (Int.toNat i2)) ++ (bx3.waiting.drop (Int.toNat (w64 (i2 + 1))))).map Grant.cs) rfl (by decide) (by first | exact List.length_map .. | simp) (lens_all (by intro x; rfl)) (vl_all (by intro x; rfl))) (R2.nil _))) (.obj 1 rfl (renFl rfl) .nil)) (.cons (.o (.c (.ptr 0 0 _ rfl))) (.cons (.o (.c (.ptr 1 1 _ rfl))) (.cons (renFlV rfl) .nil))) ?_
    exact ⟨_, ((0), (⟨x9, ((bx3.waiting.take (Int.toNat i2)) ++ (bx3.waiting.drop (Int.toNat (w64 (i2 + 1)))))⟩ : Locks)), Nat.lt_succ_self _, hm, (.cons rfl (.cons rfl (.cons rfl .nil))), rfl⟩
   ·intro c14; replace hm := hm.ifn c14
    refine .skip ?_
    refine CdOK.region ?_
    refine .m rfl ?_
    refine .t (VI ((w64 (i2 + 1)))) (e_bin (ev_t rfl) rfl rfl rfl) ?_
    refine .a rfl ?_
    refine .nil ?_
    refine .id ?_
    exact ⟨_, ((w64 (i2 + 1)), bx3), Nat.lt_succ_self _, hm, (.cons rfl (.cons rfl (.cons rfl .nil))), rfl⟩
  ·intro c15; replace hm := hm.ifn c15
   refine .exit ?_
   refine .id ?_
   exact ⟨bx3, hm.ret, (.cons rfl (.cons rfl .nil)), rfl⟩
 ·rintro bx1 T0 hm
  refine CdOK.seq ?_
  refine .region ?_
  refine .t _ (e_ldbA (ev_t rfl) ty69 (bx rfl rfl) rfl rfl) ?_
  refine .s0 rfl rfl (e_stN (L' := [⟨[.L 4 (bx1.held.map Grant.cs), .L 4 (bx1.waiting.map Grant.cs)], true, true⟩, ⟨[.L 4 (bx1.held.map Grant.cs), .L 4 (bx1.waiting.map Grant.cs)], true, true⟩]) rfl (ev_t rfl) (ev_t rfl) ty69 rfl rfl rfl rfl rfl) ?_
  refine .nil ?_
  refine CdOK.ret ?_
  refine ⟨.inr rfl, _, (resA_c (look_find rfl) (eLoad_A ty69 (bx rfl rfl) rfl rfl rfl) resA_n), h, _, _, rfl, rfl, hC, ((renFlV rfl) : RenV _ _ _ _ (.o (.agg [.L 4 (bx1.held.map Grant.cs), .L 4 (bx1.waiting.map Grant.cs)]))), ?_⟩
  cases hm.ret; exact ⟨rfl, rfl⟩
/- pagemend/pagemendref08.Request -/
def ref08_Request (t_ : Locks) (g_ : Grant) : Option (Locks × Bool × Int) := ((ref08_Valid t_).bind fun (x1 : Bool) => (if (!x1) = true then some ((⟨([] : List Grant), ([] : List Grant)⟩ : Locks), false, 17) else ((ref08_grant g_).bind fun (x4 : Bool) => (if (!x4) = true then some ((⟨([] : List Grant), ([] : List Grant)⟩ : Locks), false, 1) else ((((ref08_Waiting t_ g_.tx).bind fun (x9 : (Grant × Bool)) => (if x9.2 = true then some (x9.1, true) else some (x9.1, false)))).bind fun (s12 : (Grant × Bool)) => (((if s12.2 = true then (if ¬ s12.1 = g_ then some (Sum.inr ((⟨([] : List Grant), ([] : List Grant)⟩ : Locks), false, 15)) else some (Sum.inl (⟨([] : List Grant), ([] : List Grant)⟩ : Locks))) else some (Sum.inl (⟨([] : List Grant), ([] : List Grant)⟩ : Locks)))).bind fun (z : Sum Locks (Locks × Bool × Int)) => match z with | .inl (s18 : Locks) => (if s12.2 = true then some (t_, false, 0) else ((ref08_mode1 t_ g_.tx g_.lock).bind fun (x21 : Int) => (if g_.mode ≤ x21 then some (t_, true, 0) else (if (w64 ((t_.held.length : Int) + (t_.waiting.length : Int))) = 1024 then some ((⟨([] : List Grant), ([] : List Grant)⟩ : Locks), false, 21) else ((ref08_place t_ g_).bind fun (x26 : Int) => (if (0 : Int) ≤ x26 ∧ x26 ≤ (t_.waiting.length : Int) then (if (0 : Int) ≤ x26 ∧ x26 ≤ (t_.waiting.length : Int) then (if (t_.waiting.take (Int.toNat x26)).length ≤ 4398046511104 then (if ((t_.waiting.take (Int.toNat x26))).length + ([g_] : List Grant).length ≤ 4398046511104 then (if (((t_.waiting.take (Int.toNat x26)) ++ ([g_] : List Grant))).length + (t_.waiting.drop (Int.toNat x26)).length ≤ 4398046511104 then ((ref08_settle (⟨t_.held, (((t_.waiting.take (Int.toNat x26)) ++ ([g_] : List Grant)) ++ (t_.waiting.drop (Int.toNat x26)))⟩ : Locks)).bind fun (x32 : Locks) => ((ref08_mode1 x32 g_.tx g_.lock).bind fun (x33 : Int) => some (x32, (decide (g_.mode ≤ x33)), 0))) else none) else none) else none) else none) else none)))))) | .inr r => some r))))))
theorem ref08_Request_ok {h : Heap} {t_ : Locks} {g_ : Grant}   {r : (Locks × Bool × Int)} (hm : ref08_Request t_ g_ = some r) : FnOK Try.prog 50 [.o (.agg [.L 4 (t_.held.map Grant.cs), .L 4 (t_.waiting.map Grant.cs)]), .o (.agg [I (g_.tx), I (g_.lock.page), I (g_.lock.slot), I (g_.mode)])] h (fun v h' => v = .tup [.agg [.L 4 (r.1.held.map Grant.cs), .L 4 (r.1.waiting.map Grant.cs)], .c (Bo (r.2.1)), .c (I (r.2.2))] ∧ h' = h) := by
 refine FnOK.fin ?_
 refine FnOK.bodyC (N := 82) Try.func50 rfl rfl rfl (fun hC => ?_)
 replace hm := Ev.of hm
 rw [ref08_Request.eq_1] at hm
 show CdOK _ _ _ (look _ [(0, .o (.agg [.L 4 (t_.held.map Grant.cs), .L 4 (t_.waiting.map Grant.cs)])), (1, .o (.agg [I (g_.tx), I (g_.lock.page), I (g_.lock.slot), I (g_.mode)]))]) (h ++ ([] : Heap)) _
 refine .seq ?_
 refine .region ?_
 refine .t (.o (.c (.ptr (h.length + 0) 0))) (e_boxN (L' := [⟨[.L 4 (t_.held.map Grant.cs), .L 4 (t_.waiting.map Grant.cs)], true, true⟩]) rfl (ev_t rfl) rfl rfl) ?_
 refine .t (.o (.c (.ptr (h.length + 1) 0))) (e_boxN (L' := [⟨[.L 4 (t_.held.map Grant.cs), .L 4 (t_.waiting.map Grant.cs)], true, true⟩, ⟨[I (g_.tx), I (g_.lock.page), I (g_.lock.slot), I (g_.mode)], true, true⟩]) rfl (ev_t rfl) rfl rfl) ?_
 refine .t (.o (.c (.ptr (h.length + 2) 0))) (e_allocN (L' := [⟨[.L 4 (t_.held.map Grant.cs), .L 4 (t_.waiting.map Grant.cs)], true, true⟩, ⟨[I (g_.tx), I (g_.lock.page), I (g_.lock.slot), I (g_.mode)], true, true⟩, ⟨[.v (.slice none 0 0), .v (.slice none 0 0)], true, true⟩]) rfl zo69 rfl rfl) ?_
 refine .t (VB (false)) (e_as rfl) ?_
 refine .t (VI (0)) (e_as rfl) ?_
 refine .nil ?_
 refine CdOK.seq ?_
 refine .seq ?_
 refine .region ?_
 refine .t _ (e_ldbA (ev_t rfl) ty69 (bx rfl rfl) rfl rfl) ?_
 obtain ⟨x1, e1, hm⟩ := hm.call
 refine .cl rfl rfl rfl rfl pl47 (R2.wk _) (ref08_Valid_ok    e1) ?_
 rintro _ _ ⟨rfl, rfl⟩
 refine .t (VB ((!x1))) (e_un (ev_t rfl) rfl) ?_
 refine .nil ?_
 refine CdOK.condB (ev_t rfl) ?_ ?_
 ·intro c2; replace hm := hm.ifp c2
  refine .seq ?_
  refine .region ?_
  refine .t (.o (.agg [.v (.slice none 0 0), .v (.slice none 0 0)])) (e_bld (cs := [.v (.slice none 0 0), .v (.slice none 0 0)]) zo69 bl69 rfl rfl) ?_
  refine .s0 rfl rfl (e_stN (L' := [⟨[.L 4 (t_.held.map Grant.cs), .L 4 (t_.waiting.map Grant.cs)], true, true⟩, ⟨[I (g_.tx), I (g_.lock.page), I (g_.lock.slot), I (g_.mode)], true, true⟩, ⟨[.v (.slice none 0 0), .v (.slice none 0 0)], true, true⟩]) rfl (ev_t rfl) (ev_t rfl) ty69 rfl rfl rfl rfl rfl) ?_
  refine .t (VB (false)) (e_as rfl) ?_
  refine .t (VI (17)) (e_as rfl) ?_
  refine .nil ?_
  refine CdOK.ret ?_
  refine ⟨.inr rfl, _, (resA_c (look_find rfl) (eLoad_A ty69 (bx rfl rfl) rfl rfl rfl) (resA_t (look_find rfl) (resA_t (look_find rfl) resA_n))), h, _, _, rfl, rfl, hC, ((.tup (R2.of (.agg (R2.of (.wk (.fl _ rfl) (.nlL _)) (R2.of (.wk (.fl _ rfl) (.nlL _)) (R2.nil _)))) (R2.of (.c (.fl _ rfl)) (R2.of (.c (.fl _ rfl)) (R2.nil _))))) : RenV _ _ _ _ (.tup [.agg [.L 4 (([] : List Grant).map Grant.cs), .L 4 (([] : List Grant).map Grant.cs)], .c (Bo false), .c (I (17))])), ?_⟩
  cases hm.ret; exact ⟨rfl, rfl⟩
 ·intro c3; replace hm := hm.ifn c3
  refine .skip ?_
  refine CdOK.seq ?_
  refine .seq ?_
  refine .region ?_
  refine .t _ (e_ldbA (ev_t rfl) ty75 (bx rfl rfl) rfl rfl) ?_
  obtain ⟨x4, e4, hm⟩ := hm.call
  refine .cl rfl rfl rfl rfl pl117 (R2.wk _) (ref08_grant_ok    e4) ?_
  rintro _ _ ⟨rfl, rfl⟩
  refine .t (VB ((!x4))) (e_un (ev_t rfl) rfl) ?_
  refine .nil ?_
  refine CdOK.condB (ev_t rfl) ?_ ?_
  ·intro c5; replace hm := hm.ifp c5
   refine .seq ?_
   refine .region ?_
   refine .t (.o (.agg [.v (.slice none 0 0), .v (.slice none 0 0)])) (e_bld (cs := [.v (.slice none 0 0), .v (.slice none 0 0)]) zo69 bl69 rfl rfl) ?_
   refine .s0 rfl rfl (e_stN (L' := [⟨[.L 4 (t_.held.map Grant.cs), .L 4 (t_.waiting.map Grant.cs)], true, true⟩, ⟨[I (g_.tx), I (g_.lock.page), I (g_.lock.slot), I (g_.mode)], true, true⟩, ⟨[.v (.slice none 0 0), .v (.slice none 0 0)], true, true⟩]) rfl (ev_t rfl) (ev_t rfl) ty69 rfl rfl rfl rfl rfl) ?_
   refine .t (VB (false)) (e_as rfl) ?_
   refine .t (VI (1)) (e_as rfl) ?_
   refine .nil ?_
   refine CdOK.ret ?_
   refine ⟨.inr rfl, _, (resA_c (look_find rfl) (eLoad_A ty69 (bx rfl rfl) rfl rfl rfl) (resA_t (look_find rfl) (resA_t (look_find rfl) resA_n))), h, _, _, rfl, rfl, hC, ((.tup (R2.of (.agg (R2.of (.wk (.fl _ rfl) (.nlL _)) (R2.of (.wk (.fl _ rfl) (.nlL _)) (R2.nil _)))) (R2.of (.c (.fl _ rfl)) (R2.of (.c (.fl _ rfl)) (R2.nil _))))) : RenV _ _ _ _ (.tup [.agg [.L 4 (([] : List Grant).map Grant.cs), .L 4 (([] : List Grant).map Grant.cs)], .c (Bo false), .c (I (1))])), ?_⟩
   cases hm.ret; exact ⟨rfl, rfl⟩
  ·intro c6; replace hm := hm.ifn c6
   refine .skip ?_
   replace hm := hm.bnd
   refine CdOK.joinE (σ := (Grant × Bool)) (fun s => (s.1, s.2)) hm (fun s => [(2, .o (.c (.ptr (h.length + 0) 0))), (3, .o (.c (.ptr (h.length + 1) 0))), (4, .o (.c (.ptr (h.length + 2) 0))), (7, .o (.c (.ptr (h.length + 3) 0))), (8, VB (s.2))]) (fun s => h ++ ([⟨[.L 4 (t_.held.map Grant.cs), .L 4 (t_.waiting.map Grant.cs)], true, true⟩, ⟨[I (g_.tx), I (g_.lock.page), I (g_.lock.slot), I (g_.mode)], true, true⟩, ⟨[.v (.slice none 0 0), .v (.slice none 0 0)], true, true⟩, ⟨[I (s.1.tx), I (s.1.lock.page), I (s.1.lock.slot), I (s.1.mode)], true, true⟩] : Heap)) ?_ ?_
   ·intro hm
    refine .region ?_
    refine .t _ (e_ldbA (ev_t rfl) ty69 (bx rfl rfl) rfl rfl) ?_
    refine .t _ (e_fa' fa75_0 (ev_t rfl)) ?_
    refine .t _ (e_ldb1 (ev_t rfl) ty3 (bx rfl rfl) rfl) ?_
    obtain ⟨x9, e9, hm⟩ := hm.call
    refine .cl rfl rfl rfl rfl pl56 (R2.wk _) (ref08_Waiting_ok    e9) ?_
    rintro _ _ ⟨rfl, rfl⟩
    refine .m rfl ?_
    refine .t (.o (.agg [I (x9.1.tx), I (x9.1.lock.page), I (x9.1.lock.slot), I (x9.1.mode)])) (e_ext (ev_t rfl) rfl) ?_
    refine .sb rfl rfl rfl (e_ext (ev_t rfl) rfl) ?_ ?_
    ·intro c10; replace hm := hm.ifp c10
     refine .t (.o (.c (.ptr (h.length + 3) 0))) (e_allocN (L' := [⟨[.L 4 (t_.held.map Grant.cs), .L 4 (t_.waiting.map Grant.cs)], true, true⟩, ⟨[I (g_.tx), I (g_.lock.page), I (g_.lock.slot), I (g_.mode)], true, true⟩, ⟨[.v (.slice none 0 0), .v (.slice none 0 0)], true, true⟩, ⟨[I (0), I (0), I (0), I (0)], true, true⟩]) rfl zo75 rfl rfl) ?_
     refine .s0 rfl rfl (e_stN (L' := [⟨[.L 4 (t_.held.map Grant.cs), .L 4 (t_.waiting.map Grant.cs)], true, true⟩, ⟨[I (g_.tx), I (g_.lock.page), I (g_.lock.slot), I (g_.mode)], true, true⟩, ⟨[.v (.slice none 0 0), .v (.slice none 0 0)], true, true⟩, ⟨[I (x9.1.tx), I (x9.1.lock.page), I (x9.1.lock.slot), I (x9.1.mode)], true, true⟩]) rfl (ev_t rfl) (ev_t rfl) ty75 rfl rfl rfl rfl rfl) ?_
     refine .a rfl ?_
     refine .nil ?_
     refine .id ?_
     exact ⟨(x9.1, true), hm.ret, (.cons rfl (.cons rfl (.cons rfl (.cons rfl (.cons rfl .nil))))), rfl⟩
    ·intro c11; replace hm := hm.ifn (by rw [c11]; exact Bool.false_ne_true)
     refine .t (.o (.c (.ptr (h.length + 3) 0))) (e_allocN (L' := [⟨[.L 4 (t_.held.map Grant.cs), .L 4 (t_.waiting.map Grant.cs)], true, true⟩, ⟨[I (g_.tx), I (g_.lock.page), I (g_.lock.slot), I (g_.mode)], true, true⟩, ⟨[.v (.slice none 0 0), .v (.slice none 0 0)], true, true⟩, ⟨[I (0), I (0), I (0), I (0)], true, true⟩]) rfl zo75 rfl rfl) ?_
     refine .s0 rfl rfl (e_stN (L' := [⟨[.L 4 (t_.held.map Grant.cs), .L 4 (t_.waiting.map Grant.cs)], true, true⟩, ⟨[I (g_.tx), I (g_.lock.page), I (g_.lock.slot), I (g_.mode)], true, true⟩, ⟨[.v (.slice none 0 0), .v (.slice none 0 0)], true, true⟩, ⟨[I (x9.1.tx), I (x9.1.lock.page), I (x9.1.lock.slot), I (x9.1.mode)], true, true⟩]) rfl (ev_t rfl) (ev_t rfl) ty75 rfl rfl rfl rfl rfl) ?_
     refine .a rfl ?_
     refine .nil ?_
     refine .id ?_
     exact ⟨(x9.1, false), hm.ret, (.cons rfl (.cons rfl (.cons rfl (.cons rfl (.cons rfl .nil))))), rfl⟩
   ·rintro ⟨w7, waits8⟩ T0 hm
    show CdOK _ _ _ (look T0 [(2, .o (.c (.ptr (h.length + 0) 0))), (3, .o (.c (.ptr (h.length + 1) 0))), (4, .o (.c (.ptr (h.length + 2) 0))), (7, .o (.c (.ptr (h.length + 3) 0))), (8, VB (waits8))]) (h ++ ([⟨[.L 4 (t_.held.map Grant.cs), .L 4 (t_.waiting.map Grant.cs)], true, true⟩, ⟨[I (g_.tx), I (g_.lock.page), I (g_.lock.slot), I (g_.mode)], true, true⟩, ⟨[.v (.slice none 0 0), .v (.slice none 0 0)], true, true⟩, ⟨[I (w7.tx), I (w7.lock.page), I (w7.lock.slot), I (w7.mode)], true, true⟩] : Heap)) _
    replace hm := hm.bnd
    refine .joinE (σ := Locks) (fun s => Sum.inl s) hm (fun s => [(2, .o (.c (.ptr (h.length + 0) 0))), (3, .o (.c (.ptr (h.length + 1) 0))), (4, .o (.c (.ptr (h.length + 2) 0))), (8, VB (waits8))]) (fun s => h ++ ([⟨[.L 4 (t_.held.map Grant.cs), .L 4 (t_.waiting.map Grant.cs)], true, true⟩, ⟨[I (g_.tx), I (g_.lock.page), I (g_.lock.slot), I (g_.mode)], true, true⟩, ⟨[.L 4 (s.held.map Grant.cs), .L 4 (s.waiting.map Grant.cs)], true, true⟩] : Heap)) ?_ ?_
    ·intro hm
     refine .seq ?_
     refine .region ?_
     refine .sb rfl rfl rfl (e_mv (ev_t rfl)) ?_ ?_
     ·intro c14; replace hm := hm.ifp c14
      refine .m rfl ?_
      refine .t _ (e_ldbA (ev_t rfl) ty75 (bx rfl rfl) rfl rfl) ?_
      refine .t _ (e_ldbA (ev_t rfl) ty75 (bx rfl rfl) rfl rfl) ?_
      refine .t (VB (decide (¬ w7 = g_))) (e_eqA (ev_t rfl) (ev_t rfl) rfl rfl (eqs75_neq w7 g_)) ?_
      refine .t (VB (decide (¬ w7 = g_))) (e_pick (t := true) (ev_t rfl) (ev_t rfl)) ?_
      refine .nil ?_
      refine CdOK.condD (ev_t rfl) ?_ ?_
      ·intro c15; replace hm := hm.ifp c15
       refine .seq ?_
       refine .region ?_
       refine .t (.o (.agg [.v (.slice none 0 0), .v (.slice none 0 0)])) (e_bld (cs := [.v (.slice none 0 0), .v (.slice none 0 0)]) zo69 bl69 rfl rfl) ?_
       refine .s0 rfl rfl (e_stN (L' := [⟨[.L 4 (t_.held.map Grant.cs), .L 4 (t_.waiting.map Grant.cs)], true, true⟩, ⟨[I (g_.tx), I (g_.lock.page), I (g_.lock.slot), I (g_.mode)], true, true⟩, ⟨[.v (.slice none 0 0), .v (.slice none 0 0)], true, true⟩, ⟨[I (w7.tx), I (w7.lock.page), I (w7.lock.slot), I (w7.mode)], true, true⟩]) rfl (ev_t rfl) (ev_t rfl) ty69 rfl rfl rfl rfl rfl) ?_
       refine .t (VB (false)) (e_as rfl) ?_
       refine .t (VI (15)) (e_as rfl) ?_
       refine .nil ?_
       refine CdOK.ret ?_
       refine ⟨.inr rfl, _, (resA_c (look_find rfl) (eLoad_A ty69 (bx rfl rfl) rfl rfl rfl) (resA_t (look_find rfl) (resA_t (look_find rfl) resA_n))), h, _, _, rfl, rfl, hC, ((.tup (R2.of (.agg (R2.of (.wk (.fl _ rfl) (.nlL _)) (R2.of (.wk (.fl _ rfl) (.nlL _)) (R2.nil _)))) (R2.of (.c (.fl _ rfl)) (R2.of (.c (.fl _ rfl)) (R2.nil _))))) : RenV _ _ _ _ (.tup [.agg [.L 4 (([] : List Grant).map Grant.cs), .L 4 (([] : List Grant).map Grant.cs)], .c (Bo false), .c (I (15))])), ?_⟩
       have hr := hm.ret; replace hr := Ev.ret hr; cases hr; exact ⟨rfl, rfl⟩
      ·intro c16; replace hm := hm.ifn c16
       refine .skip ?_
       refine .re (σ := [0, 1, 2]) (X := [(2, .o (.c (.ptr (h.length + 0) 0))), (3, .o (.c (.ptr (h.length + 1) 0))), (4, .o (.c (.ptr (h.length + 2) 0))), (8, VB (waits8))]) (L' := [⟨[.L 4 (t_.held.map Grant.cs), .L 4 (t_.waiting.map Grant.cs)], true, true⟩, ⟨[I (g_.tx), I (g_.lock.page), I (g_.lock.slot), I (g_.mode)], true, true⟩, ⟨[.L 4 ((⟨([] : List Grant), ([] : List Grant)⟩ : Locks).held.map Grant.cs), .L 4 ((⟨([] : List Grant), ([] : List Grant)⟩ : Locks).waiting.map Grant.cs)], true, true⟩]) rfl rfl hC (by decide) (.obj 0 rfl (renFl rfl) (.obj 1 rfl (renFl rfl) (.obj 2 rfl (R2.of (.wk (.fl _ rfl) (.nlL _)) (R2.of (.wk (.fl _ rfl) (.nlL _)) (R2.nil _))) .nil))) (.cons (.o (.c (.ptr 0 0 _ rfl))) (.cons (.o (.c (.ptr 1 1 _ rfl))) (.cons (.o (.c (.ptr 2 2 _ rfl))) (.cons (renFlV rfl) .nil)))) ?_
       exact ⟨(⟨([] : List Grant), ([] : List Grant)⟩ : Locks), hm.ret, (.cons rfl (.cons rfl (.cons rfl (.cons rfl .nil)))), rfl⟩
     ·intro c17; replace hm := hm.ifn (by rw [c17]; exact Bool.false_ne_true)
      refine .m rfl ?_
      refine .k ?_
      refine .k ?_
      refine .k ?_
      refine .t (VB (false)) (e_pick (t := false) (ev_t rfl) rfl) ?_
      refine .nil ?_
      refine CdOK.cond_false rfl ?_
      refine .skip ?_
      refine .re (σ := [0, 1, 2]) (X := [(2, .o (.c (.ptr (h.length + 0) 0))), (3, .o (.c (.ptr (h.length + 1) 0))), (4, .o (.c (.ptr (h.length + 2) 0))), (8, VB (waits8))]) (L' := [⟨[.L 4 (t_.held.map Grant.cs), .L 4 (t_.waiting.map Grant.cs)], true, true⟩, ⟨[I (g_.tx), I (g_.lock.page), I (g_.lock.slot), I (g_.mode)], true, true⟩, ⟨[.L 4 ((⟨([] : List Grant), ([] : List Grant)⟩ : Locks).held.map Grant.cs), .L 4 ((⟨([] : List Grant), ([] : List Grant)⟩ : Locks).waiting.map Grant.cs)], true, true⟩]) rfl rfl hC (by decide) (.obj 0 rfl (renFl rfl) (.obj 1 rfl (renFl rfl) (.obj 2 rfl (R2.of (.wk (.fl _ rfl) (.nlL _)) (R2.of (.wk (.fl _ rfl) (.nlL _)) (R2.nil _))) .nil))) (.cons (.o (.c (.ptr 0 0 _ rfl))) (.cons (.o (.c (.ptr 1 1 _ rfl))) (.cons (.o (.c (.ptr 2 2 _ rfl))) (.cons (renFlV rfl) .nil)))) ?_
      exact ⟨(⟨([] : List Grant), ([] : List Grant)⟩ : Locks), hm.ret, (.cons rfl (.cons rfl (.cons rfl (.cons rfl .nil)))), rfl⟩
    ·rintro bx13 T0 hm
     show CdOK _ _ _ (look T0 [(2, .o (.c (.ptr (h.length + 0) 0))), (3, .o (.c (.ptr (h.length + 1) 0))), (4, .o (.c (.ptr (h.length + 2) 0))), (8, VB (waits8))]) (h ++ ([⟨[.L 4 (t_.held.map Grant.cs), .L 4 (t_.waiting.map Grant.cs)], true, true⟩, ⟨[I (g_.tx), I (g_.lock.page), I (g_.lock.slot), I (g_.mode)], true, true⟩, ⟨[.L 4 (bx13.held.map Grant.cs), .L 4 (bx13.waiting.map Grant.cs)], true, true⟩] : Heap)) _
     replace hm : Ev _ _ := hm
     refine .seq ?_
     refine .seq ?_
     refine .region ?_
     refine .m rfl ?_
     refine .nil ?_
     refine CdOK.condB (ev_t rfl) ?_ ?_
     ·intro c19; replace hm := hm.ifp c19
      refine .seq ?_
      refine .region ?_
      refine .t _ (e_ldbA (ev_t rfl) ty69 (bx rfl rfl) rfl rfl) ?_
      refine .s0 rfl rfl (e_stN (L' := [⟨[.L 4 (t_.held.map Grant.cs), .L 4 (t_.waiting.map Grant.cs)], true, true⟩, ⟨[I (g_.tx), I (g_.lock.page), I (g_.lock.slot), I (g_.mode)], true, true⟩, ⟨[.L 4 (t_.held.map Grant.cs), .L 4 (t_.waiting.map Grant.cs)], true, true⟩]) rfl (ev_t rfl) (ev_t rfl) ty69 rfl rfl rfl rfl rfl) ?_
      refine .t (VB (false)) (e_as rfl) ?_
      refine .t (VI (0)) (e_as rfl) ?_
      refine .nil ?_
      refine CdOK.ret ?_
      refine ⟨.inr rfl, _, (resA_c (look_find rfl) (eLoad_A ty69 (bx rfl rfl) rfl rfl rfl) (resA_t (look_find rfl) (resA_t (look_find rfl) resA_n))), h, _, _, rfl, rfl, hC, ((renFlV rfl) : RenV _ _ _ _ (.tup [.agg [.L 4 (t_.held.map Grant.cs), .L 4 (t_.waiting.map Grant.cs)], .c (Bo false), .c (I (0))])), ?_⟩
      cases hm.ret; exact ⟨rfl, rfl⟩
     ·intro c20; replace hm := hm.ifn c20
      refine .skip ?_
      refine CdOK.seq ?_
      refine .seq ?_
      refine .draw fol (by decide +kernel) ?_
      refine .t _ (e_ldbA (ev_t rfl) ty69 (bx rfl rfl) rfl rfl) ?_
      refine .t _ (e_fa' fa75_0 (ev_t rfl)) ?_
      refine .t _ (e_ldb1 (ev_t rfl) ty3 (bx rfl rfl) rfl) ?_
      refine .t _ (e_fa' fa75_1 (ev_t rfl)) ?_
      refine .t _ (e_ldbA (ev_t rfl) ty71 (bx rfl rfl) rfl rfl) ?_
      obtain ⟨x21, e21, hm⟩ := hm.call
      refine .cl rfl rfl rfl rfl pl120 (R2.wk _) (ref08_mode1_ok    e21) ?_
      refine .t _ (e_fa' fa75_2 (ev_t rfl)) ?_
      refine .t _ (e_ldb1 (ev_t rfl) ty3 (bx rfl rfl) rfl) ?_
      refine .t (VB (decide (g_.mode ≤ x21))) (e_bin (ev_t rfl) (ev_t rfl) rfl rfl) ?_
      refine .nil ?_
      refine CdOK.condD (ev_t rfl) ?_ ?_
      ·intro c22; replace hm := hm.ifp c22
       refine .seq ?_
       refine .region ?_
       refine .t _ (e_ldbA (ev_t rfl) ty69 (bx rfl rfl) rfl rfl) ?_
       refine .s0 rfl rfl (e_stN (L' := [⟨[.L 4 (t_.held.map Grant.cs), .L 4 (t_.waiting.map Grant.cs)], true, true⟩, ⟨[I (g_.tx), I (g_.lock.page), I (g_.lock.slot), I (g_.mode)], true, true⟩, ⟨[.L 4 (t_.held.map Grant.cs), .L 4 (t_.waiting.map Grant.cs)], true, true⟩]) rfl (ev_t rfl) (ev_t rfl) ty69 rfl rfl rfl rfl rfl) ?_
       refine .t (VB (true)) (e_as rfl) ?_
       refine .t (VI (0)) (e_as rfl) ?_
       refine .nil ?_
       refine CdOK.ret ?_
       refine ⟨.inr rfl, _, (resA_c (look_find rfl) (eLoad_A ty69 (bx rfl rfl) rfl rfl rfl) (resA_t (look_find rfl) (resA_t (look_find rfl) resA_n))), h, _, _, rfl, rfl, hC, ((renFlV rfl) : RenV _ _ _ _ (.tup [.agg [.L 4 (t_.held.map Grant.cs), .L 4 (t_.waiting.map Grant.cs)], .c (Bo true), .c (I (0))])), ?_⟩
       cases hm.ret; exact ⟨rfl, rfl⟩
      ·intro c23; replace hm := hm.ifn c23
       refine .skip ?_
       refine CdOK.seq ?_
       refine .seq ?_
       refine .region ?_
       refine .t _ (e_fa' fa69_0 (ev_t rfl)) ?_
       refine .t _ (e_ldb1 (ev_t rfl) ty67 (bx rfl rfl) rfl) ?_
       refine .t (VI ((t_.held.length : Int))) (e_lenM (ev_t rfl) is67) ?_
       refine .t _ (e_fa' fa69_1 (ev_t rfl)) ?_
       refine .t _ (e_ldb1 (ev_t rfl) ty67 (bx rfl rfl) rfl) ?_
       refine .t (VI ((t_.waiting.length : Int))) (e_lenM (ev_t rfl) is67) ?_
       refine .t (VI ((w64 ((t_.held.length : Int) + (t_.waiting.length : Int))))) (e_bin (ev_t rfl) (ev_t rfl) rfl rfl) ?_
       refine .t (VB (decide ((w64 ((t_.held.length : Int) + (t_.waiting.length : Int))) = 1024))) (e_eqK (ev_t rfl) rfl) ?_
       refine .nil ?_
       refine CdOK.condD (ev_t rfl) ?_ ?_
       ·intro c24; replace hm := hm.ifp c24
        refine .seq ?_
        refine .region ?_
        refine .t (.o (.agg [.v (.slice none 0 0), .v (.slice none 0 0)])) (e_bld (cs := [.v (.slice none 0 0), .v (.slice none 0 0)]) zo69 bl69 rfl rfl) ?_
        refine .s0 rfl rfl (e_stN (L' := [⟨[.L 4 (t_.held.map Grant.cs), .L 4 (t_.waiting.map Grant.cs)], true, true⟩, ⟨[I (g_.tx), I (g_.lock.page), I (g_.lock.slot), I (g_.mode)], true, true⟩, ⟨[.v (.slice none 0 0), .v (.slice none 0 0)], true, true⟩]) rfl (ev_t rfl) (ev_t rfl) ty69 rfl rfl rfl rfl rfl) ?_
        refine .t (VB (false)) (e_as rfl) ?_
        refine .t (VI (21)) (e_as rfl) ?_
        refine .nil ?_
        refine CdOK.ret ?_
        refine ⟨.inr rfl, _, (resA_c (look_find rfl) (eLoad_A ty69 (bx rfl rfl) rfl rfl rfl) (resA_t (look_find rfl) (resA_t (look_find rfl) resA_n))), h, _, _, rfl, rfl, hC, ((.tup (R2.of (.agg (R2.of (.wk (.fl _ rfl) (.nlL _)) (R2.of (.wk (.fl _ rfl) (.nlL _)) (R2.nil _)))) (R2.of (.c (.fl _ rfl)) (R2.of (.c (.fl _ rfl)) (R2.nil _))))) : RenV _ _ _ _ (.tup [.agg [.L 4 (([] : List Grant).map Grant.cs), .L 4 (([] : List Grant).map Grant.cs)], .c (Bo false), .c (I (21))])), ?_⟩
        cases hm.ret; exact ⟨rfl, rfl⟩
       ·intro c25; replace hm := hm.ifn c25
        refine .skip ?_
        refine CdOK.seq ?_
        refine .region ?_
        refine .t _ (e_ldbA (ev_t rfl) ty69 (bx rfl rfl) rfl rfl) ?_
        refine .t _ (e_ldbA (ev_t rfl) ty75 (bx rfl rfl) rfl rfl) ?_
        obtain ⟨x26, e26, hm⟩ := hm.call
        refine .cl rfl rfl rfl rfl pl121 (R2.wk _) (ref08_place_ok    e26) ?_
        rintro _ _ ⟨rfl, rfl⟩
        refine .a rfl ?_
        refine .nil ?_
        refine CdOK.seq ?_
        refine .draw2 (ord := [0, 1, 2, 3, 5, 6, 8, 9, 10, 11, 4, 7, 12, 13, 14]) (chain := [4, 7, 12, 14]) fol (by decide +kernel) (by decide +kernel) ?_
        refine .p _ (e_fa' fa69_1 (ev_t rfl)) ?_
        refine .q _ (e_ldb1 (ev_t rfl) ty67 (bx rfl rfl) rfl) ?_
        refine .p (VI (x26)) (e_mv (ev_t rfl)) ?_
        obtain ⟨c27, hm⟩ := hm.ifs
        refine .p (.o (.c (.L 4 ((t_.waiting.take (Int.toNat x26)).map Grant.cs)))) (e_slhM el67 (ev_t rfl) (ev_t rfl) c27) ?_
        refine .q _ (e_ldbA (ev_t rfl) ty75 (bx rfl rfl) rfl rfl) ?_
        refine .p (.o (.c (.LC 4 (([g_] : List Grant).map Grant.cs)))) (e_lit (cs := [I (g_.tx), I (g_.lock.page), I (g_.lock.slot), I (g_.mode)]) (xs := ([g_]).map Grant.cs) slt67 rfl rfl rfl rfl rfl) ?_
        refine .p _ (e_fa' fa69_1 (ev_t rfl)) ?_
        refine .q _ (e_ldb1 (ev_t rfl) ty67 (bx rfl rfl) rfl) ?_
        refine .p (VI (x26)) (e_mv (ev_t rfl)) ?_
        obtain ⟨c28, hm⟩ := hm.ifs
        refine .p (.o (.c (.L 4 ((t_.waiting.drop (Int.toNat x26)).map Grant.cs)))) (e_sllM el67 (ev_t rfl) (ev_t rfl) c28) ?_
        obtain ⟨c29, hm⟩ := hm.ifs
        refine .c (v := .o (.c (.g (h.length + 3) (((t_.waiting.take (Int.toNat x26))).length) 4 (decide (0 < (t_.waiting.take (Int.toNat x26)).length))))) rfl rfl rfl rfl rfl (e_apN (k := 4) (q := 4398046511104) (m := (t_.waiting.take (Int.toNat x26)).length) (lv := (decide (0 < (t_.waiting.take (Int.toNat x26)).length))) (f := Grant.cs) (xs := (t_.waiting.take (Int.toNat x26))) (L' := [⟨[.L 4 (t_.held.map Grant.cs), .L 4 (t_.waiting.map Grant.cs)], true, true⟩, ⟨[I (g_.tx), I (g_.lock.page), I (g_.lock.slot), I (g_.mode)], true, true⟩, ⟨[.L 4 (bx13.held.map Grant.cs), .L 4 (bx13.waiting.map Grant.cs)], true, true⟩, ⟨((t_.waiting.take (Int.toNat x26)).map Grant.cs).flatten, true, (decide (0 < (t_.waiting.take (Int.toNat x26)).length))⟩]) slt67 rfl rfl (ev_t rfl) src_L c29 rfl rfl rfl rfl) (.e rfl rfl (e_ldb1 (ev_t rfl) ty67 (bx rfl rfl) rfl) (.e rfl rfl (e_ldbA (ev_t rfl) ty75 (bx rfl rfl) rfl rfl) (.m (by decide +kernel) .nil))) ?_
        obtain ⟨c30, hm⟩ := hm.ifs
        refine .c (v := .o (.c (.g (h.length + 4) ((((t_.waiting.take (Int.toNat x26)) ++ ([g_] : List Grant))).length) 4 ((decide (0 < (t_.waiting.take (Int.toNat x26)).length)) || decide (0 < ([g_] : List Grant).length))))) rfl rfl rfl rfl rfl (e_apG (k := 4) (q := 4398046511104) (m := ([g_] : List Grant).length) (j := 3) (f := Grant.cs) (xs := (t_.waiting.take (Int.toNat x26))) (ys := ([g_] : List Grant)) (L' := [⟨[.L 4 (t_.held.map Grant.cs), .L 4 (t_.waiting.map Grant.cs)], true, true⟩, ⟨[I (g_.tx), I (g_.lock.page), I (g_.lock.slot), I (g_.mode)], true, true⟩, ⟨[.L 4 (bx13.held.map Grant.cs), .L 4 (bx13.waiting.map Grant.cs)], true, true⟩, ⟨((t_.waiting.take (Int.toNat x26)).map Grant.cs).flatten, true, false⟩, ⟨(((t_.waiting.take (Int.toNat x26)) ++ ([g_] : List Grant)).map Grant.cs).flatten, true, ((decide (0 < (t_.waiting.take (Int.toNat x26)).length)) || decide (0 < ([g_] : List Grant).length))⟩]) slt67 rfl (ev_t rfl) (ev_t rfl) (bx rfl rfl) (by intro x; rfl) src_LC rfl c30 rfl (by first | rfl | simp) rfl rfl) (.e rfl rfl (e_ldb1 (ev_t rfl) ty67 (bx rfl rfl) rfl) (.m (by decide +kernel) (.m (by decide +kernel) .nil))) ?_
        obtain ⟨c31, hm⟩ := hm.ifs
        refine .c (v := .o (.c (.g (h.length + 5) (((((t_.waiting.take (Int.toNat x26)) ++ ([g_] : List Grant)) ++ (t_.waiting.drop (Int.toNat x26)))).length) 4 (((decide (0 < (t_.waiting.take (Int.toNat x26)).length)) || decide (0 < ([g_] : List Grant).length)) || decide (0 < (t_.waiting.drop (Int.toNat x26)).length))))) rfl rfl rfl rfl rfl (e_apG (k := 4) (q := 4398046511104) (m := (t_.waiting.drop (Int.toNat x26)).length) (j := 4) (f := Grant.cs) (xs := ((t_.waiting.take (Int.toNat x26)) ++ ([g_] : List Grant))) (ys := (t_.waiting.drop (Int.toNat x26))) (L' := [⟨[.L 4 (t_.held.map Grant.cs), .L 4 (t_.waiting.map Grant.cs)], true, true⟩, ⟨[I (g_.tx), I (g_.lock.page), I (g_.lock.slot), I (g_.mode)], true, true⟩, ⟨[.L 4 (bx13.held.map Grant.cs), .L 4 (bx13.waiting.map Grant.cs)], true, true⟩, ⟨((t_.waiting.take (Int.toNat x26)).map Grant.cs).flatten, true, false⟩, ⟨(((t_.waiting.take (Int.toNat x26)) ++ ([g_] : List Grant)).map Grant.cs).flatten, true, false⟩, ⟨((((t_.waiting.take (Int.toNat x26)) ++ ([g_] : List Grant)) ++ (t_.waiting.drop (Int.toNat x26))).map Grant.cs).flatten, true, (((decide (0 < (t_.waiting.take (Int.toNat x26)).length)) || decide (0 < ([g_] : List Grant).length)) || decide (0 < (t_.waiting.drop (Int.toNat x26)).length))⟩]) slt67 rfl (ev_t rfl) (ev_t rfl) (bx rfl rfl) (by intro x; rfl) src_L rfl c31 rfl (by first | rfl | simp) rfl rfl) (.m (by decide +kernel) (.m (by decide +kernel) (.m (by decide +kernel) .nil))) ?_
        refine .p _ (e_fa' fa69_1 (ev_t rfl)) ?_
        refine .c0 rfl rfl rfl rfl (e_stN (L' := [⟨[.L 4 (t_.held.map Grant.cs), .g (h.length + 5) (((((t_.waiting.take (Int.toNat x26)) ++ ([g_] : List Grant)) ++ (t_.waiting.drop (Int.toNat x26)))).length) 4 (((decide (0 < (t_.waiting.take (Int.toNat x26)).length)) || decide (0 < ([g_] : List Grant).length)) || decide (0 < (t_.waiting.drop (Int.toNat x26)).length))], true, true⟩, ⟨[I (g_.tx), I (g_.lock.page), I (g_.lock.slot), I (g_.mode)], true, true⟩, ⟨[.L 4 (bx13.held.map Grant.cs), .L 4 (bx13.waiting.map Grant.cs)], true, true⟩, ⟨((t_.waiting.take (Int.toNat x26)).map Grant.cs).flatten, true, false⟩, ⟨(((t_.waiting.take (Int.toNat x26)) ++ ([g_] : List Grant)).map Grant.cs).flatten, true, false⟩, ⟨((((t_.waiting.take (Int.toNat x26)) ++ ([g_] : List Grant)) ++ (t_.waiting.drop (Int.toNat x26))).map Grant.cs).flatten, true, (((decide (0 < (t_.waiting.take (Int.toNat x26)).length)) || decide (0 < ([g_] : List Grant).length)) || decide (0 < (t_.waiting.drop (Int.toNat x26)).length))⟩]) rfl (ev_t rfl) (ev_t rfl) ty67 rfl rfl rfl rfl rfl) (.m (by decide +kernel) (.m (by decide +kernel) (.m (by decide +kernel) .nil))) ?_
        refine .nil ?_
        refine CdOK.seq ?_
        refine .re (σ := [0, 1, 2]) (X := [(2, .o (.c (.ptr (h.length + 0) 0))), (3, .o (.c (.ptr (h.length + 1) 0))), (4, .o (.c (.ptr (h.length + 2) 0))), (8, VB (waits8)), (9, VI (x26)), (32, VB (waits8)), (34, .o (.agg [.L 4 (t_.held.map Grant.cs), .L 4 (t_.waiting.map Grant.cs)])), (35, .o (.c (.ptr (h.length + 1) 0))), (36, VI (g_.tx)), (37, .o (.c (.ptr (h.length + 1) 1))), (38, .o (.agg [I (g_.lock.page), I (g_.lock.slot)])), (39, VI (x21)), (40, .o (.c (.ptr (h.length + 1) 3))), (41, VI (g_.mode)), (42, VB (decide (g_.mode ≤ x21))), (44, .o (.c (.ptr (h.length + 0) 0))), (45, .o (.c (.L 4 (t_.held.map Grant.cs)))), (46, VI ((t_.held.length : Int))), (47, .o (.c (.ptr (h.length + 0) 1))), (48, .o (.c (.L 4 (t_.waiting.map Grant.cs)))), (49, VI ((t_.waiting.length : Int))), (50, VI ((w64 ((t_.held.length : Int) + (t_.waiting.length : Int))))), (51, VB (decide ((w64 ((t_.held.length : Int) + (t_.waiting.length : Int))) = 1024))), (53, .o (.agg [.L 4 (t_.held.map Grant.cs), .L 4 (t_.waiting.map Grant.cs)])), (54, .o (.agg [I (g_.tx), I (g_.lock.page), I (g_.lock.slot), I (g_.mode)])), (55, VI (x26)), (56, .o (.c (.ptr (h.length + 0) 1))), (57, .o (.c (.L 4 (t_.waiting.map Grant.cs)))), (58, VI (x26)), (59, .o (.c (.L 4 ((t_.waiting.take (Int.toNat x26)).map Grant.cs)))), (61, .o (.agg [I (g_.tx), I (g_.lock.page), I (g_.lock.slot), I (g_.mode)])), (62, .o (.c (.LC 4 (([g_] : List Grant).map Grant.cs)))), (64, .o (.c (.ptr (h.length + 0) 1))), (65, .o (.c (.L 4 (t_.waiting.map Grant.cs)))), (66, VI (x26)), (67, .o (.c (.L 4 ((t_.waiting.drop (Int.toNat x26)).map Grant.cs)))), (68, .o (.c (.L 4 ((((t_.waiting.take (Int.toNat x26)) ++ ([g_] : List Grant)) ++ (t_.waiting.drop (Int.toNat x26))).map Grant.cs)))), (69, .o (.c (.ptr (h.length + 0) 1)))]) (L' := [⟨[.L 4 (t_.held.map Grant.cs), .L 4 ((((t_.waiting.take (Int.toNat x26)) ++ ([g_] : List Grant)) ++ (t_.waiting.drop (Int.toNat x26))).map Grant.cs)], true, true⟩, ⟨[I (g_.tx), I (g_.lock.page), I (g_.lock.slot), I (g_.mode)], true, true⟩, ⟨[.L 4 (bx13.held.map Grant.cs), .L 4 (bx13.waiting.map Grant.cs)], true, true⟩]) rfl rfl hC (by decide) (.obj 0 rfl (R2.of (.fl _ rfl) (R2.of (.fzg 5 _ 4 _ ((((t_.waiting.take (Int.toNat x26)) ++ ([g_] : List Grant)) ++ (t_.waiting.drop (Int.toNat x26))).map Grant.cs) rfl (by decide) (by first | exact List.length_map .. | simp) (lens_all (by intro x; rfl)) (vl_all (by intro x; rfl))) (R2.nil _))) (.obj 1 rfl (renFl rfl) (.obj 2 rfl (renFl rfl) .nil))) (.cons (.o (.c (.ptr 0 0 _ rfl))) (.cons (.o (.c (.ptr 1 1 _ rfl))) (.cons (.o (.c (.ptr 2 2 _ rfl))) (.cons (renFlV rfl) (.cons (renFlV rfl) (.cons (renFlV rfl) (.cons (renFlV rfl) (.cons (.o (.c (.ptr 1 1 _ rfl))) (.cons (renFlV rfl) (.cons (.o (.c (.ptr 1 1 _ rfl))) (.cons (renFlV rfl) (.cons (renFlV rfl) (.cons (.o (.c (.ptr 1 1 _ rfl))) (.cons (renFlV rfl) (.cons (renFlV rfl) (.cons (.o (.c (.ptr 0 0 _ rfl))) (.cons (renFlV rfl) (.cons (renFlV rfl) (.cons (.o (.c (.ptr 0 0 _ rfl))) (.cons (renFlV rfl) (.cons (renFlV rfl) (.cons (renFlV rfl) (.cons (renFlV rfl) (.cons (renFlV rfl) (.cons (renFlV rfl) (.cons (renFlV rfl) (.cons (.o (.c (.ptr 0 0 _ rfl))) (.cons (renFlV rfl) (.cons (renFlV rfl) (.cons (renFlV rfl) (.cons (renFlV rfl) (.cons (.o (.c (.fl _ rfl))) (.cons (.o (.c (.ptr 0 0 _ rfl))) (.cons (renFlV rfl) (.cons (renFlV rfl) (.cons (renFlV rfl) (.cons (.o (.c (.fzg 5 _ 4 _ ((((t_.waiting.take (Int.toNat x26)) ++ ([g_] : List Grant)) ++ (t_.waiting.drop (Int.toNat x26))).map Grant.cs) rfl (by decide) (by first | exact List.length_map .. | simp) (lens_all (by intro x; rfl)) (vl_all (by intro x; rfl))))) (.cons (.o (.c (.ptr 0 0 _ rfl))) .nil)))))))))))))))))))))))))))))))))))))) ?_
        refine .region ?_
        refine .t _ (e_ldbA (ev_t rfl) ty69 (bx rfl rfl) rfl rfl) ?_
        obtain ⟨x32, e32, hm⟩ := hm.call
        refine .cl rfl rfl rfl rfl pl122 (R2.wk _) (ref08_settle_ok    e32) ?_
        rintro _ _ ⟨rfl, rfl⟩
        refine .s0 rfl rfl (e_stN (L' := [⟨[.L 4 (x32.held.map Grant.cs), .L 4 (x32.waiting.map Grant.cs)], true, true⟩, ⟨[I (g_.tx), I (g_.lock.page), I (g_.lock.slot), I (g_.mode)], true, true⟩, ⟨[.L 4 (bx13.held.map Grant.cs), .L 4 (bx13.waiting.map Grant.cs)], true, true⟩]) rfl (ev_t rfl) (ev_t rfl) ty69 rfl rfl rfl rfl rfl) ?_
        refine .nil ?_
        refine CdOK.seq ?_
        refine .draw2 (ord := [0, 1, 2, 3, 4, 5, 6, 7, 8, 9, 10, 11, 12]) (chain := [10]) fol (by decide +kernel) (by decide +kernel) ?_
        refine .q _ (e_ldbA (ev_t rfl) ty69 (bx rfl rfl) rfl rfl) ?_
        refine .q _ (e_ldbA (ev_t rfl) ty69 (bx rfl rfl) rfl rfl) ?_
        refine .p _ (e_fa' fa75_0 (ev_t rfl)) ?_
        refine .q _ (e_ldb1 (ev_t rfl) ty3 (bx rfl rfl) rfl) ?_
        refine .p _ (e_fa' fa75_1 (ev_t rfl)) ?_
        refine .q _ (e_ldbA (ev_t rfl) ty71 (bx rfl rfl) rfl rfl) ?_
        obtain ⟨x33, e33, hm⟩ := hm.call
        refine .fc (v := VI (x33)) rfl rfl rfl rfl rfl rfl rfl pl120 (R2.wk _) (ref08_mode1_ok    e33) ?_
        refine .p _ (e_fa' fa75_2 (ev_t rfl)) ?_
        refine .q _ (e_ldb1 (ev_t rfl) ty3 (bx rfl rfl) rfl) ?_
        refine .p (VB (decide (g_.mode ≤ x33))) (e_bin (ev_t rfl) (ev_t rfl) rfl rfl) ?_
        refine .c0 rfl rfl rfl rfl (e_stN (L' := [⟨[.L 4 (x32.held.map Grant.cs), .L 4 (x32.waiting.map Grant.cs)], true, true⟩, ⟨[I (g_.tx), I (g_.lock.page), I (g_.lock.slot), I (g_.mode)], true, true⟩, ⟨[.L 4 (x32.held.map Grant.cs), .L 4 (x32.waiting.map Grant.cs)], true, true⟩]) rfl (ev_t rfl) (ev_t rfl) ty69 rfl rfl rfl rfl rfl) (.e rfl rfl (e_ldb1 (ev_t rfl) ty3 (bx rfl rfl) rfl) (.m (by decide +kernel) (.m (by decide +kernel) (.m (by decide +kernel) (.m (by decide +kernel) (.m (by decide +kernel) .nil)))))) ?_
        refine .p (VB (decide (g_.mode ≤ x33))) (e_as (ev_t rfl)) ?_
        refine .p (VI (0)) (e_as rfl) ?_
        refine .nil ?_
        refine CdOK.ret ?_
        refine ⟨.inr rfl, _, (resA_c (look_find rfl) (eLoad_A ty69 (bx rfl rfl) rfl rfl rfl) (resA_t (look_find rfl) (resA_t (look_find rfl) resA_n))), h, _, _, rfl, rfl, hC, ((renFlV rfl) : RenV _ _ _ _ (.tup [.agg [.L 4 (x32.held.map Grant.cs), .L 4 (x32.waiting.map Grant.cs)], .c (Bo (decide (g_.mode ≤ x33))), .c (I (0))])), ?_⟩
        cases hm.ret; exact ⟨rfl, rfl⟩
/- pagemend/pagemendref08.Cancel -/
def ref08_Cancel (t_ : Locks) (tx : Int) : Option Locks := ((ref08_Valid t_).bind fun (x1 : Bool) => (if (!x1) = true then some t_ else ((ref08_left t_.waiting tx false (⟨0, 0⟩ : Lock)).bind fun (x4 : (List Grant)) => ((ref08_settle (⟨t_.held, x4⟩ : Locks)).bind fun (x5 : Locks) => some x5))))
theorem ref08_Cancel_ok {h : Heap} {t_ : Locks} {tx : Int}   {r : Locks} (hm : ref08_Cancel t_ tx = some r) : FnOK Try.prog 58 [.o (.agg [.L 4 (t_.held.map Grant.cs), .L 4 (t_.waiting.map Grant.cs)]), VI (tx)] h (fun v h' => v = .o (.agg [.L 4 (r.held.map Grant.cs), .L 4 (r.waiting.map Grant.cs)]) ∧ h' = h) := by
 refine FnOK.fin ?_
 refine FnOK.bodyC (N := 18) Try.func58 rfl rfl rfl (fun hC => ?_)
 replace hm := Ev.of hm
 rw [ref08_Cancel.eq_1] at hm
 show CdOK _ _ _ (look _ [(0, .o (.agg [.L 4 (t_.held.map Grant.cs), .L 4 (t_.waiting.map Grant.cs)])), (1, VI (tx))]) (h ++ ([] : Heap)) _
 refine .seq ?_
 refine .region ?_
 refine .t (.o (.c (.ptr (h.length + 0) 0))) (e_boxN (L' := [⟨[.L 4 (t_.held.map Grant.cs), .L 4 (t_.waiting.map Grant.cs)], true, true⟩]) rfl (ev_t rfl) rfl rfl) ?_
 refine .t (.o (.c (.ptr (h.length + 1) 0))) (e_allocN (L' := [⟨[.L 4 (t_.held.map Grant.cs), .L 4 (t_.waiting.map Grant.cs)], true, true⟩, ⟨[.v (.slice none 0 0), .v (.slice none 0 0)], true, true⟩]) rfl zo69 rfl rfl) ?_
 refine .nil ?_
 refine CdOK.seq ?_
 refine .seq ?_
 refine .region ?_
 refine .t _ (e_ldbA (ev_t rfl) ty69 (bx rfl rfl) rfl rfl) ?_
 obtain ⟨x1, e1, hm⟩ := hm.call
 refine .cl rfl rfl rfl rfl pl47 (R2.wk _) (ref08_Valid_ok    e1) ?_
 rintro _ _ ⟨rfl, rfl⟩
 refine .t (VB ((!x1))) (e_un (ev_t rfl) rfl) ?_
 refine .nil ?_
 refine CdOK.condB (ev_t rfl) ?_ ?_
 ·intro c2; replace hm := hm.ifp c2
  refine .seq ?_
  refine .region ?_
  refine .t _ (e_ldbA (ev_t rfl) ty69 (bx rfl rfl) rfl rfl) ?_
  refine .s0 rfl rfl (e_stN (L' := [⟨[.L 4 (t_.held.map Grant.cs), .L 4 (t_.waiting.map Grant.cs)], true, true⟩, ⟨[.L 4 (t_.held.map Grant.cs), .L 4 (t_.waiting.map Grant.cs)], true, true⟩]) rfl (ev_t rfl) (ev_t rfl) ty69 rfl rfl rfl rfl rfl) ?_
  refine .nil ?_
  refine CdOK.ret ?_
  refine ⟨.inr rfl, _, (resA_c (look_find rfl) (eLoad_A ty69 (bx rfl rfl) rfl rfl rfl) resA_n), h, _, _, rfl, rfl, hC, ((renFlV rfl) : RenV _ _ _ _ (.o (.agg [.L 4 (t_.held.map Grant.cs), .L 4 (t_.waiting.map Grant.cs)]))), ?_⟩
  cases hm.ret; exact ⟨rfl, rfl⟩
 ·intro c3; replace hm := hm.ifn c3
  refine .skip ?_
  refine CdOK.seq ?_
  refine .draw2 (ord := [0, 1, 2, 3, 4, 5, 6, 7, 8, 9]) (chain := [9]) fol (by decide +kernel) (by decide +kernel) ?_
  refine .p _ (e_fa' fa69_0 (ev_t rfl)) ?_
  refine .q _ (e_ldb1 (ev_t rfl) ty67 (bx rfl rfl) rfl) ?_
  refine .p _ (e_fa' fa69_1 (ev_t rfl)) ?_
  refine .q _ (e_ldb1 (ev_t rfl) ty67 (bx rfl rfl) rfl) ?_
  refine .p (VI (tx)) (e_mv (ev_t rfl)) ?_
  refine .p (.o (.agg [I (0), I (0)])) (e_bld (cs := [I (0), I (0)]) zo71 bl71 rfl rfl) ?_
  obtain ⟨x4, e4, hm⟩ := hm.call
  refine .fc (v := .o (.c (.L 4 (x4.map Grant.cs)))) rfl rfl rfl rfl rfl rfl rfl pl126 (R2.wk _) (ref08_left_ok    e4) ?_
  refine .p (.o (.agg [.L 4 (t_.held.map Grant.cs), .L 4 (x4.map Grant.cs)])) (e_bld (cs := [.L 4 (t_.held.map Grant.cs), .L 4 (x4.map Grant.cs)]) zo69 bl69 rfl rfl) ?_
  obtain ⟨x5, e5, hm⟩ := hm.call
  refine .fc (v := .o (.agg [.L 4 (x5.held.map Grant.cs), .L 4 (x5.waiting.map Grant.cs)])) rfl rfl rfl rfl rfl rfl rfl pl122 (R2.wk _) (ref08_settle_ok    e5) ?_
  refine .c0 rfl rfl rfl rfl (e_stN (L' := [⟨[.L 4 (t_.held.map Grant.cs), .L 4 (t_.waiting.map Grant.cs)], true, true⟩, ⟨[.L 4 (x5.held.map Grant.cs), .L 4 (x5.waiting.map Grant.cs)], true, true⟩]) rfl (ev_t rfl) (ev_t rfl) ty69 rfl rfl rfl rfl rfl) (.m (by decide +kernel) (.m (by decide +kernel) (.m (by decide +kernel) (.m (by decide +kernel) .nil)))) ?_
  refine .nil ?_
  refine CdOK.ret ?_
  refine ⟨.inr rfl, _, (resA_c (look_find rfl) (eLoad_A ty69 (bx rfl rfl) rfl rfl rfl) resA_n), h, _, _, rfl, rfl, hC, ((renFlV rfl) : RenV _ _ _ _ (.o (.agg [.L 4 (x5.held.map Grant.cs), .L 4 (x5.waiting.map Grant.cs)]))), ?_⟩
  cases hm.ret; exact ⟨rfl, rfl⟩
/- pagemend/pagemendref08.Drop -/
def ref08_Drop (t_ : Locks) (tx : Int) (k_ : Lock) : Option Locks := ((ref08_Valid t_).bind fun (x1 : Bool) => (if (!x1) = true then some t_ else ((ref08_left t_.held tx true k_).bind fun (x4 : (List Grant)) => ((ref08_settle (⟨x4, t_.waiting⟩ : Locks)).bind fun (x5 : Locks) => some x5))))
theorem ref08_Drop_ok {h : Heap} {t_ : Locks} {tx : Int} {k_ : Lock}   {r : Locks} (hm : ref08_Drop t_ tx k_ = some r) : FnOK Try.prog 54 [.o (.agg [.L 4 (t_.held.map Grant.cs), .L 4 (t_.waiting.map Grant.cs)]), VI (tx), .o (.agg [I (k_.page), I (k_.slot)])] h (fun v h' => v = .o (.agg [.L 4 (r.held.map Grant.cs), .L 4 (r.waiting.map Grant.cs)]) ∧ h' = h) := by
 refine FnOK.fin ?_
 refine FnOK.bodyC (N := 20) Try.func54 rfl rfl rfl (fun hC => ?_)
 replace hm := Ev.of hm
 rw [ref08_Drop.eq_1] at hm
 show CdOK _ _ _ (look _ [(0, .o (.agg [.L 4 (t_.held.map Grant.cs), .L 4 (t_.waiting.map Grant.cs)])), (1, VI (tx)), (2, .o (.agg [I (k_.page), I (k_.slot)]))]) (h ++ ([] : Heap)) _
 refine .seq ?_
 refine .region ?_
 refine .t (.o (.c (.ptr (h.length + 0) 0))) (e_boxN (L' := [⟨[.L 4 (t_.held.map Grant.cs), .L 4 (t_.waiting.map Grant.cs)], true, true⟩]) rfl (ev_t rfl) rfl rfl) ?_
 refine .t (.o (.c (.ptr (h.length + 1) 0))) (e_boxN (L' := [⟨[.L 4 (t_.held.map Grant.cs), .L 4 (t_.waiting.map Grant.cs)], true, true⟩, ⟨[I (k_.page), I (k_.slot)], true, true⟩]) rfl (ev_t rfl) rfl rfl) ?_
 refine .t (.o (.c (.ptr (h.length + 2) 0))) (e_allocN (L' := [⟨[.L 4 (t_.held.map Grant.cs), .L 4 (t_.waiting.map Grant.cs)], true, true⟩, ⟨[I (k_.page), I (k_.slot)], true, true⟩, ⟨[.v (.slice none 0 0), .v (.slice none 0 0)], true, true⟩]) rfl zo69 rfl rfl) ?_
 refine .nil ?_
 refine CdOK.seq ?_
 refine .seq ?_
 refine .region ?_
 refine .t _ (e_ldbA (ev_t rfl) ty69 (bx rfl rfl) rfl rfl) ?_
 obtain ⟨x1, e1, hm⟩ := hm.call
 refine .cl rfl rfl rfl rfl pl47 (R2.wk _) (ref08_Valid_ok    e1) ?_
 rintro _ _ ⟨rfl, rfl⟩
 refine .t (VB ((!x1))) (e_un (ev_t rfl) rfl) ?_
 refine .nil ?_
 refine CdOK.condB (ev_t rfl) ?_ ?_
 ·intro c2; replace hm := hm.ifp c2
  refine .seq ?_
  refine .region ?_
  refine .t _ (e_ldbA (ev_t rfl) ty69 (bx rfl rfl) rfl rfl) ?_
  refine .s0 rfl rfl (e_stN (L' := [⟨[.L 4 (t_.held.map Grant.cs), .L 4 (t_.waiting.map Grant.cs)], true, true⟩, ⟨[I (k_.page), I (k_.slot)], true, true⟩, ⟨[.L 4 (t_.held.map Grant.cs), .L 4 (t_.waiting.map Grant.cs)], true, true⟩]) rfl (ev_t rfl) (ev_t rfl) ty69 rfl rfl rfl rfl rfl) ?_
  refine .nil ?_
  refine CdOK.ret ?_
  refine ⟨.inr rfl, _, (resA_c (look_find rfl) (eLoad_A ty69 (bx rfl rfl) rfl rfl rfl) resA_n), h, _, _, rfl, rfl, hC, ((renFlV rfl) : RenV _ _ _ _ (.o (.agg [.L 4 (t_.held.map Grant.cs), .L 4 (t_.waiting.map Grant.cs)]))), ?_⟩
  cases hm.ret; exact ⟨rfl, rfl⟩
 ·intro c3; replace hm := hm.ifn c3
  refine .skip ?_
  refine CdOK.seq ?_
  refine .draw2 (ord := [0, 1, 2, 3, 4, 5, 6, 7, 8, 9]) (chain := [9]) fol (by decide +kernel) (by decide +kernel) ?_
  refine .p _ (e_fa' fa69_0 (ev_t rfl)) ?_
  refine .q _ (e_ldb1 (ev_t rfl) ty67 (bx rfl rfl) rfl) ?_
  refine .p (VI (tx)) (e_mv (ev_t rfl)) ?_
  refine .q _ (e_ldbA (ev_t rfl) ty71 (bx rfl rfl) rfl rfl) ?_
  obtain ⟨x4, e4, hm⟩ := hm.call
  refine .fc (v := .o (.c (.L 4 (x4.map Grant.cs)))) rfl rfl rfl rfl rfl rfl rfl pl126 (R2.wk _) (ref08_left_ok    e4) ?_
  refine .p _ (e_fa' fa69_1 (ev_t rfl)) ?_
  refine .q _ (e_ldb1 (ev_t rfl) ty67 (bx rfl rfl) rfl) ?_
  refine .p (.o (.agg [.L 4 (x4.map Grant.cs), .L 4 (t_.waiting.map Grant.cs)])) (e_bld (cs := [.L 4 (x4.map Grant.cs), .L 4 (t_.waiting.map Grant.cs)]) zo69 bl69 rfl rfl) ?_
  obtain ⟨x5, e5, hm⟩ := hm.call
  refine .fc (v := .o (.agg [.L 4 (x5.held.map Grant.cs), .L 4 (x5.waiting.map Grant.cs)])) rfl rfl rfl rfl rfl rfl rfl pl122 (R2.wk _) (ref08_settle_ok    e5) ?_
  refine .c0 rfl rfl rfl rfl (e_stN (L' := [⟨[.L 4 (t_.held.map Grant.cs), .L 4 (t_.waiting.map Grant.cs)], true, true⟩, ⟨[I (k_.page), I (k_.slot)], true, true⟩, ⟨[.L 4 (x5.held.map Grant.cs), .L 4 (x5.waiting.map Grant.cs)], true, true⟩]) rfl (ev_t rfl) (ev_t rfl) ty69 rfl rfl rfl rfl rfl) (.m (by decide +kernel) (.m (by decide +kernel) (.m (by decide +kernel) (.m (by decide +kernel) (.m (by decide +kernel) .nil))))) ?_
  refine .nil ?_
  refine CdOK.ret ?_
  refine ⟨.inr rfl, _, (resA_c (look_find rfl) (eLoad_A ty69 (bx rfl rfl) rfl rfl rfl) resA_n), h, _, _, rfl, rfl, hC, ((renFlV rfl) : RenV _ _ _ _ (.o (.agg [.L 4 (x5.held.map Grant.cs), .L 4 (x5.waiting.map Grant.cs)]))), ?_⟩
  cases hm.ret; exact ⟨rfl, rfl⟩
/- pagemend/pagemendref08.Release -/
def ref08_Release (t_ : Locks) (tx : Int) : Option Locks := ((ref08_Valid t_).bind fun (x1 : Bool) => (if (!x1) = true then some t_ else ((ref08_left t_.held tx false (⟨0, 0⟩ : Lock)).bind fun (x4 : (List Grant)) => ((ref08_left t_.waiting tx false (⟨0, 0⟩ : Lock)).bind fun (x5 : (List Grant)) => ((ref08_settle (⟨x4, x5⟩ : Locks)).bind fun (x6 : Locks) => some x6)))))
theorem ref08_Release_ok {h : Heap} {t_ : Locks} {tx : Int}   {r : Locks} (hm : ref08_Release t_ tx = some r) : FnOK Try.prog 59 [.o (.agg [.L 4 (t_.held.map Grant.cs), .L 4 (t_.waiting.map Grant.cs)]), VI (tx)] h (fun v h' => v = .o (.agg [.L 4 (r.held.map Grant.cs), .L 4 (r.waiting.map Grant.cs)]) ∧ h' = h) := by
 refine FnOK.fin ?_
 refine FnOK.bodyC (N := 21) Try.func59 rfl rfl rfl (fun hC => ?_)
 replace hm := Ev.of hm
 rw [ref08_Release.eq_1] at hm
 show CdOK _ _ _ (look _ [(0, .o (.agg [.L 4 (t_.held.map Grant.cs), .L 4 (t_.waiting.map Grant.cs)])), (1, VI (tx))]) (h ++ ([] : Heap)) _
 refine .seq ?_
 refine .region ?_
 refine .t (.o (.c (.ptr (h.length + 0) 0))) (e_boxN (L' := [⟨[.L 4 (t_.held.map Grant.cs), .L 4 (t_.waiting.map Grant.cs)], true, true⟩]) rfl (ev_t rfl) rfl rfl) ?_
 refine .t (.o (.c (.ptr (h.length + 1) 0))) (e_allocN (L' := [⟨[.L 4 (t_.held.map Grant.cs), .L 4 (t_.waiting.map Grant.cs)], true, true⟩, ⟨[.v (.slice none 0 0), .v (.slice none 0 0)], true, true⟩]) rfl zo69 rfl rfl) ?_
 refine .nil ?_
 refine CdOK.seq ?_
 refine .seq ?_
 refine .region ?_
 refine .t _ (e_ldbA (ev_t rfl) ty69 (bx rfl rfl) rfl rfl) ?_
 obtain ⟨x1, e1, hm⟩ := hm.call
 refine .cl rfl rfl rfl rfl pl47 (R2.wk _) (ref08_Valid_ok    e1) ?_
 rintro _ _ ⟨rfl, rfl⟩
 refine .t (VB ((!x1))) (e_un (ev_t rfl) rfl) ?_
 refine .nil ?_
 refine CdOK.condB (ev_t rfl) ?_ ?_
 ·intro c2; replace hm := hm.ifp c2
  refine .seq ?_
  refine .region ?_
  refine .t _ (e_ldbA (ev_t rfl) ty69 (bx rfl rfl) rfl rfl) ?_
  refine .s0 rfl rfl (e_stN (L' := [⟨[.L 4 (t_.held.map Grant.cs), .L 4 (t_.waiting.map Grant.cs)], true, true⟩, ⟨[.L 4 (t_.held.map Grant.cs), .L 4 (t_.waiting.map Grant.cs)], true, true⟩]) rfl (ev_t rfl) (ev_t rfl) ty69 rfl rfl rfl rfl rfl) ?_
  refine .nil ?_
  refine CdOK.ret ?_
  refine ⟨.inr rfl, _, (resA_c (look_find rfl) (eLoad_A ty69 (bx rfl rfl) rfl rfl rfl) resA_n), h, _, _, rfl, rfl, hC, ((renFlV rfl) : RenV _ _ _ _ (.o (.agg [.L 4 (t_.held.map Grant.cs), .L 4 (t_.waiting.map Grant.cs)]))), ?_⟩
  cases hm.ret; exact ⟨rfl, rfl⟩
 ·intro c3; replace hm := hm.ifn c3
  refine .skip ?_
  refine CdOK.seq ?_
  refine .draw2 (ord := [0, 1, 2, 3, 4, 5, 6, 7, 8, 9, 10, 11, 12]) (chain := [12]) fol (by decide +kernel) (by decide +kernel) ?_
  refine .p _ (e_fa' fa69_0 (ev_t rfl)) ?_
  refine .q _ (e_ldb1 (ev_t rfl) ty67 (bx rfl rfl) rfl) ?_
  refine .p (VI (tx)) (e_mv (ev_t rfl)) ?_
  refine .p (.o (.agg [I (0), I (0)])) (e_bld (cs := [I (0), I (0)]) zo71 bl71 rfl rfl) ?_
  obtain ⟨x4, e4, hm⟩ := hm.call
  refine .fc (v := .o (.c (.L 4 (x4.map Grant.cs)))) rfl rfl rfl rfl rfl rfl rfl pl126 (R2.wk _) (ref08_left_ok    e4) ?_
  refine .p _ (e_fa' fa69_1 (ev_t rfl)) ?_
  refine .q _ (e_ldb1 (ev_t rfl) ty67 (bx rfl rfl) rfl) ?_
  refine .p (VI (tx)) (e_mv (ev_t rfl)) ?_
  refine .p (.o (.agg [I (0), I (0)])) (e_bld (cs := [I (0), I (0)]) zo71 bl71 rfl rfl) ?_
  obtain ⟨x5, e5, hm⟩ := hm.call
  refine .fc (v := .o (.c (.L 4 (x5.map Grant.cs)))) rfl rfl rfl rfl rfl rfl rfl pl126 (R2.wk _) (ref08_left_ok    e5) ?_
  refine .p (.o (.agg [.L 4 (x4.map Grant.cs), .L 4 (x5.map Grant.cs)])) (e_bld (cs := [.L 4 (x4.map Grant.cs), .L 4 (x5.map Grant.cs)]) zo69 bl69 rfl rfl) ?_
  obtain ⟨x6, e6, hm⟩ := hm.call
  refine .fc (v := .o (.agg [.L 4 (x6.held.map Grant.cs), .L 4 (x6.waiting.map Grant.cs)])) rfl rfl rfl rfl rfl rfl rfl pl122 (R2.wk _) (ref08_settle_ok    e6) ?_
  refine .c0 rfl rfl rfl rfl (e_stN (L' := [⟨[.L 4 (t_.held.map Grant.cs), .L 4 (t_.waiting.map Grant.cs)], true, true⟩, ⟨[.L 4 (x6.held.map Grant.cs), .L 4 (x6.waiting.map Grant.cs)], true, true⟩]) rfl (ev_t rfl) (ev_t rfl) ty69 rfl rfl rfl rfl rfl) (.m (by decide +kernel) (.m (by decide +kernel) (.m (by decide +kernel) (.m (by decide +kernel) (.m (by decide +kernel) .nil))))) ?_
  refine .nil ?_
  refine CdOK.ret ?_
  refine ⟨.inr rfl, _, (resA_c (look_find rfl) (eLoad_A ty69 (bx rfl rfl) rfl rfl rfl) resA_n), h, _, _, rfl, rfl, hC, ((renFlV rfl) : RenV _ _ _ _ (.o (.agg [.L 4 (x6.held.map Grant.cs), .L 4 (x6.waiting.map Grant.cs)]))), ?_⟩
  cases hm.ret; exact ⟨rfl, rfl⟩
/- (*pagemend/pagemenddraw.Codes).Grant -/
def Codes_Grant (c_ : Codes) : Option (Grant × Codes) := ((Codes_Next 5 c_).bind fun (x1 : (Int × Codes)) => ((Codes_Next 2 x1.2).bind fun (x2 : (Int × Codes)) => ((Codes_Next 2 x2.2).bind fun (x3 : (Int × Codes)) => ((Codes_Next 2 x3.2).bind fun (x4 : (Int × Codes)) => some ((⟨(w64 (1 + x1.1)), (⟨x2.1, x3.1⟩ : Lock), (w64 (1 + x4.1))⟩ : Grant), x4.2)))))
theorem Codes_Grant_ok {h : Heap} {c_ : Codes} {b_c_ : Nat} (hb_c_ : h[b_c_]? = some ⟨[.L 1 (c_.l_.map c_u8), I (c_.at_)], true, true⟩)  {r : (Grant × Codes)} (hm : Codes_Grant c_ = some r) : FnOK Try.prog 48 [.o (.c (.ptr b_c_ 0))] h (fun v h' => v = .o (.agg [I (r.1.tx), I (r.1.lock.page), I (r.1.lock.slot), I (r.1.mode)]) ∧ h' = h.set b_c_ ⟨[.L 1 (r.2.l_.map c_u8), I (r.2.at_)], true, true⟩) := by
 refine FnOK.fin ?_
 refine FnOK.bodyC (N := 15) Try.func48 rfl rfl rfl (fun hC => ?_)
 have hl_c_ := lt_of_get hb_c_
 rw [show h ++ [] = (h.set b_c_ ⟨[.L 1 (c_.l_.map c_u8), I (c_.at_)], true, true⟩) ++ ([] : Heap) from by rw [set_same hb_c_]]
 replace hm := Ev.of hm
 rw [Codes_Grant.eq_1] at hm
 show CdOK _ _ _ (look _ [(0, .o (.c (.ptr b_c_ 0)))]) ((h.set b_c_ ⟨[.L 1 (c_.l_.map c_u8), I (c_.at_)], true, true⟩) ++ ([] : Heap)) _
 refine .seq ?_
 refine .region ?_
 refine .t (.o (.c (.ptr (h.length + 0) 0))) (e_allocN (L' := [⟨[I (0), I (0), I (0), I (0)], true, true⟩]) (List.length_set ..) zo75 rfl rfl) ?_
 refine .nil ?_
 refine CdOK.seq ?_
 refine .region ?_
 refine .m rfl ?_
 obtain ⟨x1, e1, hm⟩ := hm.call
 refine .cl rfl rfl rfl rfl pl32 (R2.wk _) (Codes_Next_ok  (b_c_ := b_c_) (pset hl_c_) e1) ?_
 rintro _ _ ⟨rfl, rfl⟩
 rw [show _ = (h.set b_c_ ⟨[.L 1 (x1.2.l_.map c_u8), I (x1.2.at_)], true, true⟩) ++ ([⟨[I (0), I (0), I (0), I (0)], true, true⟩] : Heap) from (pset2 hl_c_)]
 refine .t (VI ((w64 (1 + x1.1)))) (e_bin rfl (ev_t rfl) rfl rfl) ?_
 refine .m rfl ?_
 obtain ⟨x2, e2, hm⟩ := hm.call
 refine .cl rfl rfl rfl rfl pl32 (R2.wk _) (Codes_Next_ok  (b_c_ := b_c_) (pset hl_c_) e2) ?_
 rintro _ _ ⟨rfl, rfl⟩
 rw [show _ = (h.set b_c_ ⟨[.L 1 (x2.2.l_.map c_u8), I (x2.2.at_)], true, true⟩) ++ ([⟨[I (0), I (0), I (0), I (0)], true, true⟩] : Heap) from (pset2 hl_c_)]
 refine .m rfl ?_
 obtain ⟨x3, e3, hm⟩ := hm.call
 refine .cl rfl rfl rfl rfl pl32 (R2.wk _) (Codes_Next_ok  (b_c_ := b_c_) (pset hl_c_) e3) ?_
 rintro _ _ ⟨rfl, rfl⟩
 rw [show _ = (h.set b_c_ ⟨[.L 1 (x3.2.l_.map c_u8), I (x3.2.at_)], true, true⟩) ++ ([⟨[I (0), I (0), I (0), I (0)], true, true⟩] : Heap) from (pset2 hl_c_)]
 refine .t (.o (.agg [I (x2.1), I (x3.1)])) (e_bld (cs := [I (x2.1), I (x3.1)]) zo71 bl71 rfl rfl) ?_
 refine .m rfl ?_
 obtain ⟨x4, e4, hm⟩ := hm.call
 refine .cl rfl rfl rfl rfl pl32 (R2.wk _) (Codes_Next_ok  (b_c_ := b_c_) (pset hl_c_) e4) ?_
 rintro _ _ ⟨rfl, rfl⟩
 rw [show _ = (h.set b_c_ ⟨[.L 1 (x4.2.l_.map c_u8), I (x4.2.at_)], true, true⟩) ++ ([⟨[I (0), I (0), I (0), I (0)], true, true⟩] : Heap) from (pset2 hl_c_)]
 refine .t (VI ((w64 (1 + x4.1)))) (e_bin rfl (ev_t rfl) rfl rfl) ?_
 refine .t (.o (.agg [I ((w64 (1 + x1.1))), I (x2.1), I (x3.1), I ((w64 (1 + x4.1)))])) (e_bld (cs := [I ((w64 (1 + x1.1))), I (x2.1), I (x3.1), I ((w64 (1 + x4.1)))]) zo75 bl75 rfl rfl) ?_
 refine .s0 rfl rfl (e_stN (L' := [⟨[I ((w64 (1 + x1.1))), I (x2.1), I (x3.1), I ((w64 (1 + x4.1)))], true, true⟩]) (List.length_set ..) (ev_t rfl) (ev_t rfl) ty75 rfl rfl rfl rfl rfl) ?_
 refine .nil ?_
 refine CdOK.ret ?_
 refine ⟨.inr rfl, _, (resA_c (look_find rfl) (eLoad_A ty75 (bx (List.length_set ..) rfl) rfl rfl rfl) resA_n), (h.set b_c_ ⟨[.L 1 (x4.2.l_.map c_u8), I (x4.2.at_)], true, true⟩), _, _, rfl, (List.length_set ..), (hC.set rfl), ((renFlV rfl) : RenV _ _ _ _ (.o (.agg [I ((w64 (1 + x1.1))), I (x2.1), I (x3.1), I ((w64 (1 + x4.1)))]))), ?_⟩
 cases hm.ret; exact ⟨rfl, rfl⟩
/- (*pagemend/pagemenddraw.Codes).Locks -/
def Codes_Locks.l1  : Nat → Int → Locks → Codes → Option (Locks × Codes)
  | 0, _, _, _ => none
  | kk7 + 1, k4, bx5, bx6 => (if 0 < k4 then ((Codes_Next 6 bx6).bind fun (x9 : (Int × Codes)) => (if x9.1 = 4 then ((Codes_Next 5 x9.2).bind fun (x11 : (Int × Codes)) => ((ref08_Release bx5 (w64 (1 + x11.1))).bind fun (x12 : Locks) => Codes_Locks.l1 kk7 (w64 (k4 - 1)) x12 x11.2)) else (if x9.1 = 5 then ((Codes_Next 5 x9.2).bind fun (x15 : (Int × Codes)) => ((ref08_Cancel bx5 (w64 (1 + x15.1))).bind fun (x16 : Locks) => Codes_Locks.l1 kk7 (w64 (k4 - 1)) x16 x15.2)) else ((Codes_Grant x9.2).bind fun (x18 : (Grant × Codes)) => ((ref08_Request bx5 x18.1).bind fun (x19 : (Locks × Bool × Int)) => (if x19.2.2 = 0 then Codes_Locks.l1 kk7 (w64 (k4 - 1)) x19.1 x18.2 else Codes_Locks.l1 kk7 (w64 (k4 - 1)) bx5 x18.2)))))) else some (bx5, bx6))
def Codes_Locks (c_ : Codes) : Option (Locks × Codes) := ((Codes_Next 14 c_).bind fun (x1 : (Int × Codes)) => ((Codes_Locks.l1 FU x1.1 (⟨([] : List Grant), ([] : List Grant)⟩ : Locks) x1.2).bind fun (s23 : (Locks × Codes)) => some (s23.1, s23.2)))
theorem Codes_Locks_ok {h : Heap} {c_ : Codes} {b_c_ : Nat} (hb_c_ : h[b_c_]? = some ⟨[.L 1 (c_.l_.map c_u8), I (c_.at_)], true, true⟩)  {r : (Locks × Codes)} (hm : Codes_Locks c_ = some r) : FnOK Try.prog 45 [.o (.c (.ptr b_c_ 0))] h (fun v h' => v = .o (.agg [.L 4 (r.1.held.map Grant.cs), .L 4 (r.1.waiting.map Grant.cs)]) ∧ h' = h.set b_c_ ⟨[.L 1 (r.2.l_.map c_u8), I (r.2.at_)], true, true⟩) := by
 refine FnOK.fin ?_
 refine FnOK.bodyC (N := 42) Try.func45 rfl rfl rfl (fun hC => ?_)
 have hl_c_ := lt_of_get hb_c_
 rw [show h ++ [] = (h.set b_c_ ⟨[.L 1 (c_.l_.map c_u8), I (c_.at_)], true, true⟩) ++ ([] : Heap) from by rw [set_same hb_c_]]
 replace hm := Ev.of hm
 rw [Codes_Locks.eq_1] at hm
 show CdOK _ _ _ (look _ [(0, .o (.c (.ptr b_c_ 0)))]) ((h.set b_c_ ⟨[.L 1 (c_.l_.map c_u8), I (c_.at_)], true, true⟩) ++ ([] : Heap)) _
 refine .seq ?_
 refine .region ?_
 refine .t (.o (.c (.ptr (h.length + 0) 0))) (e_allocN (L' := [⟨[.v (.slice none 0 0), .v (.slice none 0 0)], true, true⟩]) (List.length_set ..) zo69 rfl rfl) ?_
 refine .nil ?_
 refine CdOK.seq ?_
 refine .region ?_
 refine .t (.o (.c (.ptr (h.length + 1) 0))) (e_allocN (L' := [⟨[.v (.slice none 0 0), .v (.slice none 0 0)], true, true⟩, ⟨[.v (.slice none 0 0), .v (.slice none 0 0)], true, true⟩]) (List.length_set ..) zo69 rfl rfl) ?_
 refine .nil ?_
 refine CdOK.seq ?_
 refine .seq ?_
 refine .region ?_
 refine .m rfl ?_
 obtain ⟨x1, e1, hm⟩ := hm.call
 refine .cl rfl rfl rfl rfl pl32 (R2.wk _) (Codes_Next_ok  (b_c_ := b_c_) (pset hl_c_) e1) ?_
 rintro _ _ ⟨rfl, rfl⟩
 rw [show _ = (h.set b_c_ ⟨[.L 1 (x1.2.l_.map c_u8), I (x1.2.at_)], true, true⟩) ++ ([⟨[.v (.slice none 0 0), .v (.slice none 0 0)], true, true⟩, ⟨[.v (.slice none 0 0), .v (.slice none 0 0)], true, true⟩] : Heap) from (pset2 hl_c_)]
 refine .a rfl ?_
 refine .nil ?_
 replace hm := hm.bnd
 refine CdOK.joinT (σ := (Locks × Codes)) (fun s => (s.1, s.2)) hm (fun s => [(2, .o (.c (.ptr (h.length + 0) 0))), (3, .o (.c (.ptr (h.length + 1) 0)))]) (fun s => (h.set b_c_ ⟨[.L 1 (s.2.l_.map c_u8), I (s.2.at_)], true, true⟩) ++ ([⟨[.v (.slice none 0 0), .v (.slice none 0 0)], true, true⟩, ⟨[.L 4 (s.1.held.map Grant.cs), .L 4 (s.1.waiting.map Grant.cs)], true, true⟩] : Heap)) ?_ ?_
 ·intro hm
  refine .block ?_
  refine .re (σ := [0, 1]) (X := [(0, .o (.c (.ptr b_c_ 0))), (2, .o (.c (.ptr (h.length + 0) 0))), (3, .o (.c (.ptr (h.length + 1) 0))), (4, VI (x1.1))]) (L' := [⟨[.v (.slice none 0 0), .v (.slice none 0 0)], true, true⟩, ⟨[.L 4 ((⟨([] : List Grant), ([] : List Grant)⟩ : Locks).held.map Grant.cs), .L 4 ((⟨([] : List Grant), ([] : List Grant)⟩ : Locks).waiting.map Grant.cs)], true, true⟩]) (List.length_set ..) rfl (hC.set rfl) (by decide) (.obj 0 rfl (renFl rfl) (.obj 1 rfl (R2.of (.wk (.fl _ rfl) (.nlL _)) (R2.of (.wk (.fl _ rfl) (.nlL _)) (R2.nil _))) .nil)) (.cons (.o (.c (.lo _ hl_c_))) (.cons (.o (.c (.ptr 0 0 _ rfl))) (.cons (.o (.c (.ptr 1 1 _ rfl))) (.cons (renFlV rfl) .nil)))) ?_
  refine .loopE (σ := (Int × Locks × Codes)) (fun k s => Ev (Codes_Locks.l1 k s.1 s.2.1 s.2.2) _) (fun s => [(0, .o (.c (.ptr b_c_ 0))), (2, .o (.c (.ptr (h.length + 0) 0))), (3, .o (.c (.ptr (h.length + 1) 0))), (4, VI (s.1))]) (fun s => (h.set b_c_ ⟨[.L 1 (s.2.2.l_.map c_u8), I (s.2.2.at_)], true, true⟩) ++ ([⟨[.v (.slice none 0 0), .v (.slice none 0 0)], true, true⟩, ⟨[.L 4 (s.2.1.held.map Grant.cs), .L 4 (s.2.1.waiting.map Grant.cs)], true, true⟩] : Heap)) FU (x1.1, (⟨([] : List Grant), ([] : List Grant)⟩ : Locks), x1.2) hm (.cons rfl (.cons rfl (.cons rfl (.cons rfl .nil)))) rfl ?_
  rintro kk7 ⟨k4, bx5, bx6⟩ T0 hm
  replace hm : Ev (Codes_Locks.l1 kk7 k4 bx5 bx6) _ := hm
  cases kk7 with
  | zero => exact (Ev.non hm).elim
  | succ kk7 =>
  rw [Codes_Locks.l1.eq_2] at hm
  show CdOK _ _ _ (look T0 [(0, .o (.c (.ptr b_c_ 0))), (2, .o (.c (.ptr (h.length + 0) 0))), (3, .o (.c (.ptr (h.length + 1) 0))), (4, VI (k4))]) ((h.set b_c_ ⟨[.L 1 (bx6.l_.map c_u8), I (bx6.at_)], true, true⟩) ++ ([⟨[.v (.slice none 0 0), .v (.slice none 0 0)], true, true⟩, ⟨[.L 4 (bx5.held.map Grant.cs), .L 4 (bx5.waiting.map Grant.cs)], true, true⟩] : Heap)) _
  refine .seq ?_
  refine .seq ?_
  refine .region ?_
  refine .m rfl ?_
  refine .t (VB (decide (0 < k4))) (e_bin (ev_t rfl) rfl rfl rfl) ?_
  refine .nil ?_
  refine CdOK.condD (ev_t rfl) ?_ ?_
  ·intro c8; replace hm := hm.ifp c8
   refine .skip ?_
   refine CdOK.seq ?_
   refine .block ?_
   refine .seq ?_
   refine .region ?_
   refine .m rfl ?_
   obtain ⟨x9, e9, hm⟩ := hm.call
   refine .cl rfl rfl rfl rfl pl32 (R2.wk _) (Codes_Next_ok  (b_c_ := b_c_) (pset hl_c_) e9) ?_
   rintro _ _ ⟨rfl, rfl⟩
   rw [show _ = (h.set b_c_ ⟨[.L 1 (x9.2.l_.map c_u8), I (x9.2.at_)], true, true⟩) ++ ([⟨[.v (.slice none 0 0), .v (.slice none 0 0)], true, true⟩, ⟨[.L 4 (bx5.held.map Grant.cs), .L 4 (bx5.waiting.map Grant.cs)], true, true⟩] : Heap) from (pset2 hl_c_)]
   refine .nil ?_
   refine CdOK.block ?_
   refine .seq ?_
   refine .region ?_
   refine .t (VB (decide (x9.1 = 4))) (e_eqK (ev_t rfl) rfl) ?_
   refine .a rfl ?_
   refine .nil ?_
   refine CdOK.condD (ev_t rfl) ?_ ?_
   ·intro c10; replace hm := hm.ifp c10
    refine .draw2 (ord := [0, 1, 2, 3, 4, 5]) (chain := [2, 5]) fol (by decide +kernel) (by decide +kernel) ?_
    refine .q _ (e_ldbA (ev_t rfl) ty69 (bx (List.length_set ..) rfl) rfl rfl) ?_
    refine .p (.o (.c (.ptr b_c_ 0))) (e_mv (ev_t rfl)) ?_
    obtain ⟨x11, e11, hm⟩ := hm.call
    refine .cl rfl rfl rfl rfl rfl rfl pl32 (R2.wk _) (Codes_Next_ok  (b_c_ := b_c_) (pset hl_c_) e11) ?_
    rintro _ _ ⟨rfl, rfl⟩
    rw [show _ = (h.set b_c_ ⟨[.L 1 (x11.2.l_.map c_u8), I (x11.2.at_)], true, true⟩) ++ ([⟨[.v (.slice none 0 0), .v (.slice none 0 0)], true, true⟩, ⟨[.L 4 (bx5.held.map Grant.cs), .L 4 (bx5.waiting.map Grant.cs)], true, true⟩] : Heap) from (pset2 hl_c_)]
    refine ⟨(.e rfl rfl (e_ldbA (ev_t rfl) ty69 (bx (List.length_set ..) rfl) rfl rfl) .nil), ?_⟩
    refine .p (VI ((w64 (1 + x11.1)))) (e_bin rfl (ev_t rfl) rfl rfl) ?_
    obtain ⟨x12, e12, hm⟩ := hm.call
    refine .fc (v := .o (.agg [.L 4 (x12.held.map Grant.cs), .L 4 (x12.waiting.map Grant.cs)])) rfl rfl rfl rfl rfl rfl rfl pl59 (R2.wk _) (ref08_Release_ok    e12) ?_
    refine .c0 rfl rfl rfl rfl (e_stN (L' := [⟨[.v (.slice none 0 0), .v (.slice none 0 0)], true, true⟩, ⟨[.L 4 (x12.held.map Grant.cs), .L 4 (x12.waiting.map Grant.cs)], true, true⟩]) (List.length_set ..) (ev_t rfl) (ev_t rfl) ty69 rfl rfl rfl rfl rfl) (.m (by decide +kernel) (.m (by decide +kernel) .nil)) ?_
    refine .nil ?_
    refine CdOK.region ?_
    refine .m rfl ?_
    refine .t (VI ((w64 (k4 - 1)))) (e_bin (ev_t rfl) rfl rfl rfl) ?_
    refine .a rfl ?_
    refine .nil ?_
    refine .id ?_
    exact ⟨_, ((w64 (k4 - 1)), x12, x11.2), Nat.lt_succ_self _, hm, (.cons rfl (.cons rfl (.cons rfl (.cons rfl .nil)))), rfl⟩
   ·intro c13; replace hm := hm.ifn c13
    refine .seq ?_
    refine .region ?_
    refine .t (VB (decide (x9.1 = 5))) (e_eqK (ev_t rfl) rfl) ?_
    refine .a rfl ?_
    refine .nil ?_
    refine CdOK.condD (ev_t rfl) ?_ ?_
    ·intro c14; replace hm := hm.ifp c14
     refine .draw2 (ord := [0, 1, 2, 3, 4, 5]) (chain := [2, 5]) fol (by decide +kernel) (by decide +kernel) ?_
     refine .q _ (e_ldbA (ev_t rfl) ty69 (bx (List.length_set ..) rfl) rfl rfl) ?_
     refine .p (.o (.c (.ptr b_c_ 0))) (e_mv (ev_t rfl)) ?_
     obtain ⟨x15, e15, hm⟩ := hm.call
     refine .cl rfl rfl rfl rfl rfl rfl pl32 (R2.wk _) (Codes_Next_ok  (b_c_ := b_c_) (pset hl_c_) e15) ?_
     rintro _ _ ⟨rfl, rfl⟩
     rw [show _ = (h.set b_c_ ⟨[.L 1 (x15.2.l_.map c_u8), I (x15.2.at_)], true, true⟩) ++ ([⟨[.v (.slice none 0 0), .v (.slice none 0 0)], true, true⟩, ⟨[.L 4 (bx5.held.map Grant.cs), .L 4 (bx5.waiting.map Grant.cs)], true, true⟩] : Heap) from (pset2 hl_c_)]
     refine ⟨(.e rfl rfl (e_ldbA (ev_t rfl) ty69 (bx (List.length_set ..) rfl) rfl rfl) .nil), ?_⟩
     refine .p (VI ((w64 (1 + x15.1)))) (e_bin rfl (ev_t rfl) rfl rfl) ?_
     obtain ⟨x16, e16, hm⟩ := hm.call
     refine .fc (v := .o (.agg [.L 4 (x16.held.map Grant.cs), .L 4 (x16.waiting.map Grant.cs)])) rfl rfl rfl rfl rfl rfl rfl pl58 (R2.wk _) (ref08_Cancel_ok    e16) ?_
     refine .c0 rfl rfl rfl rfl (e_stN (L' := [⟨[.v (.slice none 0 0), .v (.slice none 0 0)], true, true⟩, ⟨[.L 4 (x16.held.map Grant.cs), .L 4 (x16.waiting.map Grant.cs)], true, true⟩]) (List.length_set ..) (ev_t rfl) (ev_t rfl) ty69 rfl rfl rfl rfl rfl) (.m (by decide +kernel) (.m (by decide +kernel) .nil)) ?_
     refine .nil ?_
     refine CdOK.region ?_
     refine .m rfl ?_
     refine .t (VI ((w64 (k4 - 1)))) (e_bin (ev_t rfl) rfl rfl rfl) ?_
     refine .a rfl ?_
     refine .nil ?_
     refine .id ?_
     exact ⟨_, ((w64 (k4 - 1)), x16, x15.2), Nat.lt_succ_self _, hm, (.cons rfl (.cons rfl (.cons rfl (.cons rfl .nil)))), rfl⟩
    ·intro c17; replace hm := hm.ifn c17
     refine .seq ?_
     refine .draw2 (ord := [0, 1, 2, 3, 4, 5, 6, 7, 8, 9, 10, 11]) (chain := [2, 8, 9]) fol (by decide +kernel) (by decide +kernel) ?_
     refine .q _ (e_ldbA (ev_t rfl) ty69 (bx (List.length_set ..) rfl) rfl rfl) ?_
     refine .p (.o (.c (.ptr b_c_ 0))) (e_mv (ev_t rfl)) ?_
     obtain ⟨x18, e18, hm⟩ := hm.call
     refine .cl rfl rfl rfl rfl rfl rfl pl48 (R2.wk _) (Codes_Grant_ok  (b_c_ := b_c_) (pset hl_c_) e18) ?_
     rintro _ _ ⟨rfl, rfl⟩
     rw [show _ = (h.set b_c_ ⟨[.L 1 (x18.2.l_.map c_u8), I (x18.2.at_)], true, true⟩) ++ ([⟨[.v (.slice none 0 0), .v (.slice none 0 0)], true, true⟩, ⟨[.L 4 (bx5.held.map Grant.cs), .L 4 (bx5.waiting.map Grant.cs)], true, true⟩] : Heap) from (pset2 hl_c_)]
     refine ⟨(.e rfl rfl (e_ldbA (ev_t rfl) ty69 (bx (List.length_set ..) rfl) rfl rfl) .nil), ?_⟩
     obtain ⟨x19, e19, hm⟩ := hm.call
     refine .fc (v := .tup [.agg [.L 4 (x19.1.held.map Grant.cs), .L 4 (x19.1.waiting.map Grant.cs)], .c (Bo (x19.2.1)), .c (I (x19.2.2))]) rfl rfl rfl rfl rfl rfl rfl pl50 (R2.wk _) (ref08_Request_ok    e19) ?_
     refine .p (.tup [.agg [.L 4 (x19.1.held.map Grant.cs), .L 4 (x19.1.waiting.map Grant.cs)], .c (Bo (x19.2.1)), .c (I (x19.2.2))]) (e_mv (ev_t rfl)) ?_
     refine .p (.o (.agg [.L 4 (x19.1.held.map Grant.cs), .L 4 (x19.1.waiting.map Grant.cs)])) (e_ext (ev_t rfl) rfl) ?_
     refine .p (VB (x19.2.1)) (e_ext (ev_t rfl) rfl) ?_
     refine .p (VI (x19.2.2)) (e_ext (ev_t rfl) rfl) ?_
     refine .c (v := .o (.c (.ptr (h.length + 2) 0))) rfl rfl rfl rfl rfl (e_allocN (L' := [⟨[.v (.slice none 0 0), .v (.slice none 0 0)], true, true⟩, ⟨[.L 4 (bx5.held.map Grant.cs), .L 4 (bx5.waiting.map Grant.cs)], true, true⟩, ⟨[.v (.slice none 0 0), .v (.slice none 0 0)], true, true⟩]) (List.length_set ..) zo69 rfl rfl) (.c rfl rfl rfl pl50 (R2.wk _) (ref08_Request_ok    e19) (.e rfl rfl (e_ldbA (ev_t rfl) ty69 (bx (List.length_set ..) rfl) rfl rfl) .nil)) ?_
     refine .c0 rfl rfl rfl rfl (e_stN (L' := [⟨[.v (.slice none 0 0), .v (.slice none 0 0)], true, true⟩, ⟨[.L 4 (bx5.held.map Grant.cs), .L 4 (bx5.waiting.map Grant.cs)], true, true⟩, ⟨[.L 4 (x19.1.held.map Grant.cs), .L 4 (x19.1.waiting.map Grant.cs)], true, true⟩]) (List.length_set ..) (ev_t rfl) (ev_t rfl) ty69 rfl rfl rfl rfl rfl) (.m (by decide +kernel) (.m (by decide +kernel) .nil)) ?_
     refine .p (VB (x19.2.1)) (e_as (ev_t rfl)) ?_
     refine .p (VI (x19.2.2)) (e_as (ev_t rfl)) ?_
     refine .nil ?_
     refine CdOK.seq ?_
     refine .region ?_
     refine .m rfl ?_
     refine .t (VB (decide (x19.2.2 = 0))) (e_eqK (ev_t rfl) rfl) ?_
     refine .nil ?_
     refine CdOK.condD (ev_t rfl) ?_ ?_
     ·intro c20; replace hm := hm.ifp c20
      refine .region ?_
      refine .t _ (e_ldbA (ev_t rfl) ty69 (bx (List.length_set ..) rfl) rfl rfl) ?_
      refine .s0 rfl rfl (e_stN (L' := [⟨[.v (.slice none 0 0), .v (.slice none 0 0)], true, true⟩, ⟨[.L 4 (x19.1.held.map Grant.cs), .L 4 (x19.1.waiting.map Grant.cs)], true, true⟩, ⟨[.L 4 (x19.1.held.map Grant.cs), .L 4 (x19.1.waiting.map Grant.cs)], true, true⟩]) (List.length_set ..) (ev_t rfl) (ev_t rfl) ty69 rfl rfl rfl rfl rfl) ?_
      refine .nil ?_
      refine CdOK.region ?_
      refine .m rfl ?_
      refine .t (VI ((w64 (k4 - 1)))) (e_bin (ev_t rfl) rfl rfl rfl) ?_
      refine .a rfl ?_
      refine .nil ?_
      refine .re (σ := [0, 1]) (X := [(0, .o (.c (.ptr b_c_ 0))), (2, .o (.c (.ptr (h.length + 0) 0))), (3, .o (.c (.ptr (h.length + 1) 0))), (4, VI ((w64 (k4 - 1))))]) (L' := [⟨[.v (.slice none 0 0), .v (.slice none 0 0)], true, true⟩, ⟨[.L 4 (x19.1.held.map Grant.cs), .L 4 (x19.1.waiting.map Grant.cs)], true, true⟩]) (List.length_set ..) rfl (hC.set rfl) (by decide) (.obj 0 rfl (renFl rfl) (.obj 1 rfl (renFl rfl) .nil)) (.cons (.o (.c (.lo _ hl_c_))) (.cons (.o (.c (.ptr 0 0 _ rfl))) (.cons (.o (.c (.ptr 1 1 _ rfl))) (.cons (renFlV rfl) .nil)))) ?_
      exact ⟨_, ((w64 (k4 - 1)), x19.1, x18.2), Nat.lt_succ_self _, hm, (.cons rfl (.cons rfl (.cons rfl (.cons rfl .nil)))), rfl⟩
     ·intro c21; replace hm := hm.ifn c21
      refine .skip ?_
      refine CdOK.region ?_
      refine .m rfl ?_
      refine .t (VI ((w64 (k4 - 1)))) (e_bin (ev_t rfl) rfl rfl rfl) ?_
      refine .a rfl ?_
      refine .nil ?_
      refine .re (σ := [0, 1]) (X := [(0, .o (.c (.ptr b_c_ 0))), (2, .o (.c (.ptr (h.length + 0) 0))), (3, .o (.c (.ptr (h.length + 1) 0))), (4, VI ((w64 (k4 - 1))))]) (L' := [⟨[.v (.slice none 0 0), .v (.slice none 0 0)], true, true⟩, ⟨[.L 4 (bx5.held.map Grant.cs), .L 4 (bx5.waiting.map Grant.cs)], true, true⟩]) (List.length_set ..) rfl (hC.set rfl) (by decide) (.obj 0 rfl (renFl rfl) (.obj 1 rfl (renFl rfl) .nil)) (.cons (.o (.c (.lo _ hl_c_))) (.cons (.o (.c (.ptr 0 0 _ rfl))) (.cons (.o (.c (.ptr 1 1 _ rfl))) (.cons (renFlV rfl) .nil)))) ?_
      exact ⟨_, ((w64 (k4 - 1)), bx5, x18.2), Nat.lt_succ_self _, hm, (.cons rfl (.cons rfl (.cons rfl (.cons rfl .nil)))), rfl⟩
  ·intro c22; replace hm := hm.ifn c22
   refine .exit ?_
   refine .id ?_
   exact ⟨(bx5, bx6), hm.ret, (.cons rfl (.cons rfl .nil)), rfl⟩
 ·rintro ⟨bx2, bx3⟩ T0 hm
  refine CdOK.seq ?_
  refine .region ?_
  refine .t _ (e_ldbA (ev_t rfl) ty69 (bx (List.length_set ..) rfl) rfl rfl) ?_
  refine .s0 rfl rfl (e_stN (L' := [⟨[.L 4 (bx2.held.map Grant.cs), .L 4 (bx2.waiting.map Grant.cs)], true, true⟩, ⟨[.L 4 (bx2.held.map Grant.cs), .L 4 (bx2.waiting.map Grant.cs)], true, true⟩]) (List.length_set ..) (ev_t rfl) (ev_t rfl) ty69 rfl rfl rfl rfl rfl) ?_
  refine .nil ?_
  refine CdOK.ret ?_
  refine ⟨.inr rfl, _, (resA_c (look_find rfl) (eLoad_A ty69 (bx (List.length_set ..) rfl) rfl rfl rfl) resA_n), (h.set b_c_ ⟨[.L 1 (bx3.l_.map c_u8), I (bx3.at_)], true, true⟩), _, _, rfl, (List.length_set ..), (hC.set rfl), ((renFlV rfl) : RenV _ _ _ _ (.o (.agg [.L 4 (bx2.held.map Grant.cs), .L 4 (bx2.waiting.map Grant.cs)]))), ?_⟩
  cases hm.ret; exact ⟨rfl, rfl⟩
end Rv
