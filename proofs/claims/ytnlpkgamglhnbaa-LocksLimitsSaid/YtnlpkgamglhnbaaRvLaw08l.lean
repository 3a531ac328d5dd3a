/- Chapter 8: LocksLimits, as a plain function. -/
import Derived.Test.YtnlpkgamglhnbaaRvLaw08z
set_option linter.unusedVariables false
set_option linter.unusedSimpArgs false
namespace Rv
open Go Go.RowKit Go.Proofs
theorem bo4 : boT Try.prog 4 = true := by decide +kernel
theorem pl40 : plainFn Try.prog 40 = true := by decide +kernel
/- pagemend/pagemendlaw08.LocksLimits -/
def law08_LocksLimits.l1 (extra : Int) : Nat → Int → Locks → Option Locks
  | 0, _, _ => none
  | kk7 + 1, i5, bx6 => (if i5 < (w64 (1022 + (Int.tmod (w64 extra) 3))) then (if (bx6.held).length + ([(⟨(w64 (1 + (Int.tmod i5 2))), (⟨(IntKind.i64.wrap (Int.tdiv (IntKind.i64.wrap (Int.tdiv i5 2)) 16)), (Int.tmod (IntKind.i64.wrap (Int.tdiv i5 2)) 16)⟩ : Lock), 1⟩ : Grant)] : List Grant).length ≤ 4398046511104 then law08_LocksLimits.l1 extra kk7 (w64 (i5 + 1)) (⟨(bx6.held ++ ([(⟨(w64 (1 + (Int.tmod i5 2))), (⟨(IntKind.i64.wrap (Int.tdiv (IntKind.i64.wrap (Int.tdiv i5 2)) 16)), (Int.tmod (IntKind.i64.wrap (Int.tdiv i5 2)) 16)⟩ : Lock), 1⟩ : Grant)] : List Grant)), bx6.waiting⟩ : Locks) else none) else some bx6)
def law08_LocksLimits (extra : Int) (upgrade : Bool) : Option Bool := ((law08_awake ).bind fun (x1 : Bool) => (if (!x1) = true then some false else ((law08_LocksLimits.l1 extra FU 0 (⟨([] : List Grant), ([] : List Grant)⟩ : Locks)).bind fun (s11 : Locks) => (((if upgrade = true then some (⟨1, (⟨0, 0⟩ : Lock), 2⟩ : Grant) else some (⟨3, (⟨0, 0⟩ : Lock), 1⟩ : Grant))).bind fun (s15 : Grant) => ((((locks_Request s11 s15).bind fun (x19 : (Locks × Bool × Int)) => (if x19.2.1 = true then some (x19.1, true, x19.2.2) else some (x19.1, false, x19.2.2)))).bind fun (s22 : (Locks × Bool × Int)) => (if (w64 (1022 + (Int.tmod (w64 extra) 3))) = 1024 then (if s22.2.2 = 21 then (if s22.2.1 = true then some false else some (decide ((s22.1.held.length : Int) = 0))) else some false) else (if s22.2.2 = 0 then (if (s22.2.1 == (!upgrade)) = true then ((locks_Valid s22.1).bind fun (x31 : Bool) => some x31) else some false) else some false)))))))
theorem law08_LocksLimits_ok {h : Heap} {extra : Int} {upgrade : Bool}   {r : Bool} (hm : law08_LocksLimits extra upgrade = some r) : FnOK Try.prog 9 [.o (.c (.v (.int .u8 (extra)))), VB (upgrade)] h (fun v h' => v = VB (r) ∧ h' = h) := by
 refine FnOK.fin ?_
 refine FnOK.bodyC (N := 77) Try.func9 rfl rfl rfl (fun hC => ?_)
 replace hm := Ev.of hm
 rw [law08_LocksLimits.eq_1] at hm
 show CdOK _ _ _ (look _ [(0, .o (.c (.v (.int .u8 (extra))))), (1, VB (upgrade))]) (h ++ ([] : Heap)) _
 refine .seq ?_
 refine .region ?_
 refine .t (VB (false)) (e_as rfl) ?_
 refine .nil ?_
 refine CdOK.seq ?_
 refine .seq ?_
 refine .region ?_
 obtain ⟨x1, e1, hm⟩ := hm.call
 refine .cl rfl rfl rfl rfl pl40 (R2.wk _) (law08_awake_ok    e1) ?_
 rintro _ _ ⟨rfl, rfl⟩
 refine .t (VB ((!x1))) (e_un (ev_t rfl) rfl) ?_
 refine .nil ?_
 refine CdOK.condB (ev_t rfl) ?_ ?_
 ·intro c2; replace hm := hm.ifp c2
  refine .seq ?_
  refine .region ?_
  refine .t (VB (false)) (e_as rfl) ?_
  refine .nil ?_
  refine CdOK.ret ?_
  refine ⟨.inr rfl, _, rfl, h, _, _, rfl, rfl, hC, ((renFlV rfl) : RenV _ _ _ _ (VB (false))), ?_⟩
  cases hm.ret; exact ⟨rfl, rfl⟩
 ·intro c3; replace hm := hm.ifn c3
  refine .skip ?_
  refine CdOK.seq ?_
  refine .region ?_
  refine .t (.o (.c (.ptr (h.length + 0) 0))) (e_allocN (L' := [⟨[.v (.slice none 0 0), .v (.slice none 0 0)], true, true⟩]) rfl zo69 rfl rfl) ?_
  refine .nil ?_
  refine CdOK.seq ?_
  refine .region ?_
  refine .m rfl ?_
  refine .t (VI ((w64 extra))) (e_cvw cv5_3 (ev_t rfl)) ?_
  refine .t (VI ((Int.tmod (w64 extra) 3))) (e_remK (ev_t rfl) rfl (by decide)) ?_
  refine .t (VI ((w64 (1022 + (Int.tmod (w64 extra) 3))))) (e_bin rfl (ev_t rfl) rfl rfl) ?_
  refine .a rfl ?_
  refine .nil ?_
  refine CdOK.seq ?_
  refine .seq ?_
  refine .region ?_
  refine .t (VI (0)) (e_as rfl) ?_
  refine .nil ?_
  replace hm := hm.bnd
  refine CdOK.joinT (σ := (Locks × Bool)) (fun s => s.1) hm (fun s => [(1, VB (upgrade)), (5, .o (.c (.ptr (h.length + 0) 0))), (6, VI ((w64 (1022 + (Int.tmod (w64 extra) 3)))))]) (fun s => h ++ ([⟨[.g (h.length + 1) ((s.1.held).length) 4 s.2, .L 4 (s.1.waiting.map Grant.cs)], true, true⟩, ⟨(s.1.held.map Grant.cs).flatten, true, s.2⟩] : Heap)) ?_ ?_
  ·intro hm
   refine .block ?_
   refine .re (σ := [0, 1001]) (X := [(1, VB (upgrade)), (5, .o (.c (.ptr (h.length + 0) 0))), (6, VI ((w64 (1022 + (Int.tmod (w64 extra) 3))))), (7, VI (0))]) (L' := [⟨[.g (h.length + 1) (((⟨([] : List Grant), ([] : List Grant)⟩ : Locks).held).length) 4 false, .L 4 ((⟨([] : List Grant), ([] : List Grant)⟩ : Locks).waiting.map Grant.cs)], true, true⟩, ⟨((⟨([] : List Grant), ([] : List Grant)⟩ : Locks).held.map Grant.cs).flatten, true, false⟩]) rfl rfl hC (by decide) (.obj 0 rfl (R2.of (.nilg _ _) (R2.of (.wk (.fl _ rfl) (.nlL _)) (R2.nil _))) (.dead 1001 _ rfl .nil)) (.cons (renFlV rfl) (.cons (.o (.c (.ptr 0 0 _ rfl))) (.cons (renFlV rfl) (.cons (renFlV rfl) .nil)))) ?_
   refine .loopE (σ := (Int × Locks × Bool)) (fun k s => Ev (law08_LocksLimits.l1 extra k s.1 s.2.1) _) (fun s => [(1, VB (upgrade)), (5, .o (.c (.ptr (h.length + 0) 0))), (6, VI ((w64 (1022 + (Int.tmod (w64 extra) 3))))), (7, VI (s.1))]) (fun s => h ++ ([⟨[.g (h.length + 1) ((s.2.1.held).length) 4 s.2.2, .L 4 (s.2.1.waiting.map Grant.cs)], true, true⟩, ⟨(s.2.1.held.map Grant.cs).flatten, true, s.2.2⟩] : Heap)) FU (0, (⟨([] : List Grant), ([] : List Grant)⟩ : Locks), false) hm (.cons rfl (.cons rfl (.cons rfl (.cons rfl .nil)))) rfl ?_
   rintro kk7 ⟨i5, bx6, bx6v0⟩ T0 hm
   replace hm : Ev (law08_LocksLimits.l1 extra kk7 i5 bx6) _ := hm
   cases kk7 with
   | zero => exact (Ev.non hm).elim
   | succ kk7 =>
   rw [law08_LocksLimits.l1.eq_2] at hm
   show CdOK _ _ _ (look T0 [(1, VB (upgrade)), (5, .o (.c (.ptr (h.length + 0) 0))), (6, VI ((w64 (1022 + (Int.tmod (w64 extra) 3))))), (7, VI (i5))]) (h ++ ([⟨[.g (h.length + 1) ((bx6.held).length) 4 bx6v0, .L 4 (bx6.waiting.map Grant.cs)], true, true⟩, ⟨(bx6.held.map Grant.cs).flatten, true, bx6v0⟩] : Heap)) _
   refine .seq ?_
   refine .seq ?_
   refine .region ?_
   refine .m rfl ?_
   refine .m rfl ?_
   refine .t (VB (decide (i5 < (w64 (1022 + (Int.tmod (w64 extra) 3)))))) (e_bin (ev_t rfl) (ev_t rfl) rfl rfl) ?_
   refine .nil ?_
   refine CdOK.condD (ev_t rfl) ?_ ?_
   ·intro c8; replace hm := hm.ifp c8
    refine .skip ?_
    refine CdOK.seq ?_
    refine .block ?_
    refine .region ?_
    refine .t _ (e_fa' fa69_0 (ev_t rfl)) ?_
    refine .t _ (e_ldb1 (ev_t rfl) ty67 (bx rfl rfl) rfl) ?_
    refine .m rfl ?_
    refine .t (VI ((Int.tmod i5 2))) (e_remK (ev_t rfl) rfl (by decide)) ?_
    refine .t (VI ((w64 (1 + (Int.tmod i5 2))))) (e_bin rfl (ev_t rfl) rfl rfl) ?_
    refine .m rfl ?_
    refine .t (VI ((IntKind.i64.wrap (Int.tdiv i5 2)))) (e_quoK (ev_t rfl) rfl (by decide)) ?_
    refine .t (VI ((IntKind.i64.wrap (Int.tdiv (IntKind.i64.wrap (Int.tdiv i5 2)) 16)))) (e_quoK (ev_t rfl) rfl (by decide)) ?_
    refine .m rfl ?_
    refine .t (VI ((IntKind.i64.wrap (Int.tdiv i5 2)))) (e_quoK (ev_t rfl) rfl (by decide)) ?_
    refine .t (VI ((Int.tmod (IntKind.i64.wrap (Int.tdiv i5 2)) 16))) (e_remK (ev_t rfl) rfl (by decide)) ?_
    refine .t (.o (.agg [I ((IntKind.i64.wrap (Int.tdiv (IntKind.i64.wrap (Int.tdiv i5 2)) 16))), I ((Int.tmod (IntKind.i64.wrap (Int.tdiv i5 2)) 16))])) (e_bld (cs := [I ((IntKind.i64.wrap (Int.tdiv (IntKind.i64.wrap (Int.tdiv i5 2)) 16))), I ((Int.tmod (IntKind.i64.wrap (Int.tdiv i5 2)) 16))]) zo71 bl71 rfl rfl) ?_
    refine .t (.o (.agg [I ((w64 (1 + (Int.tmod i5 2)))), I ((IntKind.i64.wrap (Int.tdiv (IntKind.i64.wrap (Int.tdiv i5 2)) 16))), I ((Int.tmod (IntKind.i64.wrap (Int.tdiv i5 2)) 16)), I (1)])) (e_bld (cs := [I ((w64 (1 + (Int.tmod i5 2)))), I ((IntKind.i64.wrap (Int.tdiv (IntKind.i64.wrap (Int.tdiv i5 2)) 16))), I ((Int.tmod (IntKind.i64.wrap (Int.tdiv i5 2)) 16)), I (1)]) zo75 bl75 rfl rfl) ?_
    refine .t (.o (.c (.LC 4 (([(⟨(w64 (1 + (Int.tmod i5 2))), (⟨(IntKind.i64.wrap (Int.tdiv (IntKind.i64.wrap (Int.tdiv i5 2)) 16)), (Int.tmod (IntKind.i64.wrap (Int.tdiv i5 2)) 16)⟩ : Lock), 1⟩ : Grant)] : List Grant).map Grant.cs)))) (e_lit (cs := [I ((w64 (1 + (Int.tmod i5 2)))), I ((IntKind.i64.wrap (Int.tdiv (IntKind.i64.wrap (Int.tdiv i5 2)) 16))), I ((Int.tmod (IntKind.i64.wrap (Int.tdiv i5 2)) 16)), I (1)]) (xs := ([(⟨(w64 (1 + (Int.tmod i5 2))), (⟨(IntKind.i64.wrap (Int.tdiv (IntKind.i64.wrap (Int.tdiv i5 2)) 16)), (Int.tmod (IntKind.i64.wrap (Int.tdiv i5 2)) 16)⟩ : Lock), 1⟩ : Grant)]).map Grant.cs) slt67 rfl rfl rfl rfl rfl) ?_
    obtain ⟨c9, hm⟩ := hm.ifs
    refine .t (.o (.c (.g (h.length + 2) (((bx6.held ++ ([(⟨(w64 (1 + (Int.tmod i5 2))), (⟨(IntKind.i64.wrap (Int.tdiv (IntKind.i64.wrap (Int.tdiv i5 2)) 16)), (Int.tmod (IntKind.i64.wrap (Int.tdiv i5 2)) 16)⟩ : Lock), 1⟩ : Grant)] : List Grant))).length) 4 (bx6v0 || decide (0 < ([(⟨(w64 (1 + (Int.tmod i5 2))), (⟨(IntKind.i64.wrap (Int.tdiv (IntKind.i64.wrap (Int.tdiv i5 2)) 16)), (Int.tmod (IntKind.i64.wrap (Int.tdiv i5 2)) 16)⟩ : Lock), 1⟩ : Grant)] : List Grant).length))))) (e_apG (k := 4) (q := 4398046511104) (m := ([(⟨(w64 (1 + (Int.tmod i5 2))), (⟨(IntKind.i64.wrap (Int.tdiv (IntKind.i64.wrap (Int.tdiv i5 2)) 16)), (Int.tmod (IntKind.i64.wrap (Int.tdiv i5 2)) 16)⟩ : Lock), 1⟩ : Grant)] : List Grant).length) (j := 1) (f := Grant.cs) (xs := bx6.held) (ys := ([(⟨(w64 (1 + (Int.tmod i5 2))), (⟨(IntKind.i64.wrap (Int.tdiv (IntKind.i64.wrap (Int.tdiv i5 2)) 16)), (Int.tmod (IntKind.i64.wrap (Int.tdiv i5 2)) 16)⟩ : Lock), 1⟩ : Grant)] : List Grant)) (L' := [⟨[.g (h.length + 1) ((bx6.held).length) 4 bx6v0, .L 4 (bx6.waiting.map Grant.cs)], true, true⟩, ⟨(bx6.held.map Grant.cs).flatten, true, false⟩, ⟨((bx6.held ++ ([(⟨(w64 (1 + (Int.tmod i5 2))), (⟨(IntKind.i64.wrap (Int.tdiv (IntKind.i64.wrap (Int.tdiv i5 2)) 16)), (Int.tmod (IntKind.i64.wrap (Int.tdiv i5 2)) 16)⟩ : Lock), 1⟩ : Grant)] : List Grant)).map Grant.cs).flatten, true, (bx6v0 || decide (0 < ([(⟨(w64 (1 + (Int.tmod i5 2))), (⟨(IntKind.i64.wrap (Int.tdiv (IntKind.i64.wrap (Int.tdiv i5 2)) 16)), (Int.tmod (IntKind.i64.wrap (Int.tdiv i5 2)) 16)⟩ : Lock), 1⟩ : Grant)] : List Grant).length))⟩]) slt67 rfl (ev_t rfl) (ev_t rfl) (bx rfl rfl) (by intro x; rfl) src_LC rfl c9 rfl (by first | rfl | simp) rfl rfl) ?_
    refine .t _ (e_fa' fa69_0 (ev_t rfl)) ?_
    refine .s0 rfl rfl (e_stN (L' := [⟨[.g (h.length + 2) (((bx6.held ++ ([(⟨(w64 (1 + (Int.tmod i5 2))), (⟨(IntKind.i64.wrap (Int.tdiv (IntKind.i64.wrap (Int.tdiv i5 2)) 16)), (Int.tmod (IntKind.i64.wrap (Int.tdiv i5 2)) 16)⟩ : Lock), 1⟩ : Grant)] : List Grant))).length) 4 (bx6v0 || decide (0 < ([(⟨(w64 (1 + (Int.tmod i5 2))), (⟨(IntKind.i64.wrap (Int.tdiv (IntKind.i64.wrap (Int.tdiv i5 2)) 16)), (Int.tmod (IntKind.i64.wrap (Int.tdiv i5 2)) 16)⟩ : Lock), 1⟩ : Grant)] : List Grant).length)), .L 4 (bx6.waiting.map Grant.cs)], true, true⟩, ⟨(bx6.held.map Grant.cs).flatten, true, false⟩, ⟨((bx6.held ++ ([(⟨(w64 (1 + (Int.tmod i5 2))), (⟨(IntKind.i64.wrap (Int.tdiv (IntKind.i64.wrap (Int.tdiv i5 2)) 16)), (Int.tmod (IntKind.i64.wrap (Int.tdiv i5 2)) 16)⟩ : Lock), 1⟩ : Grant)] : List Grant)).map Grant.cs).flatten, true, (bx6v0 || decide (0 < ([(⟨(w64 (1 + (Int.tmod i5 2))), (⟨(IntKind.i64.wrap (Int.tdiv (IntKind.i64.wrap (Int.tdiv i5 2)) 16)), (Int.tmod (IntKind.i64.wrap (Int.tdiv i5 2)) 16)⟩ : Lock), 1⟩ : Grant)] : List Grant).length))⟩]) rfl (ev_t rfl) (ev_t rfl) ty67 rfl rfl rfl rfl rfl) ?_
    refine .nil ?_
    refine CdOK.region ?_
    refine .m rfl ?_
    refine .t (VI ((w64 (i5 + 1)))) (e_bin (ev_t rfl) rfl rfl rfl) ?_
    refine .a rfl ?_
    refine .nil ?_
    refine .re (σ := [0, 2]) (X := [(1, VB (upgrade)), (5, .o (.c (.ptr (h.length + 0) 0))), (6, VI ((w64 (1022 + (Int.tmod (w64 extra) 3))))), (7, VI ((w64 (i5 + 1))))]) (L' := [⟨[.g (h.length + 1) (((⟨(bx6.held ++ ([(⟨(w64 (1 + (Int.tmod i5 2))), (⟨(IntKind.i64.wrap (Int.tdiv (IntKind.i64.wrap (Int.tdiv i5 2)) 16)), (Int.tmod (IntKind.i64.wrap (Int.tdiv i5 2)) 16)⟩ : Lock), 1⟩ : Grant)] : List Grant)), bx6.waiting⟩ : Locks).held).length) 4 (bx6v0 || decide (0 < ([(⟨(w64 (1 + (Int.tmod i5 2))), (⟨(IntKind.i64.wrap (Int.tdiv (IntKind.i64.wrap (Int.tdiv i5 2)) 16)), (Int.tmod (IntKind.i64.wrap (Int.tdiv i5 2)) 16)⟩ : Lock), 1⟩ : Grant)] : List Grant).length)), .L 4 ((⟨(bx6.held ++ ([(⟨(w64 (1 + (Int.tmod i5 2))), (⟨(IntKind.i64.wrap (Int.tdiv (IntKind.i64.wrap (Int.tdiv i5 2)) 16)), (Int.tmod (IntKind.i64.wrap (Int.tdiv i5 2)) 16)⟩ : Lock), 1⟩ : Grant)] : List Grant)), bx6.waiting⟩ : Locks).waiting.map Grant.cs)], true, true⟩, ⟨((⟨(bx6.held ++ ([(⟨(w64 (1 + (Int.tmod i5 2))), (⟨(IntKind.i64.wrap (Int.tdiv (IntKind.i64.wrap (Int.tdiv i5 2)) 16)), (Int.tmod (IntKind.i64.wrap (Int.tdiv i5 2)) 16)⟩ : Lock), 1⟩ : Grant)] : List Grant)), bx6.waiting⟩ : Locks).held.map Grant.cs).flatten, true, (bx6v0 || decide (0 < ([(⟨(w64 (1 + (Int.tmod i5 2))), (⟨(IntKind.i64.wrap (Int.tdiv (IntKind.i64.wrap (Int.tdiv i5 2)) 16)), (Int.tmod (IntKind.i64.wrap (Int.tdiv i5 2)) 16)⟩ : Lock), 1⟩ : Grant)] : List Grant).length))⟩]) rfl rfl hC (by decide) (.obj 0 rfl (R2.of (.gg 2 1 _ _ _ _ _ rfl (by first | rfl | (simp; done) | (dsimp only at *; simp only [List.length_take]; omega)) rfl) (R2.of (.fl _ rfl) (R2.nil _))) (.obj 2 rfl (renFl (flat_all (f := Grant.cs) (l := (bx6.held ++ ([(⟨(w64 (1 + (Int.tmod i5 2))), (⟨(IntKind.i64.wrap (Int.tdiv (IntKind.i64.wrap (Int.tdiv i5 2)) 16)), (Int.tmod (IntKind.i64.wrap (Int.tdiv i5 2)) 16)⟩ : Lock), 1⟩ : Grant)] : List Grant))) (by intro x; rfl))) .nil)) (.cons (renFlV rfl) (.cons (.o (.c (.ptr 0 0 _ rfl))) (.cons (renFlV rfl) (.cons (renFlV rfl) .nil)))) ?_
    exact ⟨_, ((w64 (i5 + 1)), (⟨(bx6.held ++ ([(⟨(w64 (1 + (Int.tmod i5 2))), (⟨(IntKind.i64.wrap (Int.tdiv (IntKind.i64.wrap (Int.tdiv i5 2)) 16)), (Int.tmod (IntKind.i64.wrap (Int.tdiv i5 2)) 16)⟩ : Lock), 1⟩ : Grant)] : List Grant)), bx6.waiting⟩ : Locks), (bx6v0 || decide (0 < ([(⟨(w64 (1 + (Int.tmod i5 2))), (⟨(IntKind.i64.wrap (Int.tdiv (IntKind.i64.wrap (Int.tdiv i5 2)) 16)), (Int.tmod (IntKind.i64.wrap (Int.tdiv i5 2)) 16)⟩ : Lock), 1⟩ : Grant)] : List Grant).length))), Nat.lt_succ_self _, hm, (.cons rfl (.cons rfl (.cons rfl (.cons rfl .nil)))), rfl⟩
   ·intro c10; replace hm := hm.ifn c10
    refine .exit ?_
    refine .id ?_
    exact ⟨(bx6, bx6v0), hm.ret, (.cons rfl (.cons rfl (.cons rfl .nil))), rfl⟩
  ·rintro ⟨bx4, bx4v0⟩ T0 hm
   refine CdOK.seq ?_
   refine .region ?_
   refine .t (.o (.agg [I (0), I (0)])) (e_bld (cs := [I (0), I (0)]) zo71 bl71 rfl rfl) ?_
   refine .t (.o (.agg [I (3), I (0), I (0), I (1)])) (e_bld (cs := [I (3), I (0), I (0), I (1)]) zo75 bl75 rfl rfl) ?_
   refine .t (.o (.c (.ptr (h.length + 2) 0))) (e_allocN (L' := [⟨[.g (h.length + 1) ((bx4.held).length) 4 bx4v0, .L 4 (bx4.waiting.map Grant.cs)], true, true⟩, ⟨(bx4.held.map Grant.cs).flatten, true, bx4v0⟩, ⟨[I (0), I (0), I (0), I (0)], true, true⟩]) rfl zo75 rfl rfl) ?_
   refine .s0 rfl rfl (e_stN (L' := [⟨[.g (h.length + 1) ((bx4.held).length) 4 bx4v0, .L 4 (bx4.waiting.map Grant.cs)], true, true⟩, ⟨(bx4.held.map Grant.cs).flatten, true, bx4v0⟩, ⟨[I (3), I (0), I (0), I (1)], true, true⟩]) rfl (ev_t rfl) (ev_t rfl) ty75 rfl rfl rfl rfl rfl) ?_
   refine .nil ?_
   replace hm := hm.bnd
   refine CdOK.joinE (σ := Grant) (fun s => s) hm (fun s => [(1, VB (upgrade)), (5, .o (.c (.ptr (h.length + 0) 0))), (6, VI ((w64 (1022 + (Int.tmod (w64 extra) 3))))), (8, .o (.c (.ptr (h.length + 1) 0)))]) (fun s => h ++ ([⟨[.g (h.length + 2) ((bx4.held).length) 4 bx4v0, .L 4 (bx4.waiting.map Grant.cs)], true, true⟩, ⟨[I (s.tx), I (s.lock.page), I (s.lock.slot), I (s.mode)], true, true⟩, ⟨(bx4.held.map Grant.cs).flatten, true, bx4v0⟩] : Heap)) ?_ ?_
   ·intro hm
    refine .seq ?_
    refine .region ?_
    refine .m rfl ?_
    refine .nil ?_
    refine CdOK.condB (ev_t rfl) ?_ ?_
    ·intro c13; replace hm := hm.ifp c13
     refine .region ?_
     refine .t (.o (.agg [I (0), I (0)])) (e_bld (cs := [I (0), I (0)]) zo71 bl71 rfl rfl) ?_
     refine .t (.o (.agg [I (1), I (0), I (0), I (2)])) (e_bld (cs := [I (1), I (0), I (0), I (2)]) zo75 bl75 rfl rfl) ?_
     refine .s0 rfl rfl (e_stN (L' := [⟨[.g (h.length + 1) ((bx4.held).length) 4 bx4v0, .L 4 (bx4.waiting.map Grant.cs)], true, true⟩, ⟨(bx4.held.map Grant.cs).flatten, true, bx4v0⟩, ⟨[I (1), I (0), I (0), I (2)], true, true⟩]) rfl (ev_t rfl) (ev_t rfl) ty75 rfl rfl rfl rfl rfl) ?_
     refine .nil ?_
     refine .re (σ := [0, 2, 1]) (X := [(1, VB (upgrade)), (5, .o (.c (.ptr (h.length + 0) 0))), (6, VI ((w64 (1022 + (Int.tmod (w64 extra) 3))))), (8, .o (.c (.ptr (h.length + 1) 0)))]) (L' := [⟨[.g (h.length + 2) ((bx4.held).length) 4 bx4v0, .L 4 (bx4.waiting.map Grant.cs)], true, true⟩, ⟨[I ((⟨1, (⟨0, 0⟩ : Lock), 2⟩ : Grant).tx), I ((⟨1, (⟨0, 0⟩ : Lock), 2⟩ : Grant).lock.page), I ((⟨1, (⟨0, 0⟩ : Lock), 2⟩ : Grant).lock.slot), I ((⟨1, (⟨0, 0⟩ : Lock), 2⟩ : Grant).mode)], true, true⟩, ⟨(bx4.held.map Grant.cs).flatten, true, bx4v0⟩]) rfl rfl hC (by decide) (.obj 0 rfl (R2.of (.gg 1 2 _ _ _ _ _ rfl (by first | rfl | (simp; done) | (dsimp only at *; simp only [List.length_take]; omega)) rfl) (R2.of (.fl _ rfl) (R2.nil _))) (.obj 2 rfl (renFl rfl) (.obj 1 rfl (renFl (flat_all (f := Grant.cs) (l := bx4.held) (by intro x; rfl))) .nil))) (.cons (renFlV rfl) (.cons (.o (.c (.ptr 0 0 _ rfl))) (.cons (renFlV rfl) (.cons (.o (.c (.ptr 2 1 _ rfl))) .nil)))) ?_
     exact ⟨(⟨1, (⟨0, 0⟩ : Lock), 2⟩ : Grant), hm.ret, (.cons rfl (.cons rfl (.cons rfl (.cons rfl .nil)))), rfl⟩
    ·intro c14; replace hm := hm.ifn c14
     refine .skip ?_
     refine .re (σ := [0, 2, 1]) (X := [(1, VB (upgrade)), (5, .o (.c (.ptr (h.length + 0) 0))), (6, VI ((w64 (1022 + (Int.tmod (w64 extra) 3))))), (8, .o (.c (.ptr (h.length + 1) 0)))]) (L' := [⟨[.g (h.length + 2) ((bx4.held).length) 4 bx4v0, .L 4 (bx4.waiting.map Grant.cs)], true, true⟩, ⟨[I ((⟨3, (⟨0, 0⟩ : Lock), 1⟩ : Grant).tx), I ((⟨3, (⟨0, 0⟩ : Lock), 1⟩ : Grant).lock.page), I ((⟨3, (⟨0, 0⟩ : Lock), 1⟩ : Grant).lock.slot), I ((⟨3, (⟨0, 0⟩ : Lock), 1⟩ : Grant).mode)], true, true⟩, ⟨(bx4.held.map Grant.cs).flatten, true, bx4v0⟩]) rfl rfl hC (by decide) (.obj 0 rfl (R2.of (.gg 1 2 _ _ _ _ _ rfl (by first | rfl | (simp; done) | (dsimp only at *; simp only [List.length_take]; omega)) rfl) (R2.of (.fl _ rfl) (R2.nil _))) (.obj 2 rfl (renFl rfl) (.obj 1 rfl (renFl (flat_all (f := Grant.cs) (l := bx4.held) (by intro x; rfl))) .nil))) (.cons (renFlV rfl) (.cons (.o (.c (.ptr 0 0 _ rfl))) (.cons (renFlV rfl) (.cons (.o (.c (.ptr 2 1 _ rfl))) .nil)))) ?_
     exact ⟨(⟨3, (⟨0, 0⟩ : Lock), 1⟩ : Grant), hm.ret, (.cons rfl (.cons rfl (.cons rfl (.cons rfl .nil)))), rfl⟩
   ·rintro bx12 T0 hm
    show CdOK _ _ _ (look T0 [(1, VB (upgrade)), (5, .o (.c (.ptr (h.length + 0) 0))), (6, VI ((w64 (1022 + (Int.tmod (w64 extra) 3))))), (8, .o (.c (.ptr (h.length + 1) 0)))]) (h ++ ([⟨[.g (h.length + 2) ((bx4.held).length) 4 bx4v0, .L 4 (bx4.waiting.map Grant.cs)], true, true⟩, ⟨[I (bx12.tx), I (bx12.lock.page), I (bx12.lock.slot), I (bx12.mode)], true, true⟩, ⟨(bx4.held.map Grant.cs).flatten, true, bx4v0⟩] : Heap)) _
    replace hm := hm.bnd
    refine .joinE (σ := (Locks × Bool × Int)) (fun s => (s.1, s.2.1, s.2.2)) hm (fun s => [(1, VB (upgrade)), (6, VI ((w64 (1022 + (Int.tmod (w64 extra) 3))))), (9, .o (.c (.ptr (h.length + 0) 0))), (10, VB (s.2.1)), (11, VI (s.2.2))]) (fun s => h ++ ([⟨[.L 4 (s.1.held.map Grant.cs), .L 4 (s.1.waiting.map Grant.cs)], true, true⟩] : Heap)) ?_ ?_
    ·intro hm
     refine .re (σ := [0, 1]) (X := [(1, VB (upgrade)), (5, .o (.c (.ptr (h.length + 0) 0))), (6, VI ((w64 (1022 + (Int.tmod (w64 extra) 3))))), (8, .o (.c (.ptr (h.length + 1) 0)))]) (L' := [⟨[.L 4 (bx4.held.map Grant.cs), .L 4 (bx4.waiting.map Grant.cs)], true, true⟩, ⟨[I (bx12.tx), I (bx12.lock.page), I (bx12.lock.slot), I (bx12.mode)], true, true⟩]) rfl rfl hC (by decide) (.obj 0 rfl (R2.of (.fzg 2 _ 4 _ (bx4.held.map Grant.cs) rfl (by decide) (by first | exact List.length_map .. | simp) (lens_all (by intro x; rfl)) (vl_all (by intro x; rfl))) (R2.of (.fl _ rfl) (R2.nil _))) (.obj 1 rfl (renFl rfl) .nil)) (.cons (renFlV rfl) (.cons (.o (.c (.ptr 0 0 _ rfl))) (.cons (renFlV rfl) (.cons (.o (.c (.ptr 1 1 _ rfl))) .nil)))) ?_
     refine .region ?_
     refine .t _ (e_ldbA (ev_t rfl) ty69 (bx rfl rfl) rfl rfl) ?_
     refine .t _ (e_ldbA (ev_t rfl) ty75 (bx rfl rfl) rfl rfl) ?_
     obtain ⟨x19, e19, hm⟩ := hm.call
     refine .cl rfl rfl rfl rfl pl41 (R2.wk _) (locks_Request_ok    e19) ?_
     rintro _ _ ⟨rfl, rfl⟩
     refine .m rfl ?_
     refine .t (.o (.agg [.L 4 (x19.1.held.map Grant.cs), .L 4 (x19.1.waiting.map Grant.cs)])) (e_ext (ev_t rfl) rfl) ?_
     refine .sb rfl rfl rfl (e_ext (ev_t rfl) rfl) ?_ ?_
     ·intro c20; replace hm := hm.ifp c20
      refine .t (VI (x19.2.2)) (e_ext (ev_t rfl) rfl) ?_
      refine .t (.o (.c (.ptr (h.length + 2) 0))) (e_allocN (L' := [⟨[.L 4 (bx4.held.map Grant.cs), .L 4 (bx4.waiting.map Grant.cs)], true, true⟩, ⟨[I (bx12.tx), I (bx12.lock.page), I (bx12.lock.slot), I (bx12.mode)], true, true⟩, ⟨[.v (.slice none 0 0), .v (.slice none 0 0)], true, true⟩]) rfl zo69 rfl rfl) ?_
      refine .s0 rfl rfl (e_stN (L' := [⟨[.L 4 (bx4.held.map Grant.cs), .L 4 (bx4.waiting.map Grant.cs)], true, true⟩, ⟨[I (bx12.tx), I (bx12.lock.page), I (bx12.lock.slot), I (bx12.mode)], true, true⟩, ⟨[.L 4 (x19.1.held.map Grant.cs), .L 4 (x19.1.waiting.map Grant.cs)], true, true⟩]) rfl (ev_t rfl) (ev_t rfl) ty69 rfl rfl rfl rfl rfl) ?_
      refine .a rfl ?_
      refine .a rfl ?_
      refine .nil ?_
      refine .re (σ := [2]) (X := [(1, VB (upgrade)), (6, VI ((w64 (1022 + (Int.tmod (w64 extra) 3))))), (9, .o (.c (.ptr (h.length + 0) 0))), (10, VB (true)), (11, VI (x19.2.2))]) (L' := [⟨[.L 4 (x19.1.held.map Grant.cs), .L 4 (x19.1.waiting.map Grant.cs)], true, true⟩]) rfl rfl hC (by decide) (.obj 2 rfl (renFl rfl) .nil) (.cons (renFlV rfl) (.cons (renFlV rfl) (.cons (.o (.c (.ptr 2 0 _ rfl))) (.cons (renFlV rfl) (.cons (renFlV rfl) .nil))))) ?_
      exact ⟨(x19.1, true, x19.2.2), hm.ret, (.cons rfl (.cons rfl (.cons rfl (.cons rfl (.cons rfl .nil))))), rfl⟩
     ·intro c21; replace hm := hm.ifn (by rw [c21]; exact Bool.false_ne_true)
      refine .t (VI (x19.2.2)) (e_ext (ev_t rfl) rfl) ?_
      refine .t (.o (.c (.ptr (h.length + 2) 0))) (e_allocN (L' := [⟨[.L 4 (bx4.held.map Grant.cs), .L 4 (bx4.waiting.map Grant.cs)], true, true⟩, ⟨[I (bx12.tx), I (bx12.lock.page), I (bx12.lock.slot), I (bx12.mode)], true, true⟩, ⟨[.v (.slice none 0 0), .v (.slice none 0 0)], true, true⟩]) rfl zo69 rfl rfl) ?_
      refine .s0 rfl rfl (e_stN (L' := [⟨[.L 4 (bx4.held.map Grant.cs), .L 4 (bx4.waiting.map Grant.cs)], true, true⟩, ⟨[I (bx12.tx), I (bx12.lock.page), I (bx12.lock.slot), I (bx12.mode)], true, true⟩, ⟨[.L 4 (x19.1.held.map Grant.cs), .L 4 (x19.1.waiting.map Grant.cs)], true, true⟩]) rfl (ev_t rfl) (ev_t rfl) ty69 rfl rfl rfl rfl rfl) ?_
      refine .a rfl ?_
      refine .a rfl ?_
      refine .nil ?_
      refine .re (σ := [2]) (X := [(1, VB (upgrade)), (6, VI ((w64 (1022 + (Int.tmod (w64 extra) 3))))), (9, .o (.c (.ptr (h.length + 0) 0))), (10, VB (false)), (11, VI (x19.2.2))]) (L' := [⟨[.L 4 (x19.1.held.map Grant.cs), .L 4 (x19.1.waiting.map Grant.cs)], true, true⟩]) rfl rfl hC (by decide) (.obj 2 rfl (renFl rfl) .nil) (.cons (renFlV rfl) (.cons (renFlV rfl) (.cons (.o (.c (.ptr 2 0 _ rfl))) (.cons (renFlV rfl) (.cons (renFlV rfl) .nil))))) ?_
      exact ⟨(x19.1, false, x19.2.2), hm.ret, (.cons rfl (.cons rfl (.cons rfl (.cons rfl (.cons rfl .nil))))), rfl⟩
    ·rintro ⟨u16, held17, e18⟩ T0 hm
     show CdOK _ _ _ (look T0 [(1, VB (upgrade)), (6, VI ((w64 (1022 + (Int.tmod (w64 extra) 3))))), (9, .o (.c (.ptr (h.length + 0) 0))), (10, VB (held17)), (11, VI (e18))]) (h ++ ([⟨[.L 4 (u16.held.map Grant.cs), .L 4 (u16.waiting.map Grant.cs)], true, true⟩] : Heap)) _
     refine .seq ?_
     refine .seq ?_
     refine .region ?_
     refine .m rfl ?_
     refine .t (VB (decide ((w64 (1022 + (Int.tmod (w64 extra) 3))) = 1024))) (e_eqK (ev_t rfl) rfl) ?_
     refine .nil ?_
     refine CdOK.condD (ev_t rfl) ?_ ?_
     ·intro c23; replace hm := hm.ifp c23
      refine .seq ?_
      refine .region ?_
      refine .m rfl ?_
      refine .sd rfl rfl rfl (e_eqK (ev_t rfl) rfl) ?_ ?_
      ·intro c24; replace hm := hm.ifp c24
       refine .m rfl ?_
       refine .sb rfl rfl rfl (e_mv (ev_t rfl)) ?_ ?_
       ·intro c25; replace hm := hm.ifp c25
        refine .t (VB (false)) (e_un (ev_t rfl) rfl) ?_
        refine .t (VB (false)) (e_pick (t := true) (ev_t rfl) (ev_t rfl)) ?_
        refine .m rfl ?_
        refine .k ?_
        refine .k ?_
        refine .k ?_
        refine .k ?_
        refine .t (VB (false)) (e_pick (t := false) (ev_t rfl) rfl) ?_
        refine .a rfl ?_
        refine .nil ?_
        refine CdOK.ret ?_
        refine ⟨.inr rfl, _, rfl, h, _, _, rfl, rfl, hC, ((renFlV rfl) : RenV _ _ _ _ (VB (false))), ?_⟩
        cases hm.ret; exact ⟨rfl, rfl⟩
       ·intro c26; replace hm := hm.ifn (by rw [c26]; exact Bool.false_ne_true)
        refine .t (VB (true)) (e_un (ev_t rfl) rfl) ?_
        refine .t (VB (true)) (e_pick (t := true) (ev_t rfl) (ev_t rfl)) ?_
        refine .m rfl ?_
        refine .t _ (e_fa' fa69_0 (ev_t rfl)) ?_
        refine .t _ (e_ldb1 (ev_t rfl) ty67 (bx rfl rfl) rfl) ?_
        refine .t (VI ((u16.held.length : Int))) (e_lenM (ev_t rfl) is67) ?_
        refine .t (VB (decide ((u16.held.length : Int) = 0))) (e_eqK (ev_t rfl) rfl) ?_
        refine .t (VB (decide ((u16.held.length : Int) = 0))) (e_pick (t := true) (ev_t rfl) (ev_t rfl)) ?_
        refine .a rfl ?_
        refine .nil ?_
        refine CdOK.ret ?_
        refine ⟨.inr rfl, _, rfl, h, _, _, rfl, rfl, hC, ((renFlV rfl) : RenV _ _ _ _ (VB (decide ((u16.held.length : Int) = 0)))), ?_⟩
        cases hm.ret; exact ⟨rfl, rfl⟩
      ·intro c27; replace hm := hm.ifn c27
       refine .m rfl ?_
       refine .k ?_
       refine .k ?_
       refine .t (VB (false)) (e_pick (t := false) (ev_t rfl) rfl) ?_
       refine .m rfl ?_
       refine .k ?_
       refine .k ?_
       refine .k ?_
       refine .k ?_
       refine .t (VB (false)) (e_pick (t := false) (ev_t rfl) rfl) ?_
       refine .a rfl ?_
       refine .nil ?_
       refine CdOK.ret ?_
       refine ⟨.inr rfl, _, rfl, h, _, _, rfl, rfl, hC, ((renFlV rfl) : RenV _ _ _ _ (VB (false))), ?_⟩
       cases hm.ret; exact ⟨rfl, rfl⟩
     ·intro c28; replace hm := hm.ifn c28
      refine .skip ?_
      refine CdOK.seq ?_
      refine .region ?_
      refine .m rfl ?_
      refine .sd rfl rfl rfl (e_eqK (ev_t rfl) rfl) ?_ ?_
      ·intro c29; replace hm := hm.ifp c29
       refine .m rfl ?_
       refine .m rfl ?_
       refine .m rfl ?_
       refine .t (VB ((!upgrade))) (e_un (ev_t rfl) rfl) ?_
       refine .sb rfl rfl rfl (e_eqB (ev_t rfl) (ev_t rfl) bo4) ?_ ?_
       ·intro c30; replace hm := hm.ifp c30
        refine .t (VB (true)) (e_pick (t := true) (ev_t rfl) (ev_t rfl)) ?_
        refine .m rfl ?_
        refine .t _ (e_ldbA (ev_t rfl) ty69 (bx rfl rfl) rfl rfl) ?_
        obtain ⟨x31, e31, hm⟩ := hm.call
        refine .cl rfl rfl rfl rfl pl44 (R2.wk _) (locks_Valid_ok    e31) ?_
        rintro _ _ ⟨rfl, rfl⟩
        refine .t (VB (x31)) (e_pick (t := true) (ev_t rfl) (ev_t rfl)) ?_
        refine .a rfl ?_
        refine .nil ?_
        refine CdOK.ret ?_
        refine ⟨.inr rfl, _, rfl, h, _, _, rfl, rfl, hC, ((renFlV rfl) : RenV _ _ _ _ (VB (x31))), ?_⟩
        cases hm.ret; exact ⟨rfl, rfl⟩
       ·intro c32; replace hm := hm.ifn (by rw [c32]; exact Bool.false_ne_true)
        refine .t (VB (false)) (e_pick (t := true) (ev_t rfl) (ev_t rfl)) ?_
        refine .m rfl ?_
        refine .k ?_
        refine .k ?_
        refine .t (VB (false)) (e_pick (t := false) (ev_t rfl) rfl) ?_
        refine .a rfl ?_
        refine .nil ?_
        refine CdOK.ret ?_
        refine ⟨.inr rfl, _, rfl, h, _, _, rfl, rfl, hC, ((renFlV rfl) : RenV _ _ _ _ (VB (false))), ?_⟩
        cases hm.ret; exact ⟨rfl, rfl⟩
      ·intro c33; replace hm := hm.ifn c33
       refine .m rfl ?_
       refine .k ?_
       refine .k ?_
       refine .k ?_
       refine .k ?_
       refine .t (VB (false)) (e_pick (t := false) (ev_t rfl) rfl) ?_
       refine .m rfl ?_
       refine .k ?_
       refine .k ?_
       refine .t (VB (false)) (e_pick (t := false) (ev_t rfl) rfl) ?_
       refine .a rfl ?_
       refine .nil ?_
       refine CdOK.ret ?_
       refine ⟨.inr rfl, _, rfl, h, _, _, rfl, rfl, hC, ((renFlV rfl) : RenV _ _ _ _ (VB (false))), ?_⟩
       cases hm.ret; exact ⟨rfl, rfl⟩
end Rv
