/- Chapter 8: LocksOrder, as a plain function. -/
import Derived.Test.YtnlpkgamglhnbaaRvLaw08z
set_option linter.unusedVariables false
set_option linter.unusedSimpArgs false
namespace Rv
open Go Go.RowKit Go.Proofs
theorem bo4 : boT Try.prog 4 = true := by decide +kernel
theorem pl40 : plainFn Try.prog 40 = true := by decide +kernel
/- pagemend/pagemendlaw08.LocksOrder -/
def law08_LocksOrder.l1 (modes : (List Int)) : Nat → Int → Locks → Option (Sum Locks Bool)
  | 0, _, _ => none
  | kk7 + 1, i5, bx6 => (if i5 < (if 12 < (modes.length : Int) then 12 else (modes.length : Int)) then (if (0 : Int) ≤ i5 ∧ i5 < (modes.length : Int) then ((locks_Request bx6 (⟨(w64 (i5 + 1)), (⟨3, 3⟩ : Lock), (w64 (1 + (Int.tmod (w64 (gd modes i5)) 2)))⟩ : Grant)).bind fun (x10 : (Locks × Bool × Int)) => (if x10.2.2 ≠ 0 then some (Sum.inr false) else law08_LocksOrder.l1 modes kk7 (w64 (i5 + 1)) x10.1)) else none) else some (Sum.inl bx6))
def law08_LocksOrder.l3 (modes : (List Int)) : Nat → Int → Option Int
  | 0, _ => none
  | kk25 + 1, last24 => (if (w64 (last24 + 1)) < (if 12 < (modes.length : Int) then 12 else (modes.length : Int)) then (if (0 : Int) ≤ (w64 (last24 + 1)) ∧ (w64 (last24 + 1)) < (modes.length : Int) then (if (Int.tmod (gd modes (w64 (last24 + 1))) 2) = 0 then law08_LocksOrder.l3 modes kk25 (w64 (last24 + 1)) else some last24) else none) else some last24)
def law08_LocksOrder.l4 (modes : (List Int)) (i16 : Int) (bx17 : Locks) (last20 : Int) : Nat → Int → Option (Sum Unit Bool)
  | 0, _ => none
  | kk35 + 1, j34 => (if j34 < (if 12 < (modes.length : Int) then 12 else (modes.length : Int)) then ((locks_Mode bx17 (w64 (j34 + 1)) (⟨3, 3⟩ : Lock)).bind fun (x37 : Int) => (if i16 ≤ j34 then (if (!((decide (0 < x37)) == (decide (j34 ≤ last20)))) = true then some (Sum.inr false) else law08_LocksOrder.l4 modes i16 bx17 last20 kk35 (w64 (j34 + 1))) else (if (!((decide (0 < x37)) == false)) = true then some (Sum.inr false) else law08_LocksOrder.l4 modes i16 bx17 last20 kk35 (w64 (j34 + 1))))) else some (Sum.inl ()))
def law08_LocksOrder.l2 (modes : (List Int)) : Nat → Int → Locks → Option (Sum Locks Bool)
  | 0, _, _ => none
  | kk18 + 1, i16, bx17 => (if i16 < (if 12 < (modes.length : Int) then 12 else (modes.length : Int)) then (((if (0 : Int) ≤ i16 ∧ i16 < (modes.length : Int) then (if (Int.tmod (gd modes i16) 2) = 0 then ((law08_LocksOrder.l3 modes FU i16).bind fun (s31 : Int) => some s31) else some i16) else none)).bind fun (s33 : Int) => ((law08_LocksOrder.l4 modes i16 bx17 s33 FU 0).bind fun (z : Sum Unit Bool) => match z with | .inl (s45 : Unit) => ((locks_Release bx17 (w64 (i16 + 1))).bind fun (x46 : Locks) => law08_LocksOrder.l2 modes kk18 (w64 (i16 + 1)) x46) | .inr r => some (Sum.inr r))) else some (Sum.inl bx17))
def law08_LocksOrder (modes : (List Int)) : Option Bool := ((law08_awake ).bind fun (x1 : Bool) => (if (!x1) = true then some false else ((law08_LocksOrder.l1 modes FU 0 (⟨([] : List Grant), ([] : List Grant)⟩ : Locks)).bind fun (z : Sum Locks Bool) => match z with | .inl (s14 : Locks) => ((law08_LocksOrder.l2 modes FU 0 s14).bind fun (z : Sum Locks Bool) => match z with | .inl (s48 : Locks) => (if (s48.held.length : Int) = 0 then some (decide ((s48.waiting.length : Int) = 0)) else some false) | .inr r => some r) | .inr r => some r)))
theorem law08_LocksOrder_ok {h : Heap} {modes : (List Int)}   {r : Bool} (hm : law08_LocksOrder modes = some r) : FnOK Try.prog 8 [.o (.c (.L 1 (modes.map c_u8)))] h (fun v h' => v = VB (r) ∧ h' = h) := by
 refine FnOK.fin ?_
 refine FnOK.bodyC (N := 105) Try.func8 rfl rfl rfl (fun hC => ?_)
 replace hm := Ev.of hm
 rw [law08_LocksOrder.eq_1] at hm
 show CdOK _ _ _ (look _ [(0, .o (.c (.L 1 (modes.map c_u8))))]) (h ++ ([] : Heap)) _
 refine .seq ?_
 refine .region ?_
 refine .t (VB (false)) (e_as rfl) ?_
 refine .nil ?_
 refine CdOK.seq ?_
 refine .seq ?_
 refine .region ?_
 obtain ⟨x1, e1, hm⟩ := hm.call
 refine .cl rfl rfl rfl rfl pl40 (R2.wk _) (law08_awake_ok    e1) ?_
 rintro _ _ ⟨rfl, rfl⟩
 refine .t (VB ((!x1))) (e_un (ev_t rfl) rfl) ?_
 refine .nil ?_
 refine CdOK.condB (ev_t rfl) ?_ ?_
 ·intro c2; replace hm := hm.ifp c2
  refine .seq ?_
  refine .region ?_
  refine .t (VB (false)) (e_as rfl) ?_
  refine .nil ?_
  refine CdOK.ret ?_
  refine ⟨.inr rfl, _, rfl, h, _, _, rfl, rfl, hC, ((renFlV rfl) : RenV _ _ _ _ (VB (false))), ?_⟩
  cases hm.ret; exact ⟨rfl, rfl⟩
 ·intro c3; replace hm := hm.ifn c3
  refine .skip ?_
  refine CdOK.seq ?_
  refine .region ?_
  refine .t (.o (.c (.ptr (h.length + 0) 0))) (e_allocN (L' := [⟨[.v (.slice none 0 0), .v (.slice none 0 0)], true, true⟩]) rfl zo69 rfl rfl) ?_
  refine .nil ?_
  refine CdOK.seq ?_
  refine .region ?_
  refine .m rfl ?_
  refine .t (VI ((modes.length : Int))) (e_lenM (ev_t rfl) is22) ?_
  refine .t (VI ((if 12 < (modes.length : Int) then 12 else (modes.length : Int)))) (e_min (ev_t rfl) rfl) ?_
  refine .a rfl ?_
  refine .nil ?_
  refine CdOK.seq ?_
  refine .region ?_
  refine .t (.o (.agg [I (3), I (3)])) (e_bld (cs := [I (3), I (3)]) zo71 bl71 rfl rfl) ?_
  refine .t (.o (.c (.ptr (h.length + 1) 0))) (e_allocN (L' := [⟨[.v (.slice none 0 0), .v (.slice none 0 0)], true, true⟩, ⟨[I (0), I (0)], true, true⟩]) rfl zo71 rfl rfl) ?_
  refine .s0 rfl rfl (e_stN (L' := [⟨[.v (.slice none 0 0), .v (.slice none 0 0)], true, true⟩, ⟨[I (3), I (3)], true, true⟩]) rfl (ev_t rfl) (ev_t rfl) ty71 rfl rfl rfl rfl rfl) ?_
  refine .nil ?_
  refine CdOK.seq ?_
  refine .seq ?_
  refine .region ?_
  refine .t (VI (0)) (e_as rfl) ?_
  refine .nil ?_
  replace hm := hm.bnd
  refine CdOK.joinT (σ := Locks) (fun s => Sum.inl s) hm (fun s => [(0, .o (.c (.L 1 (modes.map c_u8)))), (3, .o (.c (.ptr (h.length + 0) 0))), (4, VI ((if 12 < (modes.length : Int) then 12 else (modes.length : Int)))), (5, .o (.c (.ptr (h.length + 1) 0)))]) (fun s => h ++ ([⟨[.L 4 (s.held.map Grant.cs), .L 4 (s.waiting.map Grant.cs)], true, true⟩, ⟨[I (3), I (3)], true, true⟩] : Heap)) ?_ ?_
  ·intro hm
   refine .block ?_
   refine .re (σ := [0, 1]) (X := [(0, .o (.c (.L 1 (modes.map c_u8)))), (3, .o (.c (.ptr (h.length + 0) 0))), (4, VI ((if 12 < (modes.length : Int) then 12 else (modes.length : Int)))), (5, .o (.c (.ptr (h.length + 1) 0))), (6, VI (0))]) (L' := [⟨[.L 4 ((⟨([] : List Grant), ([] : List Grant)⟩ : Locks).held.map Grant.cs), .L 4 ((⟨([] : List Grant), ([] : List Grant)⟩ : Locks).waiting.map Grant.cs)], true, true⟩, ⟨[I (3), I (3)], true, true⟩]) rfl rfl hC (by decide) (.obj 0 rfl (R2.of (.wk (.fl _ rfl) (.nlL _)) (R2.of (.wk (.fl _ rfl) (.nlL _)) (R2.nil _))) (.obj 1 rfl (renFl rfl) .nil)) (.cons (renFlV rfl) (.cons (.o (.c (.ptr 0 0 _ rfl))) (.cons (renFlV rfl) (.cons (.o (.c (.ptr 1 1 _ rfl))) (.cons (renFlV rfl) .nil))))) ?_
   refine .loopE (σ := (Int × Locks)) (fun k s => Ev (law08_LocksOrder.l1 modes k s.1 s.2) _) (fun s => [(0, .o (.c (.L 1 (modes.map c_u8)))), (3, .o (.c (.ptr (h.length + 0) 0))), (4, VI ((if 12 < (modes.length : Int) then 12 else (modes.length : Int)))), (5, .o (.c (.ptr (h.length + 1) 0))), (6, VI (s.1))]) (fun s => h ++ ([⟨[.L 4 (s.2.held.map Grant.cs), .L 4 (s.2.waiting.map Grant.cs)], true, true⟩, ⟨[I (3), I (3)], true, true⟩] : Heap)) FU (0, (⟨([] : List Grant), ([] : List Grant)⟩ : Locks)) hm (.cons rfl (.cons rfl (.cons rfl (.cons rfl (.cons rfl .nil))))) rfl ?_
   rintro kk7 ⟨i5, bx6⟩ T0 hm
   replace hm : Ev (law08_LocksOrder.l1 modes kk7 i5 bx6) _ := hm
   cases kk7 with
   | zero => exact (Ev.non hm).elim
   | succ kk7 =>
   rw [law08_LocksOrder.l1.eq_2] at hm
   show CdOK _ _ _ (look T0 [(0, .o (.c (.L 1 (modes.map c_u8)))), (3, .o (.c (.ptr (h.length + 0) 0))), (4, VI ((if 12 < (modes.length : Int) then 12 else (modes.length : Int)))), (5, .o (.c (.ptr (h.length + 1) 0))), (6, VI (i5))]) (h ++ ([⟨[.L 4 (bx6.held.map Grant.cs), .L 4 (bx6.waiting.map Grant.cs)], true, true⟩, ⟨[I (3), I (3)], true, true⟩] : Heap)) _
   refine .seq ?_
   refine .seq ?_
   refine .region ?_
   refine .m rfl ?_
   refine .m rfl ?_
   refine .t (VB (decide (i5 < (if 12 < (modes.length : Int) then 12 else (modes.length : Int))))) (e_bin (ev_t rfl) (ev_t rfl) rfl rfl) ?_
   refine .nil ?_
   refine CdOK.condD (ev_t rfl) ?_ ?_
   ·intro c8; replace hm := hm.ifp c8
    refine .skip ?_
    refine CdOK.seq ?_
    refine .block ?_
    refine .seq ?_
    refine .draw2 (ord := [0, 1, 2, 3, 4, 5, 6, 7, 8, 9, 10, 11, 12, 13, 14, 15, 16, 17, 18, 19, 20]) (chain := [17, 18]) fol (by decide +kernel) (by decide +kernel) ?_
    refine .q _ (e_ldbA (ev_t rfl) ty69 (bx rfl rfl) rfl rfl) ?_
    refine .p (VI (i5)) (e_mv (ev_t rfl)) ?_
    refine .p (VI ((w64 (i5 + 1)))) (e_bin (ev_t rfl) rfl rfl rfl) ?_
    refine .q _ (e_ldbA (ev_t rfl) ty71 (bx rfl rfl) rfl rfl) ?_
    refine .p (.o (.c (.L 1 (modes.map c_u8)))) (e_mv (ev_t rfl)) ?_
    refine .p (VI (i5)) (e_mv (ev_t rfl)) ?_
    obtain ⟨c9, hm⟩ := hm.ifs
    refine .p (.o (.c (.rp [.v (.int .u8 ((gd modes i5)))]))) (e_ixM (f := c_u8) (l := modes) (i := i5) (ev_t rfl) (ev_t rfl) el22 c9) ?_
    refine .q _ (e_ldR1 (ev_t rfl) ty5 rfl) ?_
    refine .p (VI ((w64 (gd modes i5)))) (e_cvw cv5_3 (ev_t rfl)) ?_
    refine .p (VI ((Int.tmod (w64 (gd modes i5)) 2))) (e_remK (ev_t rfl) rfl (by decide)) ?_
    refine .p (VI ((w64 (1 + (Int.tmod (w64 (gd modes i5)) 2))))) (e_bin rfl (ev_t rfl) rfl rfl) ?_
    refine .p (.o (.agg [I ((w64 (i5 + 1))), I (3), I (3), I ((w64 (1 + (Int.tmod (w64 (gd modes i5)) 2))))])) (e_bld (cs := [I ((w64 (i5 + 1))), I (3), I (3), I ((w64 (1 + (Int.tmod (w64 (gd modes i5)) 2))))]) zo75 bl75 rfl rfl) ?_
    obtain ⟨x10, e10, hm⟩ := hm.call
    refine .fc (v := .tup [.agg [.L 4 (x10.1.held.map Grant.cs), .L 4 (x10.1.waiting.map Grant.cs)], .c (Bo (x10.2.1)), .c (I (x10.2.2))]) rfl rfl rfl rfl rfl rfl rfl pl41 (R2.wk _) (locks_Request_ok    e10) ?_
    refine .p (.tup [.agg [.L 4 (x10.1.held.map Grant.cs), .L 4 (x10.1.waiting.map Grant.cs)], .c (Bo (x10.2.1)), .c (I (x10.2.2))]) (e_mv (ev_t rfl)) ?_
    refine .p (.o (.agg [.L 4 (x10.1.held.map Grant.cs), .L 4 (x10.1.waiting.map Grant.cs)])) (e_ext (ev_t rfl) rfl) ?_
    refine .p (VB (x10.2.1)) (e_ext (ev_t rfl) rfl) ?_
    refine .p (VI (x10.2.2)) (e_ext (ev_t rfl) rfl) ?_
    refine .c (v := .o (.c (.ptr (h.length + 2) 0))) rfl rfl rfl rfl rfl (e_allocN (L' := [⟨[.L 4 (bx6.held.map Grant.cs), .L 4 (bx6.waiting.map Grant.cs)], true, true⟩, ⟨[I (3), I (3)], true, true⟩, ⟨[.v (.slice none 0 0), .v (.slice none 0 0)], true, true⟩]) rfl zo69 rfl rfl) (.c rfl rfl rfl pl41 (R2.wk _) (locks_Request_ok    e10) (.e rfl rfl (e_ldR1 (ev_t rfl) ty5 rfl) (.e rfl rfl (e_ldbA (ev_t rfl) ty71 (bx rfl rfl) rfl rfl) (.e rfl rfl (e_ldbA (ev_t rfl) ty69 (bx rfl rfl) rfl rfl) .nil)))) ?_
    refine .c0 rfl rfl rfl rfl (e_stN (L' := [⟨[.L 4 (bx6.held.map Grant.cs), .L 4 (bx6.waiting.map Grant.cs)], true, true⟩, ⟨[I (3), I (3)], true, true⟩, ⟨[.L 4 (x10.1.held.map Grant.cs), .L 4 (x10.1.waiting.map Grant.cs)], true, true⟩]) rfl (ev_t rfl) (ev_t rfl) ty69 rfl rfl rfl rfl rfl) (.m (by decide +kernel) (.m (by decide +kernel) (.m (by decide +kernel) (.m (by decide +kernel) .nil)))) ?_
    refine .p (VB (x10.2.1)) (e_as (ev_t rfl)) ?_
    refine .p (VI (x10.2.2)) (e_as (ev_t rfl)) ?_
    refine .nil ?_
    refine CdOK.seq ?_
    refine .seq ?_
    refine .region ?_
    refine .m rfl ?_
    refine .t (VB (decide (x10.2.2 ≠ 0))) (e_neK (ev_t rfl) rfl) ?_
    refine .nil ?_
    refine CdOK.condD (ev_t rfl) ?_ ?_
    ·intro c11; replace hm := hm.ifp c11
     refine .seq ?_
     refine .region ?_
     refine .t (VB (false)) (e_as rfl) ?_
     refine .nil ?_
     refine CdOK.ret ?_
     refine ⟨.inr rfl, _, rfl, h, _, _, rfl, rfl, hC, ((renFlV rfl) : RenV _ _ _ _ (VB (false))), ?_⟩
     have hr := hm.ret; replace hr := Ev.ret hr; cases hr; exact ⟨rfl, rfl⟩
    ·intro c12; replace hm := hm.ifn c12
     refine .skip ?_
     refine CdOK.region ?_
     refine .t _ (e_ldbA (ev_t rfl) ty69 (bx rfl rfl) rfl rfl) ?_
     refine .s0 rfl rfl (e_stN (L' := [⟨[.L 4 (x10.1.held.map Grant.cs), .L 4 (x10.1.waiting.map Grant.cs)], true, true⟩, ⟨[I (3), I (3)], true, true⟩, ⟨[.L 4 (x10.1.held.map Grant.cs), .L 4 (x10.1.waiting.map Grant.cs)], true, true⟩]) rfl (ev_t rfl) (ev_t rfl) ty69 rfl rfl rfl rfl rfl) ?_
     refine .nil ?_
     refine CdOK.region ?_
     refine .m rfl ?_
     refine .t (VI ((w64 (i5 + 1)))) (e_bin (ev_t rfl) rfl rfl rfl) ?_
     refine .a rfl ?_
     refine .nil ?_
     refine .re (σ := [0, 1]) (X := [(0, .o (.c (.L 1 (modes.map c_u8)))), (3, .o (.c (.ptr (h.length + 0) 0))), (4, VI ((if 12 < (modes.length : Int) then 12 else (modes.length : Int)))), (5, .o (.c (.ptr (h.length + 1) 0))), (6, VI ((w64 (i5 + 1))))]) (L' := [⟨[.L 4 (x10.1.held.map Grant.cs), .L 4 (x10.1.waiting.map Grant.cs)], true, true⟩, ⟨[I (3), I (3)], true, true⟩]) rfl rfl hC (by decide) (.obj 0 rfl (renFl rfl) (.obj 1 rfl (renFl rfl) .nil)) (.cons (renFlV rfl) (.cons (.o (.c (.ptr 0 0 _ rfl))) (.cons (renFlV rfl) (.cons (.o (.c (.ptr 1 1 _ rfl))) (.cons (renFlV rfl) .nil))))) ?_
     exact ⟨_, ((w64 (i5 + 1)), x10.1), Nat.lt_succ_self _, hm, (.cons rfl (.cons rfl (.cons rfl (.cons rfl (.cons rfl .nil))))), rfl⟩
   ·intro c13; replace hm := hm.ifn c13
    refine .exit ?_
    refine .id ?_
    exact ⟨bx6, hm.ret, (.cons rfl (.cons rfl (.cons rfl (.cons rfl .nil)))), rfl⟩
  ·rintro bx4 T0 hm
   refine CdOK.seq ?_
   refine .seq ?_
   refine .region ?_
   refine .t (VI (0)) (e_as rfl) ?_
   refine .nil ?_
   replace hm := hm.bnd
   refine CdOK.joinT (σ := Locks) (fun s => Sum.inl s) hm (fun s => [(3, .o (.c (.ptr (h.length + 0) 0)))]) (fun s => h ++ ([⟨[.L 4 (s.held.map Grant.cs), .L 4 (s.waiting.map Grant.cs)], true, true⟩] : Heap)) ?_ ?_
   ·intro hm
    refine .block ?_
    refine .loopE (σ := (Int × Locks)) (fun k s => Ev (law08_LocksOrder.l2 modes k s.1 s.2) _) (fun s => [(0, .o (.c (.L 1 (modes.map c_u8)))), (3, .o (.c (.ptr (h.length + 0) 0))), (4, VI ((if 12 < (modes.length : Int) then 12 else (modes.length : Int)))), (5, .o (.c (.ptr (h.length + 1) 0))), (10, VI (s.1))]) (fun s => h ++ ([⟨[.L 4 (s.2.held.map Grant.cs), .L 4 (s.2.waiting.map Grant.cs)], true, true⟩, ⟨[I (3), I (3)], true, true⟩] : Heap)) FU (0, bx4) hm (.cons rfl (.cons rfl (.cons rfl (.cons rfl (.cons rfl .nil))))) rfl ?_
    rintro kk18 ⟨i16, bx17⟩ T0 hm
    replace hm : Ev (law08_LocksOrder.l2 modes kk18 i16 bx17) _ := hm
    cases kk18 with
    | zero => exact (Ev.non hm).elim
    | succ kk18 =>
    rw [law08_LocksOrder.l2.eq_2] at hm
    show CdOK _ _ _ (look T0 [(0, .o (.c (.L 1 (modes.map c_u8)))), (3, .o (.c (.ptr (h.length + 0) 0))), (4, VI ((if 12 < (modes.length : Int) then 12 else (modes.length : Int)))), (5, .o (.c (.ptr (h.length + 1) 0))), (10, VI (i16))]) (h ++ ([⟨[.L 4 (bx17.held.map Grant.cs), .L 4 (bx17.waiting.map Grant.cs)], true, true⟩, ⟨[I (3), I (3)], true, true⟩] : Heap)) _
    refine .seq ?_
    refine .seq ?_
    refine .region ?_
    refine .m rfl ?_
    refine .m rfl ?_
    refine .t (VB (decide (i16 < (if 12 < (modes.length : Int) then 12 else (modes.length : Int))))) (e_bin (ev_t rfl) (ev_t rfl) rfl rfl) ?_
    refine .nil ?_
    refine CdOK.condD (ev_t rfl) ?_ ?_
    ·intro c19; replace hm := hm.ifp c19
     refine .skip ?_
     refine CdOK.seq ?_
     refine .block ?_
     refine .seq ?_
     refine .region ?_
     refine .m rfl ?_
     refine .a rfl ?_
     refine .nil ?_
     replace hm := hm.bnd
     refine CdOK.joinE (σ := Int) (fun s => s) hm (fun s => [(0, .o (.c (.L 1 (modes.map c_u8)))), (3, .o (.c (.ptr (h.length + 0) 0))), (4, VI ((if 12 < (modes.length : Int) then 12 else (modes.length : Int)))), (5, .o (.c (.ptr (h.length + 1) 0))), (10, VI (i16)), (11, VI (s))]) (fun s => h ++ ([⟨[.L 4 (bx17.held.map Grant.cs), .L 4 (bx17.waiting.map Grant.cs)], true, true⟩, ⟨[I (3), I (3)], true, true⟩] : Heap)) ?_ ?_
     ·intro hm
      refine .seq ?_
      refine .region ?_
      refine .m rfl ?_
      refine .m rfl ?_
      obtain ⟨c21, hm⟩ := hm.ifs
      refine .t (.o (.c (.rp [.v (.int .u8 ((gd modes i16)))]))) (e_ixM (f := c_u8) (l := modes) (i := i16) (ev_t rfl) (ev_t rfl) el22 c21) ?_
      refine .t _ (e_ldR1 (ev_t rfl) ty5 rfl) ?_
      refine .t (.o (.c (.v (.int .u8 ((Int.tmod (gd modes i16) 2)))))) (e_remK (ev_t rfl) rfl (by decide)) ?_
      refine .t (VB (decide ((Int.tmod (gd modes i16) 2) = 0))) (e_eqK (ev_t rfl) rfl) ?_
      refine .nil ?_
      refine CdOK.condD (ev_t rfl) ?_ ?_
      ·intro c22; replace hm := hm.ifp c22
       replace hm := hm.bnd
       refine .joinT (σ := Int) (fun s => s) hm (fun s => [(0, .o (.c (.L 1 (modes.map c_u8)))), (3, .o (.c (.ptr (h.length + 0) 0))), (4, VI ((if 12 < (modes.length : Int) then 12 else (modes.length : Int)))), (5, .o (.c (.ptr (h.length + 1) 0))), (10, VI (i16)), (11, VI (s))]) (fun s => h ++ ([⟨[.L 4 (bx17.held.map Grant.cs), .L 4 (bx17.waiting.map Grant.cs)], true, true⟩, ⟨[I (3), I (3)], true, true⟩] : Heap)) ?_ ?_
       ·intro hm
        refine .block ?_
        refine .loopE (σ := Int) (fun k s => Ev (law08_LocksOrder.l3 modes k s) _) (fun s => [(0, .o (.c (.L 1 (modes.map c_u8)))), (3, .o (.c (.ptr (h.length + 0) 0))), (4, VI ((if 12 < (modes.length : Int) then 12 else (modes.length : Int)))), (5, .o (.c (.ptr (h.length + 1) 0))), (10, VI (i16)), (11, VI (s))]) (fun s => h ++ ([⟨[.L 4 (bx17.held.map Grant.cs), .L 4 (bx17.waiting.map Grant.cs)], true, true⟩, ⟨[I (3), I (3)], true, true⟩] : Heap)) FU i16 hm (.cons rfl (.cons rfl (.cons rfl (.cons rfl (.cons rfl (.cons rfl .nil)))))) rfl ?_
        rintro kk25 last24 T0 hm
        replace hm : Ev (law08_LocksOrder.l3 modes kk25 last24) _ := hm
        cases kk25 with
        | zero => exact (Ev.non hm).elim
        | succ kk25 =>
        rw [law08_LocksOrder.l3.eq_2] at hm
        show CdOK _ _ _ (look T0 [(0, .o (.c (.L 1 (modes.map c_u8)))), (3, .o (.c (.ptr (h.length + 0) 0))), (4, VI ((if 12 < (modes.length : Int) then 12 else (modes.length : Int)))), (5, .o (.c (.ptr (h.length + 1) 0))), (10, VI (i16)), (11, VI (last24))]) (h ++ ([⟨[.L 4 (bx17.held.map Grant.cs), .L 4 (bx17.waiting.map Grant.cs)], true, true⟩, ⟨[I (3), I (3)], true, true⟩] : Heap)) _
        refine .seq ?_
        refine .seq ?_
        refine .region ?_
        refine .m rfl ?_
        refine .t (VI ((w64 (last24 + 1)))) (e_bin (ev_t rfl) rfl rfl rfl) ?_
        refine .m rfl ?_
        refine .sd rfl rfl rfl (e_bin (ev_t rfl) (ev_t rfl) rfl rfl) ?_ ?_
        ·intro c26; replace hm := hm.ifp c26
         refine .m rfl ?_
         refine .m rfl ?_
         refine .m rfl ?_
         refine .t (VI ((w64 (last24 + 1)))) (e_bin (ev_t rfl) rfl rfl rfl) ?_
         obtain ⟨c27, hm⟩ := hm.ifs
         refine .t (.o (.c (.rp [.v (.int .u8 ((gd modes (w64 (last24 + 1)))))]))) (e_ixM (f := c_u8) (l := modes) (i := (w64 (last24 + 1))) (ev_t rfl) (ev_t rfl) el22 c27) ?_
         refine .t _ (e_ldR1 (ev_t rfl) ty5 rfl) ?_
         refine .t (.o (.c (.v (.int .u8 ((Int.tmod (gd modes (w64 (last24 + 1))) 2)))))) (e_remK (ev_t rfl) rfl (by decide)) ?_
         refine .t (VB (decide ((Int.tmod (gd modes (w64 (last24 + 1))) 2) = 0))) (e_eqK (ev_t rfl) rfl) ?_
         refine .t (VB (decide ((Int.tmod (gd modes (w64 (last24 + 1))) 2) = 0))) (e_pick (t := true) (ev_t rfl) (ev_t rfl)) ?_
         refine .nil ?_
         refine CdOK.condD (ev_t rfl) ?_ ?_
         ·intro c28; replace hm := hm.ifp c28
          refine .skip ?_
          refine CdOK.block ?_
          refine .region ?_
          refine .m rfl ?_
          refine .t (VI ((w64 (last24 + 1)))) (e_bin (ev_t rfl) rfl rfl rfl) ?_
          refine .a rfl ?_
          refine .nil ?_
          refine .id ?_
          exact ⟨_, (w64 (last24 + 1)), Nat.lt_succ_self _, hm, (.cons rfl (.cons rfl (.cons rfl (.cons rfl (.cons rfl (.cons rfl .nil)))))), rfl⟩
         ·intro c29; replace hm := hm.ifn c29
          refine .exit ?_
          refine .id ?_
          exact ⟨last24, hm.ret, (.cons rfl (.cons rfl (.cons rfl (.cons rfl (.cons rfl (.cons rfl .nil)))))), rfl⟩
        ·intro c30; replace hm := hm.ifn c30
         refine .m rfl ?_
         refine .k ?_
         refine .k ?_
         refine .k ?_
         refine .k ?_
         refine .k ?_
         refine .k ?_
         refine .k ?_
         refine .t (VB (false)) (e_pick (t := false) (ev_t rfl) rfl) ?_
         refine .nil ?_
         refine CdOK.cond_false rfl ?_
         refine .exit ?_
         refine .id ?_
         exact ⟨last24, hm.ret, (.cons rfl (.cons rfl (.cons rfl (.cons rfl (.cons rfl (.cons rfl .nil)))))), rfl⟩
       ·rintro last23 T0 hm
        refine .id ?_
        exact ⟨last23, hm.ret, (.cons rfl (.cons rfl (.cons rfl (.cons rfl (.cons rfl (.cons rfl .nil)))))), rfl⟩
      ·intro c32; replace hm := hm.ifn c32
       refine .skip ?_
       refine .id ?_
       exact ⟨i16, hm.ret, (.cons rfl (.cons rfl (.cons rfl (.cons rfl (.cons rfl (.cons rfl .nil)))))), rfl⟩
     ·rintro last20 T0 hm
      show CdOK _ _ _ (look T0 [(0, .o (.c (.L 1 (modes.map c_u8)))), (3, .o (.c (.ptr (h.length + 0) 0))), (4, VI ((if 12 < (modes.length : Int) then 12 else (modes.length : Int)))), (5, .o (.c (.ptr (h.length + 1) 0))), (10, VI (i16)), (11, VI (last20))]) (h ++ ([⟨[.L 4 (bx17.held.map Grant.cs), .L 4 (bx17.waiting.map Grant.cs)], true, true⟩, ⟨[I (3), I (3)], true, true⟩] : Heap)) _
      refine .seq ?_
      refine .seq ?_
      refine .region ?_
      refine .t (VI (0)) (e_as rfl) ?_
      refine .nil ?_
      replace hm := hm.bnd
      refine CdOK.joinT (σ := Unit) (fun s => Sum.inl ()) hm (fun s => [(0, .o (.c (.L 1 (modes.map c_u8)))), (3, .o (.c (.ptr (h.length + 0) 0))), (4, VI ((if 12 < (modes.length : Int) then 12 else (modes.length : Int)))), (5, .o (.c (.ptr (h.length + 1) 0))), (10, VI (i16))]) (fun s => h ++ ([⟨[.L 4 (bx17.held.map Grant.cs), .L 4 (bx17.waiting.map Grant.cs)], true, true⟩, ⟨[I (3), I (3)], true, true⟩] : Heap)) ?_ ?_
      ·intro hm
       refine .block ?_
       refine .loopE (σ := Int) (fun k s => Ev (law08_LocksOrder.l4 modes i16 bx17 last20 k s) _) (fun s => [(0, .o (.c (.L 1 (modes.map c_u8)))), (3, .o (.c (.ptr (h.length + 0) 0))), (4, VI ((if 12 < (modes.length : Int) then 12 else (modes.length : Int)))), (5, .o (.c (.ptr (h.length + 1) 0))), (10, VI (i16)), (11, VI (last20)), (12, VI (s))]) (fun s => h ++ ([⟨[.L 4 (bx17.held.map Grant.cs), .L 4 (bx17.waiting.map Grant.cs)], true, true⟩, ⟨[I (3), I (3)], true, true⟩] : Heap)) FU 0 hm (.cons rfl (.cons rfl (.cons rfl (.cons rfl (.cons rfl (.cons rfl (.cons rfl .nil))))))) rfl ?_
       rintro kk35 j34 T0 hm
       replace hm : Ev (law08_LocksOrder.l4 modes i16 bx17 last20 kk35 j34) _ := hm
       cases kk35 with
       | zero => exact (Ev.non hm).elim
       | succ kk35 =>
       rw [law08_LocksOrder.l4.eq_2] at hm
       show CdOK _ _ _ (look T0 [(0, .o (.c (.L 1 (modes.map c_u8)))), (3, .o (.c (.ptr (h.length + 0) 0))), (4, VI ((if 12 < (modes.length : Int) then 12 else (modes.length : Int)))), (5, .o (.c (.ptr (h.length + 1) 0))), (10, VI (i16)), (11, VI (last20)), (12, VI (j34))]) (h ++ ([⟨[.L 4 (bx17.held.map Grant.cs), .L 4 (bx17.waiting.map Grant.cs)], true, true⟩, ⟨[I (3), I (3)], true, true⟩] : Heap)) _
       refine .seq ?_
       refine .seq ?_
       refine .region ?_
       refine .m rfl ?_
       refine .m rfl ?_
       refine .t (VB (decide (j34 < (if 12 < (modes.length : Int) then 12 else (modes.length : Int))))) (e_bin (ev_t rfl) (ev_t rfl) rfl rfl) ?_
       refine .nil ?_
       refine CdOK.condD (ev_t rfl) ?_ ?_
       ·intro c36; replace hm := hm.ifp c36
        refine .skip ?_
        refine CdOK.seq ?_
        refine .block ?_
        refine .seq ?_
        refine .region ?_
        refine .t _ (e_ldbA (ev_t rfl) ty69 (bx rfl rfl) rfl rfl) ?_
        refine .m rfl ?_
        refine .t (VI ((w64 (j34 + 1)))) (e_bin (ev_t rfl) rfl rfl rfl) ?_
        refine .t _ (e_ldbA (ev_t rfl) ty71 (bx rfl rfl) rfl rfl) ?_
        obtain ⟨x37, e37, hm⟩ := hm.call
        refine .cl rfl rfl rfl rfl pl42 (R2.wk _) (locks_Mode_ok    e37) ?_
        rintro _ _ ⟨rfl, rfl⟩
        refine .t (VB (decide (0 < x37))) (e_bin (ev_t rfl) rfl rfl rfl) ?_
        refine .m rfl ?_
        refine .m rfl ?_
        refine .sd rfl rfl rfl (e_bin (ev_t rfl) (ev_t rfl) rfl rfl) ?_ ?_
        ·intro c38; replace hm := hm.ifp c38
         refine .m rfl ?_
         refine .m rfl ?_
         refine .m rfl ?_
         refine .t (VB (decide (j34 ≤ last20))) (e_bin (ev_t rfl) (ev_t rfl) rfl rfl) ?_
         refine .t (VB (decide (j34 ≤ last20))) (e_pick (t := true) (ev_t rfl) (ev_t rfl)) ?_
         refine .t (VB ((!((decide (0 < x37)) == (decide (j34 ≤ last20)))))) (e_neB (ev_t rfl) (ev_t rfl) bo4) ?_
         refine .nil ?_
         refine CdOK.condB (ev_t rfl) ?_ ?_
         ·intro c39; replace hm := hm.ifp c39
          refine .seq ?_
          refine .region ?_
          refine .t (VB (false)) (e_as rfl) ?_
          refine .nil ?_
          refine CdOK.ret ?_
          refine ⟨.inr rfl, _, rfl, h, _, _, rfl, rfl, hC, ((renFlV rfl) : RenV _ _ _ _ (VB (false))), ?_⟩
          have hr := hm.ret; replace hr := Ev.ret hr; replace hr := Ev.ret hr; cases hr; exact ⟨rfl, rfl⟩
         ·intro c40; replace hm := hm.ifn c40
          refine .skip ?_
          refine CdOK.region ?_
          refine .m rfl ?_
          refine .t (VI ((w64 (j34 + 1)))) (e_bin (ev_t rfl) rfl rfl rfl) ?_
          refine .a rfl ?_
          refine .nil ?_
          refine .id ?_
          exact ⟨_, (w64 (j34 + 1)), Nat.lt_succ_self _, hm, (.cons rfl (.cons rfl (.cons rfl (.cons rfl (.cons rfl (.cons rfl (.cons rfl .nil))))))), rfl⟩
        ·intro c41; replace hm := hm.ifn c41
         refine .m rfl ?_
         refine .k ?_
         refine .k ?_
         refine .k ?_
         refine .t (VB (false)) (e_pick (t := false) (ev_t rfl) rfl) ?_
         refine .t (VB ((!((decide (0 < x37)) == false)))) (e_neB (ev_t rfl) (ev_t rfl) bo4) ?_
         refine .nil ?_
         refine CdOK.condB (ev_t rfl) ?_ ?_
         ·intro c42; replace hm := hm.ifp c42
          refine .seq ?_
          refine .region ?_
          refine .t (VB (false)) (e_as rfl) ?_
          refine .nil ?_
          refine CdOK.ret ?_
          refine ⟨.inr rfl, _, rfl, h, _, _, rfl, rfl, hC, ((renFlV rfl) : RenV _ _ _ _ (VB (false))), ?_⟩
          have hr := hm.ret; replace hr := Ev.ret hr; replace hr := Ev.ret hr; cases hr; exact ⟨rfl, rfl⟩
         ·intro c43; replace hm := hm.ifn c43
          refine .skip ?_
          refine CdOK.region ?_
          refine .m rfl ?_
          refine .t (VI ((w64 (j34 + 1)))) (e_bin (ev_t rfl) rfl rfl rfl) ?_
          refine .a rfl ?_
          refine .nil ?_
          refine .id ?_
          exact ⟨_, (w64 (j34 + 1)), Nat.lt_succ_self _, hm, (.cons rfl (.cons rfl (.cons rfl (.cons rfl (.cons rfl (.cons rfl (.cons rfl .nil))))))), rfl⟩
       ·intro c44; replace hm := hm.ifn c44
        refine .exit ?_
        refine .id ?_
        exact ⟨(), hm.ret, (.cons rfl (.cons rfl (.cons rfl (.cons rfl (.cons rfl .nil))))), rfl⟩
      ·intro _ T0 hm
       refine CdOK.region ?_
       refine .t _ (e_ldbA (ev_t rfl) ty69 (bx rfl rfl) rfl rfl) ?_
       refine .m rfl ?_
       refine .t (VI ((w64 (i16 + 1)))) (e_bin (ev_t rfl) rfl rfl rfl) ?_
       obtain ⟨x46, e46, hm⟩ := hm.call
       refine .cl rfl rfl rfl rfl pl43 (R2.wk _) (locks_Release_ok    e46) ?_
       rintro _ _ ⟨rfl, rfl⟩
       refine .s0 rfl rfl (e_stN (L' := [⟨[.L 4 (x46.held.map Grant.cs), .L 4 (x46.waiting.map Grant.cs)], true, true⟩, ⟨[I (3), I (3)], true, true⟩]) rfl (ev_t rfl) (ev_t rfl) ty69 rfl rfl rfl rfl rfl) ?_
       refine .nil ?_
       refine CdOK.region ?_
       refine .m rfl ?_
       refine .t (VI ((w64 (i16 + 1)))) (e_bin (ev_t rfl) rfl rfl rfl) ?_
       refine .a rfl ?_
       refine .nil ?_
       refine .id ?_
       exact ⟨_, ((w64 (i16 + 1)), x46), Nat.lt_succ_self _, hm, (.cons rfl (.cons rfl (.cons rfl (.cons rfl (.cons rfl .nil))))), rfl⟩
    ·intro c47; replace hm := hm.ifn c47
     refine .exit ?_
     refine .re (σ := [0]) (X := [(3, .o (.c (.ptr (h.length + 0) 0)))]) (L' := [⟨[.L 4 (bx17.held.map Grant.cs), .L 4 (bx17.waiting.map Grant.cs)], true, true⟩]) rfl rfl hC (by decide) (.obj 0 rfl (renFl rfl) .nil) (.cons (.o (.c (.ptr 0 0 _ rfl))) .nil) ?_
     exact ⟨bx17, hm.ret, (.cons rfl .nil), rfl⟩
   ·rintro bx15 T0 hm
    refine CdOK.seq ?_
    refine .region ?_
    refine .t _ (e_fa' fa69_0 (ev_t rfl)) ?_
    refine .t _ (e_ldb1 (ev_t rfl) ty67 (bx rfl rfl) rfl) ?_
    refine .t (VI ((bx15.held.length : Int))) (e_lenM (ev_t rfl) is67) ?_
    refine .sd rfl rfl rfl (e_eqK (ev_t rfl) rfl) ?_ ?_
    ·intro c49; replace hm := hm.ifp c49
     refine .m rfl ?_
     refine .t _ (e_fa' fa69_1 (ev_t rfl)) ?_
     refine .t _ (e_ldb1 (ev_t rfl) ty67 (bx rfl rfl) rfl) ?_
     refine .t (VI ((bx15.waiting.length : Int))) (e_lenM (ev_t rfl) is67) ?_
     refine .t (VB (decide ((bx15.waiting.length : Int) = 0))) (e_eqK (ev_t rfl) rfl) ?_
     refine .t (VB (decide ((bx15.waiting.length : Int) = 0))) (e_pick (t := true) (ev_t rfl) (ev_t rfl)) ?_
     refine .a rfl ?_
     refine .nil ?_
     refine CdOK.ret ?_
     refine ⟨.inr rfl, _, rfl, h, _, _, rfl, rfl, hC, ((renFlV rfl) : RenV _ _ _ _ (VB (decide ((bx15.waiting.length : Int) = 0)))), ?_⟩
     cases hm.ret; exact ⟨rfl, rfl⟩
    ·intro c50; replace hm := hm.ifn c50
     refine .m rfl ?_
     refine .k ?_
     refine .k ?_
     refine .k ?_
     refine .k ?_
     refine .t (VB (false)) (e_pick (t := false) (ev_t rfl) rfl) ?_
     refine .a rfl ?_
     refine .nil ?_
     refine CdOK.ret ?_
     refine ⟨.inr rfl, _, rfl, h, _, _, rfl, rfl, hC, ((renFlV rfl) : RenV _ _ _ _ (VB (false))), ?_⟩
     cases hm.ret; exact ⟨rfl, rfl⟩
end Rv
