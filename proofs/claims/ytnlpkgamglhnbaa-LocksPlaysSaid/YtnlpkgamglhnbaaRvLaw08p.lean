/- Chapter 8: LocksPlays, as a plain function. -/
import Derived.Test.YtnlpkgamglhnbaaRvLaw08z
import Derived.Test.YtnlpkgamglhnbaaRvR08b
set_option linter.unusedVariables false
set_option linter.unusedSimpArgs false
namespace Rv
open Go Go.RowKit Go.Proofs
theorem bo4 : boT Try.prog 4 = true := by decide +kernel
theorem pl17 : plainFn Try.prog 17 = true := by decide +kernel
theorem pl40 : plainFn Try.prog 40 = true := by decide +kernel
theorem pl53 : plainFn Try.prog 53 = true := by decide +kernel
theorem pl57 : plainFn Try.prog 57 = true := by decide +kernel
theorem pl60 : plainFn Try.prog 60 = true := by decide +kernel
theorem pl61 : plainFn Try.prog 61 = true := by decide +kernel
/- pagemend/pagemendlaw08.conflict -/
def law08_conflict (a_ : Grant) (b_ : Grant) : Option Bool := (if a_.tx ≠ b_.tx then (if a_.lock = b_.lock then (if a_.mode = 2 then some true else some (decide (b_.mode = 2))) else some false) else some false)
theorem law08_conflict_ok {h : Heap} {a_ : Grant} {b_ : Grant}   {r : Bool} (hm : law08_conflict a_ b_ = some r) : FnOK Try.prog 61 [.o (.agg [I (a_.tx), I (a_.lock.page), I (a_.lock.slot), I (a_.mode)]), .o (.agg [I (b_.tx), I (b_.lock.page), I (b_.lock.slot), I (b_.mode)])] h (fun v h' => v = VB (r) ∧ h' = h) := by
 refine FnOK.fin ?_
 refine FnOK.bodyC (N := 27) Try.func61 rfl rfl rfl (fun hC => ?_)
 replace hm := Ev.of hm
 rw [law08_conflict.eq_1] at hm
 show CdOK _ _ _ (look _ [(0, .o (.agg [I (a_.tx), I (a_.lock.page), I (a_.lock.slot), I (a_.mode)])), (1, .o (.agg [I (b_.tx), I (b_.lock.page), I (b_.lock.slot), I (b_.mode)]))]) (h ++ ([] : Heap)) _
 refine .seq ?_
 refine .region ?_
 refine .t (.o (.c (.ptr (h.length + 0) 0))) (e_boxN (L' := [⟨[I (a_.tx), I (a_.lock.page), I (a_.lock.slot), I (a_.mode)], true, true⟩]) rfl (ev_t rfl) rfl rfl) ?_
 refine .t (.o (.c (.ptr (h.length + 1) 0))) (e_boxN (L' := [⟨[I (a_.tx), I (a_.lock.page), I (a_.lock.slot), I (a_.mode)], true, true⟩, ⟨[I (b_.tx), I (b_.lock.page), I (b_.lock.slot), I (b_.mode)], true, true⟩]) rfl (ev_t rfl) rfl rfl) ?_
 refine .t (VB (false)) (e_as rfl) ?_
 refine .nil ?_
 refine CdOK.seq ?_
 refine .region ?_
 refine .t _ (e_fa' fa75_0 (ev_t rfl)) ?_
 refine .t _ (e_ldb1 (ev_t rfl) ty3 (bx rfl rfl) rfl) ?_
 refine .t _ (e_fa' fa75_0 (ev_t rfl)) ?_
 refine .t _ (e_ldb1 (ev_t rfl) ty3 (bx rfl rfl) rfl) ?_
 refine .sd rfl rfl rfl (e_neK (ev_t rfl) (ev_t rfl)) ?_ ?_
 ·intro c1; replace hm := hm.ifp c1
  refine .m rfl ?_
  refine .t _ (e_fa' fa75_1 (ev_t rfl)) ?_
  refine .t _ (e_ldbA (ev_t rfl) ty71 (bx rfl rfl) rfl rfl) ?_
  refine .t _ (e_fa' fa75_1 (ev_t rfl)) ?_
  refine .t _ (e_ldbA (ev_t rfl) ty71 (bx rfl rfl) rfl rfl) ?_
  refine .sd rfl rfl rfl (e_eqA (ev_t rfl) (ev_t rfl) rfl rfl (eqs71_eql a_.lock b_.lock)) ?_ ?_
  ·intro c2; replace hm := hm.ifp c2
   refine .t (VB (true)) (e_pick (t := true) (ev_t rfl) (ev_t rfl)) ?_
   refine .m rfl ?_
   refine .t _ (e_fa' fa75_2 (ev_t rfl)) ?_
   refine .t _ (e_ldb1 (ev_t rfl) ty3 (bx rfl rfl) rfl) ?_
   refine .sd rfl rfl rfl (e_eqK (ev_t rfl) rfl) ?_ ?_
   ·intro c3; replace hm := hm.ifp c3
    refine .m rfl ?_
    refine .k ?_
    refine .k ?_
    refine .k ?_
    refine .t (VB (true)) (e_pick (t := true) (ev_t rfl) rfl) ?_
    refine .t (VB (true)) (e_pick (t := true) (ev_t rfl) (ev_t rfl)) ?_
    refine .a rfl ?_
    refine .nil ?_
    refine CdOK.ret ?_
    refine ⟨.inr rfl, _, rfl, h, _, _, rfl, rfl, hC, ((renFlV rfl) : RenV _ _ _ _ (VB (true))), ?_⟩
    cases hm.ret; exact ⟨rfl, rfl⟩
   ·intro c4; replace hm := hm.ifn c4
    refine .m rfl ?_
    refine .t _ (e_fa' fa75_2 (ev_t rfl)) ?_
    refine .t _ (e_ldb1 (ev_t rfl) ty3 (bx rfl rfl) rfl) ?_
    refine .t (VB (decide (b_.mode = 2))) (e_eqK (ev_t rfl) rfl) ?_
    refine .t (VB (decide (b_.mode = 2))) (e_pick (t := false) (ev_t rfl) (ev_t rfl)) ?_
    refine .t (VB (decide (b_.mode = 2))) (e_pick (t := true) (ev_t rfl) (ev_t rfl)) ?_
    refine .a rfl ?_
    refine .nil ?_
    refine CdOK.ret ?_
    refine ⟨.inr rfl, _, rfl, h, _, _, rfl, rfl, hC, ((renFlV rfl) : RenV _ _ _ _ (VB (decide (b_.mode = 2)))), ?_⟩
    cases hm.ret; exact ⟨rfl, rfl⟩
  ·intro c5; replace hm := hm.ifn c5
   refine .t (VB (false)) (e_pick (t := true) (ev_t rfl) (ev_t rfl)) ?_
   refine .m rfl ?_
   refine .k ?_
   refine .k ?_
   refine .k ?_
   refine .k ?_
   refine .k ?_
   refine .k ?_
   refine .k ?_
   refine .k ?_
   refine .t (VB (false)) (e_pick (t := false) (ev_t rfl) rfl) ?_
   refine .a rfl ?_
   refine .nil ?_
   refine CdOK.ret ?_
   refine ⟨.inr rfl, _, rfl, h, _, _, rfl, rfl, hC, ((renFlV rfl) : RenV _ _ _ _ (VB (false))), ?_⟩
   cases hm.ret; exact ⟨rfl, rfl⟩
 ·intro c6; replace hm := hm.ifn c6
  refine .m rfl ?_
  refine .k ?_
  refine .k ?_
  refine .k ?_
  refine .k ?_
  refine .k ?_
  refine .t (VB (false)) (e_pick (t := false) (ev_t rfl) rfl) ?_
  refine .m rfl ?_
  refine .k ?_
  refine .k ?_
  refine .k ?_
  refine .k ?_
  refine .k ?_
  refine .k ?_
  refine .k ?_
  refine .k ?_
  refine .t (VB (false)) (e_pick (t := false) (ev_t rfl) rfl) ?_
  refine .a rfl ?_
  refine .nil ?_
  refine CdOK.ret ?_
  refine ⟨.inr rfl, _, rfl, h, _, _, rfl, rfl, hC, ((renFlV rfl) : RenV _ _ _ _ (VB (false))), ?_⟩
  cases hm.ret; exact ⟨rfl, rfl⟩
/- pagemend/pagemendlaw08.LocksPlays -/
def law08_LocksPlays.l3 (bx12 : Locks) (t9842 : Int) : Nat → Bool → Int → Option Bool
  | 0, _, _ => none
  | kk49 + 1, kept47, t10648 => (if t10648 < (bx12.held.length : Int) then (if (0 : Int) ≤ t10648 ∧ t10648 < (bx12.held.length : Int) then (if kept47 = true then law08_LocksPlays.l3 bx12 t9842 kk49 true (w64 (t10648 + 1)) else ((law08_conflict (gd bx12.held t10648) (gd bx12.waiting t9842)).bind fun (x54 : Bool) => (if x54 = true then law08_LocksPlays.l3 bx12 t9842 kk49 true (w64 (t10648 + 1)) else law08_LocksPlays.l3 bx12 t9842 kk49 false (w64 (t10648 + 1))))) else none) else some kept47)
def law08_LocksPlays.l4 (bx12 : Locks) (t9842 : Int) : Nat → Bool → Int → Option Bool
  | 0, _, _ => none
  | kk61 + 1, kept59, t12260 => (if t12260 < ((bx12.waiting.take (Int.toNat t9842)).length : Int) then (if (0 : Int) ≤ t12260 ∧ t12260 < ((bx12.waiting.take (Int.toNat t9842)).length : Int) then (if kept59 = true then law08_LocksPlays.l4 bx12 t9842 kk61 true (w64 (t12260 + 1)) else ((law08_conflict (gd (bx12.waiting.take (Int.toNat t9842)) t12260) (gd bx12.waiting t9842)).bind fun (x66 : Bool) => (if x66 = true then law08_LocksPlays.l4 bx12 t9842 kk61 true (w64 (t12260 + 1)) else law08_LocksPlays.l4 bx12 t9842 kk61 false (w64 (t12260 + 1))))) else none) else some kept59)
def law08_LocksPlays.l2 (bx12 : Locks) : Nat → Int → Option (Sum Unit Bool)
  | 0, _ => none
  | kk43 + 1, t9842 => (if t9842 < (bx12.waiting.length : Int) then (if (0 : Int) ≤ t9842 ∧ t9842 < (bx12.waiting.length : Int) then ((law08_LocksPlays.l3 bx12 t9842 FU false 0).bind fun (s56 : Bool) => (if (0 : Int) ≤ t9842 ∧ t9842 ≤ (bx12.waiting.length : Int) then ((law08_LocksPlays.l4 bx12 t9842 FU s56 0).bind fun (s68 : Bool) => (if (!s68) = true then some (Sum.inr false) else law08_LocksPlays.l2 bx12 kk43 (w64 (t9842 + 1)))) else none)) else none) else some (Sum.inl ()))
def law08_LocksPlays.l1  : Nat → Codes → Locks → Option (Sum Unit Bool)
  | 0, _, _ => none
  | kk7 + 1, bx5, bx6 => ((Codes_Left bx5).bind fun (x8 : Int) => (if 0 < x8 then ((Codes_Grant bx5).bind fun (x10 : (Grant × Codes)) => ((((Codes_Next 8 x10.2).bind fun (x13 : (Int × Codes)) => (if x13.1 = 5 then ((locks_Cancel bx6 x10.1.tx).bind fun (x15 : Locks) => some (Sum.inl (x13.2, x15))) else (if x13.1 = 6 then ((locks_Drop bx6 x10.1.tx x10.1.lock).bind fun (x18 : Locks) => some (Sum.inl (x13.2, x18))) else (if x13.1 = 7 then ((locks_Release bx6 x10.1.tx).bind fun (x21 : Locks) => some (Sum.inl (x13.2, x21))) else ((locks_Request bx6 x10.1).bind fun (x23 : (Locks × Bool × Int)) => ((((ref08_Waiting bx6 x10.1.tx).bind fun (x24 : (Grant × Bool)) => (if x23.2.2 ≠ 0 then (if x23.2.2 = 15 then (if (!x24.2) = true then some (Sum.inr false) else some (Sum.inl ())) else some (Sum.inr false)) else some (Sum.inl ())))).bind fun (z : Sum Unit Bool) => match z with | .inl (s31 : Unit) => (if x23.2.2 = 0 then ((locks_Mode x23.1 x10.1.tx x10.1.lock).bind fun (x33 : Int) => (if (!(x23.2.1 == (decide (x10.1.mode ≤ x33)))) = true then some (Sum.inr false) else some (Sum.inl (x13.2, x23.1)))) else some (Sum.inl (x13.2, bx6))) | .inr r => some (Sum.inr r)))))))).bind fun (z : Sum (Codes × Locks) Bool) => match z with | .inl (s37 : (Codes × Locks)) => ((locks_Valid s37.2).bind fun (x38 : Bool) => (if x38 = true then ((ref08_Valid s37.2).bind fun (x39 : Bool) => (if (!x39) = true then some (Sum.inr false) else ((law08_LocksPlays.l2 s37.2 FU 0).bind fun (z : Sum Unit Bool) => match z with | .inl (s72 : Unit) => law08_LocksPlays.l1 kk7 s37.1 s37.2 | .inr r => some (Sum.inr r)))) else some (Sum.inr false))) | .inr r => some (Sum.inr r))) else some (Sum.inl ())))
def law08_LocksPlays (codes : (List Int)) : Option Bool := ((law08_awake ).bind fun (x1 : Bool) => (if (!x1) = true then some false else ((New codes 300).bind fun (x4 : Codes) => ((law08_LocksPlays.l1 FU x4 (⟨([] : List Grant), ([] : List Grant)⟩ : Locks)).bind fun (z : Sum Unit Bool) => match z with | .inl (s74 : Unit) => some true | .inr r => some r))))
theorem law08_LocksPlays_ok {h : Heap} {codes : (List Int)}   {r : Bool} (hm : law08_LocksPlays codes = some r) : FnOK Try.prog 11 [.o (.c (.L 1 (codes.map c_u8)))] h (fun v h' => v = VB (r) ∧ h' = h) := by
 refine FnOK.fin ?_
 refine FnOK.bodyC (N := 136) Try.func11 rfl rfl rfl (fun hC => ?_)
 replace hm := Ev.of hm
 rw [law08_LocksPlays.eq_1] at hm
 show CdOK _ _ _ (look _ [(0, .o (.c (.L 1 (codes.map c_u8))))]) (h ++ ([] : Heap)) _
 refine .seq ?_
 refine .region ?_
 refine .t (VB (false)) (e_as rfl) ?_
 refine .nil ?_
 refine CdOK.seq ?_
 refine .seq ?_
 refine .region ?_
 obtain ⟨x1, e1, hm⟩ := hm.call
 refine .cl rfl rfl rfl rfl pl40 (R2.wk _) (law08_awake_ok    e1) ?_
 rintro _ _ ⟨rfl, rfl⟩
 refine .t (VB ((!x1))) (e_un (ev_t rfl) rfl) ?_
 refine .nil ?_
 refine CdOK.condB (ev_t rfl) ?_ ?_
 ·intro c2; replace hm := hm.ifp c2
  refine .seq ?_
  refine .region ?_
  refine .t (VB (false)) (e_as rfl) ?_
  refine .nil ?_
  refine CdOK.ret ?_
  refine ⟨.inr rfl, _, rfl, h, _, _, rfl, rfl, hC, ((renFlV rfl) : RenV _ _ _ _ (VB (false))), ?_⟩
  cases hm.ret; exact ⟨rfl, rfl⟩
 ·intro c3; replace hm := hm.ifn c3
  refine .skip ?_
  refine CdOK.seq ?_
  refine .region ?_
  refine .m rfl ?_
  obtain ⟨x4, e4, hm⟩ := hm.call
  refine .cl rfl rfl rfl rfl pl17 (R2.wk _) (New_ok    e4) ?_
  rintro _ _ ⟨rfl, rfl⟩
  rw [show (h ++ ([] : Heap)) ++ [⟨[.L 1 (x4.l_.map c_u8), I (x4.at_)], true, true⟩] = h ++ ([⟨[.L 1 (x4.l_.map c_u8), I (x4.at_)], true, true⟩] : Heap) from apnd rfl, show (h ++ ([] : Heap) : Heap).length = h.length + 0 from lenN rfl rfl]
  refine .a rfl ?_
  refine .nil ?_
  refine CdOK.seq ?_
  refine .region ?_
  refine .t (.o (.c (.ptr (h.length + 1) 0))) (e_allocN (L' := [⟨[.L 1 (x4.l_.map c_u8), I (x4.at_)], true, true⟩, ⟨[.v (.slice none 0 0), .v (.slice none 0 0)], true, true⟩]) rfl zo69 rfl rfl) ?_
  refine .nil ?_
  replace hm := hm.bnd
  refine CdOK.joinE (σ := Unit) (fun s => Sum.inl ()) hm (fun s => []) (fun s => h ++ ([] : Heap)) ?_ ?_
  ·intro hm
   refine .block ?_
   refine .re (σ := [0, 1]) (X := [(3, .o (.c (.ptr (h.length + 0) 0))), (4, .o (.c (.ptr (h.length + 1) 0)))]) (L' := [⟨[.L 1 (x4.l_.map c_u8), I (x4.at_)], true, true⟩, ⟨[.L 4 ((⟨([] : List Grant), ([] : List Grant)⟩ : Locks).held.map Grant.cs), .L 4 ((⟨([] : List Grant), ([] : List Grant)⟩ : Locks).waiting.map Grant.cs)], true, true⟩]) rfl rfl hC (by decide) (.obj 0 rfl (renFl rfl) (.obj 1 rfl (R2.of (.wk (.fl _ rfl) (.nlL _)) (R2.of (.wk (.fl _ rfl) (.nlL _)) (R2.nil _))) .nil)) (.cons (.o (.c (.ptr 0 0 _ rfl))) (.cons (.o (.c (.ptr 1 1 _ rfl))) .nil)) ?_
   refine .loopE (σ := (Codes × Locks)) (fun k s => Ev (law08_LocksPlays.l1 k s.1 s.2) _) (fun s => [(3, .o (.c (.ptr (h.length + 0) 0))), (4, .o (.c (.ptr (h.length + 1) 0)))]) (fun s => h ++ ([⟨[.L 1 (s.1.l_.map c_u8), I (s.1.at_)], true, true⟩, ⟨[.L 4 (s.2.held.map Grant.cs), .L 4 (s.2.waiting.map Grant.cs)], true, true⟩] : Heap)) FU (x4, (⟨([] : List Grant), ([] : List Grant)⟩ : Locks)) hm (.cons rfl (.cons rfl .nil)) rfl ?_
   rintro kk7 ⟨bx5, bx6⟩ T0 hm
   replace hm : Ev (law08_LocksPlays.l1 kk7 bx5 bx6) _ := hm
   cases kk7 with
   | zero => exact (Ev.non hm).elim
   | succ kk7 =>
   rw [law08_LocksPlays.l1.eq_2] at hm
   show CdOK _ _ _ (look T0 [(3, .o (.c (.ptr (h.length + 0) 0))), (4, .o (.c (.ptr (h.length + 1) 0)))]) (h ++ ([⟨[.L 1 (bx5.l_.map c_u8), I (bx5.at_)], true, true⟩, ⟨[.L 4 (bx6.held.map Grant.cs), .L 4 (bx6.waiting.map Grant.cs)], true, true⟩] : Heap)) _
   refine .seq ?_
   refine .seq ?_
   refine .region ?_
   refine .m rfl ?_
   obtain ⟨x8, e8, hm⟩ := hm.call
   refine .cl rfl rfl rfl rfl pl60 (R2.wk _) (Codes_Left_ok  (b_c_ := (h.length + 0)) (bx rfl rfl) e8) ?_
   rintro _ _ ⟨rfl, rfl⟩
   refine .t (VB (decide (0 < x8))) (e_bin (ev_t rfl) rfl rfl rfl) ?_
   refine .nil ?_
   refine CdOK.condD (ev_t rfl) ?_ ?_
   ·intro c9; replace hm := hm.ifp c9
    refine .skip ?_
    refine CdOK.block ?_
    refine .seq ?_
    refine .region ?_
    refine .m rfl ?_
    obtain ⟨x10, e10, hm⟩ := hm.call
    refine .cl rfl rfl rfl rfl pl48 (R2.wk _) (Codes_Grant_ok  (b_c_ := (h.length + 0)) (bx rfl rfl) e10) ?_
    rintro _ _ ⟨rfl, rfl⟩
    rw [show _ = h ++ ([⟨[.L 1 (x10.2.l_.map c_u8), I (x10.2.at_)], true, true⟩, ⟨[.L 4 (bx6.held.map Grant.cs), .L 4 (bx6.waiting.map Grant.cs)], true, true⟩] : Heap) from (bset rfl rfl)]
    refine .t (.o (.c (.ptr (h.length + 2) 0))) (e_allocN (L' := [⟨[.L 1 (x10.2.l_.map c_u8), I (x10.2.at_)], true, true⟩, ⟨[.L 4 (bx6.held.map Grant.cs), .L 4 (bx6.waiting.map Grant.cs)], true, true⟩, ⟨[I (0), I (0), I (0), I (0)], true, true⟩]) rfl zo75 rfl rfl) ?_
    refine .s0 rfl rfl (e_stN (L' := [⟨[.L 1 (x10.2.l_.map c_u8), I (x10.2.at_)], true, true⟩, ⟨[.L 4 (bx6.held.map Grant.cs), .L 4 (bx6.waiting.map Grant.cs)], true, true⟩, ⟨[I (x10.1.tx), I (x10.1.lock.page), I (x10.1.lock.slot), I (x10.1.mode)], true, true⟩]) rfl (ev_t rfl) (ev_t rfl) ty75 rfl rfl rfl rfl rfl) ?_
    refine .nil ?_
    replace hm := hm.bnd
    refine CdOK.joinE (σ := (Codes × Locks)) (fun s => Sum.inl (s.1, s.2)) hm (fun s => [(3, .o (.c (.ptr (h.length + 0) 0))), (4, .o (.c (.ptr (h.length + 1) 0)))]) (fun s => h ++ ([⟨[.L 1 (s.1.l_.map c_u8), I (s.1.at_)], true, true⟩, ⟨[.L 4 (s.2.held.map Grant.cs), .L 4 (s.2.waiting.map Grant.cs)], true, true⟩] : Heap)) ?_ ?_
    ·intro hm
     refine .seq ?_
     refine .region ?_
     refine .m rfl ?_
     obtain ⟨x13, e13, hm⟩ := hm.call
     refine .cl rfl rfl rfl rfl pl32 (R2.wk _) (Codes_Next_ok  (b_c_ := (h.length + 0)) (bx rfl rfl) e13) ?_
     rintro _ _ ⟨rfl, rfl⟩
     rw [show _ = h ++ ([⟨[.L 1 (x13.2.l_.map c_u8), I (x13.2.at_)], true, true⟩, ⟨[.L 4 (bx6.held.map Grant.cs), .L 4 (bx6.waiting.map Grant.cs)], true, true⟩, ⟨[I (x10.1.tx), I (x10.1.lock.page), I (x10.1.lock.slot), I (x10.1.mode)], true, true⟩] : Heap) from (bset rfl rfl)]
     refine .nil ?_
     refine CdOK.block ?_
     refine .seq ?_
     refine .region ?_
     refine .t (VB (decide (x13.1 = 5))) (e_eqK (ev_t rfl) rfl) ?_
     refine .a rfl ?_
     refine .nil ?_
     refine CdOK.condD (ev_t rfl) ?_ ?_
     ·intro c14; replace hm := hm.ifp c14
      refine .region ?_
      refine .t _ (e_ldbA (ev_t rfl) ty69 (bx rfl rfl) rfl rfl) ?_
      refine .t _ (e_fa' fa75_0 (ev_t rfl)) ?_
      refine .t _ (e_ldb1 (ev_t rfl) ty3 (bx rfl rfl) rfl) ?_
      obtain ⟨x15, e15, hm⟩ := hm.call
      refine .cl rfl rfl rfl rfl pl57 (R2.wk _) (locks_Cancel_ok    e15) ?_
      rintro _ _ ⟨rfl, rfl⟩
      refine .s0 rfl rfl (e_stN (L' := [⟨[.L 1 (x13.2.l_.map c_u8), I (x13.2.at_)], true, true⟩, ⟨[.L 4 (x15.held.map Grant.cs), .L 4 (x15.waiting.map Grant.cs)], true, true⟩, ⟨[I (x10.1.tx), I (x10.1.lock.page), I (x10.1.lock.slot), I (x10.1.mode)], true, true⟩]) rfl (ev_t rfl) (ev_t rfl) ty69 rfl rfl rfl rfl rfl) ?_
      refine .nil ?_
      refine .re (σ := [0, 1]) (X := [(3, .o (.c (.ptr (h.length + 0) 0))), (4, .o (.c (.ptr (h.length + 1) 0)))]) (L' := [⟨[.L 1 (x13.2.l_.map c_u8), I (x13.2.at_)], true, true⟩, ⟨[.L 4 (x15.held.map Grant.cs), .L 4 (x15.waiting.map Grant.cs)], true, true⟩]) rfl rfl hC (by decide) (.obj 0 rfl (renFl rfl) (.obj 1 rfl (renFl rfl) .nil)) (.cons (.o (.c (.ptr 0 0 _ rfl))) (.cons (.o (.c (.ptr 1 1 _ rfl))) .nil)) ?_
      exact ⟨(x13.2, x15), hm.ret, (.cons rfl (.cons rfl .nil)), rfl⟩
     ·intro c16; replace hm := hm.ifn c16
      refine .seq ?_
      refine .region ?_
      refine .t (VB (decide (x13.1 = 6))) (e_eqK (ev_t rfl) rfl) ?_
      refine .a rfl ?_
      refine .nil ?_
      refine CdOK.condD (ev_t rfl) ?_ ?_
      ·intro c17; replace hm := hm.ifp c17
       refine .region ?_
       refine .t _ (e_ldbA (ev_t rfl) ty69 (bx rfl rfl) rfl rfl) ?_
       refine .t _ (e_fa' fa75_0 (ev_t rfl)) ?_
       refine .t _ (e_ldb1 (ev_t rfl) ty3 (bx rfl rfl) rfl) ?_
       refine .t _ (e_fa' fa75_1 (ev_t rfl)) ?_
       refine .t _ (e_ldbA (ev_t rfl) ty71 (bx rfl rfl) rfl rfl) ?_
       obtain ⟨x18, e18, hm⟩ := hm.call
       refine .cl rfl rfl rfl rfl pl53 (R2.wk _) (locks_Drop_ok    e18) ?_
       rintro _ _ ⟨rfl, rfl⟩
       refine .s0 rfl rfl (e_stN (L' := [⟨[.L 1 (x13.2.l_.map c_u8), I (x13.2.at_)], true, true⟩, ⟨[.L 4 (x18.held.map Grant.cs), .L 4 (x18.waiting.map Grant.cs)], true, true⟩, ⟨[I (x10.1.tx), I (x10.1.lock.page), I (x10.1.lock.slot), I (x10.1.mode)], true, true⟩]) rfl (ev_t rfl) (ev_t rfl) ty69 rfl rfl rfl rfl rfl) ?_
       refine .nil ?_
       refine .re (σ := [0, 1]) (X := [(3, .o (.c (.ptr (h.length + 0) 0))), (4, .o (.c (.ptr (h.length + 1) 0)))]) (L' := [⟨[.L 1 (x13.2.l_.map c_u8), I (x13.2.at_)], true, true⟩, ⟨[.L 4 (x18.held.map Grant.cs), .L 4 (x18.waiting.map Grant.cs)], true, true⟩]) rfl rfl hC (by decide) (.obj 0 rfl (renFl rfl) (.obj 1 rfl (renFl rfl) .nil)) (.cons (.o (.c (.ptr 0 0 _ rfl))) (.cons (.o (.c (.ptr 1 1 _ rfl))) .nil)) ?_
       exact ⟨(x13.2, x18), hm.ret, (.cons rfl (.cons rfl .nil)), rfl⟩
      ·intro c19; replace hm := hm.ifn c19
       refine .seq ?_
       refine .region ?_
       refine .t (VB (decide (x13.1 = 7))) (e_eqK (ev_t rfl) rfl) ?_
       refine .a rfl ?_
       refine .nil ?_
       refine CdOK.condD (ev_t rfl) ?_ ?_
       ·intro c20; replace hm := hm.ifp c20
        refine .region ?_
        refine .t _ (e_ldbA (ev_t rfl) ty69 (bx rfl rfl) rfl rfl) ?_
        refine .t _ (e_fa' fa75_0 (ev_t rfl)) ?_
        refine .t _ (e_ldb1 (ev_t rfl) ty3 (bx rfl rfl) rfl) ?_
        obtain ⟨x21, e21, hm⟩ := hm.call
        refine .cl rfl rfl rfl rfl pl43 (R2.wk _) (locks_Release_ok    e21) ?_
        rintro _ _ ⟨rfl, rfl⟩
        refine .s0 rfl rfl (e_stN (L' := [⟨[.L 1 (x13.2.l_.map c_u8), I (x13.2.at_)], true, true⟩, ⟨[.L 4 (x21.held.map Grant.cs), .L 4 (x21.waiting.map Grant.cs)], true, true⟩, ⟨[I (x10.1.tx), I (x10.1.lock.page), I (x10.1.lock.slot), I (x10.1.mode)], true, true⟩]) rfl (ev_t rfl) (ev_t rfl) ty69 rfl rfl rfl rfl rfl) ?_
        refine .nil ?_
        refine .re (σ := [0, 1]) (X := [(3, .o (.c (.ptr (h.length + 0) 0))), (4, .o (.c (.ptr (h.length + 1) 0)))]) (L' := [⟨[.L 1 (x13.2.l_.map c_u8), I (x13.2.at_)], true, true⟩, ⟨[.L 4 (x21.held.map Grant.cs), .L 4 (x21.waiting.map Grant.cs)], true, true⟩]) rfl rfl hC (by decide) (.obj 0 rfl (renFl rfl) (.obj 1 rfl (renFl rfl) .nil)) (.cons (.o (.c (.ptr 0 0 _ rfl))) (.cons (.o (.c (.ptr 1 1 _ rfl))) .nil)) ?_
        exact ⟨(x13.2, x21), hm.ret, (.cons rfl (.cons rfl .nil)), rfl⟩
       ·intro c22; replace hm := hm.ifn c22
        refine .seq ?_
        refine .region ?_
        refine .t _ (e_ldbA (ev_t rfl) ty69 (bx rfl rfl) rfl rfl) ?_
        refine .t _ (e_ldbA (ev_t rfl) ty75 (bx rfl rfl) rfl rfl) ?_
        obtain ⟨x23, e23, hm⟩ := hm.call
        refine .cl rfl rfl rfl rfl pl41 (R2.wk _) (locks_Request_ok    e23) ?_
        rintro _ _ ⟨rfl, rfl⟩
        refine .m rfl ?_
        refine .t (.o (.agg [.L 4 (x23.1.held.map Grant.cs), .L 4 (x23.1.waiting.map Grant.cs)])) (e_ext (ev_t rfl) rfl) ?_
        refine .t (VB (x23.2.1)) (e_ext (ev_t rfl) rfl) ?_
        refine .t (VI (x23.2.2)) (e_ext (ev_t rfl) rfl) ?_
        refine .t (.o (.c (.ptr (h.length + 3) 0))) (e_allocN (L' := [⟨[.L 1 (x13.2.l_.map c_u8), I (x13.2.at_)], true, true⟩, ⟨[.L 4 (bx6.held.map Grant.cs), .L 4 (bx6.waiting.map Grant.cs)], true, true⟩, ⟨[I (x10.1.tx), I (x10.1.lock.page), I (x10.1.lock.slot), I (x10.1.mode)], true, true⟩, ⟨[.v (.slice none 0 0), .v (.slice none 0 0)], true, true⟩]) rfl zo69 rfl rfl) ?_
        refine .s0 rfl rfl (e_stN (L' := [⟨[.L 1 (x13.2.l_.map c_u8), I (x13.2.at_)], true, true⟩, ⟨[.L 4 (bx6.held.map Grant.cs), .L 4 (bx6.waiting.map Grant.cs)], true, true⟩, ⟨[I (x10.1.tx), I (x10.1.lock.page), I (x10.1.lock.slot), I (x10.1.mode)], true, true⟩, ⟨[.L 4 (x23.1.held.map Grant.cs), .L 4 (x23.1.waiting.map Grant.cs)], true, true⟩]) rfl (ev_t rfl) (ev_t rfl) ty69 rfl rfl rfl rfl rfl) ?_
        refine .a rfl ?_
        refine .a rfl ?_
        refine .nil ?_
        replace hm := hm.bnd
        refine CdOK.joinE (σ := Unit) (fun s => Sum.inl ()) hm (fun s => [(3, .o (.c (.ptr (h.length + 0) 0))), (4, .o (.c (.ptr (h.length + 1) 0))), (5, .o (.c (.ptr (h.length + 2) 0))), (6, .o (.c (.ptr (h.length + 3) 0))), (7, VB (x23.2.1)), (8, VI (x23.2.2))]) (fun s => h ++ ([⟨[.L 1 (x13.2.l_.map c_u8), I (x13.2.at_)], true, true⟩, ⟨[.L 4 (bx6.held.map Grant.cs), .L 4 (bx6.waiting.map Grant.cs)], true, true⟩, ⟨[I (x10.1.tx), I (x10.1.lock.page), I (x10.1.lock.slot), I (x10.1.mode)], true, true⟩, ⟨[.L 4 (x23.1.held.map Grant.cs), .L 4 (x23.1.waiting.map Grant.cs)], true, true⟩] : Heap)) ?_ ?_
        ·intro hm
         refine .seq ?_
         refine .region ?_
         refine .t _ (e_ldbA (ev_t rfl) ty69 (bx rfl rfl) rfl rfl) ?_
         refine .t _ (e_fa' fa75_0 (ev_t rfl)) ?_
         refine .t _ (e_ldb1 (ev_t rfl) ty3 (bx rfl rfl) rfl) ?_
         obtain ⟨x24, e24, hm⟩ := hm.call
         refine .cl rfl rfl rfl rfl pl56 (R2.wk _) (ref08_Waiting_ok    e24) ?_
         rintro _ _ ⟨rfl, rfl⟩
         refine .m rfl ?_
         refine .t (.o (.agg [I (x24.1.tx), I (x24.1.lock.page), I (x24.1.lock.slot), I (x24.1.mode)])) (e_ext (ev_t rfl) rfl) ?_
         refine .t (VB (x24.2)) (e_ext (ev_t rfl) rfl) ?_
         refine .t (.o (.c (.ptr (h.length + 4) 0))) (e_allocN (L' := [⟨[.L 1 (x13.2.l_.map c_u8), I (x13.2.at_)], true, true⟩, ⟨[.L 4 (bx6.held.map Grant.cs), .L 4 (bx6.waiting.map Grant.cs)], true, true⟩, ⟨[I (x10.1.tx), I (x10.1.lock.page), I (x10.1.lock.slot), I (x10.1.mode)], true, true⟩, ⟨[.L 4 (x23.1.held.map Grant.cs), .L 4 (x23.1.waiting.map Grant.cs)], true, true⟩, ⟨[I (0), I (0), I (0), I (0)], true, true⟩]) rfl zo75 rfl rfl) ?_
         refine .s0 rfl rfl (e_stN (L' := [⟨[.L 1 (x13.2.l_.map c_u8), I (x13.2.at_)], true, true⟩, ⟨[.L 4 (bx6.held.map Grant.cs), .L 4 (bx6.waiting.map Grant.cs)], true, true⟩, ⟨[I (x10.1.tx), I (x10.1.lock.page), I (x10.1.lock.slot), I (x10.1.mode)], true, true⟩, ⟨[.L 4 (x23.1.held.map Grant.cs), .L 4 (x23.1.waiting.map Grant.cs)], true, true⟩, ⟨[I (x24.1.tx), I (x24.1.lock.page), I (x24.1.lock.slot), I (x24.1.mode)], true, true⟩]) rfl (ev_t rfl) (ev_t rfl) ty75 rfl rfl rfl rfl rfl) ?_
         refine .a rfl ?_
         refine .nil ?_
         refine CdOK.seq ?_
         refine .region ?_
         refine .m rfl ?_
         refine .sd rfl rfl rfl (e_neK (ev_t rfl) rfl) ?_ ?_
         ·intro c25; replace hm := hm.ifp c25
          refine .m rfl ?_
          refine .m rfl ?_
          refine .sd rfl rfl rfl (e_eqK (ev_t rfl) rfl) ?_ ?_
          ·intro c26; replace hm := hm.ifp c26
           refine .m rfl ?_
           refine .m rfl ?_
           refine .t (VB (x24.2)) (e_pick (t := true) (ev_t rfl) (ev_t rfl)) ?_
           refine .t (VB ((!x24.2))) (e_un (ev_t rfl) rfl) ?_
           refine .t (VB ((!x24.2))) (e_pick (t := true) (ev_t rfl) (ev_t rfl)) ?_
           refine .nil ?_
           refine CdOK.condB (ev_t rfl) ?_ ?_
           ·intro c27; replace hm := hm.ifp c27
            refine .seq ?_
            refine .region ?_
            refine .t (VB (false)) (e_as rfl) ?_
            refine .nil ?_
            refine CdOK.ret ?_
            refine ⟨.inr rfl, _, rfl, h, _, _, rfl, rfl, hC, ((renFlV rfl) : RenV _ _ _ _ (VB (false))), ?_⟩
            have hr := hm.ret; replace hr := Ev.ret hr; replace hr := Ev.ret hr; replace hr := Ev.ret hr; cases hr; exact ⟨rfl, rfl⟩
           ·intro c28; replace hm := hm.ifn c28
            refine .skip ?_
            refine .re (σ := [0, 1, 2, 3]) (X := [(3, .o (.c (.ptr (h.length + 0) 0))), (4, .o (.c (.ptr (h.length + 1) 0))), (5, .o (.c (.ptr (h.length + 2) 0))), (6, .o (.c (.ptr (h.length + 3) 0))), (7, VB (x23.2.1)), (8, VI (x23.2.2))]) (L' := [⟨[.L 1 (x13.2.l_.map c_u8), I (x13.2.at_)], true, true⟩, ⟨[.L 4 (bx6.held.map Grant.cs), .L 4 (bx6.waiting.map Grant.cs)], true, true⟩, ⟨[I (x10.1.tx), I (x10.1.lock.page), I (x10.1.lock.slot), I (x10.1.mode)], true, true⟩, ⟨[.L 4 (x23.1.held.map Grant.cs), .L 4 (x23.1.waiting.map Grant.cs)], true, true⟩]) rfl rfl hC (by decide) (.obj 0 rfl (renFl rfl) (.obj 1 rfl (renFl rfl) (.obj 2 rfl (renFl rfl) (.obj 3 rfl (renFl rfl) .nil)))) (.cons (.o (.c (.ptr 0 0 _ rfl))) (.cons (.o (.c (.ptr 1 1 _ rfl))) (.cons (.o (.c (.ptr 2 2 _ rfl))) (.cons (.o (.c (.ptr 3 3 _ rfl))) (.cons (renFlV rfl) (.cons (renFlV rfl) .nil)))))) ?_
            exact ⟨(), hm.ret, (.cons rfl (.cons rfl (.cons rfl (.cons rfl (.cons rfl (.cons rfl .nil)))))), rfl⟩
          ·intro c29; replace hm := hm.ifn c29
           refine .m rfl ?_
           refine .k ?_
           refine .t (VB (false)) (e_pick (t := false) (ev_t rfl) rfl) ?_
           refine .t (VB (true)) (e_un (ev_t rfl) rfl) ?_
           refine .t (VB (true)) (e_pick (t := true) (ev_t rfl) (ev_t rfl)) ?_
           refine .nil ?_
           refine CdOK.cond_true rfl ?_
           refine .seq ?_
           refine .region ?_
           refine .t (VB (false)) (e_as rfl) ?_
           refine .nil ?_
           refine CdOK.ret ?_
           refine ⟨.inr rfl, _, rfl, h, _, _, rfl, rfl, hC, ((renFlV rfl) : RenV _ _ _ _ (VB (false))), ?_⟩
           have hr := hm.ret; replace hr := Ev.ret hr; replace hr := Ev.ret hr; replace hr := Ev.ret hr; cases hr; exact ⟨rfl, rfl⟩
         ·intro c30; replace hm := hm.ifn c30
          refine .m rfl ?_
          refine .k ?_
          refine .k ?_
          refine .k ?_
          refine .k ?_
          refine .k ?_
          refine .k ?_
          refine .t (VB (false)) (e_pick (t := false) (ev_t rfl) rfl) ?_
          refine .nil ?_
          refine CdOK.cond_false rfl ?_
          refine .skip ?_
          refine .re (σ := [0, 1, 2, 3]) (X := [(3, .o (.c (.ptr (h.length + 0) 0))), (4, .o (.c (.ptr (h.length + 1) 0))), (5, .o (.c (.ptr (h.length + 2) 0))), (6, .o (.c (.ptr (h.length + 3) 0))), (7, VB (x23.2.1)), (8, VI (x23.2.2))]) (L' := [⟨[.L 1 (x13.2.l_.map c_u8), I (x13.2.at_)], true, true⟩, ⟨[.L 4 (bx6.held.map Grant.cs), .L 4 (bx6.waiting.map Grant.cs)], true, true⟩, ⟨[I (x10.1.tx), I (x10.1.lock.page), I (x10.1.lock.slot), I (x10.1.mode)], true, true⟩, ⟨[.L 4 (x23.1.held.map Grant.cs), .L 4 (x23.1.waiting.map Grant.cs)], true, true⟩]) rfl rfl hC (by decide) (.obj 0 rfl (renFl rfl) (.obj 1 rfl (renFl rfl) (.obj 2 rfl (renFl rfl) (.obj 3 rfl (renFl rfl) .nil)))) (.cons (.o (.c (.ptr 0 0 _ rfl))) (.cons (.o (.c (.ptr 1 1 _ rfl))) (.cons (.o (.c (.ptr 2 2 _ rfl))) (.cons (.o (.c (.ptr 3 3 _ rfl))) (.cons (renFlV rfl) (.cons (renFlV rfl) .nil)))))) ?_
          exact ⟨(), hm.ret, (.cons rfl (.cons rfl (.cons rfl (.cons rfl (.cons rfl (.cons rfl .nil)))))), rfl⟩
        ·intro _ T0 hm
         show CdOK _ _ _ (look T0 [(3, .o (.c (.ptr (h.length + 0) 0))), (4, .o (.c (.ptr (h.length + 1) 0))), (5, .o (.c (.ptr (h.length + 2) 0))), (6, .o (.c (.ptr (h.length + 3) 0))), (7, VB (x23.2.1)), (8, VI (x23.2.2))]) (h ++ ([⟨[.L 1 (x13.2.l_.map c_u8), I (x13.2.at_)], true, true⟩, ⟨[.L 4 (bx6.held.map Grant.cs), .L 4 (bx6.waiting.map Grant.cs)], true, true⟩, ⟨[I (x10.1.tx), I (x10.1.lock.page), I (x10.1.lock.slot), I (x10.1.mode)], true, true⟩, ⟨[.L 4 (x23.1.held.map Grant.cs), .L 4 (x23.1.waiting.map Grant.cs)], true, true⟩] : Heap)) _
         replace hm : Ev _ _ := hm
         refine .seq ?_
         refine .region ?_
         refine .m rfl ?_
         refine .t (VB (decide (x23.2.2 = 0))) (e_eqK (ev_t rfl) rfl) ?_
         refine .nil ?_
         refine CdOK.condD (ev_t rfl) ?_ ?_
         ·intro c32; replace hm := hm.ifp c32
          refine .seq ?_
          refine .region ?_
          refine .t _ (e_ldbA (ev_t rfl) ty69 (bx rfl rfl) rfl rfl) ?_
          refine .s0 rfl rfl (e_stN (L' := [⟨[.L 1 (x13.2.l_.map c_u8), I (x13.2.at_)], true, true⟩, ⟨[.L 4 (x23.1.held.map Grant.cs), .L 4 (x23.1.waiting.map Grant.cs)], true, true⟩, ⟨[I (x10.1.tx), I (x10.1.lock.page), I (x10.1.lock.slot), I (x10.1.mode)], true, true⟩, ⟨[.L 4 (x23.1.held.map Grant.cs), .L 4 (x23.1.waiting.map Grant.cs)], true, true⟩]) rfl (ev_t rfl) (ev_t rfl) ty69 rfl rfl rfl rfl rfl) ?_
          refine .nil ?_
          refine CdOK.seq ?_
          refine .draw fol (by decide +kernel) ?_
          refine .m rfl ?_
          refine .t _ (e_ldbA (ev_t rfl) ty69 (bx rfl rfl) rfl rfl) ?_
          refine .t _ (e_fa' fa75_0 (ev_t rfl)) ?_
          refine .t _ (e_ldb1 (ev_t rfl) ty3 (bx rfl rfl) rfl) ?_
          refine .t _ (e_fa' fa75_1 (ev_t rfl)) ?_
          refine .t _ (e_ldbA (ev_t rfl) ty71 (bx rfl rfl) rfl rfl) ?_
          obtain ⟨x33, e33, hm⟩ := hm.call
          refine .cl rfl rfl rfl rfl pl42 (R2.wk _) (locks_Mode_ok    e33) ?_
          refine .t _ (e_fa' fa75_2 (ev_t rfl)) ?_
          refine .t _ (e_ldb1 (ev_t rfl) ty3 (bx rfl rfl) rfl) ?_
          refine .t (VB (decide (x10.1.mode ≤ x33))) (e_bin (ev_t rfl) (ev_t rfl) rfl rfl) ?_
          refine .t (VB ((!(x23.2.1 == (decide (x10.1.mode ≤ x33)))))) (e_neB (ev_t rfl) (ev_t rfl) bo4) ?_
          refine .nil ?_
          refine CdOK.condB (ev_t rfl) ?_ ?_
          ·intro c34; replace hm := hm.ifp c34
           refine .seq ?_
           refine .region ?_
           refine .t (VB (false)) (e_as rfl) ?_
           refine .nil ?_
           refine CdOK.ret ?_
           refine ⟨.inr rfl, _, rfl, h, _, _, rfl, rfl, hC, ((renFlV rfl) : RenV _ _ _ _ (VB (false))), ?_⟩
           have hr := hm.ret; replace hr := Ev.ret hr; replace hr := Ev.ret hr; cases hr; exact ⟨rfl, rfl⟩
          ·intro c35; replace hm := hm.ifn c35
           refine .skip ?_
           refine .re (σ := [0, 1]) (X := [(3, .o (.c (.ptr (h.length + 0) 0))), (4, .o (.c (.ptr (h.length + 1) 0)))]) (L' := [⟨[.L 1 (x13.2.l_.map c_u8), I (x13.2.at_)], true, true⟩, ⟨[.L 4 (x23.1.held.map Grant.cs), .L 4 (x23.1.waiting.map Grant.cs)], true, true⟩]) rfl rfl hC (by decide) (.obj 0 rfl (renFl rfl) (.obj 1 rfl (renFl rfl) .nil)) (.cons (.o (.c (.ptr 0 0 _ rfl))) (.cons (.o (.c (.ptr 1 1 _ rfl))) .nil)) ?_
           exact ⟨(x13.2, x23.1), hm.ret, (.cons rfl (.cons rfl .nil)), rfl⟩
         ·intro c36; replace hm := hm.ifn c36
          refine .skip ?_
          refine .re (σ := [0, 1]) (X := [(3, .o (.c (.ptr (h.length + 0) 0))), (4, .o (.c (.ptr (h.length + 1) 0)))]) (L' := [⟨[.L 1 (x13.2.l_.map c_u8), I (x13.2.at_)], true, true⟩, ⟨[.L 4 (bx6.held.map Grant.cs), .L 4 (bx6.waiting.map Grant.cs)], true, true⟩]) rfl rfl hC (by decide) (.obj 0 rfl (renFl rfl) (.obj 1 rfl (renFl rfl) .nil)) (.cons (.o (.c (.ptr 0 0 _ rfl))) (.cons (.o (.c (.ptr 1 1 _ rfl))) .nil)) ?_
          exact ⟨(x13.2, bx6), hm.ret, (.cons rfl (.cons rfl .nil)), rfl⟩
    ·rintro ⟨bx11, bx12⟩ T0 hm
     show CdOK _ _ _ (look T0 [(3, .o (.c (.ptr (h.length + 0) 0))), (4, .o (.c (.ptr (h.length + 1) 0)))]) (h ++ ([⟨[.L 1 (bx11.l_.map c_u8), I (bx11.at_)], true, true⟩, ⟨[.L 4 (bx12.held.map Grant.cs), .L 4 (bx12.waiting.map Grant.cs)], true, true⟩] : Heap)) _
     replace hm : Ev _ _ := hm
     refine .seq ?_
     refine .seq ?_
     refine .region ?_
     refine .t _ (e_ldbA (ev_t rfl) ty69 (bx rfl rfl) rfl rfl) ?_
     obtain ⟨x38, e38, hm⟩ := hm.call
     cases x38 with
     | true =>
      replace hm := hm.ifp rfl
      refine .cl rfl rfl rfl rfl pl44 (R2.wk _) (locks_Valid_ok    e38) ?_
      rintro _ _ ⟨rfl, rfl⟩
      refine .t (VB (false)) (e_un (ev_t rfl) rfl) ?_
      refine .m rfl ?_
      refine .t _ (e_ldbA (ev_t rfl) ty69 (bx rfl rfl) rfl rfl) ?_
      obtain ⟨x39, e39, hm⟩ := hm.call
      refine .cl rfl rfl rfl rfl pl47 (R2.wk _) (ref08_Valid_ok    e39) ?_
      rintro _ _ ⟨rfl, rfl⟩
      refine .t (VB ((!x39))) (e_un (ev_t rfl) rfl) ?_
      refine .t (VB ((!x39))) (e_pick (t := false) (ev_t rfl) (ev_t rfl)) ?_
      refine .nil ?_
      refine CdOK.condB (ev_t rfl) ?_ ?_
      ·intro c40; replace hm := hm.ifp c40
       refine .seq ?_
       refine .region ?_
       refine .t (VB (false)) (e_as rfl) ?_
       refine .nil ?_
       refine CdOK.ret ?_
       refine ⟨.inr rfl, _, rfl, h, _, _, rfl, rfl, hC, ((renFlV rfl) : RenV _ _ _ _ (VB (false))), ?_⟩
       have hr := hm.ret; replace hr := Ev.ret hr; cases hr; exact ⟨rfl, rfl⟩
      ·intro c41; replace hm := hm.ifn c41
       refine .skip ?_
       refine CdOK.seq ?_
       refine .region ?_
       refine .t _ (e_fa' fa69_1 (ev_t rfl)) ?_
       refine .t _ (e_ldb1 (ev_t rfl) ty67 (bx rfl rfl) rfl) ?_
       refine .t (VI ((bx12.waiting.length : Int))) (e_lenM (ev_t rfl) is67) ?_
       refine .t (VI (0)) (e_mv rfl) ?_
       refine .nil ?_
       replace hm := hm.bnd
       refine CdOK.joinT (σ := Unit) (fun s => Sum.inl ()) hm (fun s => [(3, .o (.c (.ptr (h.length + 0) 0))), (4, .o (.c (.ptr (h.length + 1) 0)))]) (fun s => h ++ ([⟨[.L 1 (bx11.l_.map c_u8), I (bx11.at_)], true, true⟩, ⟨[.L 4 (bx12.held.map Grant.cs), .L 4 (bx12.waiting.map Grant.cs)], true, true⟩] : Heap)) ?_ ?_
       ·intro hm
        refine .block ?_
        refine .loopE (σ := Int) (fun k s => Ev (law08_LocksPlays.l2 bx12 k s) _) (fun s => [(3, .o (.c (.ptr (h.length + 0) 0))), (4, .o (.c (.ptr (h.length + 1) 0))), (96, .o (.c (.L 4 (bx12.waiting.map Grant.cs)))), (97, VI ((bx12.waiting.length : Int))), (98, VI (s))]) (fun s => h ++ ([⟨[.L 1 (bx11.l_.map c_u8), I (bx11.at_)], true, true⟩, ⟨[.L 4 (bx12.held.map Grant.cs), .L 4 (bx12.waiting.map Grant.cs)], true, true⟩] : Heap)) FU 0 hm (.cons rfl (.cons rfl (.cons rfl (.cons rfl (.cons rfl .nil))))) rfl ?_
        rintro kk43 t9842 T0 hm
        replace hm : Ev (law08_LocksPlays.l2 bx12 kk43 t9842) _ := hm
        cases kk43 with
        | zero => exact (Ev.non hm).elim
        | succ kk43 =>
        rw [law08_LocksPlays.l2.eq_2] at hm
        show CdOK _ _ _ (look T0 [(3, .o (.c (.ptr (h.length + 0) 0))), (4, .o (.c (.ptr (h.length + 1) 0))), (96, .o (.c (.L 4 (bx12.waiting.map Grant.cs)))), (97, VI ((bx12.waiting.length : Int))), (98, VI (t9842))]) (h ++ ([⟨[.L 1 (bx11.l_.map c_u8), I (bx11.at_)], true, true⟩, ⟨[.L 4 (bx12.held.map Grant.cs), .L 4 (bx12.waiting.map Grant.cs)], true, true⟩] : Heap)) _
        refine .seq ?_
        refine .region ?_
        refine .t (VB (decide (t9842 < (bx12.waiting.length : Int)))) (e_bin (ev_t rfl) (ev_t rfl) rfl rfl) ?_
        refine .nil ?_
        refine CdOK.seq ?_
        refine .condD (ev_t rfl) ?_ ?_
        ·intro c44; replace hm := hm.ifp c44
         refine .skip ?_
         refine CdOK.seq ?_
         refine .block ?_
         refine .seq ?_
         refine .region ?_
         refine .m rfl ?_
         obtain ⟨c45, hm⟩ := hm.ifs
         refine .t (.o (.c (.rp [I ((gd bx12.waiting t9842).tx), I ((gd bx12.waiting t9842).lock.page), I ((gd bx12.waiting t9842).lock.slot), I ((gd bx12.waiting t9842).mode)]))) (e_ixM (f := Grant.cs) (l := bx12.waiting) (i := t9842) (ev_t rfl) (ev_t rfl) el67 c45) ?_
         refine .t _ (e_ldRA (ev_t rfl) ty75 rfl rfl) ?_
         refine .t (.o (.c (.ptr (h.length + 2) 0))) (e_allocN (L' := [⟨[.L 1 (bx11.l_.map c_u8), I (bx11.at_)], true, true⟩, ⟨[.L 4 (bx12.held.map Grant.cs), .L 4 (bx12.waiting.map Grant.cs)], true, true⟩, ⟨[I (0), I (0), I (0), I (0)], true, true⟩]) rfl zo75 rfl rfl) ?_
         refine .a rfl ?_
         refine .s0 rfl rfl (e_stN (L' := [⟨[.L 1 (bx11.l_.map c_u8), I (bx11.at_)], true, true⟩, ⟨[.L 4 (bx12.held.map Grant.cs), .L 4 (bx12.waiting.map Grant.cs)], true, true⟩, ⟨[I ((gd bx12.waiting t9842).tx), I ((gd bx12.waiting t9842).lock.page), I ((gd bx12.waiting t9842).lock.slot), I ((gd bx12.waiting t9842).mode)], true, true⟩]) rfl (ev_t rfl) (ev_t rfl) ty75 rfl rfl rfl rfl rfl) ?_
         refine .nil ?_
         refine CdOK.seq ?_
         refine .region ?_
         refine .t (VB (false)) (e_as rfl) ?_
         refine .nil ?_
         refine CdOK.seq ?_
         refine .seq ?_
         refine .region ?_
         refine .t _ (e_fa' fa69_0 (ev_t rfl)) ?_
         refine .t _ (e_ldb1 (ev_t rfl) ty67 (bx rfl rfl) rfl) ?_
         refine .t (VI ((bx12.held.length : Int))) (e_lenM (ev_t rfl) is67) ?_
         refine .t (VI (0)) (e_mv rfl) ?_
         refine .nil ?_
         replace hm := hm.bnd
         refine CdOK.joinT (σ := Bool) (fun s => s) hm (fun s => [(3, .o (.c (.ptr (h.length + 0) 0))), (4, .o (.c (.ptr (h.length + 1) 0))), (11, VI (t9842)), (12, .o (.c (.ptr (h.length + 2) 0))), (13, VB (s)), (96, .o (.c (.L 4 (bx12.waiting.map Grant.cs)))), (97, VI ((bx12.waiting.length : Int))), (98, VI (t9842))]) (fun s => h ++ ([⟨[.L 1 (bx11.l_.map c_u8), I (bx11.at_)], true, true⟩, ⟨[.L 4 (bx12.held.map Grant.cs), .L 4 (bx12.waiting.map Grant.cs)], true, true⟩, ⟨[I ((gd bx12.waiting t9842).tx), I ((gd bx12.waiting t9842).lock.page), I ((gd bx12.waiting t9842).lock.slot), I ((gd bx12.waiting t9842).mode)], true, true⟩] : Heap)) ?_ ?_
         ·intro hm
          refine .block ?_
          refine .loopE (σ := (Bool × Int)) (fun k s => Ev (law08_LocksPlays.l3 bx12 t9842 k s.1 s.2) _) (fun s => [(3, .o (.c (.ptr (h.length + 0) 0))), (4, .o (.c (.ptr (h.length + 1) 0))), (11, VI (t9842)), (12, .o (.c (.ptr (h.length + 2) 0))), (13, VB (s.1)), (96, .o (.c (.L 4 (bx12.waiting.map Grant.cs)))), (97, VI ((bx12.waiting.length : Int))), (98, VI (t9842)), (104, .o (.c (.L 4 (bx12.held.map Grant.cs)))), (105, VI ((bx12.held.length : Int))), (106, VI (s.2))]) (fun s => h ++ ([⟨[.L 1 (bx11.l_.map c_u8), I (bx11.at_)], true, true⟩, ⟨[.L 4 (bx12.held.map Grant.cs), .L 4 (bx12.waiting.map Grant.cs)], true, true⟩, ⟨[I ((gd bx12.waiting t9842).tx), I ((gd bx12.waiting t9842).lock.page), I ((gd bx12.waiting t9842).lock.slot), I ((gd bx12.waiting t9842).mode)], true, true⟩] : Heap)) FU (false, 0) hm (.cons rfl (.cons rfl (.cons rfl (.cons rfl (.cons rfl (.cons rfl (.cons rfl (.cons rfl (.cons rfl (.cons rfl (.cons rfl .nil))))))))))) rfl ?_
          rintro kk49 ⟨kept47, t10648⟩ T0 hm
          replace hm : Ev (law08_LocksPlays.l3 bx12 t9842 kk49 kept47 t10648) _ := hm
          cases kk49 with
          | zero => exact (Ev.non hm).elim
          | succ kk49 =>
          rw [law08_LocksPlays.l3.eq_2] at hm
          show CdOK _ _ _ (look T0 [(3, .o (.c (.ptr (h.length + 0) 0))), (4, .o (.c (.ptr (h.length + 1) 0))), (11, VI (t9842)), (12, .o (.c (.ptr (h.length + 2) 0))), (13, VB (kept47)), (96, .o (.c (.L 4 (bx12.waiting.map Grant.cs)))), (97, VI ((bx12.waiting.length : Int))), (98, VI (t9842)), (104, .o (.c (.L 4 (bx12.held.map Grant.cs)))), (105, VI ((bx12.held.length : Int))), (106, VI (t10648))]) (h ++ ([⟨[.L 1 (bx11.l_.map c_u8), I (bx11.at_)], true, true⟩, ⟨[.L 4 (bx12.held.map Grant.cs), .L 4 (bx12.waiting.map Grant.cs)], true, true⟩, ⟨[I ((gd bx12.waiting t9842).tx), I ((gd bx12.waiting t9842).lock.page), I ((gd bx12.waiting t9842).lock.slot), I ((gd bx12.waiting t9842).mode)], true, true⟩] : Heap)) _
          refine .seq ?_
          refine .region ?_
          refine .t (VB (decide (t10648 < (bx12.held.length : Int)))) (e_bin (ev_t rfl) (ev_t rfl) rfl rfl) ?_
          refine .nil ?_
          refine CdOK.seq ?_
          refine .condD (ev_t rfl) ?_ ?_
          ·intro c50; replace hm := hm.ifp c50
           refine .skip ?_
           refine CdOK.seq ?_
           refine .block ?_
           refine .seq ?_
           refine .region ?_
           obtain ⟨c51, hm⟩ := hm.ifs
           refine .t (.o (.c (.rp [I ((gd bx12.held t10648).tx), I ((gd bx12.held t10648).lock.page), I ((gd bx12.held t10648).lock.slot), I ((gd bx12.held t10648).mode)]))) (e_ixM (f := Grant.cs) (l := bx12.held) (i := t10648) (ev_t rfl) (ev_t rfl) el67 c51) ?_
           refine .t _ (e_ldRA (ev_t rfl) ty75 rfl rfl) ?_
           refine .t (.o (.c (.ptr (h.length + 3) 0))) (e_allocN (L' := [⟨[.L 1 (bx11.l_.map c_u8), I (bx11.at_)], true, true⟩, ⟨[.L 4 (bx12.held.map Grant.cs), .L 4 (bx12.waiting.map Grant.cs)], true, true⟩, ⟨[I ((gd bx12.waiting t9842).tx), I ((gd bx12.waiting t9842).lock.page), I ((gd bx12.waiting t9842).lock.slot), I ((gd bx12.waiting t9842).mode)], true, true⟩, ⟨[I (0), I (0), I (0), I (0)], true, true⟩]) rfl zo75 rfl rfl) ?_
           refine .s0 rfl rfl (e_stN (L' := [⟨[.L 1 (bx11.l_.map c_u8), I (bx11.at_)], true, true⟩, ⟨[.L 4 (bx12.held.map Grant.cs), .L 4 (bx12.waiting.map Grant.cs)], true, true⟩, ⟨[I ((gd bx12.waiting t9842).tx), I ((gd bx12.waiting t9842).lock.page), I ((gd bx12.waiting t9842).lock.slot), I ((gd bx12.waiting t9842).mode)], true, true⟩, ⟨[I ((gd bx12.held t10648).tx), I ((gd bx12.held t10648).lock.page), I ((gd bx12.held t10648).lock.slot), I ((gd bx12.held t10648).mode)], true, true⟩]) rfl (ev_t rfl) (ev_t rfl) ty75 rfl rfl rfl rfl rfl) ?_
           refine .nil ?_
           refine CdOK.region ?_
           refine .sb rfl rfl rfl (e_mv (ev_t rfl)) ?_ ?_
           ·intro c52; replace hm := hm.ifp c52
            refine .m rfl ?_
            refine .k ?_
            refine .k ?_
            refine .k ?_
            refine .t (VB (true)) (e_pick (t := true) (ev_t rfl) rfl) ?_
            refine .a rfl ?_
            refine .nil ?_
            refine CdOK.region ?_
            refine .t (VI ((w64 (t10648 + 1)))) (e_bin (ev_t rfl) rfl rfl rfl) ?_
            refine .m rfl ?_
            refine .nil ?_
            refine .re (σ := [0, 1, 2]) (X := [(3, .o (.c (.ptr (h.length + 0) 0))), (4, .o (.c (.ptr (h.length + 1) 0))), (11, VI (t9842)), (12, .o (.c (.ptr (h.length + 2) 0))), (13, VB (true)), (96, .o (.c (.L 4 (bx12.waiting.map Grant.cs)))), (97, VI ((bx12.waiting.length : Int))), (98, VI (t9842)), (104, .o (.c (.L 4 (bx12.held.map Grant.cs)))), (105, VI ((bx12.held.length : Int))), (106, VI ((w64 (t10648 + 1))))]) (L' := [⟨[.L 1 (bx11.l_.map c_u8), I (bx11.at_)], true, true⟩, ⟨[.L 4 (bx12.held.map Grant.cs), .L 4 (bx12.waiting.map Grant.cs)], true, true⟩, ⟨[I ((gd bx12.waiting t9842).tx), I ((gd bx12.waiting t9842).lock.page), I ((gd bx12.waiting t9842).lock.slot), I ((gd bx12.waiting t9842).mode)], true, true⟩]) rfl rfl hC (by decide) (.obj 0 rfl (renFl rfl) (.obj 1 rfl (renFl rfl) (.obj 2 rfl (renFl rfl) .nil))) (.cons (.o (.c (.ptr 0 0 _ rfl))) (.cons (.o (.c (.ptr 1 1 _ rfl))) (.cons (renFlV rfl) (.cons (.o (.c (.ptr 2 2 _ rfl))) (.cons (renFlV rfl) (.cons (renFlV rfl) (.cons (renFlV rfl) (.cons (renFlV rfl) (.cons (renFlV rfl) (.cons (renFlV rfl) (.cons (renFlV rfl) .nil))))))))))) ?_
            exact ⟨_, (true, (w64 (t10648 + 1))), Nat.lt_succ_self _, hm, (.cons rfl (.cons rfl (.cons rfl (.cons rfl (.cons rfl (.cons rfl (.cons rfl (.cons rfl (.cons rfl (.cons rfl (.cons rfl .nil))))))))))), rfl⟩
           ·intro c53; replace hm := hm.ifn (by rw [c53]; exact Bool.false_ne_true)
            refine .m rfl ?_
            refine .t _ (e_ldbA (ev_t rfl) ty75 (bx rfl rfl) rfl rfl) ?_
            refine .t _ (e_ldbA (ev_t rfl) ty75 (bx rfl rfl) rfl rfl) ?_
            obtain ⟨x54, e54, hm⟩ := hm.call
            cases x54 with
            | true =>
             replace hm := hm.ifp rfl
             refine .cl rfl rfl rfl rfl pl61 (R2.wk _) (law08_conflict_ok    e54) ?_
             rintro _ _ ⟨rfl, rfl⟩
             refine .t (VB (true)) (e_pick (t := false) (ev_t rfl) (ev_t rfl)) ?_
             refine .a rfl ?_
             refine .nil ?_
             refine CdOK.region ?_
             refine .t (VI ((w64 (t10648 + 1)))) (e_bin (ev_t rfl) rfl rfl rfl) ?_
             refine .m rfl ?_
             refine .nil ?_
             refine .re (σ := [0, 1, 2]) (X := [(3, .o (.c (.ptr (h.length + 0) 0))), (4, .o (.c (.ptr (h.length + 1) 0))), (11, VI (t9842)), (12, .o (.c (.ptr (h.length + 2) 0))), (13, VB (true)), (96, .o (.c (.L 4 (bx12.waiting.map Grant.cs)))), (97, VI ((bx12.waiting.length : Int))), (98, VI (t9842)), (104, .o (.c (.L 4 (bx12.held.map Grant.cs)))), (105, VI ((bx12.held.length : Int))), (106, VI ((w64 (t10648 + 1))))]) (L' := [⟨[.L 1 (bx11.l_.map c_u8), I (bx11.at_)], true, true⟩, ⟨[.L 4 (bx12.held.map Grant.cs), .L 4 (bx12.waiting.map Grant.cs)], true, true⟩, ⟨[I ((gd bx12.waiting t9842).tx), I ((gd bx12.waiting t9842).lock.page), I ((gd bx12.waiting t9842).lock.slot), I ((gd bx12.waiting t9842).mode)], true, true⟩]) rfl rfl hC (by decide) (.obj 0 rfl (renFl rfl) (.obj 1 rfl (renFl rfl) (.obj 2 rfl (renFl rfl) .nil))) (.cons (.o (.c (.ptr 0 0 _ rfl))) (.cons (.o (.c (.ptr 1 1 _ rfl))) (.cons (renFlV rfl) (.cons (.o (.c (.ptr 2 2 _ rfl))) (.cons (renFlV rfl) (.cons (renFlV rfl) (.cons (renFlV rfl) (.cons (renFlV rfl) (.cons (renFlV rfl) (.cons (renFlV rfl) (.cons (renFlV rfl) .nil))))))))))) ?_
             exact ⟨_, (true, (w64 (t10648 + 1))), Nat.lt_succ_self _, hm, (.cons rfl (.cons rfl (.cons rfl (.cons rfl (.cons rfl (.cons rfl (.cons rfl (.cons rfl (.cons rfl (.cons rfl (.cons rfl .nil))))))))))), rfl⟩
            | false =>
             replace hm := hm.ifn Bool.false_ne_true
             refine .cl rfl rfl rfl rfl pl61 (R2.wk _) (law08_conflict_ok    e54) ?_
             rintro _ _ ⟨rfl, rfl⟩
             refine .t (VB (false)) (e_pick (t := false) (ev_t rfl) (ev_t rfl)) ?_
             refine .a rfl ?_
             refine .nil ?_
             refine CdOK.region ?_
             refine .t (VI ((w64 (t10648 + 1)))) (e_bin (ev_t rfl) rfl rfl rfl) ?_
             refine .m rfl ?_
             refine .nil ?_
             refine .re (σ := [0, 1, 2]) (X := [(3, .o (.c (.ptr (h.length + 0) 0))), (4, .o (.c (.ptr (h.length + 1) 0))), (11, VI (t9842)), (12, .o (.c (.ptr (h.length + 2) 0))), (13, VB (false)), (96, .o (.c (.L 4 (bx12.waiting.map Grant.cs)))), (97, VI ((bx12.waiting.length : Int))), (98, VI (t9842)), (104, .o (.c (.L 4 (bx12.held.map Grant.cs)))), (105, VI ((bx12.held.length : Int))), (106, VI ((w64 (t10648 + 1))))]) (L' := [⟨[.L 1 (bx11.l_.map c_u8), I (bx11.at_)], true, true⟩, ⟨[.L 4 (bx12.held.map Grant.cs), .L 4 (bx12.waiting.map Grant.cs)], true, true⟩, ⟨[I ((gd bx12.waiting t9842).tx), I ((gd bx12.waiting t9842).lock.page), I ((gd bx12.waiting t9842).lock.slot), I ((gd bx12.waiting t9842).mode)], true, true⟩]) rfl rfl hC (by decide) (.obj 0 rfl (renFl rfl) (.obj 1 rfl (renFl rfl) (.obj 2 rfl (renFl rfl) .nil))) (.cons (.o (.c (.ptr 0 0 _ rfl))) (.cons (.o (.c (.ptr 1 1 _ rfl))) (.cons (renFlV rfl) (.cons (.o (.c (.ptr 2 2 _ rfl))) (.cons (renFlV rfl) (.cons (renFlV rfl) (.cons (renFlV rfl) (.cons (renFlV rfl) (.cons (renFlV rfl) (.cons (renFlV rfl) (.cons (renFlV rfl) .nil))))))))))) ?_
             exact ⟨_, (false, (w64 (t10648 + 1))), Nat.lt_succ_self _, hm, (.cons rfl (.cons rfl (.cons rfl (.cons rfl (.cons rfl (.cons rfl (.cons rfl (.cons rfl (.cons rfl (.cons rfl (.cons rfl .nil))))))))))), rfl⟩
          ·intro c55; replace hm := hm.ifn c55
           refine .exit ?_
           refine .id ?_
           exact ⟨kept47, hm.ret, (.cons rfl (.cons rfl (.cons rfl (.cons rfl (.cons rfl (.cons rfl (.cons rfl (.cons rfl .nil)))))))), rfl⟩
         ·rintro kept46 T0 hm
          refine CdOK.seq ?_
          refine .seq ?_
          refine .region ?_
          refine .t _ (e_fa' fa69_1 (ev_t rfl)) ?_
          refine .t _ (e_ldb1 (ev_t rfl) ty67 (bx rfl rfl) rfl) ?_
          refine .m rfl ?_
          obtain ⟨c57, hm⟩ := hm.ifs
          refine .t (.o (.c (.L 4 ((bx12.waiting.take (Int.toNat t9842)).map Grant.cs)))) (e_slhM el67 (ev_t rfl) (ev_t rfl) c57) ?_
          refine .t (VI (((bx12.waiting.take (Int.toNat t9842)).length : Int))) (e_lenM (ev_t rfl) is67) ?_
          refine .t (VI (0)) (e_mv rfl) ?_
          refine .nil ?_
          replace hm := hm.bnd
          refine CdOK.joinT (σ := Bool) (fun s => s) hm (fun s => [(3, .o (.c (.ptr (h.length + 0) 0))), (4, .o (.c (.ptr (h.length + 1) 0))), (13, VB (s)), (96, .o (.c (.L 4 (bx12.waiting.map Grant.cs)))), (97, VI ((bx12.waiting.length : Int))), (98, VI (t9842))]) (fun s => h ++ ([⟨[.L 1 (bx11.l_.map c_u8), I (bx11.at_)], true, true⟩, ⟨[.L 4 (bx12.held.map Grant.cs), .L 4 (bx12.waiting.map Grant.cs)], true, true⟩] : Heap)) ?_ ?_
          ·intro hm
           refine .block ?_
           refine .loopE (σ := (Bool × Int)) (fun k s => Ev (law08_LocksPlays.l4 bx12 t9842 k s.1 s.2) _) (fun s => [(3, .o (.c (.ptr (h.length + 0) 0))), (4, .o (.c (.ptr (h.length + 1) 0))), (12, .o (.c (.ptr (h.length + 2) 0))), (13, VB (s.1)), (96, .o (.c (.L 4 (bx12.waiting.map Grant.cs)))), (97, VI ((bx12.waiting.length : Int))), (98, VI (t9842)), (120, .o (.c (.L 4 ((bx12.waiting.take (Int.toNat t9842)).map Grant.cs)))), (121, VI (((bx12.waiting.take (Int.toNat t9842)).length : Int))), (122, VI (s.2))]) (fun s => h ++ ([⟨[.L 1 (bx11.l_.map c_u8), I (bx11.at_)], true, true⟩, ⟨[.L 4 (bx12.held.map Grant.cs), .L 4 (bx12.waiting.map Grant.cs)], true, true⟩, ⟨[I ((gd bx12.waiting t9842).tx), I ((gd bx12.waiting t9842).lock.page), I ((gd bx12.waiting t9842).lock.slot), I ((gd bx12.waiting t9842).mode)], true, true⟩] : Heap)) FU (kept46, 0) hm (.cons rfl (.cons rfl (.cons rfl (.cons rfl (.cons rfl (.cons rfl (.cons rfl (.cons rfl (.cons rfl (.cons rfl .nil)))))))))) rfl ?_
           rintro kk61 ⟨kept59, t12260⟩ T0 hm
           replace hm : Ev (law08_LocksPlays.l4 bx12 t9842 kk61 kept59 t12260) _ := hm
           cases kk61 with
           | zero => exact (Ev.non hm).elim
           | succ kk61 =>
           rw [law08_LocksPlays.l4.eq_2] at hm
           show CdOK _ _ _ (look T0 [(3, .o (.c (.ptr (h.length + 0) 0))), (4, .o (.c (.ptr (h.length + 1) 0))), (12, .o (.c (.ptr (h.length + 2) 0))), (13, VB (kept59)), (96, .o (.c (.L 4 (bx12.waiting.map Grant.cs)))), (97, VI ((bx12.waiting.length : Int))), (98, VI (t9842)), (120, .o (.c (.L 4 ((bx12.waiting.take (Int.toNat t9842)).map Grant.cs)))), (121, VI (((bx12.waiting.take (Int.toNat t9842)).length : Int))), (122, VI (t12260))]) (h ++ ([⟨[.L 1 (bx11.l_.map c_u8), I (bx11.at_)], true, true⟩, ⟨[.L 4 (bx12.held.map Grant.cs), .L 4 (bx12.waiting.map Grant.cs)], true, true⟩, ⟨[I ((gd bx12.waiting t9842).tx), I ((gd bx12.waiting t9842).lock.page), I ((gd bx12.waiting t9842).lock.slot), I ((gd bx12.waiting t9842).mode)], true, true⟩] : Heap)) _
           refine .seq ?_
           refine .region ?_
           refine .t (VB (decide (t12260 < ((bx12.waiting.take (Int.toNat t9842)).length : Int)))) (e_bin (ev_t rfl) (ev_t rfl) rfl rfl) ?_
           refine .nil ?_
           refine CdOK.seq ?_
           refine .condD (ev_t rfl) ?_ ?_
           ·intro c62; replace hm := hm.ifp c62
            refine .skip ?_
            refine CdOK.seq ?_
            refine .block ?_
            refine .seq ?_
            refine .region ?_
            obtain ⟨c63, hm⟩ := hm.ifs
            refine .t (.o (.c (.rp [I ((gd (bx12.waiting.take (Int.toNat t9842)) t12260).tx), I ((gd (bx12.waiting.take (Int.toNat t9842)) t12260).lock.page), I ((gd (bx12.waiting.take (Int.toNat t9842)) t12260).lock.slot), I ((gd (bx12.waiting.take (Int.toNat t9842)) t12260).mode)]))) (e_ixM (f := Grant.cs) (l := (bx12.waiting.take (Int.toNat t9842))) (i := t12260) (ev_t rfl) (ev_t rfl) el67 c63) ?_
            refine .t _ (e_ldRA (ev_t rfl) ty75 rfl rfl) ?_
            refine .t (.o (.c (.ptr (h.length + 3) 0))) (e_allocN (L' := [⟨[.L 1 (bx11.l_.map c_u8), I (bx11.at_)], true, true⟩, ⟨[.L 4 (bx12.held.map Grant.cs), .L 4 (bx12.waiting.map Grant.cs)], true, true⟩, ⟨[I ((gd bx12.waiting t9842).tx), I ((gd bx12.waiting t9842).lock.page), I ((gd bx12.waiting t9842).lock.slot), I ((gd bx12.waiting t9842).mode)], true, true⟩, ⟨[I (0), I (0), I (0), I (0)], true, true⟩]) rfl zo75 rfl rfl) ?_
            refine .s0 rfl rfl (e_stN (L' := [⟨[.L 1 (bx11.l_.map c_u8), I (bx11.at_)], true, true⟩, ⟨[.L 4 (bx12.held.map Grant.cs), .L 4 (bx12.waiting.map Grant.cs)], true, true⟩, ⟨[I ((gd bx12.waiting t9842).tx), I ((gd bx12.waiting t9842).lock.page), I ((gd bx12.waiting t9842).lock.slot), I ((gd bx12.waiting t9842).mode)], true, true⟩, ⟨[I ((gd (bx12.waiting.take (Int.toNat t9842)) t12260).tx), I ((gd (bx12.waiting.take (Int.toNat t9842)) t12260).lock.page), I ((gd (bx12.waiting.take (Int.toNat t9842)) t12260).lock.slot), I ((gd (bx12.waiting.take (Int.toNat t9842)) t12260).mode)], true, true⟩]) rfl (ev_t rfl) (ev_t rfl) ty75 rfl rfl rfl rfl rfl) ?_
            refine .nil ?_
            refine CdOK.region ?_
            refine .sb rfl rfl rfl (e_mv (ev_t rfl)) ?_ ?_
            ·intro c64; replace hm := hm.ifp c64
             refine .m rfl ?_
             refine .k ?_
             refine .k ?_
             refine .k ?_
             refine .t (VB (true)) (e_pick (t := true) (ev_t rfl) rfl) ?_
             refine .a rfl ?_
             refine .nil ?_
             refine CdOK.region ?_
             refine .t (VI ((w64 (t12260 + 1)))) (e_bin (ev_t rfl) rfl rfl rfl) ?_
             refine .m rfl ?_
             refine .nil ?_
             refine .re (σ := [0, 1, 2]) (X := [(3, .o (.c (.ptr (h.length + 0) 0))), (4, .o (.c (.ptr (h.length + 1) 0))), (12, .o (.c (.ptr (h.length + 2) 0))), (13, VB (true)), (96, .o (.c (.L 4 (bx12.waiting.map Grant.cs)))), (97, VI ((bx12.waiting.length : Int))), (98, VI (t9842)), (120, .o (.c (.L 4 ((bx12.waiting.take (Int.toNat t9842)).map Grant.cs)))), (121, VI (((bx12.waiting.take (Int.toNat t9842)).length : Int))), (122, VI ((w64 (t12260 + 1))))]) (L' := [⟨[.L 1 (bx11.l_.map c_u8), I (bx11.at_)], true, true⟩, ⟨[.L 4 (bx12.held.map Grant.cs), .L 4 (bx12.waiting.map Grant.cs)], true, true⟩, ⟨[I ((gd bx12.waiting t9842).tx), I ((gd bx12.waiting t9842).lock.page), I ((gd bx12.waiting t9842).lock.slot), I ((gd bx12.waiting t9842).mode)], true, true⟩]) rfl rfl hC (by decide) (.obj 0 rfl (renFl rfl) (.obj 1 rfl (renFl rfl) (.obj 2 rfl (renFl rfl) .nil))) (.cons (.o (.c (.ptr 0 0 _ rfl))) (.cons (.o (.c (.ptr 1 1 _ rfl))) (.cons (.o (.c (.ptr 2 2 _ rfl))) (.cons (renFlV rfl) (.cons (renFlV rfl) (.cons (renFlV rfl) (.cons (renFlV rfl) (.cons (renFlV rfl) (.cons (renFlV rfl) (.cons (renFlV rfl) .nil)))))))))) ?_
             exact ⟨_, (true, (w64 (t12260 + 1))), Nat.lt_succ_self _, hm, (.cons rfl (.cons rfl (.cons rfl (.cons rfl (.cons rfl (.cons rfl (.cons rfl (.cons rfl (.cons rfl (.cons rfl .nil)))))))))), rfl⟩
            ·intro c65; replace hm := hm.ifn (by rw [c65]; exact Bool.false_ne_true)
             refine .m rfl ?_
             refine .t _ (e_ldbA (ev_t rfl) ty75 (bx rfl rfl) rfl rfl) ?_
             refine .t _ (e_ldbA (ev_t rfl) ty75 (bx rfl rfl) rfl rfl) ?_
             obtain ⟨x66, e66, hm⟩ := hm.call
             cases x66 with
             | true =>
              replace hm := hm.ifp rfl
              refine .cl rfl rfl rfl rfl pl61 (R2.wk _) (law08_conflict_ok    e66) ?_
              rintro _ _ ⟨rfl, rfl⟩
              refine .t (VB (true)) (e_pick (t := false) (ev_t rfl) (ev_t rfl)) ?_
              refine .a rfl ?_
              refine .nil ?_
              refine CdOK.region ?_
              refine .t (VI ((w64 (t12260 + 1)))) (e_bin (ev_t rfl) rfl rfl rfl) ?_
              refine .m rfl ?_
              refine .nil ?_
              refine .re (σ := [0, 1, 2]) (X := [(3, .o (.c (.ptr (h.length + 0) 0))), (4, .o (.c (.ptr (h.length + 1) 0))), (12, .o (.c (.ptr (h.length + 2) 0))), (13, VB (true)), (96, .o (.c (.L 4 (bx12.waiting.map Grant.cs)))), (97, VI ((bx12.waiting.length : Int))), (98, VI (t9842)), (120, .o (.c (.L 4 ((bx12.waiting.take (Int.toNat t9842)).map Grant.cs)))), (121, VI (((bx12.waiting.take (Int.toNat t9842)).length : Int))), (122, VI ((w64 (t12260 + 1))))]) (L' := [⟨[.L 1 (bx11.l_.map c_u8), I (bx11.at_)], true, true⟩, ⟨[.L 4 (bx12.held.map Grant.cs), .L 4 (bx12.waiting.map Grant.cs)], true, true⟩, ⟨[I ((gd bx12.waiting t9842).tx), I ((gd bx12.waiting t9842).lock.page), I ((gd bx12.waiting t9842).lock.slot), I ((gd bx12.waiting t9842).mode)], true, true⟩]) rfl rfl hC (by decide) (.obj 0 rfl (renFl rfl) (.obj 1 rfl (renFl rfl) (.obj 2 rfl (renFl rfl) .nil))) (.cons (.o (.c (.ptr 0 0 _ rfl))) (.cons (.o (.c (.ptr 1 1 _ rfl))) (.cons (.o (.c (.ptr 2 2 _ rfl))) (.cons (renFlV rfl) (.cons (renFlV rfl) (.cons (renFlV rfl) (.cons (renFlV rfl) (.cons (renFlV rfl) (.cons (renFlV rfl) (.cons (renFlV rfl) .nil)))))))))) ?_
              exact ⟨_, (true, (w64 (t12260 + 1))), Nat.lt_succ_self _, hm, (.cons rfl (.cons rfl (.cons rfl (.cons rfl (.cons rfl (.cons rfl (.cons rfl (.cons rfl (.cons rfl (.cons rfl .nil)))))))))), rfl⟩
             | false =>
              replace hm := hm.ifn Bool.false_ne_true
              refine .cl rfl rfl rfl rfl pl61 (R2.wk _) (law08_conflict_ok    e66) ?_
              rintro _ _ ⟨rfl, rfl⟩
              refine .t (VB (false)) (e_pick (t := false) (ev_t rfl) (ev_t rfl)) ?_
              refine .a rfl ?_
              refine .nil ?_
              refine CdOK.region ?_
              refine .t (VI ((w64 (t12260 + 1)))) (e_bin (ev_t rfl) rfl rfl rfl) ?_
              refine .m rfl ?_
              refine .nil ?_
              refine .re (σ := [0, 1, 2]) (X := [(3, .o (.c (.ptr (h.length + 0) 0))), (4, .o (.c (.ptr (h.length + 1) 0))), (12, .o (.c (.ptr (h.length + 2) 0))), (13, VB (false)), (96, .o (.c (.L 4 (bx12.waiting.map Grant.cs)))), (97, VI ((bx12.waiting.length : Int))), (98, VI (t9842)), (120, .o (.c (.L 4 ((bx12.waiting.take (Int.toNat t9842)).map Grant.cs)))), (121, VI (((bx12.waiting.take (Int.toNat t9842)).length : Int))), (122, VI ((w64 (t12260 + 1))))]) (L' := [⟨[.L 1 (bx11.l_.map c_u8), I (bx11.at_)], true, true⟩, ⟨[.L 4 (bx12.held.map Grant.cs), .L 4 (bx12.waiting.map Grant.cs)], true, true⟩, ⟨[I ((gd bx12.waiting t9842).tx), I ((gd bx12.waiting t9842).lock.page), I ((gd bx12.waiting t9842).lock.slot), I ((gd bx12.waiting t9842).mode)], true, true⟩]) rfl rfl hC (by decide) (.obj 0 rfl (renFl rfl) (.obj 1 rfl (renFl rfl) (.obj 2 rfl (renFl rfl) .nil))) (.cons (.o (.c (.ptr 0 0 _ rfl))) (.cons (.o (.c (.ptr 1 1 _ rfl))) (.cons (.o (.c (.ptr 2 2 _ rfl))) (.cons (renFlV rfl) (.cons (renFlV rfl) (.cons (renFlV rfl) (.cons (renFlV rfl) (.cons (renFlV rfl) (.cons (renFlV rfl) (.cons (renFlV rfl) .nil)))))))))) ?_
              exact ⟨_, (false, (w64 (t12260 + 1))), Nat.lt_succ_self _, hm, (.cons rfl (.cons rfl (.cons rfl (.cons rfl (.cons rfl (.cons rfl (.cons rfl (.cons rfl (.cons rfl (.cons rfl .nil)))))))))), rfl⟩
           ·intro c67; replace hm := hm.ifn c67
            refine .exit ?_
            refine .re (σ := [0, 1]) (X := [(3, .o (.c (.ptr (h.length + 0) 0))), (4, .o (.c (.ptr (h.length + 1) 0))), (13, VB (kept59)), (96, .o (.c (.L 4 (bx12.waiting.map Grant.cs)))), (97, VI ((bx12.waiting.length : Int))), (98, VI (t9842))]) (L' := [⟨[.L 1 (bx11.l_.map c_u8), I (bx11.at_)], true, true⟩, ⟨[.L 4 (bx12.held.map Grant.cs), .L 4 (bx12.waiting.map Grant.cs)], true, true⟩]) rfl rfl hC (by decide) (.obj 0 rfl (renFl rfl) (.obj 1 rfl (renFl rfl) .nil)) (.cons (.o (.c (.ptr 0 0 _ rfl))) (.cons (.o (.c (.ptr 1 1 _ rfl))) (.cons (renFlV rfl) (.cons (renFlV rfl) (.cons (renFlV rfl) (.cons (renFlV rfl) .nil)))))) ?_
            exact ⟨kept59, hm.ret, (.cons rfl (.cons rfl (.cons rfl (.cons rfl (.cons rfl (.cons rfl .nil)))))), rfl⟩
          ·rintro kept58 T0 hm
           refine CdOK.seq ?_
           refine .region ?_
           refine .m rfl ?_
           refine .t (VB ((!kept58))) (e_un (ev_t rfl) rfl) ?_
           refine .nil ?_
           refine CdOK.condB (ev_t rfl) ?_ ?_
           ·intro c69; replace hm := hm.ifp c69
            refine .seq ?_
            refine .region ?_
            refine .t (VB (false)) (e_as rfl) ?_
            refine .nil ?_
            refine CdOK.ret ?_
            refine ⟨.inr rfl, _, rfl, h, _, _, rfl, rfl, hC, ((renFlV rfl) : RenV _ _ _ _ (VB (false))), ?_⟩
            have hr := hm.ret; replace hr := Ev.ret hr; replace hr := Ev.ret hr; cases hr; exact ⟨rfl, rfl⟩
           ·intro c70; replace hm := hm.ifn c70
            refine .skip ?_
            refine CdOK.region ?_
            refine .t (VI ((w64 (t9842 + 1)))) (e_bin (ev_t rfl) rfl rfl rfl) ?_
            refine .m rfl ?_
            refine .nil ?_
            refine .id ?_
            exact ⟨_, (w64 (t9842 + 1)), Nat.lt_succ_self _, hm, (.cons rfl (.cons rfl (.cons rfl (.cons rfl (.cons rfl .nil))))), rfl⟩
        ·intro c71; replace hm := hm.ifn c71
         refine .exit ?_
         refine .id ?_
         exact ⟨(), hm.ret, (.cons rfl (.cons rfl .nil)), rfl⟩
       ·intro _ T0 hm
        refine .id ?_
        exact ⟨_, (bx11, bx12), Nat.lt_succ_self _, hm, (.cons rfl (.cons rfl .nil)), rfl⟩
     | false =>
      replace hm := hm.ifn Bool.false_ne_true
      refine .cl rfl rfl rfl rfl pl44 (R2.wk _) (locks_Valid_ok    e38) ?_
      rintro _ _ ⟨rfl, rfl⟩
      refine .t (VB (true)) (e_un (ev_t rfl) rfl) ?_
      refine .m rfl ?_
      refine .k ?_
      refine .k ?_
      refine .k ?_
      refine .t (VB (true)) (e_pick (t := true) (ev_t rfl) rfl) ?_
      refine .nil ?_
      refine CdOK.cond_true rfl ?_
      refine .seq ?_
      refine .region ?_
      refine .t (VB (false)) (e_as rfl) ?_
      refine .nil ?_
      refine CdOK.ret ?_
      refine ⟨.inr rfl, _, rfl, h, _, _, rfl, rfl, hC, ((renFlV rfl) : RenV _ _ _ _ (VB (false))), ?_⟩
      have hr := hm.ret; replace hr := Ev.ret hr; cases hr; exact ⟨rfl, rfl⟩
   ·intro c73; replace hm := hm.ifn c73
    refine .exit ?_
    refine .re (σ := []) (X := []) (L' := []) rfl rfl hC (by decide) .nil .nil ?_
    exact ⟨(), hm.ret, .nil, rfl⟩
  ·intro _ T0 hm
   show CdOK _ _ _ (look T0 []) (h ++ ([] : Heap)) _
   replace hm : Ev _ _ := hm
   refine .seq ?_
   refine .region ?_
   refine .t (VB (true)) (e_as rfl) ?_
   refine .nil ?_
   refine CdOK.ret ?_
   refine ⟨.inr rfl, _, rfl, h, _, _, rfl, rfl, hC, ((renFlV rfl) : RenV _ _ _ _ (VB (true))), ?_⟩
   cases hm.ret; exact ⟨rfl, rfl⟩
end Rv
