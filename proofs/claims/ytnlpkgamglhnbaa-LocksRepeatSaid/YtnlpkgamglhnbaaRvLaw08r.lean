/- Chapter 8: LocksRepeat, as a plain function. -/
import Derived.Test.YtnlpkgamglhnbaaRvLaw08z
import Derived.Test.YtnlpkgamglhnbaaRvR08b
set_option linter.unusedVariables false
set_option linter.unusedSimpArgs false
namespace Rv
open Go Go.RowKit Go.Proofs
theorem bo4 : boT Try.prog 4 = true := by decide +kernel
theorem pl17 : plainFn Try.prog 17 = true := by decide +kernel
theorem pl40 : plainFn Try.prog 40 = true := by decide +kernel
theorem pl45 : plainFn Try.prog 45 = true := by decide +kernel
theorem pl51 : plainFn Try.prog 51 = true := by decide +kernel
theorem pl53 : plainFn Try.prog 53 = true := by decide +kernel
theorem pl57 : plainFn Try.prog 57 = true := by decide +kernel
/- pagemend/pagemendlaw08.LocksRepeat -/
def law08_LocksRepeat (codes : (List Int)) : Option Bool := ((law08_awake ).bind fun (x1 : Bool) => (if (!x1) = true then some false else ((New codes 200).bind fun (x4 : Codes) => ((Codes_Locks x4).bind fun (x5 : (Locks × Codes)) => ((Codes_Grant x5.2).bind fun (x6 : (Grant × Codes)) => ((((locks_Request x5.1 x6.1).bind fun (x10 : (Locks × Bool × Int)) => (if x10.2.1 = true then some (x10.1, true, x10.2.2) else some (x10.1, false, x10.2.2)))).bind fun (s13 : (Locks × Bool × Int)) => (if s13.2.2 ≠ 0 then some (decide (s13.2.2 = 15)) else ((locks_Request s13.1 x6.1).bind fun (x16 : (Locks × Bool × Int)) => (if x16.2.2 ≠ 0 then some false else (if (!(x16.2.1 == s13.2.1)) = true then some false else ((ref08_Same s13.1 x16.1).bind fun (x21 : Bool) => (if (!x21) = true then some false else (((if s13.2.1 = true then ((((locks_Request s13.1 (⟨x6.1.tx, x6.1.lock, 1⟩ : Grant)).bind fun (x28 : (Locks × Bool × Int)) => (if x28.2.1 = true then some (x28.1, true, x28.2.2) else some (x28.1, false, x28.2.2)))).bind fun (s31 : (Locks × Bool × Int)) => (if s31.2.2 ≠ 0 then some (Sum.inr false) else (if s31.2.1 = true then ((ref08_Same s31.1 s13.1).bind fun (x35 : Bool) => (if (!x35) = true then some (Sum.inr false) else some (Sum.inl ()))) else some (Sum.inr false)))) else some (Sum.inl ()))).bind fun (z : Sum Unit Bool) => match z with | .inl (s40 : Unit) => ((locks_Release s13.1 x6.1.tx).bind fun (x41 : Locks) => ((locks_Cancel s13.1 x6.1.tx).bind fun (x42 : Locks) => ((locks_Drop s13.1 x6.1.tx x6.1.lock).bind fun (x43 : Locks) => ((locks_Release x41 x6.1.tx).bind fun (x44 : Locks) => ((ref08_Same x44 x41).bind fun (x45 : Bool) => (if x45 = true then ((locks_Cancel x42 x6.1.tx).bind fun (x46 : Locks) => ((ref08_Same x46 x42).bind fun (x47 : Bool) => (if x47 = true then ((locks_Cancel x41 x6.1.tx).bind fun (x48 : Locks) => ((ref08_Same x48 x41).bind fun (x49 : Bool) => (if x49 = true then ((locks_Mode x41 x6.1.tx x6.1.lock).bind fun (x50 : Int) => (if x50 = 0 then (if s13.2.1 = true then ((locks_Valid x43).bind fun (x53 : Bool) => some x53) else some true) else some false)) else some false))) else some false))) else some false)))))) | .inr r => some r)))))))))))))
theorem law08_LocksRepeat_ok {h : Heap} {codes : (List Int)}   {r : Bool} (hm : law08_LocksRepeat codes = some r) : FnOK Try.prog 12 [.o (.c (.L 1 (codes.map c_u8)))] h (fun v h' => v = VB (r) ∧ h' = h) := by
 refine FnOK.fin ?_
 refine FnOK.bodyC (N := 133) Try.func12 rfl rfl rfl (fun hC => ?_)
 replace hm := Ev.of hm
 rw [law08_LocksRepeat.eq_1] at hm
 show CdOK _ _ _ (look _ [(0, .o (.c (.L 1 (codes.map c_u8))))]) (h ++ ([] : Heap)) _
 refine .seq ?_
 refine .region ?_
 refine .t (VB (false)) (e_as rfl) ?_
 refine .nil ?_
 refine CdOK.seq ?_
 refine .seq ?_
 refine .region ?_
 obtain ⟨x1, e1, hm⟩ := hm.call
 refine .cl rfl rfl rfl rfl pl40 (R2.wk _) (law08_awake_ok    e1) ?_
 rintro _ _ ⟨rfl, rfl⟩
 refine .t (VB ((!x1))) (e_un (ev_t rfl) rfl) ?_
 refine .nil ?_
 refine CdOK.condB (ev_t rfl) ?_ ?_
 ·intro c2; replace hm := hm.ifp c2
  refine .seq ?_
  refine .region ?_
  refine .t (VB (false)) (e_as rfl) ?_
  refine .nil ?_
  refine CdOK.ret ?_
  refine ⟨.inr rfl, _, rfl, h, _, _, rfl, rfl, hC, ((renFlV rfl) : RenV _ _ _ _ (VB (false))), ?_⟩
  cases hm.ret; exact ⟨rfl, rfl⟩
 ·intro c3; replace hm := hm.ifn c3
  refine .skip ?_
  refine CdOK.seq ?_
  refine .region ?_
  refine .m rfl ?_
  obtain ⟨x4, e4, hm⟩ := hm.call
  refine .cl rfl rfl rfl rfl pl17 (R2.wk _) (New_ok    e4) ?_
  rintro _ _ ⟨rfl, rfl⟩
  rw [show (h ++ ([] : Heap)) ++ [⟨[.L 1 (x4.l_.map c_u8), I (x4.at_)], true, true⟩] = h ++ ([⟨[.L 1 (x4.l_.map c_u8), I (x4.at_)], true, true⟩] : Heap) from apnd rfl, show (h ++ ([] : Heap) : Heap).length = h.length + 0 from lenN rfl rfl]
  refine .a rfl ?_
  refine .nil ?_
  refine CdOK.seq ?_
  refine .region ?_
  refine .m rfl ?_
  obtain ⟨x5, e5, hm⟩ := hm.call
  refine .cl rfl rfl rfl rfl pl45 (R2.wk _) (Codes_Locks_ok  (b_c_ := (h.length + 0)) (bx rfl rfl) e5) ?_
  rintro _ _ ⟨rfl, rfl⟩
  rw [show _ = h ++ ([⟨[.L 1 (x5.2.l_.map c_u8), I (x5.2.at_)], true, true⟩] : Heap) from (bset rfl rfl)]
  refine .m rfl ?_
  obtain ⟨x6, e6, hm⟩ := hm.call
  refine .cl rfl rfl rfl rfl pl48 (R2.wk _) (Codes_Grant_ok  (b_c_ := (h.length + 0)) (bx rfl rfl) e6) ?_
  rintro _ _ ⟨rfl, rfl⟩
  rw [show _ = h ++ ([⟨[.L 1 (x6.2.l_.map c_u8), I (x6.2.at_)], true, true⟩] : Heap) from (bset rfl rfl)]
  refine .t (.o (.c (.ptr (h.length + 1) 0))) (e_allocN (L' := [⟨[.L 1 (x6.2.l_.map c_u8), I (x6.2.at_)], true, true⟩, ⟨[.v (.slice none 0 0), .v (.slice none 0 0)], true, true⟩]) rfl zo69 rfl rfl) ?_
  refine .t (.o (.c (.ptr (h.length + 2) 0))) (e_allocN (L' := [⟨[.L 1 (x6.2.l_.map c_u8), I (x6.2.at_)], true, true⟩, ⟨[.v (.slice none 0 0), .v (.slice none 0 0)], true, true⟩, ⟨[I (0), I (0), I (0), I (0)], true, true⟩]) rfl zo75 rfl rfl) ?_
  refine .s0 rfl rfl (e_stN (L' := [⟨[.L 1 (x6.2.l_.map c_u8), I (x6.2.at_)], true, true⟩, ⟨[.L 4 (x5.1.held.map Grant.cs), .L 4 (x5.1.waiting.map Grant.cs)], true, true⟩, ⟨[I (0), I (0), I (0), I (0)], true, true⟩]) rfl (ev_t rfl) (ev_t rfl) ty69 rfl rfl rfl rfl rfl) ?_
  refine .s0 rfl rfl (e_stN (L' := [⟨[.L 1 (x6.2.l_.map c_u8), I (x6.2.at_)], true, true⟩, ⟨[.L 4 (x5.1.held.map Grant.cs), .L 4 (x5.1.waiting.map Grant.cs)], true, true⟩, ⟨[I (x6.1.tx), I (x6.1.lock.page), I (x6.1.lock.slot), I (x6.1.mode)], true, true⟩]) rfl (ev_t rfl) (ev_t rfl) ty75 rfl rfl rfl rfl rfl) ?_
  refine .nil ?_
  replace hm := hm.bnd
  refine CdOK.joinE (σ := (Locks × Bool × Int)) (fun s => (s.1, s.2.1, s.2.2)) hm (fun s => [(5, .o (.c (.ptr (h.length + 0) 0))), (6, .o (.c (.ptr (h.length + 1) 0))), (7, VB (s.2.1)), (8, VI (s.2.2))]) (fun s => h ++ ([⟨[I (x6.1.tx), I (x6.1.lock.page), I (x6.1.lock.slot), I (x6.1.mode)], true, true⟩, ⟨[.L 4 (s.1.held.map Grant.cs), .L 4 (s.1.waiting.map Grant.cs)], true, true⟩] : Heap)) ?_ ?_
  ·intro hm
   refine .region ?_
   refine .t _ (e_ldbA (ev_t rfl) ty69 (bx rfl rfl) rfl rfl) ?_
   refine .t _ (e_ldbA (ev_t rfl) ty75 (bx rfl rfl) rfl rfl) ?_
   obtain ⟨x10, e10, hm⟩ := hm.call
   refine .cl rfl rfl rfl rfl pl41 (R2.wk _) (locks_Request_ok    e10) ?_
   rintro _ _ ⟨rfl, rfl⟩
   refine .m rfl ?_
   refine .t (.o (.agg [.L 4 (x10.1.held.map Grant.cs), .L 4 (x10.1.waiting.map Grant.cs)])) (e_ext (ev_t rfl) rfl) ?_
   refine .sb rfl rfl rfl (e_ext (ev_t rfl) rfl) ?_ ?_
   ·intro c11; replace hm := hm.ifp c11
    refine .t (VI (x10.2.2)) (e_ext (ev_t rfl) rfl) ?_
    refine .t (.o (.c (.ptr (h.length + 3) 0))) (e_allocN (L' := [⟨[.L 1 (x6.2.l_.map c_u8), I (x6.2.at_)], true, true⟩, ⟨[.L 4 (x5.1.held.map Grant.cs), .L 4 (x5.1.waiting.map Grant.cs)], true, true⟩, ⟨[I (x6.1.tx), I (x6.1.lock.page), I (x6.1.lock.slot), I (x6.1.mode)], true, true⟩, ⟨[.v (.slice none 0 0), .v (.slice none 0 0)], true, true⟩]) rfl zo69 rfl rfl) ?_
    refine .s0 rfl rfl (e_stN (L' := [⟨[.L 1 (x6.2.l_.map c_u8), I (x6.2.at_)], true, true⟩, ⟨[.L 4 (x5.1.held.map Grant.cs), .L 4 (x5.1.waiting.map Grant.cs)], true, true⟩, ⟨[I (x6.1.tx), I (x6.1.lock.page), I (x6.1.lock.slot), I (x6.1.mode)], true, true⟩, ⟨[.L 4 (x10.1.held.map Grant.cs), .L 4 (x10.1.waiting.map Grant.cs)], true, true⟩]) rfl (ev_t rfl) (ev_t rfl) ty69 rfl rfl rfl rfl rfl) ?_
    refine .a rfl ?_
    refine .a rfl ?_
    refine .nil ?_
    refine .re (σ := [2, 3]) (X := [(5, .o (.c (.ptr (h.length + 0) 0))), (6, .o (.c (.ptr (h.length + 1) 0))), (7, VB (true)), (8, VI (x10.2.2))]) (L' := [⟨[I (x6.1.tx), I (x6.1.lock.page), I (x6.1.lock.slot), I (x6.1.mode)], true, true⟩, ⟨[.L 4 (x10.1.held.map Grant.cs), .L 4 (x10.1.waiting.map Grant.cs)], true, true⟩]) rfl rfl hC (by decide) (.obj 2 rfl (renFl rfl) (.obj 3 rfl (renFl rfl) .nil)) (.cons (.o (.c (.ptr 2 0 _ rfl))) (.cons (.o (.c (.ptr 3 1 _ rfl))) (.cons (renFlV rfl) (.cons (renFlV rfl) .nil)))) ?_
    exact ⟨(x10.1, true, x10.2.2), hm.ret, (.cons rfl (.cons rfl (.cons rfl (.cons rfl .nil)))), rfl⟩
   ·intro c12; replace hm := hm.ifn (by rw [c12]; exact Bool.false_ne_true)
    refine .t (VI (x10.2.2)) (e_ext (ev_t rfl) rfl) ?_
    refine .t (.o (.c (.ptr (h.length + 3) 0))) (e_allocN (L' := [⟨[.L 1 (x6.2.l_.map c_u8), I (x6.2.at_)], true, true⟩, ⟨[.L 4 (x5.1.held.map Grant.cs), .L 4 (x5.1.waiting.map Grant.cs)], true, true⟩, ⟨[I (x6.1.tx), I (x6.1.lock.page), I (x6.1.lock.slot), I (x6.1.mode)], true, true⟩, ⟨[.v (.slice none 0 0), .v (.slice none 0 0)], true, true⟩]) rfl zo69 rfl rfl) ?_
    refine .s0 rfl rfl (e_stN (L' := [⟨[.L 1 (x6.2.l_.map c_u8), I (x6.2.at_)], true, true⟩, ⟨[.L 4 (x5.1.held.map Grant.cs), .L 4 (x5.1.waiting.map Grant.cs)], true, true⟩, ⟨[I (x6.1.tx), I (x6.1.lock.page), I (x6.1.lock.slot), I (x6.1.mode)], true, true⟩, ⟨[.L 4 (x10.1.held.map Grant.cs), .L 4 (x10.1.waiting.map Grant.cs)], true, true⟩]) rfl (ev_t rfl) (ev_t rfl) ty69 rfl rfl rfl rfl rfl) ?_
    refine .a rfl ?_
    refine .a rfl ?_
    refine .nil ?_
    refine .re (σ := [2, 3]) (X := [(5, .o (.c (.ptr (h.length + 0) 0))), (6, .o (.c (.ptr (h.length + 1) 0))), (7, VB (false)), (8, VI (x10.2.2))]) (L' := [⟨[I (x6.1.tx), I (x6.1.lock.page), I (x6.1.lock.slot), I (x6.1.mode)], true, true⟩, ⟨[.L 4 (x10.1.held.map Grant.cs), .L 4 (x10.1.waiting.map Grant.cs)], true, true⟩]) rfl rfl hC (by decide) (.obj 2 rfl (renFl rfl) (.obj 3 rfl (renFl rfl) .nil)) (.cons (.o (.c (.ptr 2 0 _ rfl))) (.cons (.o (.c (.ptr 3 1 _ rfl))) (.cons (renFlV rfl) (.cons (renFlV rfl) .nil)))) ?_
    exact ⟨(x10.1, false, x10.2.2), hm.ret, (.cons rfl (.cons rfl (.cons rfl (.cons rfl .nil)))), rfl⟩
  ·rintro ⟨u7, held8, e9⟩ T0 hm
   show CdOK _ _ _ (look T0 [(5, .o (.c (.ptr (h.length + 0) 0))), (6, .o (.c (.ptr (h.length + 1) 0))), (7, VB (held8)), (8, VI (e9))]) (h ++ ([⟨[I (x6.1.tx), I (x6.1.lock.page), I (x6.1.lock.slot), I (x6.1.mode)], true, true⟩, ⟨[.L 4 (u7.held.map Grant.cs), .L 4 (u7.waiting.map Grant.cs)], true, true⟩] : Heap)) _
   refine .seq ?_
   refine .seq ?_
   refine .region ?_
   refine .m rfl ?_
   refine .t (VB (decide (e9 ≠ 0))) (e_neK (ev_t rfl) rfl) ?_
   refine .nil ?_
   refine CdOK.condD (ev_t rfl) ?_ ?_
   ·intro c14; replace hm := hm.ifp c14
    refine .seq ?_
    refine .region ?_
    refine .m rfl ?_
    refine .t (VB (decide (e9 = 15))) (e_eqK (ev_t rfl) rfl) ?_
    refine .a rfl ?_
    refine .nil ?_
    refine CdOK.ret ?_
    refine ⟨.inr rfl, _, rfl, h, _, _, rfl, rfl, hC, ((renFlV rfl) : RenV _ _ _ _ (VB (decide (e9 = 15)))), ?_⟩
    cases hm.ret; exact ⟨rfl, rfl⟩
   ·intro c15; replace hm := hm.ifn c15
    refine .skip ?_
    refine CdOK.seq ?_
    refine .region ?_
    refine .t _ (e_ldbA (ev_t rfl) ty69 (bx rfl rfl) rfl rfl) ?_
    refine .t _ (e_ldbA (ev_t rfl) ty75 (bx rfl rfl) rfl rfl) ?_
    obtain ⟨x16, e16, hm⟩ := hm.call
    refine .cl rfl rfl rfl rfl pl41 (R2.wk _) (locks_Request_ok    e16) ?_
    rintro _ _ ⟨rfl, rfl⟩
    refine .m rfl ?_
    refine .t (.o (.agg [.L 4 (x16.1.held.map Grant.cs), .L 4 (x16.1.waiting.map Grant.cs)])) (e_ext (ev_t rfl) rfl) ?_
    refine .t (VB (x16.2.1)) (e_ext (ev_t rfl) rfl) ?_
    refine .t (VI (x16.2.2)) (e_ext (ev_t rfl) rfl) ?_
    refine .t (.o (.c (.ptr (h.length + 2) 0))) (e_allocN (L' := [⟨[I (x6.1.tx), I (x6.1.lock.page), I (x6.1.lock.slot), I (x6.1.mode)], true, true⟩, ⟨[.L 4 (u7.held.map Grant.cs), .L 4 (u7.waiting.map Grant.cs)], true, true⟩, ⟨[.v (.slice none 0 0), .v (.slice none 0 0)], true, true⟩]) rfl zo69 rfl rfl) ?_
    refine .s0 rfl rfl (e_stN (L' := [⟨[I (x6.1.tx), I (x6.1.lock.page), I (x6.1.lock.slot), I (x6.1.mode)], true, true⟩, ⟨[.L 4 (u7.held.map Grant.cs), .L 4 (u7.waiting.map Grant.cs)], true, true⟩, ⟨[.L 4 (x16.1.held.map Grant.cs), .L 4 (x16.1.waiting.map Grant.cs)], true, true⟩]) rfl (ev_t rfl) (ev_t rfl) ty69 rfl rfl rfl rfl rfl) ?_
    refine .a rfl ?_
    refine .a rfl ?_
    refine .nil ?_
    refine CdOK.seq ?_
    refine .seq ?_
    refine .region ?_
    refine .m rfl ?_
    refine .sd rfl rfl rfl (e_neK (ev_t rfl) rfl) ?_ ?_
    ·intro c17; replace hm := hm.ifp c17
     refine .m rfl ?_
     refine .k ?_
     refine .k ?_
     refine .k ?_
     refine .t (VB (true)) (e_pick (t := true) (ev_t rfl) rfl) ?_
     refine .m rfl ?_
     refine .k ?_
     refine .k ?_
     refine .k ?_
     refine .k ?_
     refine .t (VB (true)) (e_pick (t := true) (ev_t rfl) rfl) ?_
     refine .nil ?_
     refine CdOK.cond_true rfl ?_
     refine .seq ?_
     refine .region ?_
     refine .t (VB (false)) (e_as rfl) ?_
     refine .nil ?_
     refine CdOK.ret ?_
     refine ⟨.inr rfl, _, rfl, h, _, _, rfl, rfl, hC, ((renFlV rfl) : RenV _ _ _ _ (VB (false))), ?_⟩
     cases hm.ret; exact ⟨rfl, rfl⟩
    ·intro c18; replace hm := hm.ifn c18
     refine .m rfl ?_
     refine .m rfl ?_
     refine .m rfl ?_
     refine .sb rfl rfl rfl (e_neB (ev_t rfl) (ev_t rfl) bo4) ?_ ?_
     ·intro c19; replace hm := hm.ifp c19
      refine .t (VB (true)) (e_pick (t := false) (ev_t rfl) (ev_t rfl)) ?_
      refine .m rfl ?_
      refine .k ?_
      refine .k ?_
      refine .k ?_
      refine .k ?_
      refine .t (VB (true)) (e_pick (t := true) (ev_t rfl) rfl) ?_
      refine .nil ?_
      refine CdOK.cond_true rfl ?_
      refine .seq ?_
      refine .region ?_
      refine .t (VB (false)) (e_as rfl) ?_
      refine .nil ?_
      refine CdOK.ret ?_
      refine ⟨.inr rfl, _, rfl, h, _, _, rfl, rfl, hC, ((renFlV rfl) : RenV _ _ _ _ (VB (false))), ?_⟩
      cases hm.ret; exact ⟨rfl, rfl⟩
     ·intro c20; replace hm := hm.ifn (by rw [c20]; exact Bool.false_ne_true)
      refine .t (VB (false)) (e_pick (t := false) (ev_t rfl) (ev_t rfl)) ?_
      refine .m rfl ?_
      refine .t _ (e_ldbA (ev_t rfl) ty69 (bx rfl rfl) rfl rfl) ?_
      refine .t _ (e_ldbA (ev_t rfl) ty69 (bx rfl rfl) rfl rfl) ?_
      obtain ⟨x21, e21, hm⟩ := hm.call
      refine .cl rfl rfl rfl rfl pl51 (R2.wk _) (ref08_Same_ok    e21) ?_
      rintro _ _ ⟨rfl, rfl⟩
      refine .t (VB ((!x21))) (e_un (ev_t rfl) rfl) ?_
      refine .t (VB ((!x21))) (e_pick (t := false) (ev_t rfl) (ev_t rfl)) ?_
      refine .nil ?_
      refine CdOK.condB (ev_t rfl) ?_ ?_
      ·intro c22; replace hm := hm.ifp c22
       refine .seq ?_
       refine .region ?_
       refine .t (VB (false)) (e_as rfl) ?_
       refine .nil ?_
       refine CdOK.ret ?_
       refine ⟨.inr rfl, _, rfl, h, _, _, rfl, rfl, hC, ((renFlV rfl) : RenV _ _ _ _ (VB (false))), ?_⟩
       cases hm.ret; exact ⟨rfl, rfl⟩
      ·intro c23; replace hm := hm.ifn c23
       refine .skip ?_
       replace hm := hm.bnd
       refine CdOK.joinE (σ := Unit) (fun s => Sum.inl ()) hm (fun s => [(5, .o (.c (.ptr (h.length + 0) 0))), (6, .o (.c (.ptr (h.length + 1) 0))), (7, VB (held8))]) (fun s => h ++ ([⟨[I (x6.1.tx), I (x6.1.lock.page), I (x6.1.lock.slot), I (x6.1.mode)], true, true⟩, ⟨[.L 4 (u7.held.map Grant.cs), .L 4 (u7.waiting.map Grant.cs)], true, true⟩] : Heap)) ?_ ?_
       ·intro hm
        refine .seq ?_
        refine .region ?_
        refine .m rfl ?_
        refine .nil ?_
        refine CdOK.condB (ev_t rfl) ?_ ?_
        ·intro c24; replace hm := hm.ifp c24
         refine .seq ?_
         refine .region ?_
         refine .t _ (e_ldbA (ev_t rfl) ty75 (bx rfl rfl) rfl rfl) ?_
         refine .t (.o (.c (.ptr (h.length + 3) 0))) (e_allocN (L' := [⟨[I (x6.1.tx), I (x6.1.lock.page), I (x6.1.lock.slot), I (x6.1.mode)], true, true⟩, ⟨[.L 4 (u7.held.map Grant.cs), .L 4 (u7.waiting.map Grant.cs)], true, true⟩, ⟨[.L 4 (x16.1.held.map Grant.cs), .L 4 (x16.1.waiting.map Grant.cs)], true, true⟩, ⟨[I (0), I (0), I (0), I (0)], true, true⟩]) rfl zo75 rfl rfl) ?_
         refine .s0 rfl rfl (e_stN (L' := [⟨[I (x6.1.tx), I (x6.1.lock.page), I (x6.1.lock.slot), I (x6.1.mode)], true, true⟩, ⟨[.L 4 (u7.held.map Grant.cs), .L 4 (u7.waiting.map Grant.cs)], true, true⟩, ⟨[.L 4 (x16.1.held.map Grant.cs), .L 4 (x16.1.waiting.map Grant.cs)], true, true⟩, ⟨[I (x6.1.tx), I (x6.1.lock.page), I (x6.1.lock.slot), I (x6.1.mode)], true, true⟩]) rfl (ev_t rfl) (ev_t rfl) ty75 rfl rfl rfl rfl rfl) ?_
         refine .nil ?_
         refine CdOK.seq ?_
         refine .region ?_
         refine .t _ (e_fa' fa75_2 (ev_t rfl)) ?_
         refine .s0 rfl rfl (e_stN (L' := [⟨[I (x6.1.tx), I (x6.1.lock.page), I (x6.1.lock.slot), I (x6.1.mode)], true, true⟩, ⟨[.L 4 (u7.held.map Grant.cs), .L 4 (u7.waiting.map Grant.cs)], true, true⟩, ⟨[.L 4 (x16.1.held.map Grant.cs), .L 4 (x16.1.waiting.map Grant.cs)], true, true⟩, ⟨[I (x6.1.tx), I (x6.1.lock.page), I (x6.1.lock.slot), I (1)], true, true⟩]) rfl (ev_t rfl) rfl ty3 rfl rfl rfl rfl rfl) ?_
         refine .nil ?_
         replace hm := hm.bnd
         refine CdOK.joinE (σ := (Locks × Bool × Int)) (fun s => (s.1, s.2.1, s.2.2)) hm (fun s => [(5, .o (.c (.ptr (h.length + 0) 0))), (6, .o (.c (.ptr (h.length + 1) 0))), (7, VB (held8)), (13, .o (.c (.ptr (h.length + 2) 0))), (14, VB (s.2.1)), (15, VI (s.2.2))]) (fun s => h ++ ([⟨[I (x6.1.tx), I (x6.1.lock.page), I (x6.1.lock.slot), I (x6.1.mode)], true, true⟩, ⟨[.L 4 (u7.held.map Grant.cs), .L 4 (u7.waiting.map Grant.cs)], true, true⟩, ⟨[.L 4 (s.1.held.map Grant.cs), .L 4 (s.1.waiting.map Grant.cs)], true, true⟩] : Heap)) ?_ ?_
         ·intro hm
          refine .region ?_
          refine .t _ (e_ldbA (ev_t rfl) ty69 (bx rfl rfl) rfl rfl) ?_
          refine .t _ (e_ldbA (ev_t rfl) ty75 (bx rfl rfl) rfl rfl) ?_
          obtain ⟨x28, e28, hm⟩ := hm.call
          refine .cl rfl rfl rfl rfl pl41 (R2.wk _) (locks_Request_ok    e28) ?_
          rintro _ _ ⟨rfl, rfl⟩
          refine .m rfl ?_
          refine .t (.o (.agg [.L 4 (x28.1.held.map Grant.cs), .L 4 (x28.1.waiting.map Grant.cs)])) (e_ext (ev_t rfl) rfl) ?_
          refine .sb rfl rfl rfl (e_ext (ev_t rfl) rfl) ?_ ?_
          ·intro c29; replace hm := hm.ifp c29
           refine .t (VI (x28.2.2)) (e_ext (ev_t rfl) rfl) ?_
           refine .t (.o (.c (.ptr (h.length + 4) 0))) (e_allocN (L' := [⟨[I (x6.1.tx), I (x6.1.lock.page), I (x6.1.lock.slot), I (x6.1.mode)], true, true⟩, ⟨[.L 4 (u7.held.map Grant.cs), .L 4 (u7.waiting.map Grant.cs)], true, true⟩, ⟨[.L 4 (x16.1.held.map Grant.cs), .L 4 (x16.1.waiting.map Grant.cs)], true, true⟩, ⟨[I (x6.1.tx), I (x6.1.lock.page), I (x6.1.lock.slot), I (1)], true, true⟩, ⟨[.v (.slice none 0 0), .v (.slice none 0 0)], true, true⟩]) rfl zo69 rfl rfl) ?_
           refine .s0 rfl rfl (e_stN (L' := [⟨[I (x6.1.tx), I (x6.1.lock.page), I (x6.1.lock.slot), I (x6.1.mode)], true, true⟩, ⟨[.L 4 (u7.held.map Grant.cs), .L 4 (u7.waiting.map Grant.cs)], true, true⟩, ⟨[.L 4 (x16.1.held.map Grant.cs), .L 4 (x16.1.waiting.map Grant.cs)], true, true⟩, ⟨[I (x6.1.tx), I (x6.1.lock.page), I (x6.1.lock.slot), I (1)], true, true⟩, ⟨[.L 4 (x28.1.held.map Grant.cs), .L 4 (x28.1.waiting.map Grant.cs)], true, true⟩]) rfl (ev_t rfl) (ev_t rfl) ty69 rfl rfl rfl rfl rfl) ?_
           refine .a rfl ?_
           refine .a rfl ?_
           refine .nil ?_
           refine .re (σ := [0, 1, 4]) (X := [(5, .o (.c (.ptr (h.length + 0) 0))), (6, .o (.c (.ptr (h.length + 1) 0))), (7, VB (held8)), (13, .o (.c (.ptr (h.length + 2) 0))), (14, VB (true)), (15, VI (x28.2.2))]) (L' := [⟨[I (x6.1.tx), I (x6.1.lock.page), I (x6.1.lock.slot), I (x6.1.mode)], true, true⟩, ⟨[.L 4 (u7.held.map Grant.cs), .L 4 (u7.waiting.map Grant.cs)], true, true⟩, ⟨[.L 4 (x28.1.held.map Grant.cs), .L 4 (x28.1.waiting.map Grant.cs)], true, true⟩]) rfl rfl hC (by decide) (.obj 0 rfl (renFl rfl) (.obj 1 rfl (renFl rfl) (.obj 4 rfl (renFl rfl) .nil))) (.cons (.o (.c (.ptr 0 0 _ rfl))) (.cons (.o (.c (.ptr 1 1 _ rfl))) (.cons (renFlV rfl) (.cons (.o (.c (.ptr 4 2 _ rfl))) (.cons (renFlV rfl) (.cons (renFlV rfl) .nil)))))) ?_
           exact ⟨(x28.1, true, x28.2.2), hm.ret, (.cons rfl (.cons rfl (.cons rfl (.cons rfl (.cons rfl (.cons rfl .nil)))))), rfl⟩
          ·intro c30; replace hm := hm.ifn (by rw [c30]; exact Bool.false_ne_true)
           refine .t (VI (x28.2.2)) (e_ext (ev_t rfl) rfl) ?_
           refine .t (.o (.c (.ptr (h.length + 4) 0))) (e_allocN (L' := [⟨[I (x6.1.tx), I (x6.1.lock.page), I (x6.1.lock.slot), I (x6.1.mode)], true, true⟩, ⟨[.L 4 (u7.held.map Grant.cs), .L 4 (u7.waiting.map Grant.cs)], true, true⟩, ⟨[.L 4 (x16.1.held.map Grant.cs), .L 4 (x16.1.waiting.map Grant.cs)], true, true⟩, ⟨[I (x6.1.tx), I (x6.1.lock.page), I (x6.1.lock.slot), I (1)], true, true⟩, ⟨[.v (.slice none 0 0), .v (.slice none 0 0)], true, true⟩]) rfl zo69 rfl rfl) ?_
           refine .s0 rfl rfl (e_stN (L' := [⟨[I (x6.1.tx), I (x6.1.lock.page), I (x6.1.lock.slot), I (x6.1.mode)], true, true⟩, ⟨[.L 4 (u7.held.map Grant.cs), .L 4 (u7.waiting.map Grant.cs)], true, true⟩, ⟨[.L 4 (x16.1.held.map Grant.cs), .L 4 (x16.1.waiting.map Grant.cs)], true, true⟩, ⟨[I (x6.1.tx), I (x6.1.lock.page), I (x6.1.lock.slot), I (1)], true, true⟩, ⟨[.L 4 (x28.1.held.map Grant.cs), .L 4 (x28.1.waiting.map Grant.cs)], true, true⟩]) rfl (ev_t rfl) (ev_t rfl) ty69 rfl rfl rfl rfl rfl) ?_
           refine .a rfl ?_
           refine .a rfl ?_
           refine .nil ?_
           refine .re (σ := [0, 1, 4]) (X := [(5, .o (.c (.ptr (h.length + 0) 0))), (6, .o (.c (.ptr (h.length + 1) 0))), (7, VB (held8)), (13, .o (.c (.ptr (h.length + 2) 0))), (14, VB (false)), (15, VI (x28.2.2))]) (L' := [⟨[I (x6.1.tx), I (x6.1.lock.page), I (x6.1.lock.slot), I (x6.1.mode)], true, true⟩, ⟨[.L 4 (u7.held.map Grant.cs), .L 4 (u7.waiting.map Grant.cs)], true, true⟩, ⟨[.L 4 (x28.1.held.map Grant.cs), .L 4 (x28.1.waiting.map Grant.cs)], true, true⟩]) rfl rfl hC (by decide) (.obj 0 rfl (renFl rfl) (.obj 1 rfl (renFl rfl) (.obj 4 rfl (renFl rfl) .nil))) (.cons (.o (.c (.ptr 0 0 _ rfl))) (.cons (.o (.c (.ptr 1 1 _ rfl))) (.cons (renFlV rfl) (.cons (.o (.c (.ptr 4 2 _ rfl))) (.cons (renFlV rfl) (.cons (renFlV rfl) .nil)))))) ?_
           exact ⟨(x28.1, false, x28.2.2), hm.ret, (.cons rfl (.cons rfl (.cons rfl (.cons rfl (.cons rfl (.cons rfl .nil)))))), rfl⟩
         ·rintro ⟨w25, ok26, h27⟩ T0 hm
          show CdOK _ _ _ (look T0 [(5, .o (.c (.ptr (h.length + 0) 0))), (6, .o (.c (.ptr (h.length + 1) 0))), (7, VB (held8)), (13, .o (.c (.ptr (h.length + 2) 0))), (14, VB (ok26)), (15, VI (h27))]) (h ++ ([⟨[I (x6.1.tx), I (x6.1.lock.page), I (x6.1.lock.slot), I (x6.1.mode)], true, true⟩, ⟨[.L 4 (u7.held.map Grant.cs), .L 4 (u7.waiting.map Grant.cs)], true, true⟩, ⟨[.L 4 (w25.held.map Grant.cs), .L 4 (w25.waiting.map Grant.cs)], true, true⟩] : Heap)) _
          refine .seq ?_
          refine .region ?_
          refine .m rfl ?_
          refine .sd rfl rfl rfl (e_neK (ev_t rfl) rfl) ?_ ?_
          ·intro c32; replace hm := hm.ifp c32
           refine .m rfl ?_
           refine .k ?_
           refine .k ?_
           refine .t (VB (true)) (e_pick (t := true) (ev_t rfl) rfl) ?_
           refine .m rfl ?_
           refine .k ?_
           refine .k ?_
           refine .k ?_
           refine .k ?_
           refine .t (VB (true)) (e_pick (t := true) (ev_t rfl) rfl) ?_
           refine .nil ?_
           refine CdOK.cond_true rfl ?_
           refine .seq ?_
           refine .region ?_
           refine .t (VB (false)) (e_as rfl) ?_
           refine .nil ?_
           refine CdOK.ret ?_
           refine ⟨.inr rfl, _, rfl, h, _, _, rfl, rfl, hC, ((renFlV rfl) : RenV _ _ _ _ (VB (false))), ?_⟩
           have hr := hm.ret; replace hr := Ev.ret hr; cases hr; exact ⟨rfl, rfl⟩
          ·intro c33; replace hm := hm.ifn c33
           refine .m rfl ?_
           refine .sb rfl rfl rfl (e_mv (ev_t rfl)) ?_ ?_
           ·intro c34; replace hm := hm.ifp c34
            refine .t (VB (false)) (e_un (ev_t rfl) rfl) ?_
            refine .t (VB (false)) (e_pick (t := false) (ev_t rfl) (ev_t rfl)) ?_
            refine .m rfl ?_
            refine .t _ (e_ldbA (ev_t rfl) ty69 (bx rfl rfl) rfl rfl) ?_
            refine .t _ (e_ldbA (ev_t rfl) ty69 (bx rfl rfl) rfl rfl) ?_
            obtain ⟨x35, e35, hm⟩ := hm.call
            refine .cl rfl rfl rfl rfl pl51 (R2.wk _) (ref08_Same_ok    e35) ?_
            rintro _ _ ⟨rfl, rfl⟩
            refine .t (VB ((!x35))) (e_un (ev_t rfl) rfl) ?_
            refine .t (VB ((!x35))) (e_pick (t := false) (ev_t rfl) (ev_t rfl)) ?_
            refine .nil ?_
            refine CdOK.condB (ev_t rfl) ?_ ?_
            ·intro c36; replace hm := hm.ifp c36
             refine .seq ?_
             refine .region ?_
             refine .t (VB (false)) (e_as rfl) ?_
             refine .nil ?_
             refine CdOK.ret ?_
             refine ⟨.inr rfl, _, rfl, h, _, _, rfl, rfl, hC, ((renFlV rfl) : RenV _ _ _ _ (VB (false))), ?_⟩
             have hr := hm.ret; replace hr := Ev.ret hr; cases hr; exact ⟨rfl, rfl⟩
            ·intro c37; replace hm := hm.ifn c37
             refine .skip ?_
             refine .re (σ := [0, 1]) (X := [(5, .o (.c (.ptr (h.length + 0) 0))), (6, .o (.c (.ptr (h.length + 1) 0))), (7, VB (held8))]) (L' := [⟨[I (x6.1.tx), I (x6.1.lock.page), I (x6.1.lock.slot), I (x6.1.mode)], true, true⟩, ⟨[.L 4 (u7.held.map Grant.cs), .L 4 (u7.waiting.map Grant.cs)], true, true⟩]) rfl rfl hC (by decide) (.obj 0 rfl (renFl rfl) (.obj 1 rfl (renFl rfl) .nil)) (.cons (.o (.c (.ptr 0 0 _ rfl))) (.cons (.o (.c (.ptr 1 1 _ rfl))) (.cons (renFlV rfl) .nil))) ?_
             exact ⟨(), hm.ret, (.cons rfl (.cons rfl (.cons rfl .nil))), rfl⟩
           ·intro c38; replace hm := hm.ifn (by rw [c38]; exact Bool.false_ne_true)
            refine .t (VB (true)) (e_un (ev_t rfl) rfl) ?_
            refine .t (VB (true)) (e_pick (t := false) (ev_t rfl) (ev_t rfl)) ?_
            refine .m rfl ?_
            refine .k ?_
            refine .k ?_
            refine .k ?_
            refine .k ?_
            refine .t (VB (true)) (e_pick (t := true) (ev_t rfl) rfl) ?_
            refine .nil ?_
            refine CdOK.cond_true rfl ?_
            refine .seq ?_
            refine .region ?_
            refine .t (VB (false)) (e_as rfl) ?_
            refine .nil ?_
            refine CdOK.ret ?_
            refine ⟨.inr rfl, _, rfl, h, _, _, rfl, rfl, hC, ((renFlV rfl) : RenV _ _ _ _ (VB (false))), ?_⟩
            have hr := hm.ret; replace hr := Ev.ret hr; cases hr; exact ⟨rfl, rfl⟩
        ·intro c39; replace hm := hm.ifn c39
         refine .skip ?_
         refine .re (σ := [0, 1]) (X := [(5, .o (.c (.ptr (h.length + 0) 0))), (6, .o (.c (.ptr (h.length + 1) 0))), (7, VB (held8))]) (L' := [⟨[I (x6.1.tx), I (x6.1.lock.page), I (x6.1.lock.slot), I (x6.1.mode)], true, true⟩, ⟨[.L 4 (u7.held.map Grant.cs), .L 4 (u7.waiting.map Grant.cs)], true, true⟩]) rfl rfl hC (by decide) (.obj 0 rfl (renFl rfl) (.obj 1 rfl (renFl rfl) .nil)) (.cons (.o (.c (.ptr 0 0 _ rfl))) (.cons (.o (.c (.ptr 1 1 _ rfl))) (.cons (renFlV rfl) .nil))) ?_
         exact ⟨(), hm.ret, (.cons rfl (.cons rfl (.cons rfl .nil))), rfl⟩
       ·intro _ T0 hm
        show CdOK _ _ _ (look T0 [(5, .o (.c (.ptr (h.length + 0) 0))), (6, .o (.c (.ptr (h.length + 1) 0))), (7, VB (held8))]) (h ++ ([⟨[I (x6.1.tx), I (x6.1.lock.page), I (x6.1.lock.slot), I (x6.1.mode)], true, true⟩, ⟨[.L 4 (u7.held.map Grant.cs), .L 4 (u7.waiting.map Grant.cs)], true, true⟩] : Heap)) _
        replace hm : Ev _ _ := hm
        refine .seq ?_
        refine .draw2 (ord := [0, 1, 2, 3, 4, 5, 6, 7, 8, 9, 10, 11, 12, 13, 14, 15, 16, 17, 18, 19]) (chain := [14, 15, 16, 17, 18, 19]) fol (by decide +kernel) (by decide +kernel) ?_
        refine .q _ (e_ldbA (ev_t rfl) ty69 (bx rfl rfl) rfl rfl) ?_
        refine .p _ (e_fa' fa75_0 (ev_t rfl)) ?_
        refine .q _ (e_ldb1 (ev_t rfl) ty3 (bx rfl rfl) rfl) ?_
        obtain ⟨x41, e41, hm⟩ := hm.call
        refine .fc (v := .o (.agg [.L 4 (x41.held.map Grant.cs), .L 4 (x41.waiting.map Grant.cs)])) rfl rfl rfl rfl rfl rfl rfl pl43 (R2.wk _) (locks_Release_ok    e41) ?_
        refine .q _ (e_ldbA (ev_t rfl) ty69 (bx rfl rfl) rfl rfl) ?_
        refine .p _ (e_fa' fa75_0 (ev_t rfl)) ?_
        refine .q _ (e_ldb1 (ev_t rfl) ty3 (bx rfl rfl) rfl) ?_
        obtain ⟨x42, e42, hm⟩ := hm.call
        refine .fc (v := .o (.agg [.L 4 (x42.held.map Grant.cs), .L 4 (x42.waiting.map Grant.cs)])) rfl rfl rfl rfl rfl rfl rfl pl57 (R2.wk _) (locks_Cancel_ok    e42) ?_
        refine .q _ (e_ldbA (ev_t rfl) ty69 (bx rfl rfl) rfl rfl) ?_
        refine .p _ (e_fa' fa75_0 (ev_t rfl)) ?_
        refine .q _ (e_ldb1 (ev_t rfl) ty3 (bx rfl rfl) rfl) ?_
        refine .p _ (e_fa' fa75_1 (ev_t rfl)) ?_
        refine .q _ (e_ldbA (ev_t rfl) ty71 (bx rfl rfl) rfl rfl) ?_
        obtain ⟨x43, e43, hm⟩ := hm.call
        refine .fc (v := .o (.agg [.L 4 (x43.held.map Grant.cs), .L 4 (x43.waiting.map Grant.cs)])) rfl rfl rfl rfl rfl rfl rfl pl53 (R2.wk _) (locks_Drop_ok    e43) ?_
        refine .c (v := .o (.c (.ptr (h.length + 2) 0))) rfl rfl rfl rfl rfl (e_allocN (L' := [⟨[I (x6.1.tx), I (x6.1.lock.page), I (x6.1.lock.slot), I (x6.1.mode)], true, true⟩, ⟨[.L 4 (u7.held.map Grant.cs), .L 4 (u7.waiting.map Grant.cs)], true, true⟩, ⟨[.v (.slice none 0 0), .v (.slice none 0 0)], true, true⟩]) rfl zo69 rfl rfl) (.c rfl rfl rfl pl53 (R2.wk _) (locks_Drop_ok    e43) (.e rfl rfl (e_ldbA (ev_t rfl) ty71 (bx rfl rfl) rfl rfl) (.e rfl rfl (e_ldb1 (ev_t rfl) ty3 (bx rfl rfl) rfl) (.e rfl rfl (e_ldbA (ev_t rfl) ty69 (bx rfl rfl) rfl rfl) (.c rfl rfl rfl pl57 (R2.wk _) (locks_Cancel_ok    e42) (.e rfl rfl (e_ldb1 (ev_t rfl) ty3 (bx rfl rfl) rfl) (.e rfl rfl (e_ldbA (ev_t rfl) ty69 (bx rfl rfl) rfl rfl) (.c rfl rfl rfl pl43 (R2.wk _) (locks_Release_ok    e41) (.e rfl rfl (e_ldb1 (ev_t rfl) ty3 (bx rfl rfl) rfl) (.e rfl rfl (e_ldbA (ev_t rfl) ty69 (bx rfl rfl) rfl rfl) .nil)))))))))) ?_
        refine .c (v := .o (.c (.ptr (h.length + 3) 0))) rfl rfl rfl rfl rfl (e_allocN (L' := [⟨[I (x6.1.tx), I (x6.1.lock.page), I (x6.1.lock.slot), I (x6.1.mode)], true, true⟩, ⟨[.L 4 (u7.held.map Grant.cs), .L 4 (u7.waiting.map Grant.cs)], true, true⟩, ⟨[.v (.slice none 0 0), .v (.slice none 0 0)], true, true⟩, ⟨[.v (.slice none 0 0), .v (.slice none 0 0)], true, true⟩]) rfl zo69 rfl rfl) (.c rfl rfl rfl pl53 (R2.wk _) (locks_Drop_ok    e43) (.e rfl rfl (e_ldbA (ev_t rfl) ty71 (bx rfl rfl) rfl rfl) (.e rfl rfl (e_ldb1 (ev_t rfl) ty3 (bx rfl rfl) rfl) (.e rfl rfl (e_ldbA (ev_t rfl) ty69 (bx rfl rfl) rfl rfl) (.c rfl rfl rfl pl57 (R2.wk _) (locks_Cancel_ok    e42) (.e rfl rfl (e_ldb1 (ev_t rfl) ty3 (bx rfl rfl) rfl) (.e rfl rfl (e_ldbA (ev_t rfl) ty69 (bx rfl rfl) rfl rfl) (.c rfl rfl rfl pl43 (R2.wk _) (locks_Release_ok    e41) (.e rfl rfl (e_ldb1 (ev_t rfl) ty3 (bx rfl rfl) rfl) (.e rfl rfl (e_ldbA (ev_t rfl) ty69 (bx rfl rfl) rfl rfl) .nil)))))))))) ?_
        refine .c (v := .o (.c (.ptr (h.length + 4) 0))) rfl rfl rfl rfl rfl (e_allocN (L' := [⟨[I (x6.1.tx), I (x6.1.lock.page), I (x6.1.lock.slot), I (x6.1.mode)], true, true⟩, ⟨[.L 4 (u7.held.map Grant.cs), .L 4 (u7.waiting.map Grant.cs)], true, true⟩, ⟨[.v (.slice none 0 0), .v (.slice none 0 0)], true, true⟩, ⟨[.v (.slice none 0 0), .v (.slice none 0 0)], true, true⟩, ⟨[.v (.slice none 0 0), .v (.slice none 0 0)], true, true⟩]) rfl zo69 rfl rfl) (.c rfl rfl rfl pl53 (R2.wk _) (locks_Drop_ok    e43) (.e rfl rfl (e_ldbA (ev_t rfl) ty71 (bx rfl rfl) rfl rfl) (.e rfl rfl (e_ldb1 (ev_t rfl) ty3 (bx rfl rfl) rfl) (.e rfl rfl (e_ldbA (ev_t rfl) ty69 (bx rfl rfl) rfl rfl) (.c rfl rfl rfl pl57 (R2.wk _) (locks_Cancel_ok    e42) (.e rfl rfl (e_ldb1 (ev_t rfl) ty3 (bx rfl rfl) rfl) (.e rfl rfl (e_ldbA (ev_t rfl) ty69 (bx rfl rfl) rfl rfl) (.c rfl rfl rfl pl43 (R2.wk _) (locks_Release_ok    e41) (.e rfl rfl (e_ldb1 (ev_t rfl) ty3 (bx rfl rfl) rfl) (.e rfl rfl (e_ldbA (ev_t rfl) ty69 (bx rfl rfl) rfl rfl) .nil)))))))))) ?_
        refine .c0 rfl rfl rfl rfl (e_stN (L' := [⟨[I (x6.1.tx), I (x6.1.lock.page), I (x6.1.lock.slot), I (x6.1.mode)], true, true⟩, ⟨[.L 4 (u7.held.map Grant.cs), .L 4 (u7.waiting.map Grant.cs)], true, true⟩, ⟨[.L 4 (x41.held.map Grant.cs), .L 4 (x41.waiting.map Grant.cs)], true, true⟩, ⟨[.v (.slice none 0 0), .v (.slice none 0 0)], true, true⟩, ⟨[.v (.slice none 0 0), .v (.slice none 0 0)], true, true⟩]) rfl (ev_t rfl) (ev_t rfl) ty69 rfl rfl rfl rfl rfl) (.m (by decide +kernel) (.m (by decide +kernel) (.m (by decide +kernel) (.m (by decide +kernel) (.m (by decide +kernel) (.m (by decide +kernel) (.m (by decide +kernel) (.m (by decide +kernel) (.m (by decide +kernel) (.m (by decide +kernel) .nil)))))))))) ?_
        refine .c0 rfl rfl rfl rfl (e_stN (L' := [⟨[I (x6.1.tx), I (x6.1.lock.page), I (x6.1.lock.slot), I (x6.1.mode)], true, true⟩, ⟨[.L 4 (u7.held.map Grant.cs), .L 4 (u7.waiting.map Grant.cs)], true, true⟩, ⟨[.L 4 (x41.held.map Grant.cs), .L 4 (x41.waiting.map Grant.cs)], true, true⟩, ⟨[.L 4 (x42.held.map Grant.cs), .L 4 (x42.waiting.map Grant.cs)], true, true⟩, ⟨[.v (.slice none 0 0), .v (.slice none 0 0)], true, true⟩]) rfl (ev_t rfl) (ev_t rfl) ty69 rfl rfl rfl rfl rfl) (.m (by decide +kernel) (.m (by decide +kernel) (.m (by decide +kernel) (.m (by decide +kernel) (.m (by decide +kernel) (.m (by decide +kernel) (.m (by decide +kernel) (.m (by decide +kernel) (.m (by decide +kernel) (.m (by decide +kernel) .nil)))))))))) ?_
        refine .c0 rfl rfl rfl rfl (e_stN (L' := [⟨[I (x6.1.tx), I (x6.1.lock.page), I (x6.1.lock.slot), I (x6.1.mode)], true, true⟩, ⟨[.L 4 (u7.held.map Grant.cs), .L 4 (u7.waiting.map Grant.cs)], true, true⟩, ⟨[.L 4 (x41.held.map Grant.cs), .L 4 (x41.waiting.map Grant.cs)], true, true⟩, ⟨[.L 4 (x42.held.map Grant.cs), .L 4 (x42.waiting.map Grant.cs)], true, true⟩, ⟨[.L 4 (x43.held.map Grant.cs), .L 4 (x43.waiting.map Grant.cs)], true, true⟩]) rfl (ev_t rfl) (ev_t rfl) ty69 rfl rfl rfl rfl rfl) (.m (by decide +kernel) (.m (by decide +kernel) (.m (by decide +kernel) (.m (by decide +kernel) (.m (by decide +kernel) (.m (by decide +kernel) (.m (by decide +kernel) (.m (by decide +kernel) (.m (by decide +kernel) (.m (by decide +kernel) .nil)))))))))) ?_
        refine .nil ?_
        refine CdOK.seq ?_
        refine .draw fol (by decide +kernel) ?_
        refine .t _ (e_ldbA (ev_t rfl) ty69 (bx rfl rfl) rfl rfl) ?_
        refine .t _ (e_fa' fa75_0 (ev_t rfl)) ?_
        refine .t _ (e_ldb1 (ev_t rfl) ty3 (bx rfl rfl) rfl) ?_
        obtain ⟨x44, e44, hm⟩ := hm.call
        refine .cl rfl rfl rfl rfl pl43 (R2.wk _) (locks_Release_ok    e44) ?_
        refine .t _ (e_ldbA (ev_t rfl) ty69 (bx rfl rfl) rfl rfl) ?_
        obtain ⟨x45, e45, hm⟩ := hm.call
        cases x45 with
        | true =>
         replace hm := hm.ifp rfl
         refine .cl rfl rfl rfl rfl pl51 (R2.wk _) (ref08_Same_ok    e45) ?_
         refine .m rfl ?_
         refine .t _ (e_ldbA (ev_t rfl) ty69 (bx rfl rfl) rfl rfl) ?_
         refine .t _ (e_fa' fa75_0 (ev_t rfl)) ?_
         refine .t _ (e_ldb1 (ev_t rfl) ty3 (bx rfl rfl) rfl) ?_
         obtain ⟨x46, e46, hm⟩ := hm.call
         refine .cl rfl rfl rfl rfl pl57 (R2.wk _) (locks_Cancel_ok    e46) ?_
         refine .t _ (e_ldbA (ev_t rfl) ty69 (bx rfl rfl) rfl rfl) ?_
         obtain ⟨x47, e47, hm⟩ := hm.call
         cases x47 with
         | true =>
          replace hm := hm.ifp rfl
          refine .cl rfl rfl rfl rfl pl51 (R2.wk _) (ref08_Same_ok    e47) ?_
          refine .t (VB (true)) (e_pick (t := true) (ev_t rfl) (ev_t rfl)) ?_
          refine .m rfl ?_
          refine .t _ (e_ldbA (ev_t rfl) ty69 (bx rfl rfl) rfl rfl) ?_
          refine .t _ (e_fa' fa75_0 (ev_t rfl)) ?_
          refine .t _ (e_ldb1 (ev_t rfl) ty3 (bx rfl rfl) rfl) ?_
          obtain ⟨x48, e48, hm⟩ := hm.call
          refine .cl rfl rfl rfl rfl pl57 (R2.wk _) (locks_Cancel_ok    e48) ?_
          refine .t _ (e_ldbA (ev_t rfl) ty69 (bx rfl rfl) rfl rfl) ?_
          obtain ⟨x49, e49, hm⟩ := hm.call
          cases x49 with
          | true =>
           replace hm := hm.ifp rfl
           refine .cl rfl rfl rfl rfl pl51 (R2.wk _) (ref08_Same_ok    e49) ?_
           refine .t (VB (true)) (e_pick (t := true) (ev_t rfl) (ev_t rfl)) ?_
           refine .m rfl ?_
           refine .t _ (e_ldbA (ev_t rfl) ty69 (bx rfl rfl) rfl rfl) ?_
           refine .t _ (e_fa' fa75_0 (ev_t rfl)) ?_
           refine .t _ (e_ldb1 (ev_t rfl) ty3 (bx rfl rfl) rfl) ?_
           refine .t _ (e_fa' fa75_1 (ev_t rfl)) ?_
           refine .t _ (e_ldbA (ev_t rfl) ty71 (bx rfl rfl) rfl rfl) ?_
           obtain ⟨x50, e50, hm⟩ := hm.call
           refine .cl rfl rfl rfl rfl pl42 (R2.wk _) (locks_Mode_ok    e50) ?_
           refine .sd rfl rfl rfl (e_eqK (ev_t rfl) rfl) ?_ ?_
           ·intro c51; replace hm := hm.ifp c51
            refine .t (VB (true)) (e_pick (t := true) (ev_t rfl) (ev_t rfl)) ?_
            refine .m rfl ?_
            refine .sb rfl rfl rfl (e_mv (ev_t rfl)) ?_ ?_
            ·intro c52; replace hm := hm.ifp c52
             refine .t (VB (false)) (e_un (ev_t rfl) rfl) ?_
             refine .m rfl ?_
             refine .t _ (e_ldbA (ev_t rfl) ty69 (bx rfl rfl) rfl rfl) ?_
             obtain ⟨x53, e53, hm⟩ := hm.call
             refine .cl rfl rfl rfl rfl pl44 (R2.wk _) (locks_Valid_ok    e53) ?_
             refine .t (VB (x53)) (e_pick (t := false) (ev_t rfl) (ev_t rfl)) ?_
             refine .t (VB (x53)) (e_pick (t := true) (ev_t rfl) (ev_t rfl)) ?_
             refine .a rfl ?_
             refine .nil ?_
             refine CdOK.ret ?_
             refine ⟨.inr rfl, _, rfl, h, _, _, rfl, rfl, hC, ((renFlV rfl) : RenV _ _ _ _ (VB (x53))), ?_⟩
             cases hm.ret; exact ⟨rfl, rfl⟩
            ·intro c54; replace hm := hm.ifn (by rw [c54]; exact Bool.false_ne_true)
             refine .t (VB (true)) (e_un (ev_t rfl) rfl) ?_
             refine .m rfl ?_
             refine .k ?_
             refine .k ?_
             refine .t (VB (true)) (e_pick (t := true) (ev_t rfl) rfl) ?_
             refine .t (VB (true)) (e_pick (t := true) (ev_t rfl) (ev_t rfl)) ?_
             refine .a rfl ?_
             refine .nil ?_
             refine CdOK.ret ?_
             refine ⟨.inr rfl, _, rfl, h, _, _, rfl, rfl, hC, ((renFlV rfl) : RenV _ _ _ _ (VB (true))), ?_⟩
             cases hm.ret; exact ⟨rfl, rfl⟩
           ·intro c55; replace hm := hm.ifn c55
            refine .t (VB (false)) (e_pick (t := true) (ev_t rfl) (ev_t rfl)) ?_
            refine .m rfl ?_
            refine .k ?_
            refine .k ?_
            refine .k ?_
            refine .k ?_
            refine .k ?_
            refine .k ?_
            refine .t (VB (false)) (e_pick (t := false) (ev_t rfl) rfl) ?_
            refine .a rfl ?_
            refine .nil ?_
            refine CdOK.ret ?_
            refine ⟨.inr rfl, _, rfl, h, _, _, rfl, rfl, hC, ((renFlV rfl) : RenV _ _ _ _ (VB (false))), ?_⟩
            cases hm.ret; exact ⟨rfl, rfl⟩
          | false =>
           replace hm := hm.ifn Bool.false_ne_true
           refine .cl rfl rfl rfl rfl pl51 (R2.wk _) (ref08_Same_ok    e49) ?_
           refine .t (VB (false)) (e_pick (t := true) (ev_t rfl) (ev_t rfl)) ?_
           refine .m rfl ?_
           refine .k ?_
           refine .k ?_
           refine .k ?_
           refine .k ?_
           refine .k ?_
           refine .k ?_
           refine .k ?_
           refine .t (VB (false)) (e_pick (t := false) (ev_t rfl) rfl) ?_
           refine .m rfl ?_
           refine .k ?_
           refine .k ?_
           refine .k ?_
           refine .k ?_
           refine .k ?_
           refine .k ?_
           refine .t (VB (false)) (e_pick (t := false) (ev_t rfl) rfl) ?_
           refine .a rfl ?_
           refine .nil ?_
           refine CdOK.ret ?_
           refine ⟨.inr rfl, _, rfl, h, _, _, rfl, rfl, hC, ((renFlV rfl) : RenV _ _ _ _ (VB (false))), ?_⟩
           cases hm.ret; exact ⟨rfl, rfl⟩
         | false =>
          replace hm := hm.ifn Bool.false_ne_true
          refine .cl rfl rfl rfl rfl pl51 (R2.wk _) (ref08_Same_ok    e47) ?_
          refine .t (VB (false)) (e_pick (t := true) (ev_t rfl) (ev_t rfl)) ?_
          refine .m rfl ?_
          refine .k ?_
          refine .k ?_
          refine .k ?_
          refine .k ?_
          refine .k ?_
          refine .k ?_
          refine .t (VB (false)) (e_pick (t := false) (ev_t rfl) rfl) ?_
          refine .m rfl ?_
          refine .k ?_
          refine .k ?_
          refine .k ?_
          refine .k ?_
          refine .k ?_
          refine .k ?_
          refine .k ?_
          refine .t (VB (false)) (e_pick (t := false) (ev_t rfl) rfl) ?_
          refine .m rfl ?_
          refine .k ?_
          refine .k ?_
          refine .k ?_
          refine .k ?_
          refine .k ?_
          refine .k ?_
          refine .t (VB (false)) (e_pick (t := false) (ev_t rfl) rfl) ?_
          refine .a rfl ?_
          refine .nil ?_
          refine CdOK.ret ?_
          refine ⟨.inr rfl, _, rfl, h, _, _, rfl, rfl, hC, ((renFlV rfl) : RenV _ _ _ _ (VB (false))), ?_⟩
          cases hm.ret; exact ⟨rfl, rfl⟩
        | false =>
         replace hm := hm.ifn Bool.false_ne_true
         refine .cl rfl rfl rfl rfl pl51 (R2.wk _) (ref08_Same_ok    e45) ?_
         refine .m rfl ?_
         refine .k ?_
         refine .k ?_
         refine .k ?_
         refine .k ?_
         refine .k ?_
         refine .k ?_
         refine .t (VB (false)) (e_pick (t := false) (ev_t rfl) rfl) ?_
         refine .m rfl ?_
         refine .k ?_
         refine .k ?_
         refine .k ?_
         refine .k ?_
         refine .k ?_
         refine .k ?_
         refine .t (VB (false)) (e_pick (t := false) (ev_t rfl) rfl) ?_
         refine .m rfl ?_
         refine .k ?_
         refine .k ?_
         refine .k ?_
         refine .k ?_
         refine .k ?_
         refine .k ?_
         refine .k ?_
         refine .t (VB (false)) (e_pick (t := false) (ev_t rfl) rfl) ?_
         refine .m rfl ?_
         refine .k ?_
         refine .k ?_
         refine .k ?_
         refine .k ?_
         refine .k ?_
         refine .k ?_
         refine .t (VB (false)) (e_pick (t := false) (ev_t rfl) rfl) ?_
         refine .a rfl ?_
         refine .nil ?_
         refine CdOK.ret ?_
         refine ⟨.inr rfl, _, rfl, h, _, _, rfl, rfl, hC, ((renFlV rfl) : RenV _ _ _ _ (VB (false))), ?_⟩
         cases hm.ret; exact ⟨rfl, rfl⟩
end Rv
