/- Chapter 8: the sanity check, as a plain function. -/
import Derived.Test.YtnlpkgamglhnbaaRvLck3
set_option linter.unusedVariables false
set_option linter.unusedSimpArgs false
namespace Rv
open Go Go.RowKit Go.Proofs
theorem bl71 : bldf Try.prog 71 [(0, 1), (1, 1)] = true := by decide +kernel
theorem pl41 : plainFn Try.prog 41 = true := by decide +kernel
theorem pl42 : plainFn Try.prog 42 = true := by decide +kernel
theorem pl43 : plainFn Try.prog 43 = true := by decide +kernel
theorem zo71 : zeroOf Try.prog 71 = some ([.v (.int .i64 0)] ++ [.v (.int .i64 0)]) := by kernel_rfl
/- pagemend/pagemendlaw08.awake -/
def law08_awake  : Option Bool := ((((locks_Request (⟨([] : List Grant), ([] : List Grant)⟩ : Locks) (⟨1, (⟨1, 0⟩ : Lock), 1⟩ : Grant)).bind fun (x4 : (Locks × Bool × Int)) => (if x4.2.1 = true then some (x4.1, true, x4.2.2) else some (x4.1, false, x4.2.2)))).bind fun (s7 : (Locks × Bool × Int)) => ((((locks_Request s7.1 (⟨2, (⟨1, 0⟩ : Lock), 1⟩ : Grant)).bind fun (x11 : (Locks × Bool × Int)) => (if x11.2.1 = true then some (true, x11.2.2, x11.1) else some (false, x11.2.2, x11.1)))).bind fun (s14 : (Bool × Int × Locks)) => ((((locks_Request s14.2.2 (⟨1, (⟨1, 0⟩ : Lock), 2⟩ : Grant)).bind fun (x18 : (Locks × Bool × Int)) => (if x18.2.1 = true then some (true, x18.2.2, x18.1) else some (false, x18.2.2, x18.1)))).bind fun (s21 : (Bool × Int × Locks)) => ((locks_Release s21.2.2 2).bind fun (x22 : Locks) => (if s7.2.2 = 0 then (if s14.2.1 = 0 then (if s21.2.1 = 0 then (if s7.2.1 = true then (if s14.1 = true then (if s21.1 = true then some false else ((locks_Mode x22 1 (⟨1, 0⟩ : Lock)).bind fun (x30 : Int) => some (decide (x30 = 2)))) else some false) else some false) else some false) else some false) else some false)))))
theorem law08_awake_ok {h : Heap}    {r : Bool} (hm : law08_awake  = some r) : FnOK Try.prog 40 [] h (fun v h' => v = VB (r) ∧ h' = h) := by
 refine FnOK.fin ?_
 refine FnOK.bodyC (N := 62) Try.func40 rfl rfl rfl (fun hC => ?_)
 replace hm := Ev.of hm
 rw [law08_awake.eq_1] at hm
 show CdOK _ _ _ (look _ []) (h ++ ([] : Heap)) _
 refine .seq ?_
 refine .region ?_
 refine .t (VB (false)) (e_as rfl) ?_
 refine .nil ?_
 refine CdOK.seq ?_
 refine .region ?_
 refine .t (.o (.agg [I (1), I (0)])) (e_bld (cs := [I (1), I (0)]) zo71 bl71 rfl rfl) ?_
 refine .t (.o (.c (.ptr (h.length + 0) 0))) (e_allocN (L' := [⟨[I (0), I (0)], true, true⟩]) rfl zo71 rfl rfl) ?_
 refine .s0 rfl rfl (e_stN (L' := [⟨[I (1), I (0)], true, true⟩]) rfl (ev_t rfl) (ev_t rfl) ty71 rfl rfl rfl rfl rfl) ?_
 refine .nil ?_
 replace hm := hm.bnd
 refine CdOK.joinE (σ := (Locks × Bool × Int)) (fun s => (s.1, s.2.1, s.2.2)) hm (fun s => [(1, .o (.c (.ptr (h.length + 0) 0))), (2, .o (.c (.ptr (h.length + 1) 0))), (3, VB (s.2.1)), (4, VI (s.2.2))]) (fun s => h ++ ([⟨[I (1), I (0)], true, true⟩, ⟨[.L 4 (s.1.held.map Grant.cs), .L 4 (s.1.waiting.map Grant.cs)], true, true⟩] : Heap)) ?_ ?_
 ·intro hm
  refine .region ?_
  refine .t (.o (.agg [.v (.slice none 0 0), .v (.slice none 0 0)])) (e_bld (cs := [.v (.slice none 0 0), .v (.slice none 0 0)]) zo69 bl69 rfl rfl) ?_
  refine .t _ (e_ldbA (ev_t rfl) ty71 (bx rfl rfl) rfl rfl) ?_
  refine .t (.o (.agg [I (1), I (1), I (0), I (1)])) (e_bld (cs := [I (1), I (1), I (0), I (1)]) zo75 bl75 rfl rfl) ?_
  obtain ⟨x4, e4, hm⟩ := hm.call
  refine .cl rfl rfl rfl rfl pl41 (R2.of (.agg (R2.of (.nlL _) (R2.of (.nlL _) (R2.nil _)))) (R2.of (.refl _) (R2.nil _))) (locks_Request_ok    e4) ?_
  rintro _ _ ⟨rfl, rfl⟩
  refine .m rfl ?_
  refine .t (.o (.agg [.L 4 (x4.1.held.map Grant.cs), .L 4 (x4.1.waiting.map Grant.cs)])) (e_ext (ev_t rfl) rfl) ?_
  refine .sb rfl rfl rfl (e_ext (ev_t rfl) rfl) ?_ ?_
  ·intro c5; replace hm := hm.ifp c5
   refine .t (VI (x4.2.2)) (e_ext (ev_t rfl) rfl) ?_
   refine .t (.o (.c (.ptr (h.length + 1) 0))) (e_allocN (L' := [⟨[I (1), I (0)], true, true⟩, ⟨[.v (.slice none 0 0), .v (.slice none 0 0)], true, true⟩]) rfl zo69 rfl rfl) ?_
   refine .s0 rfl rfl (e_stN (L' := [⟨[I (1), I (0)], true, true⟩, ⟨[.L 4 (x4.1.held.map Grant.cs), .L 4 (x4.1.waiting.map Grant.cs)], true, true⟩]) rfl (ev_t rfl) (ev_t rfl) ty69 rfl rfl rfl rfl rfl) ?_
   refine .a rfl ?_
   refine .a rfl ?_
   refine .nil ?_
   refine .id ?_
   exact ⟨(x4.1, true, x4.2.2), hm.ret, (.cons rfl (.cons rfl (.cons rfl (.cons rfl .nil)))), rfl⟩
  ·intro c6; replace hm := hm.ifn (by rw [c6]; exact Bool.false_ne_true)
   refine .t (VI (x4.2.2)) (e_ext (ev_t rfl) rfl) ?_
   refine .t (.o (.c (.ptr (h.length + 1) 0))) (e_allocN (L' := [⟨[I (1), I (0)], true, true⟩, ⟨[.v (.slice none 0 0), .v (.slice none 0 0)], true, true⟩]) rfl zo69 rfl rfl) ?_
   refine .s0 rfl rfl (e_stN (L' := [⟨[I (1), I (0)], true, true⟩, ⟨[.L 4 (x4.1.held.map Grant.cs), .L 4 (x4.1.waiting.map Grant.cs)], true, true⟩]) rfl (ev_t rfl) (ev_t rfl) ty69 rfl rfl rfl rfl rfl) ?_
   refine .a rfl ?_
   refine .a rfl ?_
   refine .nil ?_
   refine .id ?_
   exact ⟨(x4.1, false, x4.2.2), hm.ret, (.cons rfl (.cons rfl (.cons rfl (.cons rfl .nil)))), rfl⟩
 ·rintro ⟨t1, a2, e3⟩ T0 hm
  show CdOK _ _ _ (look T0 [(1, .o (.c (.ptr (h.length + 0) 0))), (2, .o (.c (.ptr (h.length + 1) 0))), (3, VB (a2)), (4, VI (e3))]) (h ++ ([⟨[I (1), I (0)], true, true⟩, ⟨[.L 4 (t1.held.map Grant.cs), .L 4 (t1.waiting.map Grant.cs)], true, true⟩] : Heap)) _
  replace hm := hm.bnd
  refine .joinE (σ := (Bool × Int × Locks)) (fun s => (s.1, s.2.1, s.2.2)) hm (fun s => [(1, .o (.c (.ptr (h.length + 0) 0))), (2, .o (.c (.ptr (h.length + 1) 0))), (3, VB (a2)), (4, VI (e3)), (5, VB (s.1)), (6, VI (s.2.1))]) (fun s => h ++ ([⟨[I (1), I (0)], true, true⟩, ⟨[.L 4 (s.2.2.held.map Grant.cs), .L 4 (s.2.2.waiting.map Grant.cs)], true, true⟩] : Heap)) ?_ ?_
  ·intro hm
   refine .region ?_
   refine .t _ (e_ldbA (ev_t rfl) ty69 (bx rfl rfl) rfl rfl) ?_
   refine .t _ (e_ldbA (ev_t rfl) ty71 (bx rfl rfl) rfl rfl) ?_
   refine .t (.o (.agg [I (2), I (1), I (0), I (1)])) (e_bld (cs := [I (2), I (1), I (0), I (1)]) zo75 bl75 rfl rfl) ?_
   obtain ⟨x11, e11, hm⟩ := hm.call
   refine .cl rfl rfl rfl rfl pl41 (R2.wk _) (locks_Request_ok    e11) ?_
   rintro _ _ ⟨rfl, rfl⟩
   refine .m rfl ?_
   refine .t (.o (.agg [.L 4 (x11.1.held.map Grant.cs), .L 4 (x11.1.waiting.map Grant.cs)])) (e_ext (ev_t rfl) rfl) ?_
   refine .sb rfl rfl rfl (e_ext (ev_t rfl) rfl) ?_ ?_
   ·intro c12; replace hm := hm.ifp c12
    refine .t (VI (x11.2.2)) (e_ext (ev_t rfl) rfl) ?_
    refine .s0 rfl rfl (e_stN (L' := [⟨[I (1), I (0)], true, true⟩, ⟨[.L 4 (x11.1.held.map Grant.cs), .L 4 (x11.1.waiting.map Grant.cs)], true, true⟩]) rfl (ev_t rfl) (ev_t rfl) ty69 rfl rfl rfl rfl rfl) ?_
    refine .a rfl ?_
    refine .a rfl ?_
    refine .nil ?_
    refine .id ?_
    exact ⟨(true, x11.2.2, x11.1), hm.ret, (.cons rfl (.cons rfl (.cons rfl (.cons rfl (.cons rfl (.cons rfl .nil)))))), rfl⟩
   ·intro c13; replace hm := hm.ifn (by rw [c13]; exact Bool.false_ne_true)
    refine .t (VI (x11.2.2)) (e_ext (ev_t rfl) rfl) ?_
    refine .s0 rfl rfl (e_stN (L' := [⟨[I (1), I (0)], true, true⟩, ⟨[.L 4 (x11.1.held.map Grant.cs), .L 4 (x11.1.waiting.map Grant.cs)], true, true⟩]) rfl (ev_t rfl) (ev_t rfl) ty69 rfl rfl rfl rfl rfl) ?_
    refine .a rfl ?_
    refine .a rfl ?_
    refine .nil ?_
    refine .id ?_
    exact ⟨(false, x11.2.2, x11.1), hm.ret, (.cons rfl (.cons rfl (.cons rfl (.cons rfl (.cons rfl (.cons rfl .nil)))))), rfl⟩
  ·rintro ⟨b8, f9, bx10⟩ T0 hm
   show CdOK _ _ _ (look T0 [(1, .o (.c (.ptr (h.length + 0) 0))), (2, .o (.c (.ptr (h.length + 1) 0))), (3, VB (a2)), (4, VI (e3)), (5, VB (b8)), (6, VI (f9))]) (h ++ ([⟨[I (1), I (0)], true, true⟩, ⟨[.L 4 (bx10.held.map Grant.cs), .L 4 (bx10.waiting.map Grant.cs)], true, true⟩] : Heap)) _
   replace hm := hm.bnd
   refine .joinE (σ := (Bool × Int × Locks)) (fun s => (s.1, s.2.1, s.2.2)) hm (fun s => [(1, .o (.c (.ptr (h.length + 0) 0))), (2, .o (.c (.ptr (h.length + 1) 0))), (3, VB (a2)), (4, VI (e3)), (5, VB (b8)), (6, VI (f9)), (7, VB (s.1)), (8, VI (s.2.1))]) (fun s => h ++ ([⟨[I (1), I (0)], true, true⟩, ⟨[.L 4 (s.2.2.held.map Grant.cs), .L 4 (s.2.2.waiting.map Grant.cs)], true, true⟩] : Heap)) ?_ ?_
   ·intro hm
    refine .region ?_
    refine .t _ (e_ldbA (ev_t rfl) ty69 (bx rfl rfl) rfl rfl) ?_
    refine .t _ (e_ldbA (ev_t rfl) ty71 (bx rfl rfl) rfl rfl) ?_
    refine .t (.o (.agg [I (1), I (1), I (0), I (2)])) (e_bld (cs := [I (1), I (1), I (0), I (2)]) zo75 bl75 rfl rfl) ?_
    obtain ⟨x18, e18, hm⟩ := hm.call
    refine .cl rfl rfl rfl rfl pl41 (R2.wk _) (locks_Request_ok    e18) ?_
    rintro _ _ ⟨rfl, rfl⟩
    refine .m rfl ?_
    refine .t (.o (.agg [.L 4 (x18.1.held.map Grant.cs), .L 4 (x18.1.waiting.map Grant.cs)])) (e_ext (ev_t rfl) rfl) ?_
    refine .sb rfl rfl rfl (e_ext (ev_t rfl) rfl) ?_ ?_
    ·intro c19; replace hm := hm.ifp c19
     refine .t (VI (x18.2.2)) (e_ext (ev_t rfl) rfl) ?_
     refine .s0 rfl rfl (e_stN (L' := [⟨[I (1), I (0)], true, true⟩, ⟨[.L 4 (x18.1.held.map Grant.cs), .L 4 (x18.1.waiting.map Grant.cs)], true, true⟩]) rfl (ev_t rfl) (ev_t rfl) ty69 rfl rfl rfl rfl rfl) ?_
     refine .a rfl ?_
     refine .a rfl ?_
     refine .nil ?_
     refine .id ?_
     exact ⟨(true, x18.2.2, x18.1), hm.ret, (.cons rfl (.cons rfl (.cons rfl (.cons rfl (.cons rfl (.cons rfl (.cons rfl (.cons rfl .nil)))))))), rfl⟩
    ·intro c20; replace hm := hm.ifn (by rw [c20]; exact Bool.false_ne_true)
     refine .t (VI (x18.2.2)) (e_ext (ev_t rfl) rfl) ?_
     refine .s0 rfl rfl (e_stN (L' := [⟨[I (1), I (0)], true, true⟩, ⟨[.L 4 (x18.1.held.map Grant.cs), .L 4 (x18.1.waiting.map Grant.cs)], true, true⟩]) rfl (ev_t rfl) (ev_t rfl) ty69 rfl rfl rfl rfl rfl) ?_
     refine .a rfl ?_
     refine .a rfl ?_
     refine .nil ?_
     refine .id ?_
     exact ⟨(false, x18.2.2, x18.1), hm.ret, (.cons rfl (.cons rfl (.cons rfl (.cons rfl (.cons rfl (.cons rfl (.cons rfl (.cons rfl .nil)))))))), rfl⟩
   ·rintro ⟨c15, g16, bx17⟩ T0 hm
    show CdOK _ _ _ (look T0 [(1, .o (.c (.ptr (h.length + 0) 0))), (2, .o (.c (.ptr (h.length + 1) 0))), (3, VB (a2)), (4, VI (e3)), (5, VB (b8)), (6, VI (f9)), (7, VB (c15)), (8, VI (g16))]) (h ++ ([⟨[I (1), I (0)], true, true⟩, ⟨[.L 4 (bx17.held.map Grant.cs), .L 4 (bx17.waiting.map Grant.cs)], true, true⟩] : Heap)) _
    refine .seq ?_
    refine .region ?_
    refine .t _ (e_ldbA (ev_t rfl) ty69 (bx rfl rfl) rfl rfl) ?_
    obtain ⟨x22, e22, hm⟩ := hm.call
    refine .cl rfl rfl rfl rfl pl43 (R2.wk _) (locks_Release_ok    e22) ?_
    rintro _ _ ⟨rfl, rfl⟩
    refine .s0 rfl rfl (e_stN (L' := [⟨[I (1), I (0)], true, true⟩, ⟨[.L 4 (x22.held.map Grant.cs), .L 4 (x22.waiting.map Grant.cs)], true, true⟩]) rfl (ev_t rfl) (ev_t rfl) ty69 rfl rfl rfl rfl rfl) ?_
    refine .nil ?_
    refine CdOK.seq ?_
    refine .region ?_
    refine .m rfl ?_
    refine .sd rfl rfl rfl (e_eqK (ev_t rfl) rfl) ?_ ?_
    ·intro c23; replace hm := hm.ifp c23
     refine .m rfl ?_
     refine .m rfl ?_
     refine .sd rfl rfl rfl (e_eqK (ev_t rfl) rfl) ?_ ?_
     ·intro c24; replace hm := hm.ifp c24
      refine .t (VB (true)) (e_pick (t := true) (ev_t rfl) (ev_t rfl)) ?_
      refine .m rfl ?_
      refine .m rfl ?_
      refine .sd rfl rfl rfl (e_eqK (ev_t rfl) rfl) ?_ ?_
      ·intro c25; replace hm := hm.ifp c25
       refine .t (VB (true)) (e_pick (t := true) (ev_t rfl) (ev_t rfl)) ?_
       refine .m rfl ?_
       refine .sb rfl rfl rfl (e_mv (ev_t rfl)) ?_ ?_
       ·intro c26; replace hm := hm.ifp c26
        refine .t (VB (true)) (e_pick (t := true) (ev_t rfl) (ev_t rfl)) ?_
        refine .m rfl ?_
        refine .sb rfl rfl rfl (e_mv (ev_t rfl)) ?_ ?_
        ·intro c27; replace hm := hm.ifp c27
         refine .t (VB (true)) (e_pick (t := true) (ev_t rfl) (ev_t rfl)) ?_
         refine .m rfl ?_
         refine .sb rfl rfl rfl (e_mv (ev_t rfl)) ?_ ?_
         ·intro c28; replace hm := hm.ifp c28
          refine .t (VB (false)) (e_un (ev_t rfl) rfl) ?_
          refine .t (VB (false)) (e_pick (t := true) (ev_t rfl) (ev_t rfl)) ?_
          refine .m rfl ?_
          refine .k ?_
          refine .k ?_
          refine .k ?_
          refine .k ?_
          refine .t (VB (false)) (e_pick (t := false) (ev_t rfl) rfl) ?_
          refine .a rfl ?_
          refine .nil ?_
          refine CdOK.ret ?_
          refine ⟨.inr rfl, _, rfl, h, _, _, rfl, rfl, hC, ((renFlV rfl) : RenV _ _ _ _ (VB (false))), ?_⟩
          cases hm.ret; exact ⟨rfl, rfl⟩
         ·intro c29; replace hm := hm.ifn (by rw [c29]; exact Bool.false_ne_true)
          refine .t (VB (true)) (e_un (ev_t rfl) rfl) ?_
          refine .t (VB (true)) (e_pick (t := true) (ev_t rfl) (ev_t rfl)) ?_
          refine .m rfl ?_
          refine .t _ (e_ldbA (ev_t rfl) ty69 (bx rfl rfl) rfl rfl) ?_
          refine .t _ (e_ldbA (ev_t rfl) ty71 (bx rfl rfl) rfl rfl) ?_
          obtain ⟨x30, e30, hm⟩ := hm.call
          refine .cl rfl rfl rfl rfl pl42 (R2.wk _) (locks_Mode_ok    e30) ?_
          rintro _ _ ⟨rfl, rfl⟩
          refine .t (VB (decide (x30 = 2))) (e_eqK (ev_t rfl) rfl) ?_
          refine .t (VB (decide (x30 = 2))) (e_pick (t := true) (ev_t rfl) (ev_t rfl)) ?_
          refine .a rfl ?_
          refine .nil ?_
          refine CdOK.ret ?_
          refine ⟨.inr rfl, _, rfl, h, _, _, rfl, rfl, hC, ((renFlV rfl) : RenV _ _ _ _ (VB (decide (x30 = 2)))), ?_⟩
          cases hm.ret; exact ⟨rfl, rfl⟩
        ·intro c31; replace hm := hm.ifn (by rw [c31]; exact Bool.false_ne_true)
         refine .t (VB (false)) (e_pick (t := true) (ev_t rfl) (ev_t rfl)) ?_
         refine .m rfl ?_
         refine .k ?_
         refine .k ?_
         refine .t (VB (false)) (e_pick (t := false) (ev_t rfl) rfl) ?_
         refine .m rfl ?_
         refine .k ?_
         refine .k ?_
         refine .k ?_
         refine .k ?_
         refine .t (VB (false)) (e_pick (t := false) (ev_t rfl) rfl) ?_
         refine .a rfl ?_
         refine .nil ?_
         refine CdOK.ret ?_
         refine ⟨.inr rfl, _, rfl, h, _, _, rfl, rfl, hC, ((renFlV rfl) : RenV _ _ _ _ (VB (false))), ?_⟩
         cases hm.ret; exact ⟨rfl, rfl⟩
       ·intro c32; replace hm := hm.ifn (by rw [c32]; exact Bool.false_ne_true)
        refine .t (VB (false)) (e_pick (t := true) (ev_t rfl) (ev_t rfl)) ?_
        refine .m rfl ?_
        refine .k ?_
        refine .t (VB (false)) (e_pick (t := false) (ev_t rfl) rfl) ?_
        refine .m rfl ?_
        refine .k ?_
        refine .k ?_
        refine .t (VB (false)) (e_pick (t := false) (ev_t rfl) rfl) ?_
        refine .m rfl ?_
        refine .k ?_
        refine .k ?_
        refine .k ?_
        refine .k ?_
        refine .t (VB (false)) (e_pick (t := false) (ev_t rfl) rfl) ?_
        refine .a rfl ?_
        refine .nil ?_
        refine CdOK.ret ?_
        refine ⟨.inr rfl, _, rfl, h, _, _, rfl, rfl, hC, ((renFlV rfl) : RenV _ _ _ _ (VB (false))), ?_⟩
        cases hm.ret; exact ⟨rfl, rfl⟩
      ·intro c33; replace hm := hm.ifn c33
       refine .t (VB (false)) (e_pick (t := true) (ev_t rfl) (ev_t rfl)) ?_
       refine .m rfl ?_
       refine .k ?_
       refine .t (VB (false)) (e_pick (t := false) (ev_t rfl) rfl) ?_
       refine .m rfl ?_
       refine .k ?_
       refine .t (VB (false)) (e_pick (t := false) (ev_t rfl) rfl) ?_
       refine .m rfl ?_
       refine .k ?_
       refine .k ?_
       refine .t (VB (false)) (e_pick (t := false) (ev_t rfl) rfl) ?_
       refine .m rfl ?_
       refine .k ?_
       refine .k ?_
       refine .k ?_
       refine .k ?_
       refine .t (VB (false)) (e_pick (t := false) (ev_t rfl) rfl) ?_
       refine .a rfl ?_
       refine .nil ?_
       refine CdOK.ret ?_
       refine ⟨.inr rfl, _, rfl, h, _, _, rfl, rfl, hC, ((renFlV rfl) : RenV _ _ _ _ (VB (false))), ?_⟩
       cases hm.ret; exact ⟨rfl, rfl⟩
     ·intro c34; replace hm := hm.ifn c34
      refine .t (VB (false)) (e_pick (t := true) (ev_t rfl) (ev_t rfl)) ?_
      refine .m rfl ?_
      refine .k ?_
      refine .k ?_
      refine .t (VB (false)) (e_pick (t := false) (ev_t rfl) rfl) ?_
      refine .m rfl ?_
      refine .k ?_
      refine .t (VB (false)) (e_pick (t := false) (ev_t rfl) rfl) ?_
      refine .m rfl ?_
      refine .k ?_
      refine .t (VB (false)) (e_pick (t := false) (ev_t rfl) rfl) ?_
      refine .m rfl ?_
      refine .k ?_
      refine .k ?_
      refine .t (VB (false)) (e_pick (t := false) (ev_t rfl) rfl) ?_
      refine .m rfl ?_
      refine .k ?_
      refine .k ?_
      refine .k ?_
      refine .k ?_
      refine .t (VB (false)) (e_pick (t := false) (ev_t rfl) rfl) ?_
      refine .a rfl ?_
      refine .nil ?_
      refine CdOK.ret ?_
      refine ⟨.inr rfl, _, rfl, h, _, _, rfl, rfl, hC, ((renFlV rfl) : RenV _ _ _ _ (VB (false))), ?_⟩
      cases hm.ret; exact ⟨rfl, rfl⟩
    ·intro c35; replace hm := hm.ifn c35
     refine .m rfl ?_
     refine .k ?_
     refine .k ?_
     refine .t (VB (false)) (e_pick (t := false) (ev_t rfl) rfl) ?_
     refine .m rfl ?_
     refine .k ?_
     refine .k ?_
     refine .t (VB (false)) (e_pick (t := false) (ev_t rfl) rfl) ?_
     refine .m rfl ?_
     refine .k ?_
     refine .t (VB (false)) (e_pick (t := false) (ev_t rfl) rfl) ?_
     refine .m rfl ?_
     refine .k ?_
     refine .t (VB (false)) (e_pick (t := false) (ev_t rfl) rfl) ?_
     refine .m rfl ?_
     refine .k ?_
     refine .k ?_
     refine .t (VB (false)) (e_pick (t := false) (ev_t rfl) rfl) ?_
     refine .m rfl ?_
     refine .k ?_
     refine .k ?_
     refine .k ?_
     refine .k ?_
     refine .t (VB (false)) (e_pick (t := false) (ev_t rfl) rfl) ?_
     refine .a rfl ?_
     refine .nil ?_
     refine CdOK.ret ?_
     refine ⟨.inr rfl, _, rfl, h, _, _, rfl, rfl, hC, ((renFlV rfl) : RenV _ _ _ _ (VB (false))), ?_⟩
     cases hm.ret; exact ⟨rfl, rfl⟩
end Rv
