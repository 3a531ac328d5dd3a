import Derived.Test.YtnlpkgamglhnbaaRvBsi
import Derived.Test.YtnlpkgamglhnbaaRvLiI
import Derived.Test.YtnlpkgamglhnbaaRvLiT
import Derived.Test.YtnlpkgamglhnbaaRvBor2
set_option linter.unusedVariables false
set_option linter.unusedSimpArgs false
namespace Rv
open Go Go.RowKit Go.Proofs
theorem fa108_0 : fadr Try.prog 108 0 0 = true := by decide +kernel
theorem fa108_1 : fadr Try.prog 108 1 1 = true := by decide +kernel
theorem fa108_2 : fadr Try.prog 108 2 2 = true := by decide +kernel
theorem fa108_3 : fadr Try.prog 108 3 3 = true := by decide +kernel
theorem fa108_4 : fadr Try.prog 108 4 4 = true := by decide +kernel
theorem fa108_5 : fadr Try.prog 108 5 5 = true := by decide +kernel
theorem pl73 : plainFn Try.prog 73 = true := by decide +kernel
theorem pl133 : plainFn Try.prog 133 = true := by decide +kernel
theorem pl145 : plainFn Try.prog 145 = true := by decide +kernel
theorem pl147 : plainFn Try.prog 147 = true := by decide +kernel
theorem pl148 : plainFn Try.prog 148 = true := by decide +kernel
theorem pl186 : plainFn Try.prog 186 = true := by decide +kernel
theorem ty27 : TyF Try.prog 27 false 1 := .of (by decide +kernel)
theorem ty108 : TyF Try.prog 108 true 6 := .of (by decide +kernel)
theorem zo108 : zeroOf Try.prog 108 = some ([.v (.int .i64 0)] ++ [.v (.int .i64 0)] ++ [.v (.int .i64 0)] ++ [.v (.int .i64 0)] ++ [.v (.slice none 0 0)] ++ [.v (.slice none 0 0)]) := by kernel_rfl
def transactions_ascending.l1 (l_ : (List Int)) (least : Int) (most : Int) (step : Int) : Nat → Int → Option (Sum Unit Bool)
  | 0, _ => none
  | kk2 + 1, t131 => (if t131 < (l_.length : Int) then (if (0 : Int) ≤ t131 ∧ t131 < (l_.length : Int) then (if (gd l_ t131) < least then some (Sum.inr false) else (if most < (gd l_ t131) then some (Sum.inr false) else (if 0 < t131 then (if (0 : Int) ≤ (w64 (t131 - 1)) ∧ (w64 (t131 - 1)) < (l_.length : Int) then (if (gd l_ t131) < (w64 ((gd l_ (w64 (t131 - 1))) + step)) then some (Sum.inr false) else transactions_ascending.l1 l_ least most step kk2 (w64 (t131 + 1))) else none) else transactions_ascending.l1 l_ least most step kk2 (w64 (t131 + 1))))) else none) else some (Sum.inl ()))
def transactions_ascending (l_ : (List Int)) (least : Int) (most : Int) (step : Int) : Option Bool := ((transactions_ascending.l1 l_ least most step FU 0).bind fun (z : Sum Unit Bool) => match z with | .inl (s15 : Unit) => some true | .inr r => some r)
theorem transactions_ascending_ok {h : Heap} {l_ : (List Int)} {least : Int} {most : Int} {step : Int}   {r : Bool} (hm : transactions_ascending l_ least most step = some r) : FnOK Try.prog 186 [.o (.c (.L 1 (l_.map cI))), VI (least), VI (most), VI (step)] h (fun v h' => v = VB (r) ∧ h' = h) := by
 refine FnOK.fin ?_
 refine FnOK.bodyC (N := 42) Try.func186 rfl rfl rfl (fun hC => ?_)
 replace hm := Ev.of hm
 rw [transactions_ascending.eq_1] at hm
 show CdOK _ _ _ (look _ [(0, .o (.c (.L 1 (l_.map cI)))), (1, VI (least)), (2, VI (most)), (3, VI (step))]) (h ++ ([] : Heap)) _
 refine .seq (.region (.t (VB (false)) (e_as rfl) ?_))
 refine .nil (CdOK.seq (.seq (.region (.m rfl ?_))))
 refine .t (VI ((l_.length : Int))) (e_lenM (ev_t rfl) is27) ?_
 refine .t (VI (0)) (e_mv rfl) ?_
 refine .nil ?_
 replace hm := hm.bnd
 refine CdOK.joinT (σ := Unit) (fun s => Sum.inl ()) hm (fun s => []) (fun s => h ++ ([] : Heap)) ?_ ?_
 ·intro hm
  refine .block ?_
  refine .loopE (σ := Int) (fun k s => Ev (transactions_ascending.l1 l_ least most step k s) _) (fun s => [(0, .o (.c (.L 1 (l_.map cI)))), (1, VI (least)), (2, VI (most)), (3, VI (step)), (11, .o (.c (.L 1 (l_.map cI)))), (12, VI ((l_.length : Int))), (13, VI (s))]) (fun s => h ++ ([] : Heap)) FU 0 hm (.cons rfl (.cons rfl (.cons rfl (.cons rfl (.cons rfl (.cons rfl (.cons rfl .nil))))))) rfl ?_
  rintro kk2 t131 T0 hm
  replace hm : Ev (transactions_ascending.l1 l_ least most step kk2 t131) _ := hm
  cases kk2 with
  | zero => exact (Ev.non hm).elim
  | succ kk2 =>
  rw [transactions_ascending.l1.eq_2] at hm
  show CdOK _ _ _ (look T0 [(0, .o (.c (.L 1 (l_.map cI)))), (1, VI (least)), (2, VI (most)), (3, VI (step)), (11, .o (.c (.L 1 (l_.map cI)))), (12, VI ((l_.length : Int))), (13, VI (t131))]) (h ++ ([] : Heap)) _
  refine .seq (.region (.t (VB (decide (t131 < (l_.length : Int)))) (e_bin (ev_t rfl) (ev_t rfl) rfl rfl) ?_))
  refine .nil (CdOK.seq ?_)
  refine .condD (ev_t rfl) ?_ ?_
  ·intro c3; replace hm := hm.ifp c3
   refine .skip ?_
   refine CdOK.seq ?_
   refine .block ?_
   refine .seq (.region (.m rfl ?_))
   obtain ⟨c4, hm⟩ := hm.ifs
   refine .t (.o (.c (.rp [I ((gd l_ t131))]))) (e_ixM (f := cI) (l := l_) (i := t131) (ev_t rfl) (ev_t rfl) el27 c4) ?_
   refine .t _ (e_ldR1 (ev_t rfl) ty3 rfl) ?_
   iterate 2 refine .a rfl ?_
   refine .nil (CdOK.seq (.region ?_))
   iterate 2 refine .m rfl ?_
   refine .sd rfl rfl rfl (e_bin (ev_t rfl) (ev_t rfl) rfl rfl) ?_ ?_
   ·intro c5; replace hm := hm.ifp c5
    refine .m rfl ?_
    iterate 3 refine .k ?_
    refine .t (VB (true)) (e_pick (t := true) (ev_t rfl) rfl) ?_
    refine .m rfl ?_
    iterate 13 refine .k ?_
    refine .t (VB (true)) (e_pick (t := true) (ev_t rfl) rfl) ?_
    refine .nil ?_
    refine CdOK.cond_true rfl ?_
    refine .seq (.region (.t (VB (false)) (e_as rfl) ?_))
    refine .nil ?_
    refine CdOK.ret ?_
    refine ⟨.inr rfl, _, rfl, h, _, _, rfl, rfl, hC, ((renFlV rfl) : RenV _ _ _ _ (VB (false))), ?_⟩
    have hr := hm.ret; replace hr := Ev.ret hr; cases hr; exact ⟨rfl, rfl⟩
   intro c6; replace hm := hm.ifn c6
   iterate 3 refine .m rfl ?_
   refine .sd rfl rfl rfl (e_bin (ev_t rfl) (ev_t rfl) rfl rfl) ?_ ?_
   ·intro c7; replace hm := hm.ifp c7
    refine .t (VB (true)) (e_pick (t := false) (ev_t rfl) (ev_t rfl)) ?_
    refine .m rfl ?_
    iterate 13 refine .k ?_
    refine .t (VB (true)) (e_pick (t := true) (ev_t rfl) rfl) ?_
    refine .nil ?_
    refine CdOK.cond_true rfl ?_
    refine .seq (.region (.t (VB (false)) (e_as rfl) ?_))
    refine .nil ?_
    refine CdOK.ret ?_
    refine ⟨.inr rfl, _, rfl, h, _, _, rfl, rfl, hC, ((renFlV rfl) : RenV _ _ _ _ (VB (false))), ?_⟩
    have hr := hm.ret; replace hr := Ev.ret hr; cases hr; exact ⟨rfl, rfl⟩
   intro c8; replace hm := hm.ifn c8
   refine .t (VB (false)) (e_pick (t := false) (ev_t rfl) (ev_t rfl)) ?_
   iterate 2 refine .m rfl ?_
   refine .sd rfl rfl rfl (e_bin (ev_t rfl) rfl rfl rfl) ?_ ?_
   ·intro c9; replace hm := hm.ifp c9
    iterate 3 refine .m rfl ?_
    refine .t (VI ((w64 (t131 - 1)))) (e_bin (ev_t rfl) rfl rfl rfl) ?_
    obtain ⟨c10, hm⟩ := hm.ifs
    refine .t (.o (.c (.rp [I ((gd l_ (w64 (t131 - 1))))]))) (e_ixM (f := cI) (l := l_) (i := (w64 (t131 - 1))) (ev_t rfl) (ev_t rfl) el27 c10) ?_
    refine .t _ (e_ldR1 (ev_t rfl) ty3 rfl) ?_
    refine .m rfl ?_
    refine .t (VI ((w64 ((gd l_ (w64 (t131 - 1))) + step)))) (e_bin (ev_t rfl) (ev_t rfl) rfl rfl) ?_
    refine .m rfl ?_
    refine .t (VB (decide ((gd l_ t131) < (w64 ((gd l_ (w64 (t131 - 1))) + step))))) (e_bin (ev_t rfl) (ev_t rfl) rfl rfl) ?_
    refine .t (VB (decide ((gd l_ t131) < (w64 ((gd l_ (w64 (t131 - 1))) + step))))) (e_pick (t := true) (ev_t rfl) (ev_t rfl)) ?_
    refine .t (VB (decide ((gd l_ t131) < (w64 ((gd l_ (w64 (t131 - 1))) + step))))) (e_pick (t := false) (ev_t rfl) (ev_t rfl)) ?_
    refine .nil ?_
    refine CdOK.condD (ev_t rfl) ?_ ?_
    ·intro c11; replace hm := hm.ifp c11
     refine .seq (.region (.t (VB (false)) (e_as rfl) ?_))
     refine .nil ?_
     refine CdOK.ret ?_
     refine ⟨.inr rfl, _, rfl, h, _, _, rfl, rfl, hC, ((renFlV rfl) : RenV _ _ _ _ (VB (false))), ?_⟩
     have hr := hm.ret; replace hr := Ev.ret hr; cases hr; exact ⟨rfl, rfl⟩
    intro c12; replace hm := hm.ifn c12
    refine .skip ?_
    refine CdOK.region (.t (VI ((w64 (t131 + 1)))) (e_bin (ev_t rfl) rfl rfl rfl) ?_)
    refine .m rfl ?_
    refine .nil (.id ?_)
    exact ⟨_, (w64 (t131 + 1)), Nat.lt_succ_self _, hm, (.cons rfl (.cons rfl (.cons rfl (.cons rfl (.cons rfl (.cons rfl (.cons rfl .nil))))))), rfl⟩
   intro c13; replace hm := hm.ifn c13
   refine .m rfl ?_
   iterate 9 refine .k ?_
   refine .t (VB (false)) (e_pick (t := false) (ev_t rfl) rfl) ?_
   refine .t (VB (false)) (e_pick (t := false) (ev_t rfl) (ev_t rfl)) ?_
   refine .nil ?_
   refine CdOK.cond_false rfl ?_
   refine .skip ?_
   refine CdOK.region (.t (VI ((w64 (t131 + 1)))) (e_bin (ev_t rfl) rfl rfl rfl) ?_)
   refine .m rfl ?_
   refine .nil (.id ?_)
   exact ⟨_, (w64 (t131 + 1)), Nat.lt_succ_self _, hm, (.cons rfl (.cons rfl (.cons rfl (.cons rfl (.cons rfl (.cons rfl (.cons rfl .nil))))))), rfl⟩
  intro c14; replace hm := hm.ifn c14
  refine .exit ?_
  refine .id ?_
  exact ⟨(), hm.ret, .nil, rfl⟩
 intro _ T0 hm
 refine CdOK.seq (.region (.t (VB (true)) (e_as rfl) ?_))
 refine .nil ?_
 refine CdOK.ret ?_
 refine ⟨.inr rfl, _, rfl, h, _, _, rfl, rfl, hC, ((renFlV rfl) : RenV _ _ _ _ (VB (true))), ?_⟩
 cases hm.ret; exact ⟨rfl, rfl⟩
def transactions_right (t_ : Tx) : Option Bool := (((if t_.until_ = 0 then some true else (if t_.state = 2 then (if 0 < t_.until_ then (if t_.until_ ≤ t_.last then some true else some false) else some false) else some false))).bind fun (s10 : Bool) => (if 1 ≤ t_.id_ then (if t_.id_ ≤ 1073741824 then (if 1 ≤ t_.state then (if t_.state ≤ 3 then (if 0 ≤ t_.last then (if t_.last ≤ 1099511627776 then (if s10 = true then (if (t_.pending.length : Int) ≤ 4096 then ((transactions_ascending t_.pending 1 t_.last 1).bind fun (x19 : Bool) => (if x19 = true then (if (t_.saves.length : Int) ≤ 8 then ((transactions_ascending t_.saves 0 t_.last 0).bind fun (x21 : Bool) => some x21) else some false) else some false)) else some false) else some false) else some false) else some false) else some false) else some false) else some false) else some false))
theorem transactions_right_ok {h : Heap} {t_ : Tx}   {r : Bool} (hm : transactions_right t_ = some r) : FnOK Try.prog 133 [.o (.agg [I (t_.id_), I (t_.state), I (t_.last), I (t_.until_), .L 1 (t_.pending.map cI), .L 1 (t_.saves.map cI)])] h (fun v h' => v = VB (r) ∧ h' = h) := by
 refine FnOK.fin ?_
 refine FnOK.bodyC (N := 81) Try.func133 rfl rfl rfl (fun hC => ?_)
 replace hm := Ev.of hm
 rw [transactions_right.eq_1] at hm
 show CdOK _ _ _ (look _ [(0, .o (.agg [I (t_.id_), I (t_.state), I (t_.last), I (t_.until_), .L 1 (t_.pending.map cI), .L 1 (t_.saves.map cI)]))]) (h ++ ([] : Heap)) _
 refine .seq (.region (.t (.o (.c (.ptr (h.length + 0) 0))) (e_boxN (L' := [⟨[I (t_.id_), I (t_.state), I (t_.last), I (t_.until_), .L 1 (t_.pending.map cI), .L 1 (t_.saves.map cI)], true, true⟩]) rfl (ev_t rfl) rfl rfl) ?_))
 refine .t (VB (false)) (e_as rfl) ?_
 refine .nil ?_
 replace hm := hm.bnd
 refine CdOK.joinE (σ := Bool) (fun s => s) hm (fun s => [(1, .o (.c (.ptr (h.length + 0) 0))), (3, VB (s))]) (fun s => h ++ ([⟨[I (t_.id_), I (t_.state), I (t_.last), I (t_.until_), .L 1 (t_.pending.map cI), .L 1 (t_.saves.map cI)], true, true⟩] : Heap)) ?_ ?_
 ·intro hm
  refine .region (.t _ (e_fa' fa108_3 (ev_t rfl)) ?_)
  refine .t _ (e_ldb1 (ev_t rfl) ty3 (bx rfl rfl) rfl) ?_
  refine .sd rfl rfl rfl (e_eqK (ev_t rfl) rfl) ?_ ?_
  ·intro c2; replace hm := hm.ifp c2
   refine .m rfl ?_
   iterate 15 refine .k ?_
   refine .t (VB (true)) (e_pick (t := true) (ev_t rfl) rfl) ?_
   refine .a rfl ?_
   refine .nil (.id ?_)
   exact ⟨true, hm.ret, (.cons rfl (.cons rfl .nil)), rfl⟩
  intro c3; replace hm := hm.ifn c3
  refine .m rfl ?_
  refine .t _ (e_fa' fa108_1 (ev_t rfl)) ?_
  refine .t _ (e_ldb1 (ev_t rfl) ty3 (bx rfl rfl) rfl) ?_
  refine .sd rfl rfl rfl (e_eqK (ev_t rfl) rfl) ?_ ?_
  ·intro c4; replace hm := hm.ifp c4
   refine .m rfl ?_
   refine .t _ (e_fa' fa108_3 (ev_t rfl)) ?_
   refine .t _ (e_ldb1 (ev_t rfl) ty3 (bx rfl rfl) rfl) ?_
   refine .sd rfl rfl rfl (e_bin (ev_t rfl) rfl rfl rfl) ?_ ?_
   ·intro c5; replace hm := hm.ifp c5
    refine .t (VB (true)) (e_pick (t := true) (ev_t rfl) (ev_t rfl)) ?_
    refine .m rfl ?_
    refine .t _ (e_fa' fa108_3 (ev_t rfl)) ?_
    refine .t _ (e_ldb1 (ev_t rfl) ty3 (bx rfl rfl) rfl) ?_
    refine .t _ (e_fa' fa108_2 (ev_t rfl)) ?_
    refine .t _ (e_ldb1 (ev_t rfl) ty3 (bx rfl rfl) rfl) ?_
    refine .sd rfl rfl rfl (e_bin (ev_t rfl) (ev_t rfl) rfl rfl) ?_ ?_
    ·intro c6; replace hm := hm.ifp c6
     refine .t (VB (true)) (e_pick (t := true) (ev_t rfl) (ev_t rfl)) ?_
     refine .t (VB (true)) (e_pick (t := false) (ev_t rfl) (ev_t rfl)) ?_
     refine .a rfl ?_
     refine .nil (.id ?_)
     exact ⟨true, hm.ret, (.cons rfl (.cons rfl .nil)), rfl⟩
    intro c7; replace hm := hm.ifn c7
    refine .t (VB (false)) (e_pick (t := true) (ev_t rfl) (ev_t rfl)) ?_
    refine .t (VB (false)) (e_pick (t := false) (ev_t rfl) (ev_t rfl)) ?_
    refine .a rfl ?_
    refine .nil (.id ?_)
    exact ⟨false, hm.ret, (.cons rfl (.cons rfl .nil)), rfl⟩
   intro c8; replace hm := hm.ifn c8
   refine .t (VB (false)) (e_pick (t := true) (ev_t rfl) (ev_t rfl)) ?_
   refine .m rfl ?_
   iterate 5 refine .k ?_
   refine .t (VB (false)) (e_pick (t := false) (ev_t rfl) rfl) ?_
   refine .t (VB (false)) (e_pick (t := false) (ev_t rfl) (ev_t rfl)) ?_
   refine .a rfl ?_
   refine .nil (.id ?_)
   exact ⟨false, hm.ret, (.cons rfl (.cons rfl .nil)), rfl⟩
  intro c9; replace hm := hm.ifn c9
  refine .m rfl ?_
  iterate 3 refine .k ?_
  refine .t (VB (false)) (e_pick (t := false) (ev_t rfl) rfl) ?_
  refine .m rfl ?_
  iterate 5 refine .k ?_
  refine .t (VB (false)) (e_pick (t := false) (ev_t rfl) rfl) ?_
  refine .t (VB (false)) (e_pick (t := false) (ev_t rfl) (ev_t rfl)) ?_
  refine .a rfl ?_
  refine .nil (.id ?_)
  exact ⟨false, hm.ret, (.cons rfl (.cons rfl .nil)), rfl⟩
 rintro until1 T0 hm
 show CdOK _ _ _ (look T0 [(1, .o (.c (.ptr (h.length + 0) 0))), (3, VB (until1))]) (h ++ ([⟨[I (t_.id_), I (t_.state), I (t_.last), I (t_.until_), .L 1 (t_.pending.map cI), .L 1 (t_.saves.map cI)], true, true⟩] : Heap)) _
 refine .seq (.region (.t _ (e_fa' fa108_0 (ev_t rfl)) ?_))
 refine .t _ (e_ldb1 (ev_t rfl) ty3 (bx rfl rfl) rfl) ?_
 refine .sd rfl rfl rfl (e_bin (ev_t rfl) rfl rfl rfl) ?_ ?_
 ·intro c11; replace hm := hm.ifp c11
  refine .m rfl ?_
  refine .t _ (e_fa' fa108_0 (ev_t rfl)) ?_
  refine .t _ (e_ldb1 (ev_t rfl) ty3 (bx rfl rfl) rfl) ?_
  refine .sd rfl rfl rfl (e_bin (ev_t rfl) rfl rfl rfl) ?_ ?_
  ·intro c12; replace hm := hm.ifp c12
   refine .t (VB (true)) (e_pick (t := true) (ev_t rfl) (ev_t rfl)) ?_
   refine .m rfl ?_
   refine .t _ (e_fa' fa108_1 (ev_t rfl)) ?_
   refine .t _ (e_ldb1 (ev_t rfl) ty3 (bx rfl rfl) rfl) ?_
   refine .sd rfl rfl rfl (e_bin (ev_t rfl) rfl rfl rfl) ?_ ?_
   ·intro c13; replace hm := hm.ifp c13
    refine .t (VB (true)) (e_pick (t := true) (ev_t rfl) (ev_t rfl)) ?_
    refine .m rfl ?_
    refine .t _ (e_fa' fa108_1 (ev_t rfl)) ?_
    refine .t _ (e_ldb1 (ev_t rfl) ty3 (bx rfl rfl) rfl) ?_
    refine .sd rfl rfl rfl (e_bin (ev_t rfl) rfl rfl rfl) ?_ ?_
    ·intro c14; replace hm := hm.ifp c14
     refine .t (VB (true)) (e_pick (t := true) (ev_t rfl) (ev_t rfl)) ?_
     refine .m rfl ?_
     refine .t _ (e_fa' fa108_2 (ev_t rfl)) ?_
     refine .t _ (e_ldb1 (ev_t rfl) ty3 (bx rfl rfl) rfl) ?_
     refine .sd rfl rfl rfl (e_bin (ev_t rfl) rfl rfl rfl) ?_ ?_
     ·intro c15; replace hm := hm.ifp c15
      refine .t (VB (true)) (e_pick (t := true) (ev_t rfl) (ev_t rfl)) ?_
      refine .m rfl ?_
      refine .t _ (e_fa' fa108_2 (ev_t rfl)) ?_
      refine .t _ (e_ldb1 (ev_t rfl) ty3 (bx rfl rfl) rfl) ?_
      refine .sd rfl rfl rfl (e_bin (ev_t rfl) rfl rfl rfl) ?_ ?_
      ·intro c16; replace hm := hm.ifp c16
       refine .t (VB (true)) (e_pick (t := true) (ev_t rfl) (ev_t rfl)) ?_
       refine .m rfl ?_
       refine .sb rfl rfl rfl (e_mv (ev_t rfl)) ?_ ?_
       ·intro c17; replace hm := hm.ifp c17
        refine .t (VB (true)) (e_pick (t := true) (ev_t rfl) (ev_t rfl)) ?_
        refine .m rfl ?_
        refine .t _ (e_fa' fa108_4 (ev_t rfl)) ?_
        refine .t _ (e_ldb1 (ev_t rfl) ty27 (bx rfl rfl) rfl) ?_
        refine .t (VI ((t_.pending.length : Int))) (e_lenM (ev_t rfl) is27) ?_
        refine .sd rfl rfl rfl (e_bin (ev_t rfl) rfl rfl rfl) ?_ ?_
        ·intro c18; replace hm := hm.ifp c18
         refine .t (VB (true)) (e_pick (t := true) (ev_t rfl) (ev_t rfl)) ?_
         refine .m rfl ?_
         refine .t _ (e_fa' fa108_4 (ev_t rfl)) ?_
         refine .t _ (e_ldb1 (ev_t rfl) ty27 (bx rfl rfl) rfl) ?_
         refine .t _ (e_fa' fa108_2 (ev_t rfl)) ?_
         refine .t _ (e_ldb1 (ev_t rfl) ty3 (bx rfl rfl) rfl) ?_
         obtain ⟨x19, e19, hm⟩ := hm.call
         cases x19 with
         | true =>
          replace hm := hm.ifp rfl
          refine .cl rfl rfl rfl rfl pl186 (R2.wk _) (transactions_ascending_ok    e19) ?_
          rintro _ _ ⟨rfl, rfl⟩
          refine .t (VB (true)) (e_pick (t := true) (ev_t rfl) (ev_t rfl)) ?_
          refine .m rfl ?_
          refine .t _ (e_fa' fa108_5 (ev_t rfl)) ?_
          refine .t _ (e_ldb1 (ev_t rfl) ty27 (bx rfl rfl) rfl) ?_
          refine .t (VI ((t_.saves.length : Int))) (e_lenM (ev_t rfl) is27) ?_
          refine .sd rfl rfl rfl (e_bin (ev_t rfl) rfl rfl rfl) ?_ ?_
          ·intro c20; replace hm := hm.ifp c20
           refine .t (VB (true)) (e_pick (t := true) (ev_t rfl) (ev_t rfl)) ?_
           refine .m rfl ?_
           refine .t _ (e_fa' fa108_5 (ev_t rfl)) ?_
           refine .t _ (e_ldb1 (ev_t rfl) ty27 (bx rfl rfl) rfl) ?_
           refine .t _ (e_fa' fa108_2 (ev_t rfl)) ?_
           refine .t _ (e_ldb1 (ev_t rfl) ty3 (bx rfl rfl) rfl) ?_
           obtain ⟨x21, e21, hm⟩ := hm.call
           refine .cl rfl rfl rfl rfl pl186 (R2.wk _) (transactions_ascending_ok    e21) ?_
           rintro _ _ ⟨rfl, rfl⟩
           refine .t (VB (x21)) (e_pick (t := true) (ev_t rfl) (ev_t rfl)) ?_
           refine .a rfl ?_
           refine .nil ?_
           refine CdOK.ret ?_
           refine ⟨.inr rfl, _, rfl, h, _, _, rfl, rfl, hC, ((renFlV rfl) : RenV _ _ _ _ (VB (x21))), ?_⟩
           cases hm.ret; exact ⟨rfl, rfl⟩
          intro c22; replace hm := hm.ifn c22
          refine .t (VB (false)) (e_pick (t := true) (ev_t rfl) (ev_t rfl)) ?_
          refine .m rfl ?_
          iterate 5 refine .k ?_
          refine .t (VB (false)) (e_pick (t := false) (ev_t rfl) rfl) ?_
          refine .a rfl ?_
          refine .nil ?_
          refine CdOK.ret ?_
          refine ⟨.inr rfl, _, rfl, h, _, _, rfl, rfl, hC, ((renFlV rfl) : RenV _ _ _ _ (VB (false))), ?_⟩
          cases hm.ret; exact ⟨rfl, rfl⟩
         | false =>
          replace hm := hm.ifn Bool.false_ne_true
          refine .cl rfl rfl rfl rfl pl186 (R2.wk _) (transactions_ascending_ok    e19) ?_
          rintro _ _ ⟨rfl, rfl⟩
          refine .t (VB (false)) (e_pick (t := true) (ev_t rfl) (ev_t rfl)) ?_
          refine .m rfl ?_
          iterate 4 refine .k ?_
          refine .t (VB (false)) (e_pick (t := false) (ev_t rfl) rfl) ?_
          refine .m rfl ?_
          iterate 5 refine .k ?_
          refine .t (VB (false)) (e_pick (t := false) (ev_t rfl) rfl) ?_
          refine .a rfl ?_
          refine .nil ?_
          refine CdOK.ret ?_
          refine ⟨.inr rfl, _, rfl, h, _, _, rfl, rfl, hC, ((renFlV rfl) : RenV _ _ _ _ (VB (false))), ?_⟩
          cases hm.ret; exact ⟨rfl, rfl⟩
        intro c23; replace hm := hm.ifn c23
        refine .t (VB (false)) (e_pick (t := true) (ev_t rfl) (ev_t rfl)) ?_
        refine .m rfl ?_
        iterate 5 refine .k ?_
        refine .t (VB (false)) (e_pick (t := false) (ev_t rfl) rfl) ?_
        refine .m rfl ?_
        iterate 4 refine .k ?_
        refine .t (VB (false)) (e_pick (t := false) (ev_t rfl) rfl) ?_
        refine .m rfl ?_
        iterate 5 refine .k ?_
        refine .t (VB (false)) (e_pick (t := false) (ev_t rfl) rfl) ?_
        refine .a rfl ?_
        refine .nil ?_
        refine CdOK.ret ?_
        refine ⟨.inr rfl, _, rfl, h, _, _, rfl, rfl, hC, ((renFlV rfl) : RenV _ _ _ _ (VB (false))), ?_⟩
        cases hm.ret; exact ⟨rfl, rfl⟩
       intro c24; replace hm := hm.ifn (by rw [c24]; exact Bool.false_ne_true)
       refine .t (VB (false)) (e_pick (t := true) (ev_t rfl) (ev_t rfl)) ?_
       refine .m rfl ?_
       iterate 4 refine .k ?_
       refine .t (VB (false)) (e_pick (t := false) (ev_t rfl) rfl) ?_
       refine .m rfl ?_
       iterate 5 refine .k ?_
       refine .t (VB (false)) (e_pick (t := false) (ev_t rfl) rfl) ?_
       refine .m rfl ?_
       iterate 4 refine .k ?_
       refine .t (VB (false)) (e_pick (t := false) (ev_t rfl) rfl) ?_
       refine .m rfl ?_
       iterate 5 refine .k ?_
       refine .t (VB (false)) (e_pick (t := false) (ev_t rfl) rfl) ?_
       refine .a rfl ?_
       refine .nil ?_
       refine CdOK.ret ?_
       refine ⟨.inr rfl, _, rfl, h, _, _, rfl, rfl, hC, ((renFlV rfl) : RenV _ _ _ _ (VB (false))), ?_⟩
       cases hm.ret; exact ⟨rfl, rfl⟩
      intro c25; replace hm := hm.ifn c25
      refine .t (VB (false)) (e_pick (t := true) (ev_t rfl) (ev_t rfl)) ?_
      refine .m rfl ?_
      refine .k ?_
      refine .t (VB (false)) (e_pick (t := false) (ev_t rfl) rfl) ?_
      refine .m rfl ?_
      iterate 4 refine .k ?_
      refine .t (VB (false)) (e_pick (t := false) (ev_t rfl) rfl) ?_
      refine .m rfl ?_
      iterate 5 refine .k ?_
      refine .t (VB (false)) (e_pick (t := false) (ev_t rfl) rfl) ?_
      refine .m rfl ?_
      iterate 4 refine .k ?_
      refine .t (VB (false)) (e_pick (t := false) (ev_t rfl) rfl) ?_
      refine .m rfl ?_
      iterate 5 refine .k ?_
      refine .t (VB (false)) (e_pick (t := false) (ev_t rfl) rfl) ?_
      refine .a rfl ?_
      refine .nil ?_
      refine CdOK.ret ?_
      refine ⟨.inr rfl, _, rfl, h, _, _, rfl, rfl, hC, ((renFlV rfl) : RenV _ _ _ _ (VB (false))), ?_⟩
      cases hm.ret; exact ⟨rfl, rfl⟩
     intro c26; replace hm := hm.ifn c26
     refine .t (VB (false)) (e_pick (t := true) (ev_t rfl) (ev_t rfl)) ?_
     refine .m rfl ?_
     iterate 3 refine .k ?_
     refine .t (VB (false)) (e_pick (t := false) (ev_t rfl) rfl) ?_
     refine .m rfl ?_
     refine .k ?_
     refine .t (VB (false)) (e_pick (t := false) (ev_t rfl) rfl) ?_
     refine .m rfl ?_
     iterate 4 refine .k ?_
     refine .t (VB (false)) (e_pick (t := false) (ev_t rfl) rfl) ?_
     refine .m rfl ?_
     iterate 5 refine .k ?_
     refine .t (VB (false)) (e_pick (t := false) (ev_t rfl) rfl) ?_
     refine .m rfl ?_
     iterate 4 refine .k ?_
     refine .t (VB (false)) (e_pick (t := false) (ev_t rfl) rfl) ?_
     refine .m rfl ?_
     iterate 5 refine .k ?_
     refine .t (VB (false)) (e_pick (t := false) (ev_t rfl) rfl) ?_
     refine .a rfl ?_
     refine .nil ?_
     refine CdOK.ret ?_
     refine ⟨.inr rfl, _, rfl, h, _, _, rfl, rfl, hC, ((renFlV rfl) : RenV _ _ _ _ (VB (false))), ?_⟩
     cases hm.ret; exact ⟨rfl, rfl⟩
    intro c27; replace hm := hm.ifn c27
    refine .t (VB (false)) (e_pick (t := true) (ev_t rfl) (ev_t rfl)) ?_
    refine .m rfl ?_
    iterate 3 refine .k ?_
    refine .t (VB (false)) (e_pick (t := false) (ev_t rfl) rfl) ?_
    refine .m rfl ?_
    iterate 3 refine .k ?_
    refine .t (VB (false)) (e_pick (t := false) (ev_t rfl) rfl) ?_
    refine .m rfl ?_
    refine .k ?_
    refine .t (VB (false)) (e_pick (t := false) (ev_t rfl) rfl) ?_
    refine .m rfl ?_
    iterate 4 refine .k ?_
    refine .t (VB (false)) (e_pick (t := false) (ev_t rfl) rfl) ?_
    refine .m rfl ?_
    iterate 5 refine .k ?_
    refine .t (VB (false)) (e_pick (t := false) (ev_t rfl) rfl) ?_
    refine .m rfl ?_
    iterate 4 refine .k ?_
    refine .t (VB (false)) (e_pick (t := false) (ev_t rfl) rfl) ?_
    refine .m rfl ?_
    iterate 5 refine .k ?_
    refine .t (VB (false)) (e_pick (t := false) (ev_t rfl) rfl) ?_
    refine .a rfl ?_
    refine .nil ?_
    refine CdOK.ret ?_
    refine ⟨.inr rfl, _, rfl, h, _, _, rfl, rfl, hC, ((renFlV rfl) : RenV _ _ _ _ (VB (false))), ?_⟩
    cases hm.ret; exact ⟨rfl, rfl⟩
   intro c28; replace hm := hm.ifn c28
   refine .t (VB (false)) (e_pick (t := true) (ev_t rfl) (ev_t rfl)) ?_
   refine .m rfl ?_
   iterate 3 refine .k ?_
   refine .t (VB (false)) (e_pick (t := false) (ev_t rfl) rfl) ?_
   refine .m rfl ?_
   iterate 3 refine .k ?_
   refine .t (VB (false)) (e_pick (t := false) (ev_t rfl) rfl) ?_
   refine .m rfl ?_
   iterate 3 refine .k ?_
   refine .t (VB (false)) (e_pick (t := false) (ev_t rfl) rfl) ?_
   refine .m rfl ?_
   refine .k ?_
   refine .t (VB (false)) (e_pick (t := false) (ev_t rfl) rfl) ?_
   refine .m rfl ?_
   iterate 4 refine .k ?_
   refine .t (VB (false)) (e_pick (t := false) (ev_t rfl) rfl) ?_
   refine .m rfl ?_
   iterate 5 refine .k ?_
   refine .t (VB (false)) (e_pick (t := false) (ev_t rfl) rfl) ?_
   refine .m rfl ?_
   iterate 4 refine .k ?_
   refine .t (VB (false)) (e_pick (t := false) (ev_t rfl) rfl) ?_
   refine .m rfl ?_
   iterate 5 refine .k ?_
   refine .t (VB (false)) (e_pick (t := false) (ev_t rfl) rfl) ?_
   refine .a rfl ?_
   refine .nil ?_
   refine CdOK.ret ?_
   refine ⟨.inr rfl, _, rfl, h, _, _, rfl, rfl, hC, ((renFlV rfl) : RenV _ _ _ _ (VB (false))), ?_⟩
   cases hm.ret; exact ⟨rfl, rfl⟩
  intro c29; replace hm := hm.ifn c29
  refine .t (VB (false)) (e_pick (t := true) (ev_t rfl) (ev_t rfl)) ?_
  refine .m rfl ?_
  iterate 3 refine .k ?_
  refine .t (VB (false)) (e_pick (t := false) (ev_t rfl) rfl) ?_
  refine .m rfl ?_
  iterate 3 refine .k ?_
  refine .t (VB (false)) (e_pick (t := false) (ev_t rfl) rfl) ?_
  refine .m rfl ?_
  iterate 3 refine .k ?_
  refine .t (VB (false)) (e_pick (t := false) (ev_t rfl) rfl) ?_
  refine .m rfl ?_
  iterate 3 refine .k ?_
  refine .t (VB (false)) (e_pick (t := false) (ev_t rfl) rfl) ?_
  refine .m rfl ?_
  refine .k ?_
  refine .t (VB (false)) (e_pick (t := false) (ev_t rfl) rfl) ?_
  refine .m rfl ?_
  iterate 4 refine .k ?_
  refine .t (VB (false)) (e_pick (t := false) (ev_t rfl) rfl) ?_
  refine .m rfl ?_
  iterate 5 refine .k ?_
  refine .t (VB (false)) (e_pick (t := false) (ev_t rfl) rfl) ?_
  refine .m rfl ?_
  iterate 4 refine .k ?_
  refine .t (VB (false)) (e_pick (t := false) (ev_t rfl) rfl) ?_
  refine .m rfl ?_
  iterate 5 refine .k ?_
  refine .t (VB (false)) (e_pick (t := false) (ev_t rfl) rfl) ?_
  refine .a rfl ?_
  refine .nil ?_
  refine CdOK.ret ?_
  refine ⟨.inr rfl, _, rfl, h, _, _, rfl, rfl, hC, ((renFlV rfl) : RenV _ _ _ _ (VB (false))), ?_⟩
  cases hm.ret; exact ⟨rfl, rfl⟩
 intro c30; replace hm := hm.ifn c30
 refine .m rfl ?_
 iterate 3 refine .k ?_
 refine .t (VB (false)) (e_pick (t := false) (ev_t rfl) rfl) ?_
 refine .m rfl ?_
 iterate 3 refine .k ?_
 refine .t (VB (false)) (e_pick (t := false) (ev_t rfl) rfl) ?_
 refine .m rfl ?_
 iterate 3 refine .k ?_
 refine .t (VB (false)) (e_pick (t := false) (ev_t rfl) rfl) ?_
 refine .m rfl ?_
 iterate 3 refine .k ?_
 refine .t (VB (false)) (e_pick (t := false) (ev_t rfl) rfl) ?_
 refine .m rfl ?_
 iterate 3 refine .k ?_
 refine .t (VB (false)) (e_pick (t := false) (ev_t rfl) rfl) ?_
 refine .m rfl ?_
 refine .k ?_
 refine .t (VB (false)) (e_pick (t := false) (ev_t rfl) rfl) ?_
 refine .m rfl ?_
 iterate 4 refine .k ?_
 refine .t (VB (false)) (e_pick (t := false) (ev_t rfl) rfl) ?_
 refine .m rfl ?_
 iterate 5 refine .k ?_
 refine .t (VB (false)) (e_pick (t := false) (ev_t rfl) rfl) ?_
 refine .m rfl ?_
 iterate 4 refine .k ?_
 refine .t (VB (false)) (e_pick (t := false) (ev_t rfl) rfl) ?_
 refine .m rfl ?_
 iterate 5 refine .k ?_
 refine .t (VB (false)) (e_pick (t := false) (ev_t rfl) rfl) ?_
 refine .a rfl ?_
 refine .nil ?_
 refine CdOK.ret ?_
 refine ⟨.inr rfl, _, rfl, h, _, _, rfl, rfl, hC, ((renFlV rfl) : RenV _ _ _ _ (VB (false))), ?_⟩
 cases hm.ret; exact ⟨rfl, rfl⟩
def transactions_Valid.l1 (l_ : (List Tx)) : Nat → Int → Option (Sum Unit Bool)
  | 0, _ => none
  | kk4 + 1, t103 => (if t103 < (l_.length : Int) then (if (0 : Int) ≤ t103 ∧ t103 < (l_.length : Int) then ((transactions_right (gd l_ t103)).bind fun (x7 : Bool) => (if x7 = true then (if 0 < t103 then (if (0 : Int) ≤ (w64 (t103 - 1)) ∧ (w64 (t103 - 1)) < (l_.length : Int) then (if ((gd l_ t103).id_) ≤ ((gd l_ (w64 (t103 - 1))).id_) then some (Sum.inr false) else transactions_Valid.l1 l_ kk4 (w64 (t103 + 1))) else none) else transactions_Valid.l1 l_ kk4 (w64 (t103 + 1))) else some (Sum.inr false))) else none) else some (Sum.inl ()))
def transactions_Valid (l_ : (List Tx)) : Option Bool := (if 64 < (l_.length : Int) then some false else ((transactions_Valid.l1 l_ FU 0).bind fun (z : Sum Unit Bool) => match z with | .inl (s14 : Unit) => some true | .inr r => some r))
theorem transactions_Valid_ok {h : Heap} {l_ : (List Tx)}   {r : Bool} (hm : transactions_Valid l_ = some r) : FnOK Try.prog 65 [.o (.c (.L 6 (l_.map Tx.cs)))] h (fun v h' => v = VB (r) ∧ h' = h) := by
 refine FnOK.fin ?_
 refine FnOK.bodyC (N := 34) Try.func65 rfl rfl rfl (fun hC => ?_)
 replace hm := Ev.of hm
 rw [transactions_Valid.eq_1] at hm
 show CdOK _ _ _ (look _ [(0, .o (.c (.L 6 (l_.map Tx.cs))))]) (h ++ ([] : Heap)) _
 refine .seq (.region (.t (VB (false)) (e_as rfl) ?_))
 refine .nil (CdOK.seq (.seq (.region (.m rfl ?_))))
 refine .t (VI ((l_.length : Int))) (e_lenM (ev_t rfl) is92) ?_
 refine .t (VB (decide (64 < (l_.length : Int)))) (e_bin (ev_t rfl) rfl rfl rfl) ?_
 refine .nil ?_
 refine CdOK.condD (ev_t rfl) ?_ ?_
 ·intro c1; replace hm := hm.ifp c1
  refine .seq (.region (.t (VB (false)) (e_as rfl) ?_))
  refine .nil ?_
  refine CdOK.ret ?_
  refine ⟨.inr rfl, _, rfl, h, _, _, rfl, rfl, hC, ((renFlV rfl) : RenV _ _ _ _ (VB (false))), ?_⟩
  cases hm.ret; exact ⟨rfl, rfl⟩
 intro c2; replace hm := hm.ifn c2
 refine .skip ?_
 refine CdOK.seq (.seq (.region (.m rfl ?_)))
 refine .t (VI ((l_.length : Int))) (e_lenM (ev_t rfl) is92) ?_
 refine .t (VI (0)) (e_mv rfl) ?_
 refine .nil ?_
 replace hm := hm.bnd
 refine CdOK.joinT (σ := Unit) (fun s => Sum.inl ()) hm (fun s => []) (fun s => h ++ ([] : Heap)) ?_ ?_
 ·intro hm
  refine .block ?_
  refine .loopE (σ := Int) (fun k s => Ev (transactions_Valid.l1 l_ k s) _) (fun s => [(0, .o (.c (.L 6 (l_.map Tx.cs)))), (8, .o (.c (.L 6 (l_.map Tx.cs)))), (9, VI ((l_.length : Int))), (10, VI (s))]) (fun s => h ++ ([] : Heap)) FU 0 hm (.cons rfl (.cons rfl (.cons rfl (.cons rfl .nil)))) rfl ?_
  rintro kk4 t103 T0 hm
  replace hm : Ev (transactions_Valid.l1 l_ kk4 t103) _ := hm
  cases kk4 with
  | zero => exact (Ev.non hm).elim
  | succ kk4 =>
  rw [transactions_Valid.l1.eq_2] at hm
  show CdOK _ _ _ (look T0 [(0, .o (.c (.L 6 (l_.map Tx.cs)))), (8, .o (.c (.L 6 (l_.map Tx.cs)))), (9, VI ((l_.length : Int))), (10, VI (t103))]) (h ++ ([] : Heap)) _
  refine .seq (.region (.t (VB (decide (t103 < (l_.length : Int)))) (e_bin (ev_t rfl) (ev_t rfl) rfl rfl) ?_))
  refine .nil (CdOK.seq ?_)
  refine .condD (ev_t rfl) ?_ ?_
  ·intro c5; replace hm := hm.ifp c5
   refine .skip ?_
   refine CdOK.seq ?_
   refine .block ?_
   refine .seq (.region (.m rfl ?_))
   obtain ⟨c6, hm⟩ := hm.ifs
   refine .t (.o (.c (.rp [I ((gd l_ t103).id_), I ((gd l_ t103).state), I ((gd l_ t103).last), I ((gd l_ t103).until_), .L 1 (((gd l_ t103).pending).map cI), .L 1 (((gd l_ t103).saves).map cI)]))) (e_ixM (f := Tx.cs) (l := l_) (i := t103) (ev_t rfl) (ev_t rfl) el92 c6) ?_
   refine .t _ (e_ldRA (ev_t rfl) ty108 rfl rfl) ?_
   refine .t (.o (.c (.ptr (h.length + 0) 0))) (e_allocN (L' := [⟨[I (0), I (0), I (0), I (0), .v (.slice none 0 0), .v (.slice none 0 0)], true, true⟩]) rfl zo108 rfl rfl) ?_
   refine .a rfl ?_
   refine .s0 rfl rfl (e_stN (L' := [⟨[I ((gd l_ t103).id_), I ((gd l_ t103).state), I ((gd l_ t103).last), I ((gd l_ t103).until_), .L 1 (((gd l_ t103).pending).map cI), .L 1 (((gd l_ t103).saves).map cI)], true, true⟩]) rfl (ev_t rfl) (ev_t rfl) ty108 rfl rfl rfl rfl rfl) ?_
   refine .nil (CdOK.seq ?_)
   refine .draw fol (by decide +kernel) ?_
   refine .t _ (e_ldbA (ev_t rfl) ty108 (bx rfl rfl) rfl rfl) ?_
   obtain ⟨x7, e7, hm⟩ := hm.call
   cases x7 with
   | true =>
    replace hm := hm.ifp rfl
    refine .cl rfl rfl rfl rfl pl133 (R2.wk _) (transactions_right_ok    e7) ?_
    refine .t (VB (false)) (e_un (ev_t rfl) rfl) ?_
    iterate 2 refine .m rfl ?_
    refine .sd rfl rfl rfl (e_bin (ev_t rfl) rfl rfl rfl) ?_ ?_
    ·intro c8; replace hm := hm.ifp c8
     iterate 3 refine .m rfl ?_
     refine .t (VI ((w64 (t103 - 1)))) (e_bin (ev_t rfl) rfl rfl rfl) ?_
     obtain ⟨c9, hm⟩ := hm.ifs
     refine .t (.o (.c (.rp [I ((gd l_ (w64 (t103 - 1))).id_), I ((gd l_ (w64 (t103 - 1))).state), I ((gd l_ (w64 (t103 - 1))).last), I ((gd l_ (w64 (t103 - 1))).until_), .L 1 (((gd l_ (w64 (t103 - 1))).pending).map cI), .L 1 (((gd l_ (w64 (t103 - 1))).saves).map cI)]))) (e_ixM (f := Tx.cs) (l := l_) (i := (w64 (t103 - 1))) (ev_t rfl) (ev_t rfl) el92 c9) ?_
     refine .t _ (e_faR fa108_0 (ev_t rfl) rfl) ?_
     refine .t _ (e_ldR1 (ev_t rfl) ty3 rfl) ?_
     refine .t _ (e_fa' fa108_0 (ev_t rfl)) ?_
     refine .t _ (e_ldb1 (ev_t rfl) ty3 (bx rfl rfl) rfl) ?_
     refine .t (VB (decide (((gd l_ t103).id_) ≤ ((gd l_ (w64 (t103 - 1))).id_)))) (e_bin (ev_t rfl) (ev_t rfl) rfl rfl) ?_
     refine .t (VB (decide (((gd l_ t103).id_) ≤ ((gd l_ (w64 (t103 - 1))).id_)))) (e_pick (t := true) (ev_t rfl) (ev_t rfl)) ?_
     refine .t (VB (decide (((gd l_ t103).id_) ≤ ((gd l_ (w64 (t103 - 1))).id_)))) (e_pick (t := false) (ev_t rfl) (ev_t rfl)) ?_
     refine .nil ?_
     refine CdOK.condD (ev_t rfl) ?_ ?_
     ·intro c10; replace hm := hm.ifp c10
      refine .seq (.region (.t (VB (false)) (e_as rfl) ?_))
      refine .nil ?_
      refine CdOK.ret ?_
      refine ⟨.inr rfl, _, rfl, h, _, _, rfl, rfl, hC, ((renFlV rfl) : RenV _ _ _ _ (VB (false))), ?_⟩
      have hr := hm.ret; replace hr := Ev.ret hr; cases hr; exact ⟨rfl, rfl⟩
     intro c11; replace hm := hm.ifn c11
     refine .skip ?_
     refine CdOK.region (.t (VI ((w64 (t103 + 1)))) (e_bin (ev_t rfl) rfl rfl rfl) ?_)
     refine .m rfl ?_
     refine .nil ?_
     refine .re (σ := []) (X := [(0, .o (.c (.L 6 (l_.map Tx.cs)))), (8, .o (.c (.L 6 (l_.map Tx.cs)))), (9, VI ((l_.length : Int))), (10, VI ((w64 (t103 + 1))))]) (L' := []) rfl rfl hC (by decide) .nil (.cons (renFlV rfl) (.cons (renFlV rfl) (.cons (renFlV rfl) (.cons (renFlV rfl) .nil)))) ?_
     exact ⟨_, (w64 (t103 + 1)), Nat.lt_succ_self _, hm, (.cons rfl (.cons rfl (.cons rfl (.cons rfl .nil)))), rfl⟩
    intro c12; replace hm := hm.ifn c12
    refine .m rfl ?_
    iterate 9 refine .k ?_
    refine .t (VB (false)) (e_pick (t := false) (ev_t rfl) rfl) ?_
    refine .t (VB (false)) (e_pick (t := false) (ev_t rfl) (ev_t rfl)) ?_
    refine .nil ?_
    refine CdOK.cond_false rfl ?_
    refine .skip ?_
    refine CdOK.region (.t (VI ((w64 (t103 + 1)))) (e_bin (ev_t rfl) rfl rfl rfl) ?_)
    refine .m rfl ?_
    refine .nil ?_
    refine .re (σ := []) (X := [(0, .o (.c (.L 6 (l_.map Tx.cs)))), (8, .o (.c (.L 6 (l_.map Tx.cs)))), (9, VI ((l_.length : Int))), (10, VI ((w64 (t103 + 1))))]) (L' := []) rfl rfl hC (by decide) .nil (.cons (renFlV rfl) (.cons (renFlV rfl) (.cons (renFlV rfl) (.cons (renFlV rfl) .nil)))) ?_
    exact ⟨_, (w64 (t103 + 1)), Nat.lt_succ_self _, hm, (.cons rfl (.cons rfl (.cons rfl (.cons rfl .nil)))), rfl⟩
   | false =>
    replace hm := hm.ifn Bool.false_ne_true
    refine .cl rfl rfl rfl rfl pl133 (R2.wk _) (transactions_right_ok    e7) ?_
    refine .t (VB (true)) (e_un (ev_t rfl) rfl) ?_
    refine .m rfl ?_
    iterate 13 refine .k ?_
    refine .t (VB (true)) (e_pick (t := true) (ev_t rfl) rfl) ?_
    refine .nil ?_
    refine CdOK.cond_true rfl ?_
    refine .seq (.region (.t (VB (false)) (e_as rfl) ?_))
    refine .nil ?_
    refine CdOK.ret ?_
    refine ⟨.inr rfl, _, rfl, h, _, _, rfl, rfl, hC, ((renFlV rfl) : RenV _ _ _ _ (VB (false))), ?_⟩
    have hr := hm.ret; replace hr := Ev.ret hr; cases hr; exact ⟨rfl, rfl⟩
  intro c13; replace hm := hm.ifn c13
  refine .exit ?_
  refine .id ?_
  exact ⟨(), hm.ret, .nil, rfl⟩
 intro _ T0 hm
 refine CdOK.seq (.region (.t (VB (true)) (e_as rfl) ?_))
 refine .nil ?_
 refine CdOK.ret ?_
 refine ⟨.inr rfl, _, rfl, h, _, _, rfl, rfl, hC, ((renFlV rfl) : RenV _ _ _ _ (VB (true))), ?_⟩
 cases hm.ret; exact ⟨rfl, rfl⟩
def transactions_FindF (t_ : Tx) (a1 : Int) : Option Bool := some (decide (t_.id_ = a1))
theorem transactions_FindF_ok {h : Heap} {t_ : Tx} {a1 : Int} {b_a1 : Nat} (hb_a1 : h[b_a1]? = some ⟨[I (a1)], true, true⟩)  {r : Bool} (hm : transactions_FindF t_ a1 = some r) : FnOK Try.prog 148 [.o (.agg [I (t_.id_), I (t_.state), I (t_.last), I (t_.until_), .L 1 (t_.pending.map cI), .L 1 (t_.saves.map cI)]), .o (.c (.ptr b_a1 0))] h (fun v h' => v = VB (r) ∧ h' = h) := by
 refine FnOK.fin ?_
 refine FnOK.bodyC (N := 8) Try.func148 rfl rfl rfl (fun hC => ?_)
 have hl_a1 := lt_of_get hb_a1
 replace hm := Ev.of hm
 rw [transactions_FindF.eq_1] at hm
 show CdOK _ _ _ (look _ [(0, .o (.agg [I (t_.id_), I (t_.state), I (t_.last), I (t_.until_), .L 1 (t_.pending.map cI), .L 1 (t_.saves.map cI)])), (1, .o (.c (.ptr b_a1 0)))]) (h ++ ([] : Heap)) _
 refine .seq (.region (.t (.o (.c (.ptr (h.length + 0) 0))) (e_boxN (L' := [⟨[I (t_.id_), I (t_.state), I (t_.last), I (t_.until_), .L 1 (t_.pending.map cI), .L 1 (t_.saves.map cI)], true, true⟩]) rfl (ev_t rfl) rfl rfl) ?_))
 refine .t (VB (false)) (e_as rfl) ?_
 refine .nil (CdOK.seq (.region (.t _ (e_fa' fa108_0 (ev_t rfl)) ?_)))
 refine .t _ (e_ldb1 (ev_t rfl) ty3 (bx rfl rfl) rfl) ?_
 refine .t _ (e_ldb1 (ev_t rfl) ty3 (pb hb_a1) rfl) ?_
 refine .t (VB (decide (t_.id_ = a1))) (e_eqK (ev_t rfl) (ev_t rfl)) ?_
 refine .a rfl ?_
 refine .nil ?_
 refine CdOK.ret ?_
 refine ⟨.inr rfl, _, rfl, h, _, _, rfl, rfl, hC, ((renFlV rfl) : RenV _ _ _ _ (VB (decide (t_.id_ = a1)))), ?_⟩
 cases hm.ret; exact ⟨rfl, rfl⟩
def IndexFuncT.l1 (s_ : (List Tx)) (f_0 : Int) : Nat → Int → Option (Sum Unit Int)
  | 0, _ => none
  | kk2 + 1, t81 => (if t81 < (s_.length : Int) then (if (0 : Int) ≤ t81 ∧ t81 < (s_.length : Int) then ((transactions_FindF (gd s_ t81) f_0).bind fun (x5 : Bool) => (if x5 = true then some (Sum.inr t81) else IndexFuncT.l1 s_ f_0 kk2 (w64 (t81 + 1)))) else none) else some (Sum.inl ()))
def IndexFuncT (s_ : (List Tx)) (f_0 : Int) : Option Int := ((IndexFuncT.l1 s_ f_0 FU 0).bind fun (z : Sum Unit Int) => match z with | .inl (s9 : Unit) => some (-1) | .inr r => some r)
theorem IndexFuncT_ok {h : Heap} {s_ : (List Tx)} {f_0 : Int} {b_f_0 : Nat} (hb_f_0 : h[b_f_0]? = some ⟨[I (f_0)], true, true⟩)  {r : Int} (hm : IndexFuncT s_ f_0 = some r) : FnOK Try.prog 147 [.o (.c (.L 6 (s_.map Tx.cs))), .o (.c (.fn 148 [(b_f_0, 0)]))] h (fun v h' => v = VI (r) ∧ h' = h) := by
 refine FnOK.fin ?_
 refine FnOK.bodyC (N := 19) Try.func147 rfl rfl rfl (fun hC => ?_)
 have hl_f_0 := lt_of_get hb_f_0
 replace hm := Ev.of hm
 rw [IndexFuncT.eq_1] at hm
 show CdOK _ _ _ (look _ [(0, .o (.c (.L 6 (s_.map Tx.cs)))), (1, .o (.c (.fn 148 [(b_f_0, 0)])))]) (h ++ ([] : Heap)) _
 refine .seq (.region (.t (VI (0)) (e_as rfl) ?_))
 refine .nil (CdOK.seq (.seq (.region (.m rfl ?_))))
 refine .t (VI ((s_.length : Int))) (e_lenM (ev_t rfl) is92) ?_
 refine .t (VI (0)) (e_mv rfl) ?_
 refine .nil ?_
 replace hm := hm.bnd
 refine CdOK.joinT (σ := Unit) (fun s => Sum.inl ()) hm (fun s => []) (fun s => h ++ ([] : Heap)) ?_ ?_
 ·intro hm
  refine .block ?_
  refine .loopE (σ := Int) (fun k s => Ev (IndexFuncT.l1 s_ f_0 k s) _) (fun s => [(0, .o (.c (.L 6 (s_.map Tx.cs)))), (1, .o (.c (.fn 148 [(b_f_0, 0)]))), (7, VI ((s_.length : Int))), (8, VI (s))]) (fun s => h ++ ([] : Heap)) FU 0 hm (.cons rfl (.cons rfl (.cons rfl (.cons rfl .nil)))) rfl ?_
  rintro kk2 t81 T0 hm
  replace hm : Ev (IndexFuncT.l1 s_ f_0 kk2 t81) _ := hm
  cases kk2 with
  | zero => exact (Ev.non hm).elim
  | succ kk2 =>
  rw [IndexFuncT.l1.eq_2] at hm
  show CdOK _ _ _ (look T0 [(0, .o (.c (.L 6 (s_.map Tx.cs)))), (1, .o (.c (.fn 148 [(b_f_0, 0)]))), (7, VI ((s_.length : Int))), (8, VI (t81))]) (h ++ ([] : Heap)) _
  refine .seq (.region (.t (VB (decide (t81 < (s_.length : Int)))) (e_bin (ev_t rfl) (ev_t rfl) rfl rfl) ?_))
  refine .nil (CdOK.seq ?_)
  refine .condD (ev_t rfl) ?_ ?_
  ·intro c3; replace hm := hm.ifp c3
   refine .skip ?_
   refine CdOK.seq ?_
   refine .block ?_
   refine .seq (.region (.m rfl ?_))
   refine .a rfl ?_
   refine .nil (CdOK.seq (.region ?_))
   iterate 3 refine .m rfl ?_
   obtain ⟨c4, hm⟩ := hm.ifs
   refine .t (.o (.c (.rp [I ((gd s_ t81).id_), I ((gd s_ t81).state), I ((gd s_ t81).last), I ((gd s_ t81).until_), .L 1 (((gd s_ t81).pending).map cI), .L 1 (((gd s_ t81).saves).map cI)]))) (e_ixM (f := Tx.cs) (l := s_) (i := t81) (ev_t rfl) (ev_t rfl) el92 c4) ?_
   refine .t _ (e_ldRA (ev_t rfl) ty108 rfl rfl) ?_
   obtain ⟨x5, e5, hm⟩ := hm.call
   refine .cl rfl rfl rfl rfl pl148 (R2.wk _) (transactions_FindF_ok  (b_a1 := b_f_0) (pb hb_f_0) e5) ?_
   rintro _ _ ⟨rfl, rfl⟩
   refine .nil ?_
   refine CdOK.condB (ev_t rfl) ?_ ?_
   ·intro c6; replace hm := hm.ifp c6
    refine .seq (.region (.m rfl ?_))
    refine .a rfl ?_
    refine .nil ?_
    refine CdOK.ret ?_
    refine ⟨.inr rfl, _, rfl, h, _, _, rfl, rfl, hC, ((renFlV rfl) : RenV _ _ _ _ (VI (t81))), ?_⟩
    have hr := hm.ret; replace hr := Ev.ret hr; cases hr; exact ⟨rfl, rfl⟩
   intro c7; replace hm := hm.ifn c7
   refine .skip ?_
   refine CdOK.region (.t (VI ((w64 (t81 + 1)))) (e_bin (ev_t rfl) rfl rfl rfl) ?_)
   refine .m rfl ?_
   refine .nil (.id ?_)
   exact ⟨_, (w64 (t81 + 1)), Nat.lt_succ_self _, hm, (.cons rfl (.cons rfl (.cons rfl (.cons rfl .nil)))), rfl⟩
  intro c8; replace hm := hm.ifn c8
  refine .exit ?_
  refine .id ?_
  exact ⟨(), hm.ret, .nil, rfl⟩
 intro _ T0 hm
 refine CdOK.seq (.region (.t (VI ((-1))) (e_as rfl) ?_))
 refine .nil ?_
 refine CdOK.ret ?_
 refine ⟨.inr rfl, _, rfl, h, _, _, rfl, rfl, hC, ((renFlV rfl) : RenV _ _ _ _ (VI ((-1)))), ?_⟩
 cases hm.ret; exact ⟨rfl, rfl⟩
def transactions_Find (l_ : (List Tx)) (id_ : Int) : Option Int := ((IndexFuncT l_ id_).bind fun (x1 : Int) => some x1)
theorem transactions_Find_ok {h : Heap} {l_ : (List Tx)} {id_ : Int}   {r : Int} (hm : transactions_Find l_ id_ = some r) : FnOK Try.prog 73 [.o (.c (.L 6 (l_.map Tx.cs))), VI (id_)] h (fun v h' => v = VI (r) ∧ h' = h) := by
 refine FnOK.fin ?_
 refine FnOK.bodyC (N := 8) Try.func73 rfl rfl rfl (fun hC => ?_)
 replace hm := Ev.of hm
 rw [transactions_Find.eq_1] at hm
 show CdOK _ _ _ (look _ [(0, .o (.c (.L 6 (l_.map Tx.cs)))), (1, VI (id_))]) (h ++ ([] : Heap)) _
 refine .seq (.region (.t (.o (.c (.ptr (h.length + 0) 0))) (e_boxN (L' := [⟨[I (id_)], true, true⟩]) rfl (ev_t rfl) rfl rfl) ?_))
 refine .t (VI (0)) (e_as rfl) ?_
 refine .nil (CdOK.seq (.region (.m rfl ?_)))
 refine .t (.o (.c (.fn 148 [((h.length + 0), 0)]))) (e_mkf rfl rfl) ?_
 obtain ⟨x1, e1, hm⟩ := hm.call
 refine .cl rfl rfl rfl rfl pl147 (R2.wk _) (IndexFuncT_ok  (b_f_0 := (h.length + 0)) (bx rfl rfl) e1) ?_
 rintro _ _ ⟨rfl, rfl⟩
 refine .a rfl ?_
 refine .nil ?_
 refine CdOK.ret ?_
 refine ⟨.inr rfl, _, rfl, h, _, _, rfl, rfl, hC, ((renFlV rfl) : RenV _ _ _ _ (VI (x1))), ?_⟩
 cases hm.ret; exact ⟨rfl, rfl⟩
def transactions_left (t_ : Tx) (above : Int) : Option Bool := (if 0 < (t_.pending.length : Int) then (if (0 : Int) ≤ (w64 ((t_.pending.length : Int) - 1)) ∧ (w64 ((t_.pending.length : Int) - 1)) < (t_.pending.length : Int) then some (decide (above < (gd t_.pending (w64 ((t_.pending.length : Int) - 1))))) else none) else some false)
theorem transactions_left_ok {h : Heap} {t_ : Tx} {above : Int}   {r : Bool} (hm : transactions_left t_ above = some r) : FnOK Try.prog 138 [.o (.agg [I (t_.id_), I (t_.state), I (t_.last), I (t_.until_), .L 1 (t_.pending.map cI), .L 1 (t_.saves.map cI)]), VI (above)] h (fun v h' => v = VB (r) ∧ h' = h) := by
 refine FnOK.fin ?_
 refine FnOK.bodyC (N := 21) Try.func138 rfl rfl rfl (fun hC => ?_)
 replace hm := Ev.of hm
 rw [transactions_left.eq_1] at hm
 show CdOK _ _ _ (look _ [(0, .o (.agg [I (t_.id_), I (t_.state), I (t_.last), I (t_.until_), .L 1 (t_.pending.map cI), .L 1 (t_.saves.map cI)])), (1, VI (above))]) (h ++ ([] : Heap)) _
 refine .seq (.region (.t (.o (.c (.ptr (h.length + 0) 0))) (e_boxN (L' := [⟨[I (t_.id_), I (t_.state), I (t_.last), I (t_.until_), .L 1 (t_.pending.map cI), .L 1 (t_.saves.map cI)], true, true⟩]) rfl (ev_t rfl) rfl rfl) ?_))
 refine .t (VB (false)) (e_as rfl) ?_
 refine .nil (CdOK.seq (.region (.t _ (e_fa' fa108_4 (ev_t rfl)) ?_)))
 refine .t _ (e_ldb1 (ev_t rfl) ty27 (bx rfl rfl) rfl) ?_
 refine .t (VI ((t_.pending.length : Int))) (e_lenM (ev_t rfl) is27) ?_
 refine .sd rfl rfl rfl (e_bin (ev_t rfl) rfl rfl rfl) ?_ ?_
 ·intro c1; replace hm := hm.ifp c1
  refine .m rfl ?_
  refine .t _ (e_fa' fa108_4 (ev_t rfl)) ?_
  refine .t _ (e_ldb1 (ev_t rfl) ty27 (bx rfl rfl) rfl) ?_
  refine .t _ (e_fa' fa108_4 (ev_t rfl)) ?_
  refine .t _ (e_ldb1 (ev_t rfl) ty27 (bx rfl rfl) rfl) ?_
  refine .t (VI ((t_.pending.length : Int))) (e_lenM (ev_t rfl) is27) ?_
  refine .t (VI ((w64 ((t_.pending.length : Int) - 1)))) (e_bin (ev_t rfl) rfl rfl rfl) ?_
  obtain ⟨c2, hm⟩ := hm.ifs
  refine .t (.o (.c (.rp [I ((gd t_.pending (w64 ((t_.pending.length : Int) - 1))))]))) (e_ixM (f := cI) (l := t_.pending) (i := (w64 ((t_.pending.length : Int) - 1))) (ev_t rfl) (ev_t rfl) el27 c2) ?_
  refine .t _ (e_ldR1 (ev_t rfl) ty3 rfl) ?_
  refine .m rfl ?_
  refine .t (VB (decide (above < (gd t_.pending (w64 ((t_.pending.length : Int) - 1)))))) (e_bin (ev_t rfl) (ev_t rfl) rfl rfl) ?_
  refine .t (VB (decide (above < (gd t_.pending (w64 ((t_.pending.length : Int) - 1)))))) (e_pick (t := true) (ev_t rfl) (ev_t rfl)) ?_
  refine .a rfl ?_
  refine .nil ?_
  refine CdOK.ret ?_
  refine ⟨.inr rfl, _, rfl, h, _, _, rfl, rfl, hC, ((renFlV rfl) : RenV _ _ _ _ (VB (decide (above < (gd t_.pending (w64 ((t_.pending.length : Int) - 1))))))), ?_⟩
  cases hm.ret; exact ⟨rfl, rfl⟩
 intro c3; replace hm := hm.ifn c3
 refine .m rfl ?_
 iterate 10 refine .k ?_
 refine .t (VB (false)) (e_pick (t := false) (ev_t rfl) rfl) ?_
 refine .a rfl ?_
 refine .nil ?_
 refine CdOK.ret ?_
 refine ⟨.inr rfl, _, rfl, h, _, _, rfl, rfl, hC, ((renFlV rfl) : RenV _ _ _ _ (VB (false))), ?_⟩
 cases hm.ret; exact ⟨rfl, rfl⟩
def slices_Clip (s_ : (List Int)) : Option (List Int) := (if (0 : Int) ≤ (s_.length : Int) ∧ (s_.length : Int) ≤ (s_.length : Int) then some (s_.take (Int.toNat (s_.length : Int))) else none)
theorem slices_Clip_ok {h : Heap} {s_ : (List Int)}   {r : (List Int)} (hm : slices_Clip s_ = some r) : FnOK Try.prog 136 [.o (.c (.L 1 (s_.map cI)))] h (fun v h' => v = .o (.c (.LC 1 (r.map cI))) ∧ h' = h) := by
 refine FnOK.fin ?_
 refine FnOK.bodyC (N := 9) Try.func136 rfl rfl rfl (fun hC => ?_)
 replace hm := Ev.of hm
 rw [slices_Clip.eq_1] at hm
 show CdOK _ _ _ (look _ [(0, .o (.c (.L 1 (s_.map cI))))]) (h ++ ([] : Heap)) _
 refine .seq (.region (.t (.o (.c (.v (.slice none 0 0)))) (e_as rfl) ?_))
 refine .nil (CdOK.seq (.region ?_))
 iterate 2 refine .m rfl ?_
 refine .t (VI ((s_.length : Int))) (e_lenM (ev_t rfl) is27) ?_
 refine .m rfl ?_
 refine .t (VI ((s_.length : Int))) (e_lenM (ev_t rfl) is27) ?_
 obtain ⟨c1, hm⟩ := hm.ifs
 refine .t (.o (.c (.LC 1 ((s_.take (Int.toNat (s_.length : Int))).map cI)))) (e_sl3M el27 (ev_t rfl) (ev_t rfl) (ev_t rfl) c1) ?_
 refine .a rfl ?_
 refine .nil ?_
 refine CdOK.ret ?_
 refine ⟨.inr rfl, _, rfl, h, _, _, rfl, rfl, hC, ((.o (.c (.fl _ rfl))) : RenV _ _ _ _ (.o (.c (.LC 1 ((s_.take (Int.toNat (s_.length : Int))).map cI))))), ?_⟩
 cases hm.ret; exact ⟨rfl, rfl⟩
def transactions_with (l_ : (List Tx)) (t_ : Tx) : Option (List Tx) := (if l_.length ≤ 1759218604441 then (if 0 < l_.length then ((transactions_Find l_ t_.id_).bind fun (x4 : Int) => (if (0 : Int) ≤ x4 ∧ x4 < (l_.length : Int) then (if (0 : Int) ≤ x4 ∧ x4 < (l_.length : Int) then some (l_.set (Int.toNat x4) t_) else none) else none)) else none) else none)
theorem transactions_with_ok {h : Heap} {l_ : (List Tx)} {t_ : Tx}   {r : (List Tx)} (hm : transactions_with l_ t_ = some r) : FnOK Try.prog 139 [.o (.c (.L 6 (l_.map Tx.cs))), .o (.agg [I (t_.id_), I (t_.state), I (t_.last), I (t_.until_), .L 1 (t_.pending.map cI), .L 1 (t_.saves.map cI)])] h (fun v h' => v = .o (.c (.L 6 (r.map Tx.cs))) ∧ h' = h) := by
 refine FnOK.fin ?_
 refine FnOK.bodyC (N := 15) Try.func139 rfl rfl rfl (fun hC => ?_)
 replace hm := Ev.of hm
 rw [transactions_with.eq_1] at hm
 show CdOK _ _ _ (look _ [(0, .o (.c (.L 6 (l_.map Tx.cs)))), (1, .o (.agg [I (t_.id_), I (t_.state), I (t_.last), I (t_.until_), .L 1 (t_.pending.map cI), .L 1 (t_.saves.map cI)]))]) (h ++ ([] : Heap)) _
 refine .seq (.region (.t (.o (.c (.ptr (h.length + 0) 0))) (e_boxN (L' := [⟨[I (t_.id_), I (t_.state), I (t_.last), I (t_.until_), .L 1 (t_.pending.map cI), .L 1 (t_.saves.map cI)], true, true⟩]) rfl (ev_t rfl) rfl rfl) ?_))
 refine .t (.o (.c (.v (.slice none 0 0)))) (e_as rfl) ?_
 refine .nil (CdOK.seq (.region (.m rfl ?_)))
 obtain ⟨c2, hm⟩ := hm.ifs
 refine .cl rfl rfl rfl rfl pl145 (R2.wk _) (cloneT_ok (A := (h.length + 1)) (l := l_) (lenN rfl rfl) c2) ?_
 rintro _ _ ⟨lv1, rfl, rfl⟩
 rw [show (h ++ ([⟨[I (t_.id_), I (t_.state), I (t_.last), I (t_.until_), .L 1 (t_.pending.map cI), .L 1 (t_.saves.map cI)], true, true⟩] : Heap)) ++ [⟨(l_.map Tx.cs).flatten, true, lv1⟩] = h ++ ([⟨[I (t_.id_), I (t_.state), I (t_.last), I (t_.until_), .L 1 (t_.pending.map cI), .L 1 (t_.saves.map cI)], true, true⟩, ⟨(l_.map Tx.cs).flatten, true, lv1⟩] : Heap) from apnd rfl]
 refine .a rfl ?_
 refine .nil (CdOK.seq ?_)
 obtain ⟨c3, hm⟩ := hm.ifs
 refine .glT (d := 0) (ev_t rfl) c3 (fun hlv => ?_)
 subst hlv
 skip
 refine .draw2 (ord := [0, 1, 2, 3, 4, 5, 6, 7]) (chain := [7]) fol (by decide +kernel) (by decide +kernel) ?_
 refine .p (.o (.c (.g (h.length + 1) ((l_).length) 6 true))) (e_mv (ev_t rfl)) ?_
 refine .p (.o (.c (.g (h.length + 1) ((l_).length) 6 true))) (e_mv (ev_t rfl)) ?_
 refine .p _ (e_fa' fa108_0 (ev_t rfl)) ?_
 refine .q _ (e_ldb1 (ev_t rfl) ty3 (bx rfl rfl) rfl) ?_
 obtain ⟨x4, e4, hm⟩ := hm.call
 refine .fc (v := VI (x4)) rfl rfl rfl rfl rfl rfl rfl pl73 (R2.wk _) (FnOK.borrow (R2.cons (BorV.c (BorC.g (bx rfl rfl) (by simp) (fun _ => rfl) (fun _ => rfl))) (R2.cons (BorV.c BorC.v) (R2.nil _))) (transactions_Find_ok (h := []) e4) rfl) ?_
 refine .q _ (e_ldbA (ev_t rfl) ty108 (bx rfl rfl) rfl rfl) ?_
 obtain ⟨c5, hm⟩ := hm.ifs
 refine .p (.o (.c (.ptr (h.length + 1) (0 + (Int.toNat x4) * 6)))) (e_ixg (ev_t rfl) (ev_t rfl) el92 c5) ?_
 obtain ⟨c6, hm⟩ := hm.ifs
 refine .c0 rfl rfl rfl rfl (e_stg (k := 6) (off := 0) (f := Tx.cs) (l := l_) (i := x4) (x := t_) (L' := [⟨[I (t_.id_), I (t_.state), I (t_.last), I (t_.until_), .L 1 (t_.pending.map cI), .L 1 (t_.saves.map cI)], true, true⟩, ⟨((l_.set (Int.toNat x4) t_).map Tx.cs).flatten, true, true⟩]) rfl (ev_t rfl) (ev_t rfl) ty108 rfl (by intro x; rfl) rfl rfl c6 (by omega) rfl) (.m (by decide +kernel) (.m (by decide +kernel) (.m (by decide +kernel) .nil))) ?_
 refine .nil (CdOK.seq (.region (.m rfl ?_)))
 refine .a rfl ?_
 refine .nil ?_
 refine CdOK.ret ?_
 refine ⟨.inr rfl, _, rfl, h, _, _, rfl, rfl, hC, ((.o (.c (.fzg 1 _ 6 _ ((l_.set (Int.toNat x4) t_).map Tx.cs) rfl (by decide) (by first | exact List.length_map .. | simp) (lens_all (by intro x; rfl)) (vl_all (by intro x; rfl))))) : RenV _ _ _ _ (.o (.c (.L 6 ((l_.set (Int.toNat x4) t_).map Tx.cs))))), ?_⟩
 cases hm.ret; exact ⟨rfl, rfl⟩
end Rv
