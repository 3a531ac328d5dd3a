/- Chapter 35: the statements' functions, as plain functions. -/
import Derived.Test.YtnlpkgamglhnbaaRvQua
set_option linter.unusedVariables false
set_option linter.unusedSimpArgs false
namespace Rv
open Go Go.RowKit Go.Proofs
theorem bl108 : bldf Try.prog 108 [(0, 1), (1, 1), (2, 1), (3, 1), (4, 1), (5, 1)] = true := by decide +kernel
theorem fa59_0 : fadr Try.prog 59 0 0 = true := by decide +kernel
theorem fa108_0 : fadr Try.prog 108 0 0 = true := by decide +kernel
theorem fa108_1 : fadr Try.prog 108 1 1 = true := by decide +kernel
theorem fa108_2 : fadr Try.prog 108 2 2 = true := by decide +kernel
theorem fa108_3 : fadr Try.prog 108 3 3 = true := by decide +kernel
theorem fa108_4 : fadr Try.prog 108 4 4 = true := by decide +kernel
theorem fa108_5 : fadr Try.prog 108 5 5 = true := by decide +kernel
theorem pl65 : plainFn Try.prog 65 = true := by decide +kernel
theorem pl73 : plainFn Try.prog 73 = true := by decide +kernel
theorem pl133 : plainFn Try.prog 133 = true := by decide +kernel
theorem pl134 : plainFn Try.prog 134 = true := by decide +kernel
theorem pl136 : plainFn Try.prog 136 = true := by decide +kernel
theorem pl138 : plainFn Try.prog 138 = true := by decide +kernel
theorem pl139 : plainFn Try.prog 139 = true := by decide +kernel
theorem pl144 : plainFn Try.prog 144 = true := by decide +kernel
theorem pl145 : plainFn Try.prog 145 = true := by decide +kernel
theorem pl146 : plainFn Try.prog 146 = true := by decide +kernel
theorem pl147 : plainFn Try.prog 147 = true := by decide +kernel
theorem pl148 : plainFn Try.prog 148 = true := by decide +kernel
theorem pl151 : plainFn Try.prog 151 = true := by decide +kernel
theorem pl186 : plainFn Try.prog 186 = true := by decide +kernel
theorem pl191 : plainFn Try.prog 191 = true := by decide +kernel
theorem pl192 : plainFn Try.prog 192 = true := by decide +kernel
theorem ty92 : TyF Try.prog 92 false 1 := .of (by decide +kernel)
theorem ty108 : TyF Try.prog 108 true 6 := .of (by decide +kernel)
theorem zo108 : zeroOf Try.prog 108 = some ([.v (.int .i64 0)] ++ [.v (.int .i64 0)] ++ [.v (.int .i64 0)] ++ [.v (.int .i64 0)] ++ [.v (.slice none 0 0)] ++ [.v (.slice none 0 0)]) := by kernel_rfl
/- pagemend/transactions.ascending -/
def transactions_ascending.l1 (l_ : (List Int)) (least : Int) (most : Int) (step : Int) : Nat → Int → Option (Sum Unit Bool)
  | 0, _ => none
  | kk2 + 1, t131 => (if t131 < (l_.length : Int) then (if (0 : Int) ≤ t131 ∧ t131 < (l_.length : Int) then (if (gd l_ t131) < least then some (Sum.inr false) else (if most < (gd l_ t131) then some (Sum.inr false) else (if 0 < t131 then (if (0 : Int) ≤ (w64 (t131 - 1)) ∧ (w64 (t131 - 1)) < (l_.length : Int) then (if (gd l_ t131) < (w64 ((gd l_ (w64 (t131 - 1))) + step)) then some (Sum.inr false) else transactions_ascending.l1 l_ least most step kk2 (w64 (t131 + 1))) else none) else transactions_ascending.l1 l_ least most step kk2 (w64 (t131 + 1))))) else none) else some (Sum.inl ()))
theorem transactions_ascending.l1_s (l_ : (List Int)) (least : Int) (most : Int) (step : Int) (kk2 : Nat) (t131 : Int) : transactions_ascending.l1 l_ least most step (kk2 + 1) t131 = (if t131 < (l_.length : Int) then (if (0 : Int) ≤ t131 ∧ t131 < (l_.length : Int) then (if (gd l_ t131) < least then some (Sum.inr false) else (if most < (gd l_ t131) then some (Sum.inr false) else (if 0 < t131 then (if (0 : Int) ≤ (w64 (t131 - 1)) ∧ (w64 (t131 - 1)) < (l_.length : Int) then (if (gd l_ t131) < (w64 ((gd l_ (w64 (t131 - 1))) + step)) then some (Sum.inr false) else transactions_ascending.l1 l_ least most step kk2 (w64 (t131 + 1))) else none) else transactions_ascending.l1 l_ least most step kk2 (w64 (t131 + 1))))) else none) else some (Sum.inl ())) := rfl
def transactions_ascending (l_ : (List Int)) (least : Int) (most : Int) (step : Int) : Option Bool := ((transactions_ascending.l1 l_ least most step FU 0).bind fun (z : Sum Unit Bool) => match z with | .inl (s15 : Unit) => some true | .inr r => some r)
theorem transactions_ascending.eq (l_ : (List Int)) (least : Int) (most : Int) (step : Int) : transactions_ascending l_ least most step = ((transactions_ascending.l1 l_ least most step FU 0).bind fun (z : Sum Unit Bool) => match z with | .inl (s15 : Unit) => some true | .inr r => some r) := rfl
theorem transactions_ascending_ok {h : Heap} {l_ : (List Int)} {least : Int} {most : Int} {step : Int}  {r : Bool} (hm : transactions_ascending l_ least most step = some r) : FnOK Try.prog 186 [.o (.c (.L 1 (l_.map cI))), VI (least), VI (most), VI (step)] h (fun v h' => v = VB (r) ∧ h' = h) := by
  refine FnOK.fin ?_
  refine FnOK.bodyC (N := 42) Try.func186 rfl rfl rfl (fun hC => ?_)
  replace hm := Ev.of hm
  rw [transactions_ascending.eq] at hm
  show CdOK _ _ _ (look _ [(0, .o (.c (.L 1 (l_.map cI)))), (1, VI (least)), (2, VI (most)), (3, VI (step))]) (h ++ ([] : Heap)) _
  refine CdOK.seq ?_
  refine CdOK.region ?_
  refine RgOK.s (v := VB (false)) rfl rfl rfl (e_as rfl) ?_
  refine RgOK.nil ?_
  show CdOK _ _ _ _ _ _
  refine CdOK.seq ?_
  refine CdOK.seq ?_
  refine CdOK.region ?_
  refine RgOK.s (v := .o (.c (.L 1 (l_.map cI)))) rfl rfl rfl (e_mv (ev_t rfl)) ?_
  refine RgOK.s (v := VI ((l_.length : Int))) rfl rfl rfl (e_lenM (ev_t rfl) is27) ?_
  refine RgOK.s (v := VI (0)) rfl rfl rfl (e_mv rfl) ?_
  refine RgOK.nil ?_
  show CdOK _ _ _ _ _ _
  replace hm := hm.bnd
  refine CdOK.joinT (σ := Unit) (fun s => Sum.inl ()) hm (fun s => []) (fun s => h ++ ([] : Heap)) ?_ ?_
  · intro hm
    refine CdOK.block ?_
    refine CdOK.loopE (σ := Int) (fun k s => Ev (transactions_ascending.l1 l_ least most step k s) _) (fun s => [(0, .o (.c (.L 1 (l_.map cI)))), (1, VI (least)), (2, VI (most)), (3, VI (step)), (11, .o (.c (.L 1 (l_.map cI)))), (12, VI ((l_.length : Int))), (13, VI (s))]) (fun s => h ++ ([] : Heap)) FU 0 hm (.cons rfl (.cons rfl (.cons rfl (.cons rfl (.cons rfl (.cons rfl (.cons rfl .nil))))))) rfl ?_
    rintro kk2 t131 T0 hm
    replace hm : Ev (transactions_ascending.l1 l_ least most step kk2 t131) _ := hm
    cases kk2 with
    | zero => exact (Ev.non hm).elim
    | succ kk2 =>
    rw [transactions_ascending.l1_s] at hm
    show CdOK _ _ _ (look T0 [(0, .o (.c (.L 1 (l_.map cI)))), (1, VI (least)), (2, VI (most)), (3, VI (step)), (11, .o (.c (.L 1 (l_.map cI)))), (12, VI ((l_.length : Int))), (13, VI (t131))]) (h ++ ([] : Heap)) _
    refine CdOK.seq ?_
    refine CdOK.region ?_
    refine RgOK.s (v := VB (decide (t131 < (l_.length : Int)))) rfl rfl rfl (e_bin (ev_t rfl) (ev_t rfl) rfl rfl) ?_
    refine RgOK.nil ?_
    show CdOK _ _ _ _ _ _
    refine CdOK.seq ?_
    refine CdOK.condD (ev_t rfl) ?_ ?_
    · intro c3; replace hm := hm.ifp c3
      refine CdOK.skip ?_
      show CdOK _ _ _ _ _ _
      refine CdOK.seq ?_
      refine CdOK.block ?_
      refine CdOK.seq ?_
      refine CdOK.region ?_
      refine RgOK.s (v := VI (t131)) rfl rfl rfl (e_mv (ev_t rfl)) ?_
      obtain ⟨c4, hm⟩ := hm.ifs
      refine RgOK.s (v := .o (.c (.rp [I ((gd l_ t131))]))) rfl rfl rfl (e_ixM (f := cI) (l := l_) (i := t131) (ev_t rfl) (ev_t rfl) el27 c4) ?_
      refine RgOK.s (v := VI ((gd l_ t131))) rfl rfl rfl (e_ldR1 (ev_t rfl) ty3 rfl) ?_
      refine RgOK.s (v := VI (t131)) rfl rfl rfl (e_as (ev_t rfl)) ?_
      refine RgOK.s (v := VI ((gd l_ t131))) rfl rfl rfl (e_as (ev_t rfl)) ?_
      refine RgOK.nil ?_
      show CdOK _ _ _ _ _ _
      refine CdOK.seq ?_
      refine CdOK.region ?_
      refine RgOK.s (v := VI ((gd l_ t131))) rfl rfl rfl (e_mv (ev_t rfl)) ?_
      refine RgOK.s (v := VI (least)) rfl rfl rfl (e_mv (ev_t rfl)) ?_
      refine RgOK.sd rfl rfl rfl (e_bin (ev_t rfl) (ev_t rfl) rfl rfl) ?_ ?_
      · intro c5; replace hm := hm.ifp c5
        refine RgOK.s (v := VB (true)) rfl rfl rfl (e_mv (ev_t rfl)) ?_
        refine RgOK.sk rfl rfl rfl ?_
        refine RgOK.sk rfl rfl rfl ?_
        refine RgOK.sk rfl rfl rfl ?_
        refine RgOK.s (v := VB (true)) rfl rfl rfl (e_pick (t := true) (ev_t rfl) rfl) ?_
        refine RgOK.s (v := VB (true)) rfl rfl rfl (e_mv (ev_t rfl)) ?_
        refine RgOK.sk rfl rfl rfl ?_
        refine RgOK.sk rfl rfl rfl ?_
        refine RgOK.sk rfl rfl rfl ?_
        refine RgOK.sk rfl rfl rfl ?_
        refine RgOK.sk rfl rfl rfl ?_
        refine RgOK.sk rfl rfl rfl ?_
        refine RgOK.sk rfl rfl rfl ?_
        refine RgOK.sk rfl rfl rfl ?_
        refine RgOK.sk rfl rfl rfl ?_
        refine RgOK.sk rfl rfl rfl ?_
        refine RgOK.sk rfl rfl rfl ?_
        refine RgOK.sk rfl rfl rfl ?_
        refine RgOK.sk rfl rfl rfl ?_
        refine RgOK.s (v := VB (true)) rfl rfl rfl (e_pick (t := true) (ev_t rfl) rfl) ?_
        refine RgOK.nil ?_
        show CdOK _ _ _ _ _ _
        refine CdOK.cond_true rfl ?_
        refine CdOK.seq ?_
        refine CdOK.region ?_
        refine RgOK.s (v := VB (false)) rfl rfl rfl (e_as rfl) ?_
        refine RgOK.nil ?_
        show CdOK _ _ _ _ _ _
        refine CdOK.ret ?_
        refine ⟨.inr rfl, _, rfl, h, [], _, rfl, rfl, hC, ((renFlV rfl) : RenV _ _ _ _ (VB (false))), ?_⟩
        have hr := hm.ret
        replace hr := Ev.ret hr
        subst hr
        exact ⟨rfl, rfl⟩
      · intro c6; replace hm := hm.ifn c6
        refine RgOK.s (v := VB (false)) rfl rfl rfl (e_mv (ev_t rfl)) ?_
        refine RgOK.s (v := VI ((gd l_ t131))) rfl rfl rfl (e_mv (ev_t rfl)) ?_
        refine RgOK.s (v := VI (most)) rfl rfl rfl (e_mv (ev_t rfl)) ?_
        refine RgOK.sd rfl rfl rfl (e_bin (ev_t rfl) (ev_t rfl) rfl rfl) ?_ ?_
        · intro c7; replace hm := hm.ifp c7
          refine RgOK.s (v := VB (true)) rfl rfl rfl (e_pick (t := false) (ev_t rfl) (ev_t rfl)) ?_
          refine RgOK.s (v := VB (true)) rfl rfl rfl (e_mv (ev_t rfl)) ?_
          refine RgOK.sk rfl rfl rfl ?_
          refine RgOK.sk rfl rfl rfl ?_
          refine RgOK.sk rfl rfl rfl ?_
          refine RgOK.sk rfl rfl rfl ?_
          refine RgOK.sk rfl rfl rfl ?_
          refine RgOK.sk rfl rfl rfl ?_
          refine RgOK.sk rfl rfl rfl ?_
          refine RgOK.sk rfl rfl rfl ?_
          refine RgOK.sk rfl rfl rfl ?_
          refine RgOK.sk rfl rfl rfl ?_
          refine RgOK.sk rfl rfl rfl ?_
          refine RgOK.sk rfl rfl rfl ?_
          refine RgOK.sk rfl rfl rfl ?_
          refine RgOK.s (v := VB (true)) rfl rfl rfl (e_pick (t := true) (ev_t rfl) rfl) ?_
          refine RgOK.nil ?_
          show CdOK _ _ _ _ _ _
          refine CdOK.cond_true rfl ?_
          refine CdOK.seq ?_
          refine CdOK.region ?_
          refine RgOK.s (v := VB (false)) rfl rfl rfl (e_as rfl) ?_
          refine RgOK.nil ?_
          show CdOK _ _ _ _ _ _
          refine CdOK.ret ?_
          refine ⟨.inr rfl, _, rfl, h, [], _, rfl, rfl, hC, ((renFlV rfl) : RenV _ _ _ _ (VB (false))), ?_⟩
          have hr := hm.ret
          replace hr := Ev.ret hr
          subst hr
          exact ⟨rfl, rfl⟩
        · intro c8; replace hm := hm.ifn c8
          refine RgOK.s (v := VB (false)) rfl rfl rfl (e_pick (t := false) (ev_t rfl) (ev_t rfl)) ?_
          refine RgOK.s (v := VB (false)) rfl rfl rfl (e_mv (ev_t rfl)) ?_
          refine RgOK.s (v := VI (t131)) rfl rfl rfl (e_mv (ev_t rfl)) ?_
          refine RgOK.sd rfl rfl rfl (e_bin (ev_t rfl) rfl rfl rfl) ?_ ?_
          · intro c9; replace hm := hm.ifp c9
            refine RgOK.s (v := VB (true)) rfl rfl rfl (e_mv (ev_t rfl)) ?_
            refine RgOK.s (v := .o (.c (.L 1 (l_.map cI)))) rfl rfl rfl (e_mv (ev_t rfl)) ?_
            refine RgOK.s (v := VI (t131)) rfl rfl rfl (e_mv (ev_t rfl)) ?_
            refine RgOK.s (v := VI ((w64 (t131 - 1)))) rfl rfl rfl (e_bin (ev_t rfl) rfl rfl rfl) ?_
            obtain ⟨c10, hm⟩ := hm.ifs
            refine RgOK.s (v := .o (.c (.rp [I ((gd l_ (w64 (t131 - 1))))]))) rfl rfl rfl (e_ixM (f := cI) (l := l_) (i := (w64 (t131 - 1))) (ev_t rfl) (ev_t rfl) el27 c10) ?_
            refine RgOK.s (v := VI ((gd l_ (w64 (t131 - 1))))) rfl rfl rfl (e_ldR1 (ev_t rfl) ty3 rfl) ?_
            refine RgOK.s (v := VI (step)) rfl rfl rfl (e_mv (ev_t rfl)) ?_
            refine RgOK.s (v := VI ((w64 ((gd l_ (w64 (t131 - 1))) + step)))) rfl rfl rfl (e_bin (ev_t rfl) (ev_t rfl) rfl rfl) ?_
            refine RgOK.s (v := VI ((gd l_ t131))) rfl rfl rfl (e_mv (ev_t rfl)) ?_
            refine RgOK.s (v := VB (decide ((gd l_ t131) < (w64 ((gd l_ (w64 (t131 - 1))) + step))))) rfl rfl rfl (e_bin (ev_t rfl) (ev_t rfl) rfl rfl) ?_
            refine RgOK.s (v := VB (decide ((gd l_ t131) < (w64 ((gd l_ (w64 (t131 - 1))) + step))))) rfl rfl rfl (e_pick (t := true) (ev_t rfl) (ev_t rfl)) ?_
            refine RgOK.s (v := VB (decide ((gd l_ t131) < (w64 ((gd l_ (w64 (t131 - 1))) + step))))) rfl rfl rfl (e_pick (t := false) (ev_t rfl) (ev_t rfl)) ?_
            refine RgOK.nil ?_
            show CdOK _ _ _ _ _ _
            refine CdOK.condD (ev_t rfl) ?_ ?_
            · intro c11; replace hm := hm.ifp c11
              refine CdOK.seq ?_
              refine CdOK.region ?_
              refine RgOK.s (v := VB (false)) rfl rfl rfl (e_as rfl) ?_
              refine RgOK.nil ?_
              show CdOK _ _ _ _ _ _
              refine CdOK.ret ?_
              refine ⟨.inr rfl, _, rfl, h, [], _, rfl, rfl, hC, ((renFlV rfl) : RenV _ _ _ _ (VB (false))), ?_⟩
              have hr := hm.ret
              replace hr := Ev.ret hr
              subst hr
              exact ⟨rfl, rfl⟩
            · intro c12; replace hm := hm.ifn c12
              refine CdOK.skip ?_
              show CdOK _ _ _ _ _ _
              refine CdOK.region ?_
              refine RgOK.s (v := VI ((w64 (t131 + 1)))) rfl rfl rfl (e_bin (ev_t rfl) rfl rfl rfl) ?_
              refine RgOK.s (v := VI ((w64 (t131 + 1)))) rfl rfl rfl (e_mv (ev_t rfl)) ?_
              refine RgOK.nil ?_
              refine Told.id ?_
              exact ⟨_, (w64 (t131 + 1)), Nat.lt_succ_self _, hm, (.cons rfl (.cons rfl (.cons rfl (.cons rfl (.cons rfl (.cons rfl (.cons rfl .nil))))))), rfl⟩
          · intro c13; replace hm := hm.ifn c13
            refine RgOK.s (v := VB (false)) rfl rfl rfl (e_mv (ev_t rfl)) ?_
            refine RgOK.sk rfl rfl rfl ?_
            refine RgOK.sk rfl rfl rfl ?_
            refine RgOK.sk rfl rfl rfl ?_
            refine RgOK.sk rfl rfl rfl ?_
            refine RgOK.sk rfl rfl rfl ?_
            refine RgOK.sk rfl rfl rfl ?_
            refine RgOK.sk rfl rfl rfl ?_
            refine RgOK.sk rfl rfl rfl ?_
            refine RgOK.sk rfl rfl rfl ?_
            refine RgOK.s (v := VB (false)) rfl rfl rfl (e_pick (t := false) (ev_t rfl) rfl) ?_
            refine RgOK.s (v := VB (false)) rfl rfl rfl (e_pick (t := false) (ev_t rfl) (ev_t rfl)) ?_
            refine RgOK.nil ?_
            show CdOK _ _ _ _ _ _
            refine CdOK.cond_false rfl ?_
            refine CdOK.skip ?_
            show CdOK _ _ _ _ _ _
            refine CdOK.region ?_
            refine RgOK.s (v := VI ((w64 (t131 + 1)))) rfl rfl rfl (e_bin (ev_t rfl) rfl rfl rfl) ?_
            refine RgOK.s (v := VI ((w64 (t131 + 1)))) rfl rfl rfl (e_mv (ev_t rfl)) ?_
            refine RgOK.nil ?_
            refine Told.id ?_
            exact ⟨_, (w64 (t131 + 1)), Nat.lt_succ_self _, hm, (.cons rfl (.cons rfl (.cons rfl (.cons rfl (.cons rfl (.cons rfl (.cons rfl .nil))))))), rfl⟩
    · intro c14; replace hm := hm.ifn c14
      refine CdOK.exit ?_
      refine Told.id ?_
      exact ⟨(), hm.ret, .nil, rfl⟩
  · intro _ T0 hm
    show CdOK _ _ _ _ _ _
    refine CdOK.seq ?_
    refine CdOK.region ?_
    refine RgOK.s (v := VB (true)) rfl rfl rfl (e_as rfl) ?_
    refine RgOK.nil ?_
    show CdOK _ _ _ _ _ _
    refine CdOK.ret ?_
    refine ⟨.inr rfl, _, rfl, h, [], _, rfl, rfl, hC, ((renFlV rfl) : RenV _ _ _ _ (VB (true))), ?_⟩
    have hr := hm.ret
    subst hr
    exact ⟨rfl, rfl⟩
/- pagemend/transactions.right -/
def transactions_right (t_ : Tx) : Option Bool := (((if t_.until_ = 0 then some true else (if t_.state = 2 then (if 0 < t_.until_ then (if t_.until_ ≤ t_.last then some true else some false) else some false) else some false))).bind fun (s10 : Bool) => (if 1 ≤ t_.id_ then (if t_.id_ ≤ 1073741824 then (if 1 ≤ t_.state then (if t_.state ≤ 3 then (if 0 ≤ t_.last then (if t_.last ≤ 1099511627776 then (if s10 = true then (if (t_.pending.length : Int) ≤ 4096 then ((transactions_ascending t_.pending 1 t_.last 1).bind fun (x19 : Bool) => (if x19 = true then (if (t_.saves.length : Int) ≤ 8 then ((transactions_ascending t_.saves 0 t_.last 0).bind fun (x21 : Bool) => some x21) else some false) else some false)) else some false) else some false) else some false) else some false) else some false) else some false) else some false) else some false))
theorem transactions_right.eq (t_ : Tx) : transactions_right t_ = (((if t_.until_ = 0 then some true else (if t_.state = 2 then (if 0 < t_.until_ then (if t_.until_ ≤ t_.last then some true else some false) else some false) else some false))).bind fun (s10 : Bool) => (if 1 ≤ t_.id_ then (if t_.id_ ≤ 1073741824 then (if 1 ≤ t_.state then (if t_.state ≤ 3 then (if 0 ≤ t_.last then (if t_.last ≤ 1099511627776 then (if s10 = true then (if (t_.pending.length : Int) ≤ 4096 then ((transactions_ascending t_.pending 1 t_.last 1).bind fun (x19 : Bool) => (if x19 = true then (if (t_.saves.length : Int) ≤ 8 then ((transactions_ascending t_.saves 0 t_.last 0).bind fun (x21 : Bool) => some x21) else some false) else some false)) else some false) else some false) else some false) else some false) else some false) else some false) else some false) else some false)) := rfl
theorem transactions_right_ok {h : Heap} {t_ : Tx}  {r : Bool} (hm : transactions_right t_ = some r) : FnOK Try.prog 133 [.o (.agg [I (t_.id_), I (t_.state), I (t_.last), I (t_.until_), .L 1 (t_.pending.map cI), .L 1 (t_.saves.map cI)])] h (fun v h' => v = VB (r) ∧ h' = h) := by
  refine FnOK.fin ?_
  refine FnOK.bodyC (N := 81) Try.func133 rfl rfl rfl (fun hC => ?_)
  replace hm := Ev.of hm
  rw [transactions_right.eq] at hm
  show CdOK _ _ _ (look _ [(0, .o (.agg [I (t_.id_), I (t_.state), I (t_.last), I (t_.until_), .L 1 (t_.pending.map cI), .L 1 (t_.saves.map cI)]))]) (h ++ ([] : Heap)) _
  refine CdOK.seq ?_
  refine CdOK.region ?_
  refine RgOK.s (v := .o (.c (.ptr (h.length + 0) 0))) rfl rfl rfl (e_boxN (L' := [⟨[I (t_.id_), I (t_.state), I (t_.last), I (t_.until_), .L 1 (t_.pending.map cI), .L 1 (t_.saves.map cI)], true, true⟩]) rfl (ev_t rfl) rfl rfl) ?_
  refine RgOK.s (v := VB (false)) rfl rfl rfl (e_as rfl) ?_
  refine RgOK.nil ?_
  show CdOK _ _ _ _ _ _
  replace hm := hm.bnd
  refine CdOK.joinE (σ := Bool) (fun s => s) hm (fun s => [(1, .o (.c (.ptr (h.length + 0) 0))), (3, VB (s))]) (fun s => h ++ ([⟨[I (t_.id_), I (t_.state), I (t_.last), I (t_.until_), .L 1 (t_.pending.map cI), .L 1 (t_.saves.map cI)], true, true⟩] : Heap)) ?_ ?_
  · intro hm
    refine CdOK.region ?_
    refine RgOK.s (v := .o (.c (.ptr (h.length + 0) 3))) rfl rfl rfl (e_fa' fa108_3 (ev_t rfl)) ?_
    refine RgOK.s (v := VI (t_.until_)) rfl rfl rfl (e_ldb1 (ev_t rfl) ty3 (bx rfl rfl) rfl) ?_
    refine RgOK.sd rfl rfl rfl (e_eqK (ev_t rfl) rfl) ?_ ?_
    · intro c2; replace hm := hm.ifp c2
      refine RgOK.s (v := VB (true)) rfl rfl rfl (e_mv (ev_t rfl)) ?_
      refine RgOK.sk rfl rfl rfl ?_
      refine RgOK.sk rfl rfl rfl ?_
      refine RgOK.sk rfl rfl rfl ?_
      refine RgOK.sk rfl rfl rfl ?_
      refine RgOK.sk rfl rfl rfl ?_
      refine RgOK.sk rfl rfl rfl ?_
      refine RgOK.sk rfl rfl rfl ?_
      refine RgOK.sk rfl rfl rfl ?_
      refine RgOK.sk rfl rfl rfl ?_
      refine RgOK.sk rfl rfl rfl ?_
      refine RgOK.sk rfl rfl rfl ?_
      refine RgOK.sk rfl rfl rfl ?_
      refine RgOK.sk rfl rfl rfl ?_
      refine RgOK.sk rfl rfl rfl ?_
      refine RgOK.sk rfl rfl rfl ?_
      refine RgOK.s (v := VB (true)) rfl rfl rfl (e_pick (t := true) (ev_t rfl) rfl) ?_
      refine RgOK.s (v := VB (true)) rfl rfl rfl (e_as (ev_t rfl)) ?_
      refine RgOK.nil ?_
      refine Told.id ?_
      exact ⟨true, hm.ret, (.cons rfl (.cons rfl .nil)), rfl⟩
    · intro c3; replace hm := hm.ifn c3
      refine RgOK.s (v := VB (false)) rfl rfl rfl (e_mv (ev_t rfl)) ?_
      refine RgOK.s (v := .o (.c (.ptr (h.length + 0) 1))) rfl rfl rfl (e_fa' fa108_1 (ev_t rfl)) ?_
      refine RgOK.s (v := VI (t_.state)) rfl rfl rfl (e_ldb1 (ev_t rfl) ty3 (bx rfl rfl) rfl) ?_
      refine RgOK.sd rfl rfl rfl (e_eqK (ev_t rfl) rfl) ?_ ?_
      · intro c4; replace hm := hm.ifp c4
        refine RgOK.s (v := VB (true)) rfl rfl rfl (e_mv (ev_t rfl)) ?_
        refine RgOK.s (v := .o (.c (.ptr (h.length + 0) 3))) rfl rfl rfl (e_fa' fa108_3 (ev_t rfl)) ?_
        refine RgOK.s (v := VI (t_.until_)) rfl rfl rfl (e_ldb1 (ev_t rfl) ty3 (bx rfl rfl) rfl) ?_
        refine RgOK.sd rfl rfl rfl (e_bin (ev_t rfl) rfl rfl rfl) ?_ ?_
        · intro c5; replace hm := hm.ifp c5
          refine RgOK.s (v := VB (true)) rfl rfl rfl (e_pick (t := true) (ev_t rfl) (ev_t rfl)) ?_
          refine RgOK.s (v := VB (true)) rfl rfl rfl (e_mv (ev_t rfl)) ?_
          refine RgOK.s (v := .o (.c (.ptr (h.length + 0) 3))) rfl rfl rfl (e_fa' fa108_3 (ev_t rfl)) ?_
          refine RgOK.s (v := VI (t_.until_)) rfl rfl rfl (e_ldb1 (ev_t rfl) ty3 (bx rfl rfl) rfl) ?_
          refine RgOK.s (v := .o (.c (.ptr (h.length + 0) 2))) rfl rfl rfl (e_fa' fa108_2 (ev_t rfl)) ?_
          refine RgOK.s (v := VI (t_.last)) rfl rfl rfl (e_ldb1 (ev_t rfl) ty3 (bx rfl rfl) rfl) ?_
          refine RgOK.sd rfl rfl rfl (e_bin (ev_t rfl) (ev_t rfl) rfl rfl) ?_ ?_
          · intro c6; replace hm := hm.ifp c6
            refine RgOK.s (v := VB (true)) rfl rfl rfl (e_pick (t := true) (ev_t rfl) (ev_t rfl)) ?_
            refine RgOK.s (v := VB (true)) rfl rfl rfl (e_pick (t := false) (ev_t rfl) (ev_t rfl)) ?_
            refine RgOK.s (v := VB (true)) rfl rfl rfl (e_as (ev_t rfl)) ?_
            refine RgOK.nil ?_
            refine Told.id ?_
            exact ⟨true, hm.ret, (.cons rfl (.cons rfl .nil)), rfl⟩
          · intro c7; replace hm := hm.ifn c7
            refine RgOK.s (v := VB (false)) rfl rfl rfl (e_pick (t := true) (ev_t rfl) (ev_t rfl)) ?_
            refine RgOK.s (v := VB (false)) rfl rfl rfl (e_pick (t := false) (ev_t rfl) (ev_t rfl)) ?_
            refine RgOK.s (v := VB (false)) rfl rfl rfl (e_as (ev_t rfl)) ?_
            refine RgOK.nil ?_
            refine Told.id ?_
            exact ⟨false, hm.ret, (.cons rfl (.cons rfl .nil)), rfl⟩
        · intro c8; replace hm := hm.ifn c8
          refine RgOK.s (v := VB (false)) rfl rfl rfl (e_pick (t := true) (ev_t rfl) (ev_t rfl)) ?_
          refine RgOK.s (v := VB (false)) rfl rfl rfl (e_mv (ev_t rfl)) ?_
          refine RgOK.sk rfl rfl rfl ?_
          refine RgOK.sk rfl rfl rfl ?_
          refine RgOK.sk rfl rfl rfl ?_
          refine RgOK.sk rfl rfl rfl ?_
          refine RgOK.sk rfl rfl rfl ?_
          refine RgOK.s (v := VB (false)) rfl rfl rfl (e_pick (t := false) (ev_t rfl) rfl) ?_
          refine RgOK.s (v := VB (false)) rfl rfl rfl (e_pick (t := false) (ev_t rfl) (ev_t rfl)) ?_
          refine RgOK.s (v := VB (false)) rfl rfl rfl (e_as (ev_t rfl)) ?_
          refine RgOK.nil ?_
          refine Told.id ?_
          exact ⟨false, hm.ret, (.cons rfl (.cons rfl .nil)), rfl⟩
      · intro c9; replace hm := hm.ifn c9
        refine RgOK.s (v := VB (false)) rfl rfl rfl (e_mv (ev_t rfl)) ?_
        refine RgOK.sk rfl rfl rfl ?_
        refine RgOK.sk rfl rfl rfl ?_
        refine RgOK.sk rfl rfl rfl ?_
        refine RgOK.s (v := VB (false)) rfl rfl rfl (e_pick (t := false) (ev_t rfl) rfl) ?_
        refine RgOK.s (v := VB (false)) rfl rfl rfl (e_mv (ev_t rfl)) ?_
        refine RgOK.sk rfl rfl rfl ?_
        refine RgOK.sk rfl rfl rfl ?_
        refine RgOK.sk rfl rfl rfl ?_
        refine RgOK.sk rfl rfl rfl ?_
        refine RgOK.sk rfl rfl rfl ?_
        refine RgOK.s (v := VB (false)) rfl rfl rfl (e_pick (t := false) (ev_t rfl) rfl) ?_
        refine RgOK.s (v := VB (false)) rfl rfl rfl (e_pick (t := false) (ev_t rfl) (ev_t rfl)) ?_
        refine RgOK.s (v := VB (false)) rfl rfl rfl (e_as (ev_t rfl)) ?_
        refine RgOK.nil ?_
        refine Told.id ?_
        exact ⟨false, hm.ret, (.cons rfl (.cons rfl .nil)), rfl⟩
  · rintro until1 T0 hm
    show CdOK _ _ _ (look T0 [(1, .o (.c (.ptr (h.length + 0) 0))), (3, VB (until1))]) (h ++ ([⟨[I (t_.id_), I (t_.state), I (t_.last), I (t_.until_), .L 1 (t_.pending.map cI), .L 1 (t_.saves.map cI)], true, true⟩] : Heap)) _
    refine CdOK.seq ?_
    refine CdOK.region ?_
    refine RgOK.s (v := .o (.c (.ptr (h.length + 0) 0))) rfl rfl rfl (e_fa' fa108_0 (ev_t rfl)) ?_
    refine RgOK.s (v := VI (t_.id_)) rfl rfl rfl (e_ldb1 (ev_t rfl) ty3 (bx rfl rfl) rfl) ?_
    refine RgOK.sd rfl rfl rfl (e_bin (ev_t rfl) rfl rfl rfl) ?_ ?_
    · intro c11; replace hm := hm.ifp c11
      refine RgOK.s (v := VB (true)) rfl rfl rfl (e_mv (ev_t rfl)) ?_
      refine RgOK.s (v := .o (.c (.ptr (h.length + 0) 0))) rfl rfl rfl (e_fa' fa108_0 (ev_t rfl)) ?_
      refine RgOK.s (v := VI (t_.id_)) rfl rfl rfl (e_ldb1 (ev_t rfl) ty3 (bx rfl rfl) rfl) ?_
      refine RgOK.sd rfl rfl rfl (e_bin (ev_t rfl) rfl rfl rfl) ?_ ?_
      · intro c12; replace hm := hm.ifp c12
        refine RgOK.s (v := VB (true)) rfl rfl rfl (e_pick (t := true) (ev_t rfl) (ev_t rfl)) ?_
        refine RgOK.s (v := VB (true)) rfl rfl rfl (e_mv (ev_t rfl)) ?_
        refine RgOK.s (v := .o (.c (.ptr (h.length + 0) 1))) rfl rfl rfl (e_fa' fa108_1 (ev_t rfl)) ?_
        refine RgOK.s (v := VI (t_.state)) rfl rfl rfl (e_ldb1 (ev_t rfl) ty3 (bx rfl rfl) rfl) ?_
        refine RgOK.sd rfl rfl rfl (e_bin (ev_t rfl) rfl rfl rfl) ?_ ?_
        · intro c13; replace hm := hm.ifp c13
          refine RgOK.s (v := VB (true)) rfl rfl rfl (e_pick (t := true) (ev_t rfl) (ev_t rfl)) ?_
          refine RgOK.s (v := VB (true)) rfl rfl rfl (e_mv (ev_t rfl)) ?_
          refine RgOK.s (v := .o (.c (.ptr (h.length + 0) 1))) rfl rfl rfl (e_fa' fa108_1 (ev_t rfl)) ?_
          refine RgOK.s (v := VI (t_.state)) rfl rfl rfl (e_ldb1 (ev_t rfl) ty3 (bx rfl rfl) rfl) ?_
          refine RgOK.sd rfl rfl rfl (e_bin (ev_t rfl) rfl rfl rfl) ?_ ?_
          · intro c14; replace hm := hm.ifp c14
            refine RgOK.s (v := VB (true)) rfl rfl rfl (e_pick (t := true) (ev_t rfl) (ev_t rfl)) ?_
            refine RgOK.s (v := VB (true)) rfl rfl rfl (e_mv (ev_t rfl)) ?_
            refine RgOK.s (v := .o (.c (.ptr (h.length + 0) 2))) rfl rfl rfl (e_fa' fa108_2 (ev_t rfl)) ?_
            refine RgOK.s (v := VI (t_.last)) rfl rfl rfl (e_ldb1 (ev_t rfl) ty3 (bx rfl rfl) rfl) ?_
            refine RgOK.sd rfl rfl rfl (e_bin (ev_t rfl) rfl rfl rfl) ?_ ?_
            · intro c15; replace hm := hm.ifp c15
              refine RgOK.s (v := VB (true)) rfl rfl rfl (e_pick (t := true) (ev_t rfl) (ev_t rfl)) ?_
              refine RgOK.s (v := VB (true)) rfl rfl rfl (e_mv (ev_t rfl)) ?_
              refine RgOK.s (v := .o (.c (.ptr (h.length + 0) 2))) rfl rfl rfl (e_fa' fa108_2 (ev_t rfl)) ?_
              refine RgOK.s (v := VI (t_.last)) rfl rfl rfl (e_ldb1 (ev_t rfl) ty3 (bx rfl rfl) rfl) ?_
              refine RgOK.sd rfl rfl rfl (e_bin (ev_t rfl) rfl rfl rfl) ?_ ?_
              · intro c16; replace hm := hm.ifp c16
                refine RgOK.s (v := VB (true)) rfl rfl rfl (e_pick (t := true) (ev_t rfl) (ev_t rfl)) ?_
                refine RgOK.s (v := VB (true)) rfl rfl rfl (e_mv (ev_t rfl)) ?_
                refine RgOK.sb rfl rfl rfl (e_mv (ev_t rfl)) ?_ ?_
                · intro c17; replace hm := hm.ifp c17
                  refine RgOK.s (v := VB (true)) rfl rfl rfl (e_pick (t := true) (ev_t rfl) (ev_t rfl)) ?_
                  refine RgOK.s (v := VB (true)) rfl rfl rfl (e_mv (ev_t rfl)) ?_
                  refine RgOK.s (v := .o (.c (.ptr (h.length + 0) 4))) rfl rfl rfl (e_fa' fa108_4 (ev_t rfl)) ?_
                  refine RgOK.s (v := .o (.c (.L 1 (t_.pending.map cI)))) rfl rfl rfl (e_ldb1 (ev_t rfl) ty27 (bx rfl rfl) rfl) ?_
                  refine RgOK.s (v := VI ((t_.pending.length : Int))) rfl rfl rfl (e_lenM (ev_t rfl) is27) ?_
                  refine RgOK.sd rfl rfl rfl (e_bin (ev_t rfl) rfl rfl rfl) ?_ ?_
                  · intro c18; replace hm := hm.ifp c18
                    refine RgOK.s (v := VB (true)) rfl rfl rfl (e_pick (t := true) (ev_t rfl) (ev_t rfl)) ?_
                    refine RgOK.s (v := VB (true)) rfl rfl rfl (e_mv (ev_t rfl)) ?_
                    refine RgOK.s (v := .o (.c (.ptr (h.length + 0) 4))) rfl rfl rfl (e_fa' fa108_4 (ev_t rfl)) ?_
                    refine RgOK.s (v := .o (.c (.L 1 (t_.pending.map cI)))) rfl rfl rfl (e_ldb1 (ev_t rfl) ty27 (bx rfl rfl) rfl) ?_
                    refine RgOK.s (v := .o (.c (.ptr (h.length + 0) 2))) rfl rfl rfl (e_fa' fa108_2 (ev_t rfl)) ?_
                    refine RgOK.s (v := VI (t_.last)) rfl rfl rfl (e_ldb1 (ev_t rfl) ty3 (bx rfl rfl) rfl) ?_
                    obtain ⟨x19, e19, hm⟩ := hm.call
                    cases x19 with
                    | true =>
                      replace hm := hm.ifp rfl
                      refine RgOK.cl rfl rfl rfl rfl pl186 (R2.wk _) (transactions_ascending_ok   e19) ?_
                      rintro _ _ ⟨rfl, rfl⟩
                      refine RgOK.s (v := VB (true)) rfl rfl rfl (e_pick (t := true) (ev_t rfl) (ev_t rfl)) ?_
                      refine RgOK.s (v := VB (true)) rfl rfl rfl (e_mv (ev_t rfl)) ?_
                      refine RgOK.s (v := .o (.c (.ptr (h.length + 0) 5))) rfl rfl rfl (e_fa' fa108_5 (ev_t rfl)) ?_
                      refine RgOK.s (v := .o (.c (.L 1 (t_.saves.map cI)))) rfl rfl rfl (e_ldb1 (ev_t rfl) ty27 (bx rfl rfl) rfl) ?_
                      refine RgOK.s (v := VI ((t_.saves.length : Int))) rfl rfl rfl (e_lenM (ev_t rfl) is27) ?_
                      refine RgOK.sd rfl rfl rfl (e_bin (ev_t rfl) rfl rfl rfl) ?_ ?_
                      · intro c20; replace hm := hm.ifp c20
                        refine RgOK.s (v := VB (true)) rfl rfl rfl (e_pick (t := true) (ev_t rfl) (ev_t rfl)) ?_
                        refine RgOK.s (v := VB (true)) rfl rfl rfl (e_mv (ev_t rfl)) ?_
                        refine RgOK.s (v := .o (.c (.ptr (h.length + 0) 5))) rfl rfl rfl (e_fa' fa108_5 (ev_t rfl)) ?_
                        refine RgOK.s (v := .o (.c (.L 1 (t_.saves.map cI)))) rfl rfl rfl (e_ldb1 (ev_t rfl) ty27 (bx rfl rfl) rfl) ?_
                        refine RgOK.s (v := .o (.c (.ptr (h.length + 0) 2))) rfl rfl rfl (e_fa' fa108_2 (ev_t rfl)) ?_
                        refine RgOK.s (v := VI (t_.last)) rfl rfl rfl (e_ldb1 (ev_t rfl) ty3 (bx rfl rfl) rfl) ?_
                        obtain ⟨x21, e21, hm⟩ := hm.call
                        refine RgOK.cl rfl rfl rfl rfl pl186 (R2.wk _) (transactions_ascending_ok   e21) ?_
                        rintro _ _ ⟨rfl, rfl⟩
                        refine RgOK.s (v := VB (x21)) rfl rfl rfl (e_pick (t := true) (ev_t rfl) (ev_t rfl)) ?_
                        refine RgOK.s (v := VB (x21)) rfl rfl rfl (e_as (ev_t rfl)) ?_
                        refine RgOK.nil ?_
                        show CdOK _ _ _ _ _ _
                        refine CdOK.ret ?_
                        refine ⟨.inr rfl, _, rfl, h, [⟨[I (t_.id_), I (t_.state), I (t_.last), I (t_.until_), .L 1 (t_.pending.map cI), .L 1 (t_.saves.map cI)], true, true⟩], _, rfl, rfl, hC, ((renFlV rfl) : RenV _ _ _ _ (VB (x21))), ?_⟩
                        have hr := hm.ret
                        subst hr
                        exact ⟨rfl, rfl⟩
                      · intro c22; replace hm := hm.ifn c22
                        refine RgOK.s (v := VB (false)) rfl rfl rfl (e_pick (t := true) (ev_t rfl) (ev_t rfl)) ?_
                        refine RgOK.s (v := VB (false)) rfl rfl rfl (e_mv (ev_t rfl)) ?_
                        refine RgOK.sk rfl rfl rfl ?_
                        refine RgOK.sk rfl rfl rfl ?_
                        refine RgOK.sk rfl rfl rfl ?_
                        refine RgOK.sk rfl rfl rfl ?_
                        refine RgOK.sk rfl rfl rfl ?_
                        refine RgOK.s (v := VB (false)) rfl rfl rfl (e_pick (t := false) (ev_t rfl) rfl) ?_
                        refine RgOK.s (v := VB (false)) rfl rfl rfl (e_as (ev_t rfl)) ?_
                        refine RgOK.nil ?_
                        show CdOK _ _ _ _ _ _
                        refine CdOK.ret ?_
                        refine ⟨.inr rfl, _, rfl, h, [⟨[I (t_.id_), I (t_.state), I (t_.last), I (t_.until_), .L 1 (t_.pending.map cI), .L 1 (t_.saves.map cI)], true, true⟩], _, rfl, rfl, hC, ((renFlV rfl) : RenV _ _ _ _ (VB (false))), ?_⟩
                        have hr := hm.ret
                        subst hr
                        exact ⟨rfl, rfl⟩
                    | false =>
                      replace hm := hm.ifn Bool.false_ne_true
                      refine RgOK.cl rfl rfl rfl rfl pl186 (R2.wk _) (transactions_ascending_ok   e19) ?_
                      rintro _ _ ⟨rfl, rfl⟩
                      refine RgOK.s (v := VB (false)) rfl rfl rfl (e_pick (t := true) (ev_t rfl) (ev_t rfl)) ?_
                      refine RgOK.s (v := VB (false)) rfl rfl rfl (e_mv (ev_t rfl)) ?_
                      refine RgOK.sk rfl rfl rfl ?_
                      refine RgOK.sk rfl rfl rfl ?_
                      refine RgOK.sk rfl rfl rfl ?_
                      refine RgOK.sk rfl rfl rfl ?_
                      refine RgOK.s (v := VB (false)) rfl rfl rfl (e_pick (t := false) (ev_t rfl) rfl) ?_
                      refine RgOK.s (v := VB (false)) rfl rfl rfl (e_mv (ev_t rfl)) ?_
                      refine RgOK.sk rfl rfl rfl ?_
                      refine RgOK.sk rfl rfl rfl ?_
                      refine RgOK.sk rfl rfl rfl ?_
                      refine RgOK.sk rfl rfl rfl ?_
                      refine RgOK.sk rfl rfl rfl ?_
                      refine RgOK.s (v := VB (false)) rfl rfl rfl (e_pick (t := false) (ev_t rfl) rfl) ?_
                      refine RgOK.s (v := VB (false)) rfl rfl rfl (e_as (ev_t rfl)) ?_
                      refine RgOK.nil ?_
                      show CdOK _ _ _ _ _ _
                      refine CdOK.ret ?_
                      refine ⟨.inr rfl, _, rfl, h, [⟨[I (t_.id_), I (t_.state), I (t_.last), I (t_.until_), .L 1 (t_.pending.map cI), .L 1 (t_.saves.map cI)], true, true⟩], _, rfl, rfl, hC, ((renFlV rfl) : RenV _ _ _ _ (VB (false))), ?_⟩
                      have hr := hm.ret
                      subst hr
                      exact ⟨rfl, rfl⟩
                  · intro c23; replace hm := hm.ifn c23
                    refine RgOK.s (v := VB (false)) rfl rfl rfl (e_pick (t := true) (ev_t rfl) (ev_t rfl)) ?_
                    refine RgOK.s (v := VB (false)) rfl rfl rfl (e_mv (ev_t rfl)) ?_
                    refine RgOK.sk rfl rfl rfl ?_
                    refine RgOK.sk rfl rfl rfl ?_
                    refine RgOK.sk rfl rfl rfl ?_
                    refine RgOK.sk rfl rfl rfl ?_
                    refine RgOK.sk rfl rfl rfl ?_
                    refine RgOK.s (v := VB (false)) rfl rfl rfl (e_pick (t := false) (ev_t rfl) rfl) ?_
                    refine RgOK.s (v := VB (false)) rfl rfl rfl (e_mv (ev_t rfl)) ?_
                    refine RgOK.sk rfl rfl rfl ?_
                    refine RgOK.sk rfl rfl rfl ?_
                    refine RgOK.sk rfl rfl rfl ?_
                    refine RgOK.sk rfl rfl rfl ?_
                    refine RgOK.s (v := VB (false)) rfl rfl rfl (e_pick (t := false) (ev_t rfl) rfl) ?_
                    refine RgOK.s (v := VB (false)) rfl rfl rfl (e_mv (ev_t rfl)) ?_
                    refine RgOK.sk rfl rfl rfl ?_
                    refine RgOK.sk rfl rfl rfl ?_
                    refine RgOK.sk rfl rfl rfl ?_
                    refine RgOK.sk rfl rfl rfl ?_
                    refine RgOK.sk rfl rfl rfl ?_
                    refine RgOK.s (v := VB (false)) rfl rfl rfl (e_pick (t := false) (ev_t rfl) rfl) ?_
                    refine RgOK.s (v := VB (false)) rfl rfl rfl (e_as (ev_t rfl)) ?_
                    refine RgOK.nil ?_
                    show CdOK _ _ _ _ _ _
                    refine CdOK.ret ?_
                    refine ⟨.inr rfl, _, rfl, h, [⟨[I (t_.id_), I (t_.state), I (t_.last), I (t_.until_), .L 1 (t_.pending.map cI), .L 1 (t_.saves.map cI)], true, true⟩], _, rfl, rfl, hC, ((renFlV rfl) : RenV _ _ _ _ (VB (false))), ?_⟩
                    have hr := hm.ret
                    subst hr
                    exact ⟨rfl, rfl⟩
                · intro c24; replace hm := hm.ifn (by rw [c24]; exact Bool.false_ne_true)
                  refine RgOK.s (v := VB (false)) rfl rfl rfl (e_pick (t := true) (ev_t rfl) (ev_t rfl)) ?_
                  refine RgOK.s (v := VB (false)) rfl rfl rfl (e_mv (ev_t rfl)) ?_
                  refine RgOK.sk rfl rfl rfl ?_
                  refine RgOK.sk rfl rfl rfl ?_
                  refine RgOK.sk rfl rfl rfl ?_
                  refine RgOK.sk rfl rfl rfl ?_
                  refine RgOK.s (v := VB (false)) rfl rfl rfl (e_pick (t := false) (ev_t rfl) rfl) ?_
                  refine RgOK.s (v := VB (false)) rfl rfl rfl (e_mv (ev_t rfl)) ?_
                  refine RgOK.sk rfl rfl rfl ?_
                  refine RgOK.sk rfl rfl rfl ?_
                  refine RgOK.sk rfl rfl rfl ?_
                  refine RgOK.sk rfl rfl rfl ?_
                  refine RgOK.sk rfl rfl rfl ?_
                  refine RgOK.s (v := VB (false)) rfl rfl rfl (e_pick (t := false) (ev_t rfl) rfl) ?_
                  refine RgOK.s (v := VB (false)) rfl rfl rfl (e_mv (ev_t rfl)) ?_
                  refine RgOK.sk rfl rfl rfl ?_
                  refine RgOK.sk rfl rfl rfl ?_
                  refine RgOK.sk rfl rfl rfl ?_
                  refine RgOK.sk rfl rfl rfl ?_
                  refine RgOK.s (v := VB (false)) rfl rfl rfl (e_pick (t := false) (ev_t rfl) rfl) ?_
                  refine RgOK.s (v := VB (false)) rfl rfl rfl (e_mv (ev_t rfl)) ?_
                  refine RgOK.sk rfl rfl rfl ?_
                  refine RgOK.sk rfl rfl rfl ?_
                  refine RgOK.sk rfl rfl rfl ?_
                  refine RgOK.sk rfl rfl rfl ?_
                  refine RgOK.sk rfl rfl rfl ?_
                  refine RgOK.s (v := VB (false)) rfl rfl rfl (e_pick (t := false) (ev_t rfl) rfl) ?_
                  refine RgOK.s (v := VB (false)) rfl rfl rfl (e_as (ev_t rfl)) ?_
                  refine RgOK.nil ?_
                  show CdOK _ _ _ _ _ _
                  refine CdOK.ret ?_
                  refine ⟨.inr rfl, _, rfl, h, [⟨[I (t_.id_), I (t_.state), I (t_.last), I (t_.until_), .L 1 (t_.pending.map cI), .L 1 (t_.saves.map cI)], true, true⟩], _, rfl, rfl, hC, ((renFlV rfl) : RenV _ _ _ _ (VB (false))), ?_⟩
                  have hr := hm.ret
                  subst hr
                  exact ⟨rfl, rfl⟩
              · intro c25; replace hm := hm.ifn c25
                refine RgOK.s (v := VB (false)) rfl rfl rfl (e_pick (t := true) (ev_t rfl) (ev_t rfl)) ?_
                refine RgOK.s (v := VB (false)) rfl rfl rfl (e_mv (ev_t rfl)) ?_
                refine RgOK.sk rfl rfl rfl ?_
                refine RgOK.s (v := VB (false)) rfl rfl rfl (e_pick (t := false) (ev_t rfl) rfl) ?_
                refine RgOK.s (v := VB (false)) rfl rfl rfl (e_mv (ev_t rfl)) ?_
                refine RgOK.sk rfl rfl rfl ?_
                refine RgOK.sk rfl rfl rfl ?_
                refine RgOK.sk rfl rfl rfl ?_
                refine RgOK.sk rfl rfl rfl ?_
                refine RgOK.s (v := VB (false)) rfl rfl rfl (e_pick (t := false) (ev_t rfl) rfl) ?_
                refine RgOK.s (v := VB (false)) rfl rfl rfl (e_mv (ev_t rfl)) ?_
                refine RgOK.sk rfl rfl rfl ?_
                refine RgOK.sk rfl rfl rfl ?_
                refine RgOK.sk rfl rfl rfl ?_
                refine RgOK.sk rfl rfl rfl ?_
                refine RgOK.sk rfl rfl rfl ?_
                refine RgOK.s (v := VB (false)) rfl rfl rfl (e_pick (t := false) (ev_t rfl) rfl) ?_
                refine RgOK.s (v := VB (false)) rfl rfl rfl (e_mv (ev_t rfl)) ?_
                refine RgOK.sk rfl rfl rfl ?_
                refine RgOK.sk rfl rfl rfl ?_
                refine RgOK.sk rfl rfl rfl ?_
                refine RgOK.sk rfl rfl rfl ?_
                refine RgOK.s (v := VB (false)) rfl rfl rfl (e_pick (t := false) (ev_t rfl) rfl) ?_
                refine RgOK.s (v := VB (false)) rfl rfl rfl (e_mv (ev_t rfl)) ?_
                refine RgOK.sk rfl rfl rfl ?_
                refine RgOK.sk rfl rfl rfl ?_
                refine RgOK.sk rfl rfl rfl ?_
                refine RgOK.sk rfl rfl rfl ?_
                refine RgOK.sk rfl rfl rfl ?_
                refine RgOK.s (v := VB (false)) rfl rfl rfl (e_pick (t := false) (ev_t rfl) rfl) ?_
                refine RgOK.s (v := VB (false)) rfl rfl rfl (e_as (ev_t rfl)) ?_
                refine RgOK.nil ?_
                show CdOK _ _ _ _ _ _
                refine CdOK.ret ?_
                refine ⟨.inr rfl, _, rfl, h, [⟨[I (t_.id_), I (t_.state), I (t_.last), I (t_.until_), .L 1 (t_.pending.map cI), .L 1 (t_.saves.map cI)], true, true⟩], _, rfl, rfl, hC, ((renFlV rfl) : RenV _ _ _ _ (VB (false))), ?_⟩
                have hr := hm.ret
                subst hr
                exact ⟨rfl, rfl⟩
            · intro c26; replace hm := hm.ifn c26
              refine RgOK.s (v := VB (false)) rfl rfl rfl (e_pick (t := true) (ev_t rfl) (ev_t rfl)) ?_
              refine RgOK.s (v := VB (false)) rfl rfl rfl (e_mv (ev_t rfl)) ?_
              refine RgOK.sk rfl rfl rfl ?_
              refine RgOK.sk rfl rfl rfl ?_
              refine RgOK.sk rfl rfl rfl ?_
              refine RgOK.s (v := VB (false)) rfl rfl rfl (e_pick (t := false) (ev_t rfl) rfl) ?_
              refine RgOK.s (v := VB (false)) rfl rfl rfl (e_mv (ev_t rfl)) ?_
              refine RgOK.sk rfl rfl rfl ?_
              refine RgOK.s (v := VB (false)) rfl rfl rfl (e_pick (t := false) (ev_t rfl) rfl) ?_
              refine RgOK.s (v := VB (false)) rfl rfl rfl (e_mv (ev_t rfl)) ?_
              refine RgOK.sk rfl rfl rfl ?_
              refine RgOK.sk rfl rfl rfl ?_
              refine RgOK.sk rfl rfl rfl ?_
              refine RgOK.sk rfl rfl rfl ?_
              refine RgOK.s (v := VB (false)) rfl rfl rfl (e_pick (t := false) (ev_t rfl) rfl) ?_
              refine RgOK.s (v := VB (false)) rfl rfl rfl (e_mv (ev_t rfl)) ?_
              refine RgOK.sk rfl rfl rfl ?_
              refine RgOK.sk rfl rfl rfl ?_
              refine RgOK.sk rfl rfl rfl ?_
              refine RgOK.sk rfl rfl rfl ?_
              refine RgOK.sk rfl rfl rfl ?_
              refine RgOK.s (v := VB (false)) rfl rfl rfl (e_pick (t := false) (ev_t rfl) rfl) ?_
              refine RgOK.s (v := VB (false)) rfl rfl rfl (e_mv (ev_t rfl)) ?_
              refine RgOK.sk rfl rfl rfl ?_
              refine RgOK.sk rfl rfl rfl ?_
              refine RgOK.sk rfl rfl rfl ?_
              refine RgOK.sk rfl rfl rfl ?_
              refine RgOK.s (v := VB (false)) rfl rfl rfl (e_pick (t := false) (ev_t rfl) rfl) ?_
              refine RgOK.s (v := VB (false)) rfl rfl rfl (e_mv (ev_t rfl)) ?_
              refine RgOK.sk rfl rfl rfl ?_
              refine RgOK.sk rfl rfl rfl ?_
              refine RgOK.sk rfl rfl rfl ?_
              refine RgOK.sk rfl rfl rfl ?_
              refine RgOK.sk rfl rfl rfl ?_
              refine RgOK.s (v := VB (false)) rfl rfl rfl (e_pick (t := false) (ev_t rfl) rfl) ?_
              refine RgOK.s (v := VB (false)) rfl rfl rfl (e_as (ev_t rfl)) ?_
              refine RgOK.nil ?_
              show CdOK _ _ _ _ _ _
              refine CdOK.ret ?_
              refine ⟨.inr rfl, _, rfl, h, [⟨[I (t_.id_), I (t_.state), I (t_.last), I (t_.until_), .L 1 (t_.pending.map cI), .L 1 (t_.saves.map cI)], true, true⟩], _, rfl, rfl, hC, ((renFlV rfl) : RenV _ _ _ _ (VB (false))), ?_⟩
              have hr := hm.ret
              subst hr
              exact ⟨rfl, rfl⟩
          · intro c27; replace hm := hm.ifn c27
            refine RgOK.s (v := VB (false)) rfl rfl rfl (e_pick (t := true) (ev_t rfl) (ev_t rfl)) ?_
            refine RgOK.s (v := VB (false)) rfl rfl rfl (e_mv (ev_t rfl)) ?_
            refine RgOK.sk rfl rfl rfl ?_
            refine RgOK.sk rfl rfl rfl ?_
            refine RgOK.sk rfl rfl rfl ?_
            refine RgOK.s (v := VB (false)) rfl rfl rfl (e_pick (t := false) (ev_t rfl) rfl) ?_
            refine RgOK.s (v := VB (false)) rfl rfl rfl (e_mv (ev_t rfl)) ?_
            refine RgOK.sk rfl rfl rfl ?_
            refine RgOK.sk rfl rfl rfl ?_
            refine RgOK.sk rfl rfl rfl ?_
            refine RgOK.s (v := VB (false)) rfl rfl rfl (e_pick (t := false) (ev_t rfl) rfl) ?_
            refine RgOK.s (v := VB (false)) rfl rfl rfl (e_mv (ev_t rfl)) ?_
            refine RgOK.sk rfl rfl rfl ?_
            refine RgOK.s (v := VB (false)) rfl rfl rfl (e_pick (t := false) (ev_t rfl) rfl) ?_
            refine RgOK.s (v := VB (false)) rfl rfl rfl (e_mv (ev_t rfl)) ?_
            refine RgOK.sk rfl rfl rfl ?_
            refine RgOK.sk rfl rfl rfl ?_
            refine RgOK.sk rfl rfl rfl ?_
            refine RgOK.sk rfl rfl rfl ?_
            refine RgOK.s (v := VB (false)) rfl rfl rfl (e_pick (t := false) (ev_t rfl) rfl) ?_
            refine RgOK.s (v := VB (false)) rfl rfl rfl (e_mv (ev_t rfl)) ?_
            refine RgOK.sk rfl rfl rfl ?_
            refine RgOK.sk rfl rfl rfl ?_
            refine RgOK.sk rfl rfl rfl ?_
            refine RgOK.sk rfl rfl rfl ?_
            refine RgOK.sk rfl rfl rfl ?_
            refine RgOK.s (v := VB (false)) rfl rfl rfl (e_pick (t := false) (ev_t rfl) rfl) ?_
            refine RgOK.s (v := VB (false)) rfl rfl rfl (e_mv (ev_t rfl)) ?_
            refine RgOK.sk rfl rfl rfl ?_
            refine RgOK.sk rfl rfl rfl ?_
            refine RgOK.sk rfl rfl rfl ?_
            refine RgOK.sk rfl rfl rfl ?_
            refine RgOK.s (v := VB (false)) rfl rfl rfl (e_pick (t := false) (ev_t rfl) rfl) ?_
            refine RgOK.s (v := VB (false)) rfl rfl rfl (e_mv (ev_t rfl)) ?_
            refine RgOK.sk rfl rfl rfl ?_
            refine RgOK.sk rfl rfl rfl ?_
            refine RgOK.sk rfl rfl rfl ?_
            refine RgOK.sk rfl rfl rfl ?_
            refine RgOK.sk rfl rfl rfl ?_
            refine RgOK.s (v := VB (false)) rfl rfl rfl (e_pick (t := false) (ev_t rfl) rfl) ?_
            refine RgOK.s (v := VB (false)) rfl rfl rfl (e_as (ev_t rfl)) ?_
            refine RgOK.nil ?_
            show CdOK _ _ _ _ _ _
            refine CdOK.ret ?_
            refine ⟨.inr rfl, _, rfl, h, [⟨[I (t_.id_), I (t_.state), I (t_.last), I (t_.until_), .L 1 (t_.pending.map cI), .L 1 (t_.saves.map cI)], true, true⟩], _, rfl, rfl, hC, ((renFlV rfl) : RenV _ _ _ _ (VB (false))), ?_⟩
            have hr := hm.ret
            subst hr
            exact ⟨rfl, rfl⟩
        · intro c28; replace hm := hm.ifn c28
          refine RgOK.s (v := VB (false)) rfl rfl rfl (e_pick (t := true) (ev_t rfl) (ev_t rfl)) ?_
          refine RgOK.s (v := VB (false)) rfl rfl rfl (e_mv (ev_t rfl)) ?_
          refine RgOK.sk rfl rfl rfl ?_
          refine RgOK.sk rfl rfl rfl ?_
          refine RgOK.sk rfl rfl rfl ?_
          refine RgOK.s (v := VB (false)) rfl rfl rfl (e_pick (t := false) (ev_t rfl) rfl) ?_
          refine RgOK.s (v := VB (false)) rfl rfl rfl (e_mv (ev_t rfl)) ?_
          refine RgOK.sk rfl rfl rfl ?_
          refine RgOK.sk rfl rfl rfl ?_
          refine RgOK.sk rfl rfl rfl ?_
          refine RgOK.s (v := VB (false)) rfl rfl rfl (e_pick (t := false) (ev_t rfl) rfl) ?_
          refine RgOK.s (v := VB (false)) rfl rfl rfl (e_mv (ev_t rfl)) ?_
          refine RgOK.sk rfl rfl rfl ?_
          refine RgOK.sk rfl rfl rfl ?_
          refine RgOK.sk rfl rfl rfl ?_
          refine RgOK.s (v := VB (false)) rfl rfl rfl (e_pick (t := false) (ev_t rfl) rfl) ?_
          refine RgOK.s (v := VB (false)) rfl rfl rfl (e_mv (ev_t rfl)) ?_
          refine RgOK.sk rfl rfl rfl ?_
          refine RgOK.s (v := VB (false)) rfl rfl rfl (e_pick (t := false) (ev_t rfl) rfl) ?_
          refine RgOK.s (v := VB (false)) rfl rfl rfl (e_mv (ev_t rfl)) ?_
          refine RgOK.sk rfl rfl rfl ?_
          refine RgOK.sk rfl rfl rfl ?_
          refine RgOK.sk rfl rfl rfl ?_
          refine RgOK.sk rfl rfl rfl ?_
          refine RgOK.s (v := VB (false)) rfl rfl rfl (e_pick (t := false) (ev_t rfl) rfl) ?_
          refine RgOK.s (v := VB (false)) rfl rfl rfl (e_mv (ev_t rfl)) ?_
          refine RgOK.sk rfl rfl rfl ?_
          refine RgOK.sk rfl rfl rfl ?_
          refine RgOK.sk rfl rfl rfl ?_
          refine RgOK.sk rfl rfl rfl ?_
          refine RgOK.sk rfl rfl rfl ?_
          refine RgOK.s (v := VB (false)) rfl rfl rfl (e_pick (t := false) (ev_t rfl) rfl) ?_
          refine RgOK.s (v := VB (false)) rfl rfl rfl (e_mv (ev_t rfl)) ?_
          refine RgOK.sk rfl rfl rfl ?_
          refine RgOK.sk rfl rfl rfl ?_
          refine RgOK.sk rfl rfl rfl ?_
          refine RgOK.sk rfl rfl rfl ?_
          refine RgOK.s (v := VB (false)) rfl rfl rfl (e_pick (t := false) (ev_t rfl) rfl) ?_
          refine RgOK.s (v := VB (false)) rfl rfl rfl (e_mv (ev_t rfl)) ?_
          refine RgOK.sk rfl rfl rfl ?_
          refine RgOK.sk rfl rfl rfl ?_
          refine RgOK.sk rfl rfl rfl ?_
          refine RgOK.sk rfl rfl rfl ?_
          refine RgOK.sk rfl rfl rfl ?_
          refine RgOK.s (v := VB (false)) rfl rfl rfl (e_pick (t := false) (ev_t rfl) rfl) ?_
          refine RgOK.s (v := VB (false)) rfl rfl rfl (e_as (ev_t rfl)) ?_
          refine RgOK.nil ?_
          show CdOK _ _ _ _ _ _
          refine CdOK.ret ?_
          refine ⟨.inr rfl, _, rfl, h, [⟨[I (t_.id_), I (t_.state), I (t_.last), I (t_.until_), .L 1 (t_.pending.map cI), .L 1 (t_.saves.map cI)], true, true⟩], _, rfl, rfl, hC, ((renFlV rfl) : RenV _ _ _ _ (VB (false))), ?_⟩
          have hr := hm.ret
          subst hr
          exact ⟨rfl, rfl⟩
      · intro c29; replace hm := hm.ifn c29
        refine RgOK.s (v := VB (false)) rfl rfl rfl (e_pick (t := true) (ev_t rfl) (ev_t rfl)) ?_
        refine RgOK.s (v := VB (false)) rfl rfl rfl (e_mv (ev_t rfl)) ?_
        refine RgOK.sk rfl rfl rfl ?_
        refine RgOK.sk rfl rfl rfl ?_
        refine RgOK.sk rfl rfl rfl ?_
        refine RgOK.s (v := VB (false)) rfl rfl rfl (e_pick (t := false) (ev_t rfl) rfl) ?_
        refine RgOK.s (v := VB (false)) rfl rfl rfl (e_mv (ev_t rfl)) ?_
        refine RgOK.sk rfl rfl rfl ?_
        refine RgOK.sk rfl rfl rfl ?_
        refine RgOK.sk rfl rfl rfl ?_
        refine RgOK.s (v := VB (false)) rfl rfl rfl (e_pick (t := false) (ev_t rfl) rfl) ?_
        refine RgOK.s (v := VB (false)) rfl rfl rfl (e_mv (ev_t rfl)) ?_
        refine RgOK.sk rfl rfl rfl ?_
        refine RgOK.sk rfl rfl rfl ?_
        refine RgOK.sk rfl rfl rfl ?_
        refine RgOK.s (v := VB (false)) rfl rfl rfl (e_pick (t := false) (ev_t rfl) rfl) ?_
        refine RgOK.s (v := VB (false)) rfl rfl rfl (e_mv (ev_t rfl)) ?_
        refine RgOK.sk rfl rfl rfl ?_
        refine RgOK.sk rfl rfl rfl ?_
        refine RgOK.sk rfl rfl rfl ?_
        refine RgOK.s (v := VB (false)) rfl rfl rfl (e_pick (t := false) (ev_t rfl) rfl) ?_
        refine RgOK.s (v := VB (false)) rfl rfl rfl (e_mv (ev_t rfl)) ?_
        refine RgOK.sk rfl rfl rfl ?_
        refine RgOK.s (v := VB (false)) rfl rfl rfl (e_pick (t := false) (ev_t rfl) rfl) ?_
        refine RgOK.s (v := VB (false)) rfl rfl rfl (e_mv (ev_t rfl)) ?_
        refine RgOK.sk rfl rfl rfl ?_
        refine RgOK.sk rfl rfl rfl ?_
        refine RgOK.sk rfl rfl rfl ?_
        refine RgOK.sk rfl rfl rfl ?_
        refine RgOK.s (v := VB (false)) rfl rfl rfl (e_pick (t := false) (ev_t rfl) rfl) ?_
        refine RgOK.s (v := VB (false)) rfl rfl rfl (e_mv (ev_t rfl)) ?_
        refine RgOK.sk rfl rfl rfl ?_
        refine RgOK.sk rfl rfl rfl ?_
        refine RgOK.sk rfl rfl rfl ?_
        refine RgOK.sk rfl rfl rfl ?_
        refine RgOK.sk rfl rfl rfl ?_
        refine RgOK.s (v := VB (false)) rfl rfl rfl (e_pick (t := false) (ev_t rfl) rfl) ?_
        refine RgOK.s (v := VB (false)) rfl rfl rfl (e_mv (ev_t rfl)) ?_
        refine RgOK.sk rfl rfl rfl ?_
        refine RgOK.sk rfl rfl rfl ?_
        refine RgOK.sk rfl rfl rfl ?_
        refine RgOK.sk rfl rfl rfl ?_
        refine RgOK.s (v := VB (false)) rfl rfl rfl (e_pick (t := false) (ev_t rfl) rfl) ?_
        refine RgOK.s (v := VB (false)) rfl rfl rfl (e_mv (ev_t rfl)) ?_
        refine RgOK.sk rfl rfl rfl ?_
        refine RgOK.sk rfl rfl rfl ?_
        refine RgOK.sk rfl rfl rfl ?_
        refine RgOK.sk rfl rfl rfl ?_
        refine RgOK.sk rfl rfl rfl ?_
        refine RgOK.s (v := VB (false)) rfl rfl rfl (e_pick (t := false) (ev_t rfl) rfl) ?_
        refine RgOK.s (v := VB (false)) rfl rfl rfl (e_as (ev_t rfl)) ?_
        refine RgOK.nil ?_
        show CdOK _ _ _ _ _ _
        refine CdOK.ret ?_
        refine ⟨.inr rfl, _, rfl, h, [⟨[I (t_.id_), I (t_.state), I (t_.last), I (t_.until_), .L 1 (t_.pending.map cI), .L 1 (t_.saves.map cI)], true, true⟩], _, rfl, rfl, hC, ((renFlV rfl) : RenV _ _ _ _ (VB (false))), ?_⟩
        have hr := hm.ret
        subst hr
        exact ⟨rfl, rfl⟩
    · intro c30; replace hm := hm.ifn c30
      refine RgOK.s (v := VB (false)) rfl rfl rfl (e_mv (ev_t rfl)) ?_
      refine RgOK.sk rfl rfl rfl ?_
      refine RgOK.sk rfl rfl rfl ?_
      refine RgOK.sk rfl rfl rfl ?_
      refine RgOK.s (v := VB (false)) rfl rfl rfl (e_pick (t := false) (ev_t rfl) rfl) ?_
      refine RgOK.s (v := VB (false)) rfl rfl rfl (e_mv (ev_t rfl)) ?_
      refine RgOK.sk rfl rfl rfl ?_
      refine RgOK.sk rfl rfl rfl ?_
      refine RgOK.sk rfl rfl rfl ?_
      refine RgOK.s (v := VB (false)) rfl rfl rfl (e_pick (t := false) (ev_t rfl) rfl) ?_
      refine RgOK.s (v := VB (false)) rfl rfl rfl (e_mv (ev_t rfl)) ?_
      refine RgOK.sk rfl rfl rfl ?_
      refine RgOK.sk rfl rfl rfl ?_
      refine RgOK.sk rfl rfl rfl ?_
      refine RgOK.s (v := VB (false)) rfl rfl rfl (e_pick (t := false) (ev_t rfl) rfl) ?_
      refine RgOK.s (v := VB (false)) rfl rfl rfl (e_mv (ev_t rfl)) ?_
      refine RgOK.sk rfl rfl rfl ?_
      refine RgOK.sk rfl rfl rfl ?_
      refine RgOK.sk rfl rfl rfl ?_
      refine RgOK.s (v := VB (false)) rfl rfl rfl (e_pick (t := false) (ev_t rfl) rfl) ?_
      refine RgOK.s (v := VB (false)) rfl rfl rfl (e_mv (ev_t rfl)) ?_
      refine RgOK.sk rfl rfl rfl ?_
      refine RgOK.sk rfl rfl rfl ?_
      refine RgOK.sk rfl rfl rfl ?_
      refine RgOK.s (v := VB (false)) rfl rfl rfl (e_pick (t := false) (ev_t rfl) rfl) ?_
      refine RgOK.s (v := VB (false)) rfl rfl rfl (e_mv (ev_t rfl)) ?_
      refine RgOK.sk rfl rfl rfl ?_
      refine RgOK.s (v := VB (false)) rfl rfl rfl (e_pick (t := false) (ev_t rfl) rfl) ?_
      refine RgOK.s (v := VB (false)) rfl rfl rfl (e_mv (ev_t rfl)) ?_
      refine RgOK.sk rfl rfl rfl ?_
      refine RgOK.sk rfl rfl rfl ?_
      refine RgOK.sk rfl rfl rfl ?_
      refine RgOK.sk rfl rfl rfl ?_
      refine RgOK.s (v := VB (false)) rfl rfl rfl (e_pick (t := false) (ev_t rfl) rfl) ?_
      refine RgOK.s (v := VB (false)) rfl rfl rfl (e_mv (ev_t rfl)) ?_
      refine RgOK.sk rfl rfl rfl ?_
      refine RgOK.sk rfl rfl rfl ?_
      refine RgOK.sk rfl rfl rfl ?_
      refine RgOK.sk rfl rfl rfl ?_
      refine RgOK.sk rfl rfl rfl ?_
      refine RgOK.s (v := VB (false)) rfl rfl rfl (e_pick (t := false) (ev_t rfl) rfl) ?_
      refine RgOK.s (v := VB (false)) rfl rfl rfl (e_mv (ev_t rfl)) ?_
      refine RgOK.sk rfl rfl rfl ?_
      refine RgOK.sk rfl rfl rfl ?_
      refine RgOK.sk rfl rfl rfl ?_
      refine RgOK.sk rfl rfl rfl ?_
      refine RgOK.s (v := VB (false)) rfl rfl rfl (e_pick (t := false) (ev_t rfl) rfl) ?_
      refine RgOK.s (v := VB (false)) rfl rfl rfl (e_mv (ev_t rfl)) ?_
      refine RgOK.sk rfl rfl rfl ?_
      refine RgOK.sk rfl rfl rfl ?_
      refine RgOK.sk rfl rfl rfl ?_
      refine RgOK.sk rfl rfl rfl ?_
      refine RgOK.sk rfl rfl rfl ?_
      refine RgOK.s (v := VB (false)) rfl rfl rfl (e_pick (t := false) (ev_t rfl) rfl) ?_
      refine RgOK.s (v := VB (false)) rfl rfl rfl (e_as (ev_t rfl)) ?_
      refine RgOK.nil ?_
      show CdOK _ _ _ _ _ _
      refine CdOK.ret ?_
      refine ⟨.inr rfl, _, rfl, h, [⟨[I (t_.id_), I (t_.state), I (t_.last), I (t_.until_), .L 1 (t_.pending.map cI), .L 1 (t_.saves.map cI)], true, true⟩], _, rfl, rfl, hC, ((renFlV rfl) : RenV _ _ _ _ (VB (false))), ?_⟩
      have hr := hm.ret
      subst hr
      exact ⟨rfl, rfl⟩
/- pagemend/transactions.Valid -/
def transactions_Valid.l1 (l_ : (List Tx)) : Nat → Int → Option (Sum Unit Bool)
  | 0, _ => none
  | kk4 + 1, t103 => (if t103 < (l_.length : Int) then (if (0 : Int) ≤ t103 ∧ t103 < (l_.length : Int) then ((transactions_right (gd l_ t103)).bind fun (x7 : Bool) => (if x7 = true then (if 0 < t103 then (if (0 : Int) ≤ (w64 (t103 - 1)) ∧ (w64 (t103 - 1)) < (l_.length : Int) then (if ((gd l_ t103).id_) ≤ ((gd l_ (w64 (t103 - 1))).id_) then some (Sum.inr false) else transactions_Valid.l1 l_ kk4 (w64 (t103 + 1))) else none) else transactions_Valid.l1 l_ kk4 (w64 (t103 + 1))) else some (Sum.inr false))) else none) else some (Sum.inl ()))
theorem transactions_Valid.l1_s (l_ : (List Tx)) (kk4 : Nat) (t103 : Int) : transactions_Valid.l1 l_ (kk4 + 1) t103 = (if t103 < (l_.length : Int) then (if (0 : Int) ≤ t103 ∧ t103 < (l_.length : Int) then ((transactions_right (gd l_ t103)).bind fun (x7 : Bool) => (if x7 = true then (if 0 < t103 then (if (0 : Int) ≤ (w64 (t103 - 1)) ∧ (w64 (t103 - 1)) < (l_.length : Int) then (if ((gd l_ t103).id_) ≤ ((gd l_ (w64 (t103 - 1))).id_) then some (Sum.inr false) else transactions_Valid.l1 l_ kk4 (w64 (t103 + 1))) else none) else transactions_Valid.l1 l_ kk4 (w64 (t103 + 1))) else some (Sum.inr false))) else none) else some (Sum.inl ())) := rfl
def transactions_Valid (l_ : (List Tx)) : Option Bool := (if 64 < (l_.length : Int) then some false else ((transactions_Valid.l1 l_ FU 0).bind fun (z : Sum Unit Bool) => match z with | .inl (s14 : Unit) => some true | .inr r => some r))
theorem transactions_Valid.eq (l_ : (List Tx)) : transactions_Valid l_ = (if 64 < (l_.length : Int) then some false else ((transactions_Valid.l1 l_ FU 0).bind fun (z : Sum Unit Bool) => match z with | .inl (s14 : Unit) => some true | .inr r => some r)) := rfl
theorem transactions_Valid_ok {h : Heap} {l_ : (List Tx)}  {r : Bool} (hm : transactions_Valid l_ = some r) : FnOK Try.prog 65 [.o (.c (.L 6 (l_.map Tx.cs)))] h (fun v h' => v = VB (r) ∧ h' = h) := by
  refine FnOK.fin ?_
  refine FnOK.bodyC (N := 34) Try.func65 rfl rfl rfl (fun hC => ?_)
  replace hm := Ev.of hm
  rw [transactions_Valid.eq] at hm
  show CdOK _ _ _ (look _ [(0, .o (.c (.L 6 (l_.map Tx.cs))))]) (h ++ ([] : Heap)) _
  refine CdOK.seq ?_
  refine CdOK.region ?_
  refine RgOK.s (v := VB (false)) rfl rfl rfl (e_as rfl) ?_
  refine RgOK.nil ?_
  show CdOK _ _ _ _ _ _
  refine CdOK.seq ?_
  refine CdOK.seq ?_
  refine CdOK.region ?_
  refine RgOK.s (v := .o (.c (.L 6 (l_.map Tx.cs)))) rfl rfl rfl (e_mv (ev_t rfl)) ?_
  refine RgOK.s (v := VI ((l_.length : Int))) rfl rfl rfl (e_lenM (ev_t rfl) is92) ?_
  refine RgOK.s (v := VB (decide (64 < (l_.length : Int)))) rfl rfl rfl (e_bin (ev_t rfl) rfl rfl rfl) ?_
  refine RgOK.nil ?_
  show CdOK _ _ _ _ _ _
  refine CdOK.condD (ev_t rfl) ?_ ?_
  · intro c1; replace hm := hm.ifp c1
    refine CdOK.seq ?_
    refine CdOK.region ?_
    refine RgOK.s (v := VB (false)) rfl rfl rfl (e_as rfl) ?_
    refine RgOK.nil ?_
    show CdOK _ _ _ _ _ _
    refine CdOK.ret ?_
    refine ⟨.inr rfl, _, rfl, h, [], _, rfl, rfl, hC, ((renFlV rfl) : RenV _ _ _ _ (VB (false))), ?_⟩
    have hr := hm.ret
    subst hr
    exact ⟨rfl, rfl⟩
  · intro c2; replace hm := hm.ifn c2
    refine CdOK.skip ?_
    show CdOK _ _ _ _ _ _
    refine CdOK.seq ?_
    refine CdOK.seq ?_
    refine CdOK.region ?_
    refine RgOK.s (v := .o (.c (.L 6 (l_.map Tx.cs)))) rfl rfl rfl (e_mv (ev_t rfl)) ?_
    refine RgOK.s (v := VI ((l_.length : Int))) rfl rfl rfl (e_lenM (ev_t rfl) is92) ?_
    refine RgOK.s (v := VI (0)) rfl rfl rfl (e_mv rfl) ?_
    refine RgOK.nil ?_
    show CdOK _ _ _ _ _ _
    replace hm := hm.bnd
    refine CdOK.joinT (σ := Unit) (fun s => Sum.inl ()) hm (fun s => []) (fun s => h ++ ([] : Heap)) ?_ ?_
    · intro hm
      refine CdOK.block ?_
      refine CdOK.loopE (σ := Int) (fun k s => Ev (transactions_Valid.l1 l_ k s) _) (fun s => [(0, .o (.c (.L 6 (l_.map Tx.cs)))), (8, .o (.c (.L 6 (l_.map Tx.cs)))), (9, VI ((l_.length : Int))), (10, VI (s))]) (fun s => h ++ ([] : Heap)) FU 0 hm (.cons rfl (.cons rfl (.cons rfl (.cons rfl .nil)))) rfl ?_
      rintro kk4 t103 T0 hm
      replace hm : Ev (transactions_Valid.l1 l_ kk4 t103) _ := hm
      cases kk4 with
      | zero => exact (Ev.non hm).elim
      | succ kk4 =>
      rw [transactions_Valid.l1_s] at hm
      show CdOK _ _ _ (look T0 [(0, .o (.c (.L 6 (l_.map Tx.cs)))), (8, .o (.c (.L 6 (l_.map Tx.cs)))), (9, VI ((l_.length : Int))), (10, VI (t103))]) (h ++ ([] : Heap)) _
      refine CdOK.seq ?_
      refine CdOK.region ?_
      refine RgOK.s (v := VB (decide (t103 < (l_.length : Int)))) rfl rfl rfl (e_bin (ev_t rfl) (ev_t rfl) rfl rfl) ?_
      refine RgOK.nil ?_
      show CdOK _ _ _ _ _ _
      refine CdOK.seq ?_
      refine CdOK.condD (ev_t rfl) ?_ ?_
      · intro c5; replace hm := hm.ifp c5
        refine CdOK.skip ?_
        show CdOK _ _ _ _ _ _
        refine CdOK.seq ?_
        refine CdOK.block ?_
        refine CdOK.seq ?_
        refine CdOK.region ?_
        refine RgOK.s (v := VI (t103)) rfl rfl rfl (e_mv (ev_t rfl)) ?_
        obtain ⟨c6, hm⟩ := hm.ifs
        refine RgOK.s (v := .o (.c (.rp [I ((gd l_ t103).id_), I ((gd l_ t103).state), I ((gd l_ t103).last), I ((gd l_ t103).until_), .L 1 (((gd l_ t103).pending).map cI), .L 1 (((gd l_ t103).saves).map cI)]))) rfl rfl rfl (e_ixM (f := Tx.cs) (l := l_) (i := t103) (ev_t rfl) (ev_t rfl) el92 c6) ?_
        refine RgOK.s (v := .o (.agg [I ((gd l_ t103).id_), I ((gd l_ t103).state), I ((gd l_ t103).last), I ((gd l_ t103).until_), .L 1 (((gd l_ t103).pending).map cI), .L 1 (((gd l_ t103).saves).map cI)])) rfl rfl rfl (e_ldRA (ev_t rfl) ty108 rfl rfl) ?_
        refine RgOK.s (v := .o (.c (.ptr (h.length + 0) 0))) rfl rfl rfl (e_allocN (L' := [⟨[I (0), I (0), I (0), I (0), .v (.slice none 0 0), .v (.slice none 0 0)], true, true⟩]) rfl zo108 rfl rfl) ?_
        refine RgOK.s (v := VI (t103)) rfl rfl rfl (e_as (ev_t rfl)) ?_
        refine RgOK.s0 rfl rfl (e_stN (L' := [⟨[I ((gd l_ t103).id_), I ((gd l_ t103).state), I ((gd l_ t103).last), I ((gd l_ t103).until_), .L 1 (((gd l_ t103).pending).map cI), .L 1 (((gd l_ t103).saves).map cI)], true, true⟩]) rfl (ev_t rfl) (ev_t rfl) ty108 rfl rfl rfl rfl rfl) ?_
        refine RgOK.nil ?_
        show CdOK _ _ _ _ _ _
        refine CdOK.seq ?_
        refine CdOK.draw fol (by decide +kernel) ?_
        refine DrOK.s (v := .o (.agg [I ((gd l_ t103).id_), I ((gd l_ t103).state), I ((gd l_ t103).last), I ((gd l_ t103).until_), .L 1 (((gd l_ t103).pending).map cI), .L 1 (((gd l_ t103).saves).map cI)])) rfl rfl rfl (e_ldbA (ev_t rfl) ty108 (bx rfl rfl) rfl rfl) ?_
        obtain ⟨x7, e7, hm⟩ := hm.call
        cases x7 with
        | true =>
          replace hm := hm.ifp rfl
          refine DrOK.cl rfl rfl rfl rfl pl133 (R2.wk _) (transactions_right_ok   e7) ?_
          refine DrOK.s (v := VB (false)) rfl rfl rfl (e_un (ev_t rfl) rfl) ?_
          refine DrOK.s (v := VB (false)) rfl rfl rfl (e_mv (ev_t rfl)) ?_
          refine DrOK.s (v := VI (t103)) rfl rfl rfl (e_mv (ev_t rfl)) ?_
          refine DrOK.sd rfl rfl rfl (e_bin (ev_t rfl) rfl rfl rfl) ?_ ?_
          · intro c8; replace hm := hm.ifp c8
            refine DrOK.s (v := VB (true)) rfl rfl rfl (e_mv (ev_t rfl)) ?_
            refine DrOK.s (v := .o (.c (.L 6 (l_.map Tx.cs)))) rfl rfl rfl (e_mv (ev_t rfl)) ?_
            refine DrOK.s (v := VI (t103)) rfl rfl rfl (e_mv (ev_t rfl)) ?_
            refine DrOK.s (v := VI ((w64 (t103 - 1)))) rfl rfl rfl (e_bin (ev_t rfl) rfl rfl rfl) ?_
            obtain ⟨c9, hm⟩ := hm.ifs
            refine DrOK.s (v := .o (.c (.rp [I ((gd l_ (w64 (t103 - 1))).id_), I ((gd l_ (w64 (t103 - 1))).state), I ((gd l_ (w64 (t103 - 1))).last), I ((gd l_ (w64 (t103 - 1))).until_), .L 1 (((gd l_ (w64 (t103 - 1))).pending).map cI), .L 1 (((gd l_ (w64 (t103 - 1))).saves).map cI)]))) rfl rfl rfl (e_ixM (f := Tx.cs) (l := l_) (i := (w64 (t103 - 1))) (ev_t rfl) (ev_t rfl) el92 c9) ?_
            refine DrOK.s (v := .o (.c (.rp [I ((gd l_ (w64 (t103 - 1))).id_), I ((gd l_ (w64 (t103 - 1))).state), I ((gd l_ (w64 (t103 - 1))).last), I ((gd l_ (w64 (t103 - 1))).until_), .L 1 (((gd l_ (w64 (t103 - 1))).pending).map cI), .L 1 (((gd l_ (w64 (t103 - 1))).saves).map cI)]))) rfl rfl rfl (e_faR fa108_0 (ev_t rfl) rfl) ?_
            refine DrOK.s (v := VI ((gd l_ (w64 (t103 - 1))).id_)) rfl rfl rfl (e_ldR1 (ev_t rfl) ty3 rfl) ?_
            refine DrOK.s (v := .o (.c (.ptr (h.length + 0) 0))) rfl rfl rfl (e_fa' fa108_0 (ev_t rfl)) ?_
            refine DrOK.s (v := VI ((gd l_ t103).id_)) rfl rfl rfl (e_ldb1 (ev_t rfl) ty3 (bx rfl rfl) rfl) ?_
            refine DrOK.s (v := VB (decide (((gd l_ t103).id_) ≤ ((gd l_ (w64 (t103 - 1))).id_)))) rfl rfl rfl (e_bin (ev_t rfl) (ev_t rfl) rfl rfl) ?_
            refine DrOK.s (v := VB (decide (((gd l_ t103).id_) ≤ ((gd l_ (w64 (t103 - 1))).id_)))) rfl rfl rfl (e_pick (t := true) (ev_t rfl) (ev_t rfl)) ?_
            refine DrOK.s (v := VB (decide (((gd l_ t103).id_) ≤ ((gd l_ (w64 (t103 - 1))).id_)))) rfl rfl rfl (e_pick (t := false) (ev_t rfl) (ev_t rfl)) ?_
            refine DrOK.nil ?_
            show CdOK _ _ _ _ _ _
            refine CdOK.condD (ev_t rfl) ?_ ?_
            · intro c10; replace hm := hm.ifp c10
              refine CdOK.seq ?_
              refine CdOK.region ?_
              refine RgOK.s (v := VB (false)) rfl rfl rfl (e_as rfl) ?_
              refine RgOK.nil ?_
              show CdOK _ _ _ _ _ _
              refine CdOK.ret ?_
              refine ⟨.inr rfl, _, rfl, h, [⟨[I ((gd l_ t103).id_), I ((gd l_ t103).state), I ((gd l_ t103).last), I ((gd l_ t103).until_), .L 1 (((gd l_ t103).pending).map cI), .L 1 (((gd l_ t103).saves).map cI)], true, true⟩], _, rfl, rfl, hC, ((renFlV rfl) : RenV _ _ _ _ (VB (false))), ?_⟩
              have hr := hm.ret
              replace hr := Ev.ret hr
              subst hr
              exact ⟨rfl, rfl⟩
            · intro c11; replace hm := hm.ifn c11
              refine CdOK.skip ?_
              show CdOK _ _ _ _ _ _
              refine CdOK.region ?_
              refine RgOK.s (v := VI ((w64 (t103 + 1)))) rfl rfl rfl (e_bin (ev_t rfl) rfl rfl rfl) ?_
              refine RgOK.s (v := VI ((w64 (t103 + 1)))) rfl rfl rfl (e_mv (ev_t rfl)) ?_
              refine RgOK.nil ?_
              refine Told.re (σ := []) (X := [(0, .o (.c (.L 6 (l_.map Tx.cs)))), (8, .o (.c (.L 6 (l_.map Tx.cs)))), (9, VI ((l_.length : Int))), (10, VI ((w64 (t103 + 1))))]) (L' := []) rfl rfl hC (by decide) .nil (.cons (renFlV rfl) (.cons (renFlV rfl) (.cons (renFlV rfl) (.cons (renFlV rfl) .nil)))) ?_
              exact ⟨_, (w64 (t103 + 1)), Nat.lt_succ_self _, hm, (.cons rfl (.cons rfl (.cons rfl (.cons rfl .nil)))), rfl⟩
          · intro c12; replace hm := hm.ifn c12
            refine DrOK.s (v := VB (false)) rfl rfl rfl (e_mv (ev_t rfl)) ?_
            refine DrOK.sk rfl rfl rfl ?_
            refine DrOK.sk rfl rfl rfl ?_
            refine DrOK.sk rfl rfl rfl ?_
            refine DrOK.sk rfl rfl rfl ?_
            refine DrOK.sk rfl rfl rfl ?_
            refine DrOK.sk rfl rfl rfl ?_
            refine DrOK.sk rfl rfl rfl ?_
            refine DrOK.sk rfl rfl rfl ?_
            refine DrOK.sk rfl rfl rfl ?_
            refine DrOK.s (v := VB (false)) rfl rfl rfl (e_pick (t := false) (ev_t rfl) rfl) ?_
            refine DrOK.s (v := VB (false)) rfl rfl rfl (e_pick (t := false) (ev_t rfl) (ev_t rfl)) ?_
            refine DrOK.nil ?_
            show CdOK _ _ _ _ _ _
            refine CdOK.cond_false rfl ?_
            refine CdOK.skip ?_
            show CdOK _ _ _ _ _ _
            refine CdOK.region ?_
            refine RgOK.s (v := VI ((w64 (t103 + 1)))) rfl rfl rfl (e_bin (ev_t rfl) rfl rfl rfl) ?_
            refine RgOK.s (v := VI ((w64 (t103 + 1)))) rfl rfl rfl (e_mv (ev_t rfl)) ?_
            refine RgOK.nil ?_
            refine Told.re (σ := []) (X := [(0, .o (.c (.L 6 (l_.map Tx.cs)))), (8, .o (.c (.L 6 (l_.map Tx.cs)))), (9, VI ((l_.length : Int))), (10, VI ((w64 (t103 + 1))))]) (L' := []) rfl rfl hC (by decide) .nil (.cons (renFlV rfl) (.cons (renFlV rfl) (.cons (renFlV rfl) (.cons (renFlV rfl) .nil)))) ?_
            exact ⟨_, (w64 (t103 + 1)), Nat.lt_succ_self _, hm, (.cons rfl (.cons rfl (.cons rfl (.cons rfl .nil)))), rfl⟩
        | false =>
          replace hm := hm.ifn Bool.false_ne_true
          refine DrOK.cl rfl rfl rfl rfl pl133 (R2.wk _) (transactions_right_ok   e7) ?_
          refine DrOK.s (v := VB (true)) rfl rfl rfl (e_un (ev_t rfl) rfl) ?_
          refine DrOK.s (v := VB (true)) rfl rfl rfl (e_mv (ev_t rfl)) ?_
          refine DrOK.sk rfl rfl rfl ?_
          refine DrOK.sk rfl rfl rfl ?_
          refine DrOK.sk rfl rfl rfl ?_
          refine DrOK.sk rfl rfl rfl ?_
          refine DrOK.sk rfl rfl rfl ?_
          refine DrOK.sk rfl rfl rfl ?_
          refine DrOK.sk rfl rfl rfl ?_
          refine DrOK.sk rfl rfl rfl ?_
          refine DrOK.sk rfl rfl rfl ?_
          refine DrOK.sk rfl rfl rfl ?_
          refine DrOK.sk rfl rfl rfl ?_
          refine DrOK.sk rfl rfl rfl ?_
          refine DrOK.sk rfl rfl rfl ?_
          refine DrOK.s (v := VB (true)) rfl rfl rfl (e_pick (t := true) (ev_t rfl) rfl) ?_
          refine DrOK.nil ?_
          show CdOK _ _ _ _ _ _
          refine CdOK.cond_true rfl ?_
          refine CdOK.seq ?_
          refine CdOK.region ?_
          refine RgOK.s (v := VB (false)) rfl rfl rfl (e_as rfl) ?_
          refine RgOK.nil ?_
          show CdOK _ _ _ _ _ _
          refine CdOK.ret ?_
          refine ⟨.inr rfl, _, rfl, h, [⟨[I ((gd l_ t103).id_), I ((gd l_ t103).state), I ((gd l_ t103).last), I ((gd l_ t103).until_), .L 1 (((gd l_ t103).pending).map cI), .L 1 (((gd l_ t103).saves).map cI)], true, true⟩], _, rfl, rfl, hC, ((renFlV rfl) : RenV _ _ _ _ (VB (false))), ?_⟩
          have hr := hm.ret
          replace hr := Ev.ret hr
          subst hr
          exact ⟨rfl, rfl⟩
      · intro c13; replace hm := hm.ifn c13
        refine CdOK.exit ?_
        refine Told.id ?_
        exact ⟨(), hm.ret, .nil, rfl⟩
    · intro _ T0 hm
      show CdOK _ _ _ _ _ _
      refine CdOK.seq ?_
      refine CdOK.region ?_
      refine RgOK.s (v := VB (true)) rfl rfl rfl (e_as rfl) ?_
      refine RgOK.nil ?_
      show CdOK _ _ _ _ _ _
      refine CdOK.ret ?_
      refine ⟨.inr rfl, _, rfl, h, [], _, rfl, rfl, hC, ((renFlV rfl) : RenV _ _ _ _ (VB (true))), ?_⟩
      have hr := hm.ret
      subst hr
      exact ⟨rfl, rfl⟩
/- pagemend/transactions.Find$1 -/
def transactions_FindF (t_ : Tx) (a1 : Int) : Option Bool := some (decide (t_.id_ = a1))
theorem transactions_FindF.eq (t_ : Tx) (a1 : Int) : transactions_FindF t_ a1 = some (decide (t_.id_ = a1)) := rfl
theorem transactions_FindF_ok {h : Heap} {t_ : Tx} {a1 : Int} {b_a1 : Nat} (hb_a1 : h[b_a1]? = some ⟨[I (a1)], true, true⟩) {r : Bool} (hm : transactions_FindF t_ a1 = some r) : FnOK Try.prog 148 [.o (.agg [I (t_.id_), I (t_.state), I (t_.last), I (t_.until_), .L 1 (t_.pending.map cI), .L 1 (t_.saves.map cI)]), .o (.c (.ptr b_a1 0))] h (fun v h' => v = VB (r) ∧ h' = h) := by
  refine FnOK.fin ?_
  refine FnOK.bodyC (N := 8) Try.func148 rfl rfl rfl (fun hC => ?_)
  have hl_a1 := lt_of_get hb_a1
  replace hm := Ev.of hm
  rw [transactions_FindF.eq] at hm
  show CdOK _ _ _ (look _ [(0, .o (.agg [I (t_.id_), I (t_.state), I (t_.last), I (t_.until_), .L 1 (t_.pending.map cI), .L 1 (t_.saves.map cI)])), (1, .o (.c (.ptr b_a1 0)))]) (h ++ ([] : Heap)) _
  refine CdOK.seq ?_
  refine CdOK.region ?_
  refine RgOK.s (v := .o (.c (.ptr (h.length + 0) 0))) rfl rfl rfl (e_boxN (L' := [⟨[I (t_.id_), I (t_.state), I (t_.last), I (t_.until_), .L 1 (t_.pending.map cI), .L 1 (t_.saves.map cI)], true, true⟩]) rfl (ev_t rfl) rfl rfl) ?_
  refine RgOK.s (v := VB (false)) rfl rfl rfl (e_as rfl) ?_
  refine RgOK.nil ?_
  show CdOK _ _ _ _ _ _
  refine CdOK.seq ?_
  refine CdOK.region ?_
  refine RgOK.s (v := .o (.c (.ptr (h.length + 0) 0))) rfl rfl rfl (e_fa' fa108_0 (ev_t rfl)) ?_
  refine RgOK.s (v := VI (t_.id_)) rfl rfl rfl (e_ldb1 (ev_t rfl) ty3 (bx rfl rfl) rfl) ?_
  refine RgOK.s (v := VI (a1)) rfl rfl rfl (e_ldb1 (ev_t rfl) ty3 (pb hb_a1) rfl) ?_
  refine RgOK.s (v := VB (decide (t_.id_ = a1))) rfl rfl rfl (e_eqK (ev_t rfl) (ev_t rfl)) ?_
  refine RgOK.s (v := VB (decide (t_.id_ = a1))) rfl rfl rfl (e_as (ev_t rfl)) ?_
  refine RgOK.nil ?_
  show CdOK _ _ _ _ _ _
  refine CdOK.ret ?_
  refine ⟨.inr rfl, _, rfl, h, [⟨[I (t_.id_), I (t_.state), I (t_.last), I (t_.until_), .L 1 (t_.pending.map cI), .L 1 (t_.saves.map cI)], true, true⟩], _, rfl, rfl, hC, ((renFlV rfl) : RenV _ _ _ _ (VB (decide (t_.id_ = a1)))), ?_⟩
  have hr := hm.ret
  subst hr
  exact ⟨rfl, rfl⟩
/- slices.IndexFunc[[]pagemend/api.Tx,pagemend/api.Tx] -/
def IndexFuncT.l1 (s_ : (List Tx)) (f_0 : Int) : Nat → Int → Option (Sum Unit Int)
  | 0, _ => none
  | kk2 + 1, t81 => (if t81 < (s_.length : Int) then (if (0 : Int) ≤ t81 ∧ t81 < (s_.length : Int) then ((transactions_FindF (gd s_ t81) f_0).bind fun (x5 : Bool) => (if x5 = true then some (Sum.inr t81) else IndexFuncT.l1 s_ f_0 kk2 (w64 (t81 + 1)))) else none) else some (Sum.inl ()))
theorem IndexFuncT.l1_s (s_ : (List Tx)) (f_0 : Int) (kk2 : Nat) (t81 : Int) : IndexFuncT.l1 s_ f_0 (kk2 + 1) t81 = (if t81 < (s_.length : Int) then (if (0 : Int) ≤ t81 ∧ t81 < (s_.length : Int) then ((transactions_FindF (gd s_ t81) f_0).bind fun (x5 : Bool) => (if x5 = true then some (Sum.inr t81) else IndexFuncT.l1 s_ f_0 kk2 (w64 (t81 + 1)))) else none) else some (Sum.inl ())) := rfl
def IndexFuncT (s_ : (List Tx)) (f_0 : Int) : Option Int := ((IndexFuncT.l1 s_ f_0 FU 0).bind fun (z : Sum Unit Int) => match z with | .inl (s9 : Unit) => some (-1) | .inr r => some r)
theorem IndexFuncT.eq (s_ : (List Tx)) (f_0 : Int) : IndexFuncT s_ f_0 = ((IndexFuncT.l1 s_ f_0 FU 0).bind fun (z : Sum Unit Int) => match z with | .inl (s9 : Unit) => some (-1) | .inr r => some r) := rfl
theorem IndexFuncT_ok {h : Heap} {s_ : (List Tx)} {f_0 : Int} {b_f_0 : Nat} (hb_f_0 : h[b_f_0]? = some ⟨[I (f_0)], true, true⟩) {r : Int} (hm : IndexFuncT s_ f_0 = some r) : FnOK Try.prog 147 [.o (.c (.L 6 (s_.map Tx.cs))), .o (.c (.fn 148 [(b_f_0, 0)]))] h (fun v h' => v = VI (r) ∧ h' = h) := by
  refine FnOK.fin ?_
  refine FnOK.bodyC (N := 19) Try.func147 rfl rfl rfl (fun hC => ?_)
  have hl_f_0 := lt_of_get hb_f_0
  replace hm := Ev.of hm
  rw [IndexFuncT.eq] at hm
  show CdOK _ _ _ (look _ [(0, .o (.c (.L 6 (s_.map Tx.cs)))), (1, .o (.c (.fn 148 [(b_f_0, 0)])))]) (h ++ ([] : Heap)) _
  refine CdOK.seq ?_
  refine CdOK.region ?_
  refine RgOK.s (v := VI (0)) rfl rfl rfl (e_as rfl) ?_
  refine RgOK.nil ?_
  show CdOK _ _ _ _ _ _
  refine CdOK.seq ?_
  refine CdOK.seq ?_
  refine CdOK.region ?_
  refine RgOK.s (v := .o (.c (.L 6 (s_.map Tx.cs)))) rfl rfl rfl (e_mv (ev_t rfl)) ?_
  refine RgOK.s (v := VI ((s_.length : Int))) rfl rfl rfl (e_lenM (ev_t rfl) is92) ?_
  refine RgOK.s (v := VI (0)) rfl rfl rfl (e_mv rfl) ?_
  refine RgOK.nil ?_
  show CdOK _ _ _ _ _ _
  replace hm := hm.bnd
  refine CdOK.joinT (σ := Unit) (fun s => Sum.inl ()) hm (fun s => []) (fun s => h ++ ([] : Heap)) ?_ ?_
  · intro hm
    refine CdOK.block ?_
    refine CdOK.loopE (σ := Int) (fun k s => Ev (IndexFuncT.l1 s_ f_0 k s) _) (fun s => [(0, .o (.c (.L 6 (s_.map Tx.cs)))), (1, .o (.c (.fn 148 [(b_f_0, 0)]))), (7, VI ((s_.length : Int))), (8, VI (s))]) (fun s => h ++ ([] : Heap)) FU 0 hm (.cons rfl (.cons rfl (.cons rfl (.cons rfl .nil)))) rfl ?_
    rintro kk2 t81 T0 hm
    replace hm : Ev (IndexFuncT.l1 s_ f_0 kk2 t81) _ := hm
    cases kk2 with
    | zero => exact (Ev.non hm).elim
    | succ kk2 =>
    rw [IndexFuncT.l1_s] at hm
    show CdOK _ _ _ (look T0 [(0, .o (.c (.L 6 (s_.map Tx.cs)))), (1, .o (.c (.fn 148 [(b_f_0, 0)]))), (7, VI ((s_.length : Int))), (8, VI (t81))]) (h ++ ([] : Heap)) _
    refine CdOK.seq ?_
    refine CdOK.region ?_
    refine RgOK.s (v := VB (decide (t81 < (s_.length : Int)))) rfl rfl rfl (e_bin (ev_t rfl) (ev_t rfl) rfl rfl) ?_
    refine RgOK.nil ?_
    show CdOK _ _ _ _ _ _
    refine CdOK.seq ?_
    refine CdOK.condD (ev_t rfl) ?_ ?_
    · intro c3; replace hm := hm.ifp c3
      refine CdOK.skip ?_
      show CdOK _ _ _ _ _ _
      refine CdOK.seq ?_
      refine CdOK.block ?_
      refine CdOK.seq ?_
      refine CdOK.region ?_
      refine RgOK.s (v := VI (t81)) rfl rfl rfl (e_mv (ev_t rfl)) ?_
      refine RgOK.s (v := VI (t81)) rfl rfl rfl (e_as (ev_t rfl)) ?_
      refine RgOK.nil ?_
      show CdOK _ _ _ _ _ _
      refine CdOK.seq ?_
      refine CdOK.region ?_
      refine RgOK.s (v := .o (.c (.fn 148 [(b_f_0, 0)]))) rfl rfl rfl (e_mv (ev_t rfl)) ?_
      refine RgOK.s (v := .o (.c (.L 6 (s_.map Tx.cs)))) rfl rfl rfl (e_mv (ev_t rfl)) ?_
      refine RgOK.s (v := VI (t81)) rfl rfl rfl (e_mv (ev_t rfl)) ?_
      obtain ⟨c4, hm⟩ := hm.ifs
      refine RgOK.s (v := .o (.c (.rp [I ((gd s_ t81).id_), I ((gd s_ t81).state), I ((gd s_ t81).last), I ((gd s_ t81).until_), .L 1 (((gd s_ t81).pending).map cI), .L 1 (((gd s_ t81).saves).map cI)]))) rfl rfl rfl (e_ixM (f := Tx.cs) (l := s_) (i := t81) (ev_t rfl) (ev_t rfl) el92 c4) ?_
      refine RgOK.s (v := .o (.agg [I ((gd s_ t81).id_), I ((gd s_ t81).state), I ((gd s_ t81).last), I ((gd s_ t81).until_), .L 1 (((gd s_ t81).pending).map cI), .L 1 (((gd s_ t81).saves).map cI)])) rfl rfl rfl (e_ldRA (ev_t rfl) ty108 rfl rfl) ?_
      obtain ⟨x5, e5, hm⟩ := hm.call
      refine RgOK.cl rfl rfl rfl rfl pl148 (R2.wk _) (transactions_FindF_ok (b_a1 := b_f_0) (pb hb_f_0) e5) ?_
      rintro _ _ ⟨rfl, rfl⟩
      refine RgOK.nil ?_
      show CdOK _ _ _ _ _ _
      refine CdOK.condB (ev_t rfl) ?_ ?_
      · intro c6; replace hm := hm.ifp c6
        refine CdOK.seq ?_
        refine CdOK.region ?_
        refine RgOK.s (v := VI (t81)) rfl rfl rfl (e_mv (ev_t rfl)) ?_
        refine RgOK.s (v := VI (t81)) rfl rfl rfl (e_as (ev_t rfl)) ?_
        refine RgOK.nil ?_
        show CdOK _ _ _ _ _ _
        refine CdOK.ret ?_
        refine ⟨.inr rfl, _, rfl, h, [], _, rfl, rfl, hC, ((renFlV rfl) : RenV _ _ _ _ (VI (t81))), ?_⟩
        have hr := hm.ret
        replace hr := Ev.ret hr
        subst hr
        exact ⟨rfl, rfl⟩
      · intro c7; replace hm := hm.ifn c7
        refine CdOK.skip ?_
        show CdOK _ _ _ _ _ _
        refine CdOK.region ?_
        refine RgOK.s (v := VI ((w64 (t81 + 1)))) rfl rfl rfl (e_bin (ev_t rfl) rfl rfl rfl) ?_
        refine RgOK.s (v := VI ((w64 (t81 + 1)))) rfl rfl rfl (e_mv (ev_t rfl)) ?_
        refine RgOK.nil ?_
        refine Told.id ?_
        exact ⟨_, (w64 (t81 + 1)), Nat.lt_succ_self _, hm, (.cons rfl (.cons rfl (.cons rfl (.cons rfl .nil)))), rfl⟩
    · intro c8; replace hm := hm.ifn c8
      refine CdOK.exit ?_
      refine Told.id ?_
      exact ⟨(), hm.ret, .nil, rfl⟩
  · intro _ T0 hm
    show CdOK _ _ _ _ _ _
    refine CdOK.seq ?_
    refine CdOK.region ?_
    refine RgOK.s (v := VI ((-1))) rfl rfl rfl (e_as rfl) ?_
    refine RgOK.nil ?_
    show CdOK _ _ _ _ _ _
    refine CdOK.ret ?_
    refine ⟨.inr rfl, _, rfl, h, [], _, rfl, rfl, hC, ((renFlV rfl) : RenV _ _ _ _ (VI ((-1)))), ?_⟩
    have hr := hm.ret
    subst hr
    exact ⟨rfl, rfl⟩
/- pagemend/transactions.Find -/
def transactions_Find (l_ : (List Tx)) (id_ : Int) : Option Int := ((IndexFuncT l_ id_).bind fun (x1 : Int) => some x1)
theorem transactions_Find.eq (l_ : (List Tx)) (id_ : Int) : transactions_Find l_ id_ = ((IndexFuncT l_ id_).bind fun (x1 : Int) => some x1) := rfl
theorem transactions_Find_ok {h : Heap} {l_ : (List Tx)} {id_ : Int}  {r : Int} (hm : transactions_Find l_ id_ = some r) : FnOK Try.prog 73 [.o (.c (.L 6 (l_.map Tx.cs))), VI (id_)] h (fun v h' => v = VI (r) ∧ h' = h) := by
  refine FnOK.fin ?_
  refine FnOK.bodyC (N := 8) Try.func73 rfl rfl rfl (fun hC => ?_)
  replace hm := Ev.of hm
  rw [transactions_Find.eq] at hm
  show CdOK _ _ _ (look _ [(0, .o (.c (.L 6 (l_.map Tx.cs)))), (1, VI (id_))]) (h ++ ([] : Heap)) _
  refine CdOK.seq ?_
  refine CdOK.region ?_
  refine RgOK.s (v := .o (.c (.ptr (h.length + 0) 0))) rfl rfl rfl (e_boxN (L' := [⟨[I (id_)], true, true⟩]) rfl (ev_t rfl) rfl rfl) ?_
  refine RgOK.s (v := VI (0)) rfl rfl rfl (e_as rfl) ?_
  refine RgOK.nil ?_
  show CdOK _ _ _ _ _ _
  refine CdOK.seq ?_
  refine CdOK.region ?_
  refine RgOK.s (v := .o (.c (.L 6 (l_.map Tx.cs)))) rfl rfl rfl (e_mv (ev_t rfl)) ?_
  refine RgOK.s (v := .o (.c (.fn 148 [((h.length + 0), 0)]))) rfl rfl rfl (e_mkf rfl rfl) ?_
  obtain ⟨x1, e1, hm⟩ := hm.call
  refine RgOK.cl rfl rfl rfl rfl pl147 (R2.wk _) (IndexFuncT_ok (b_f_0 := (h.length + 0)) (bx rfl rfl) e1) ?_
  rintro _ _ ⟨rfl, rfl⟩
  refine RgOK.s (v := VI (x1)) rfl rfl rfl (e_as (ev_t rfl)) ?_
  refine RgOK.nil ?_
  show CdOK _ _ _ _ _ _
  refine CdOK.ret ?_
  refine ⟨.inr rfl, _, rfl, h, [⟨[I (id_)], true, true⟩], _, rfl, rfl, hC, ((renFlV rfl) : RenV _ _ _ _ (VI (x1))), ?_⟩
  have hr := hm.ret
  subst hr
  exact ⟨rfl, rfl⟩
/- pagemend/transactions.left -/
def transactions_left (t_ : Tx) (above : Int) : Option Bool := (if 0 < (t_.pending.length : Int) then (if (0 : Int) ≤ (w64 ((t_.pending.length : Int) - 1)) ∧ (w64 ((t_.pending.length : Int) - 1)) < (t_.pending.length : Int) then some (decide (above < (gd t_.pending (w64 ((t_.pending.length : Int) - 1))))) else none) else some false)
theorem transactions_left.eq (t_ : Tx) (above : Int) : transactions_left t_ above = (if 0 < (t_.pending.length : Int) then (if (0 : Int) ≤ (w64 ((t_.pending.length : Int) - 1)) ∧ (w64 ((t_.pending.length : Int) - 1)) < (t_.pending.length : Int) then some (decide (above < (gd t_.pending (w64 ((t_.pending.length : Int) - 1))))) else none) else some false) := rfl
theorem transactions_left_ok {h : Heap} {t_ : Tx} {above : Int}  {r : Bool} (hm : transactions_left t_ above = some r) : FnOK Try.prog 138 [.o (.agg [I (t_.id_), I (t_.state), I (t_.last), I (t_.until_), .L 1 (t_.pending.map cI), .L 1 (t_.saves.map cI)]), VI (above)] h (fun v h' => v = VB (r) ∧ h' = h) := by
  refine FnOK.fin ?_
  refine FnOK.bodyC (N := 21) Try.func138 rfl rfl rfl (fun hC => ?_)
  replace hm := Ev.of hm
  rw [transactions_left.eq] at hm
  show CdOK _ _ _ (look _ [(0, .o (.agg [I (t_.id_), I (t_.state), I (t_.last), I (t_.until_), .L 1 (t_.pending.map cI), .L 1 (t_.saves.map cI)])), (1, VI (above))]) (h ++ ([] : Heap)) _
  refine CdOK.seq ?_
  refine CdOK.region ?_
  refine RgOK.s (v := .o (.c (.ptr (h.length + 0) 0))) rfl rfl rfl (e_boxN (L' := [⟨[I (t_.id_), I (t_.state), I (t_.last), I (t_.until_), .L 1 (t_.pending.map cI), .L 1 (t_.saves.map cI)], true, true⟩]) rfl (ev_t rfl) rfl rfl) ?_
  refine RgOK.s (v := VB (false)) rfl rfl rfl (e_as rfl) ?_
  refine RgOK.nil ?_
  show CdOK _ _ _ _ _ _
  refine CdOK.seq ?_
  refine CdOK.region ?_
  refine RgOK.s (v := .o (.c (.ptr (h.length + 0) 4))) rfl rfl rfl (e_fa' fa108_4 (ev_t rfl)) ?_
  refine RgOK.s (v := .o (.c (.L 1 (t_.pending.map cI)))) rfl rfl rfl (e_ldb1 (ev_t rfl) ty27 (bx rfl rfl) rfl) ?_
  refine RgOK.s (v := VI ((t_.pending.length : Int))) rfl rfl rfl (e_lenM (ev_t rfl) is27) ?_
  refine RgOK.sd rfl rfl rfl (e_bin (ev_t rfl) rfl rfl rfl) ?_ ?_
  · intro c1; replace hm := hm.ifp c1
    refine RgOK.s (v := VB (true)) rfl rfl rfl (e_mv (ev_t rfl)) ?_
    refine RgOK.s (v := .o (.c (.ptr (h.length + 0) 4))) rfl rfl rfl (e_fa' fa108_4 (ev_t rfl)) ?_
    refine RgOK.s (v := .o (.c (.L 1 (t_.pending.map cI)))) rfl rfl rfl (e_ldb1 (ev_t rfl) ty27 (bx rfl rfl) rfl) ?_
    refine RgOK.s (v := .o (.c (.ptr (h.length + 0) 4))) rfl rfl rfl (e_fa' fa108_4 (ev_t rfl)) ?_
    refine RgOK.s (v := .o (.c (.L 1 (t_.pending.map cI)))) rfl rfl rfl (e_ldb1 (ev_t rfl) ty27 (bx rfl rfl) rfl) ?_
    refine RgOK.s (v := VI ((t_.pending.length : Int))) rfl rfl rfl (e_lenM (ev_t rfl) is27) ?_
    refine RgOK.s (v := VI ((w64 ((t_.pending.length : Int) - 1)))) rfl rfl rfl (e_bin (ev_t rfl) rfl rfl rfl) ?_
    obtain ⟨c2, hm⟩ := hm.ifs
    refine RgOK.s (v := .o (.c (.rp [I ((gd t_.pending (w64 ((t_.pending.length : Int) - 1))))]))) rfl rfl rfl (e_ixM (f := cI) (l := t_.pending) (i := (w64 ((t_.pending.length : Int) - 1))) (ev_t rfl) (ev_t rfl) el27 c2) ?_
    refine RgOK.s (v := VI ((gd t_.pending (w64 ((t_.pending.length : Int) - 1))))) rfl rfl rfl (e_ldR1 (ev_t rfl) ty3 rfl) ?_
    refine RgOK.s (v := VI (above)) rfl rfl rfl (e_mv (ev_t rfl)) ?_
    refine RgOK.s (v := VB (decide (above < (gd t_.pending (w64 ((t_.pending.length : Int) - 1)))))) rfl rfl rfl (e_bin (ev_t rfl) (ev_t rfl) rfl rfl) ?_
    refine RgOK.s (v := VB (decide (above < (gd t_.pending (w64 ((t_.pending.length : Int) - 1)))))) rfl rfl rfl (e_pick (t := true) (ev_t rfl) (ev_t rfl)) ?_
    refine RgOK.s (v := VB (decide (above < (gd t_.pending (w64 ((t_.pending.length : Int) - 1)))))) rfl rfl rfl (e_as (ev_t rfl)) ?_
    refine RgOK.nil ?_
    show CdOK _ _ _ _ _ _
    refine CdOK.ret ?_
    refine ⟨.inr rfl, _, rfl, h, [⟨[I (t_.id_), I (t_.state), I (t_.last), I (t_.until_), .L 1 (t_.pending.map cI), .L 1 (t_.saves.map cI)], true, true⟩], _, rfl, rfl, hC, ((renFlV rfl) : RenV _ _ _ _ (VB (decide (above < (gd t_.pending (w64 ((t_.pending.length : Int) - 1))))))), ?_⟩
    have hr := hm.ret
    subst hr
    exact ⟨rfl, rfl⟩
  · intro c3; replace hm := hm.ifn c3
    refine RgOK.s (v := VB (false)) rfl rfl rfl (e_mv (ev_t rfl)) ?_
    refine RgOK.sk rfl rfl rfl ?_
    refine RgOK.sk rfl rfl rfl ?_
    refine RgOK.sk rfl rfl rfl ?_
    refine RgOK.sk rfl rfl rfl ?_
    refine RgOK.sk rfl rfl rfl ?_
    refine RgOK.sk rfl rfl rfl ?_
    refine RgOK.sk rfl rfl rfl ?_
    refine RgOK.sk rfl rfl rfl ?_
    refine RgOK.sk rfl rfl rfl ?_
    refine RgOK.sk rfl rfl rfl ?_
    refine RgOK.s (v := VB (false)) rfl rfl rfl (e_pick (t := false) (ev_t rfl) rfl) ?_
    refine RgOK.s (v := VB (false)) rfl rfl rfl (e_as (ev_t rfl)) ?_
    refine RgOK.nil ?_
    show CdOK _ _ _ _ _ _
    refine CdOK.ret ?_
    refine ⟨.inr rfl, _, rfl, h, [⟨[I (t_.id_), I (t_.state), I (t_.last), I (t_.until_), .L 1 (t_.pending.map cI), .L 1 (t_.saves.map cI)], true, true⟩], _, rfl, rfl, hC, ((renFlV rfl) : RenV _ _ _ _ (VB (false))), ?_⟩
    have hr := hm.ret
    subst hr
    exact ⟨rfl, rfl⟩
/- slices.Clip[[]int,int] -/
def slices_Clip (s_ : (List Int)) : Option (List Int) := (if (0 : Int) ≤ (s_.length : Int) ∧ (s_.length : Int) ≤ (s_.length : Int) then some (s_.take (Int.toNat (s_.length : Int))) else none)
theorem slices_Clip.eq (s_ : (List Int)) : slices_Clip s_ = (if (0 : Int) ≤ (s_.length : Int) ∧ (s_.length : Int) ≤ (s_.length : Int) then some (s_.take (Int.toNat (s_.length : Int))) else none) := rfl
theorem slices_Clip_ok {h : Heap} {s_ : (List Int)}  {r : (List Int)} (hm : slices_Clip s_ = some r) : FnOK Try.prog 136 [.o (.c (.L 1 (s_.map cI)))] h (fun v h' => v = .o (.c (.LC 1 (r.map cI))) ∧ h' = h) := by
  refine FnOK.fin ?_
  refine FnOK.bodyC (N := 9) Try.func136 rfl rfl rfl (fun hC => ?_)
  replace hm := Ev.of hm
  rw [slices_Clip.eq] at hm
  show CdOK _ _ _ (look _ [(0, .o (.c (.L 1 (s_.map cI))))]) (h ++ ([] : Heap)) _
  refine CdOK.seq ?_
  refine CdOK.region ?_
  refine RgOK.s (v := .o (.c (.v (.slice none 0 0)))) rfl rfl rfl (e_as rfl) ?_
  refine RgOK.nil ?_
  show CdOK _ _ _ _ _ _
  refine CdOK.seq ?_
  refine CdOK.region ?_
  refine RgOK.s (v := .o (.c (.L 1 (s_.map cI)))) rfl rfl rfl (e_mv (ev_t rfl)) ?_
  refine RgOK.s (v := .o (.c (.L 1 (s_.map cI)))) rfl rfl rfl (e_mv (ev_t rfl)) ?_
  refine RgOK.s (v := VI ((s_.length : Int))) rfl rfl rfl (e_lenM (ev_t rfl) is27) ?_
  refine RgOK.s (v := .o (.c (.L 1 (s_.map cI)))) rfl rfl rfl (e_mv (ev_t rfl)) ?_
  refine RgOK.s (v := VI ((s_.length : Int))) rfl rfl rfl (e_lenM (ev_t rfl) is27) ?_
  obtain ⟨c1, hm⟩ := hm.ifs
  refine RgOK.s (v := .o (.c (.LC 1 ((s_.take (Int.toNat (s_.length : Int))).map cI)))) rfl rfl rfl (e_sl3M el27 (ev_t rfl) (ev_t rfl) (ev_t rfl) c1) ?_
  refine RgOK.s (v := .o (.c (.LC 1 ((s_.take (Int.toNat (s_.length : Int))).map cI)))) rfl rfl rfl (e_as (ev_t rfl)) ?_
  refine RgOK.nil ?_
  show CdOK _ _ _ _ _ _
  refine CdOK.ret ?_
  refine ⟨.inr rfl, _, rfl, h, [], _, rfl, rfl, hC, ((.o (.c (.fl _ rfl))) : RenV _ _ _ _ (.o (.c (.LC 1 ((s_.take (Int.toNat (s_.length : Int))).map cI))))), ?_⟩
  have hr := hm.ret
  subst hr
  exact ⟨rfl, rfl⟩
/- pagemend/transactions.with -/
def transactions_with (l_ : (List Tx)) (t_ : Tx) : Option (List Tx) := (if l_.length ≤ 1759218604441 then (if 0 < l_.length then ((transactions_Find l_ t_.id_).bind fun (x4 : Int) => (if (0 : Int) ≤ x4 ∧ x4 < (l_.length : Int) then (if (0 : Int) ≤ x4 ∧ x4 < (l_.length : Int) then some (l_.set (Int.toNat x4) t_) else none) else none)) else none) else none)
theorem transactions_with.eq (l_ : (List Tx)) (t_ : Tx) : transactions_with l_ t_ = (if l_.length ≤ 1759218604441 then (if 0 < l_.length then ((transactions_Find l_ t_.id_).bind fun (x4 : Int) => (if (0 : Int) ≤ x4 ∧ x4 < (l_.length : Int) then (if (0 : Int) ≤ x4 ∧ x4 < (l_.length : Int) then some (l_.set (Int.toNat x4) t_) else none) else none)) else none) else none) := rfl
theorem transactions_with_ok {h : Heap} {l_ : (List Tx)} {t_ : Tx}  {r : (List Tx)} (hm : transactions_with l_ t_ = some r) : FnOK Try.prog 139 [.o (.c (.L 6 (l_.map Tx.cs))), .o (.agg [I (t_.id_), I (t_.state), I (t_.last), I (t_.until_), .L 1 (t_.pending.map cI), .L 1 (t_.saves.map cI)])] h (fun v h' => v = .o (.c (.L 6 (r.map Tx.cs))) ∧ h' = h) := by
  refine FnOK.fin ?_
  refine FnOK.bodyC (N := 15) Try.func139 rfl rfl rfl (fun hC => ?_)
  replace hm := Ev.of hm
  rw [transactions_with.eq] at hm
  show CdOK _ _ _ (look _ [(0, .o (.c (.L 6 (l_.map Tx.cs)))), (1, .o (.agg [I (t_.id_), I (t_.state), I (t_.last), I (t_.until_), .L 1 (t_.pending.map cI), .L 1 (t_.saves.map cI)]))]) (h ++ ([] : Heap)) _
  refine CdOK.seq ?_
  refine CdOK.region ?_
  refine RgOK.s (v := .o (.c (.ptr (h.length + 0) 0))) rfl rfl rfl (e_boxN (L' := [⟨[I (t_.id_), I (t_.state), I (t_.last), I (t_.until_), .L 1 (t_.pending.map cI), .L 1 (t_.saves.map cI)], true, true⟩]) rfl (ev_t rfl) rfl rfl) ?_
  refine RgOK.s (v := .o (.c (.v (.slice none 0 0)))) rfl rfl rfl (e_as rfl) ?_
  refine RgOK.nil ?_
  show CdOK _ _ _ _ _ _
  refine CdOK.seq ?_
  refine CdOK.region ?_
  refine RgOK.s (v := .o (.c (.L 6 (l_.map Tx.cs)))) rfl rfl rfl (e_mv (ev_t rfl)) ?_
  obtain ⟨c2, hm⟩ := hm.ifs
  refine RgOK.cl rfl rfl rfl rfl pl145 (R2.wk _) (cloneT_ok (A := (h.length + 1)) (l := l_) (lenN rfl rfl) c2) ?_
  rintro _ _ ⟨lv1, rfl, rfl⟩
  rw [show (h ++ ([⟨[I (t_.id_), I (t_.state), I (t_.last), I (t_.until_), .L 1 (t_.pending.map cI), .L 1 (t_.saves.map cI)], true, true⟩] : Heap)) ++ [⟨(l_.map Tx.cs).flatten, true, lv1⟩] = h ++ ([⟨[I (t_.id_), I (t_.state), I (t_.last), I (t_.until_), .L 1 (t_.pending.map cI), .L 1 (t_.saves.map cI)], true, true⟩, ⟨(l_.map Tx.cs).flatten, true, lv1⟩] : Heap) from apnd rfl]
  refine RgOK.s (v := .o (.c (.g (h.length + 1) ((l_).length) 6 lv1))) rfl rfl rfl (e_as (ev_t rfl)) ?_
  refine RgOK.nil ?_
  show CdOK _ _ _ _ _ _
  refine CdOK.seq ?_
  obtain ⟨c3, hm⟩ := hm.ifs
  refine CdOK.glT (d := 0) (ev_t rfl) c3 (fun hlv => ?_)
  subst hlv
  skip
  refine CdOK.draw2 (ord := [0, 1, 2, 3, 4, 5, 6, 7]) (chain := [7]) fol (by decide +kernel) (by decide +kernel) ?_
  refine Dr2.s (v := .o (.c (.g (h.length + 1) ((l_).length) 6 true))) rfl rfl rfl rfl rfl rfl (e_mv (ev_t rfl)) ?_
  refine Dr2.s (v := .o (.c (.g (h.length + 1) ((l_).length) 6 true))) rfl rfl rfl rfl rfl rfl (e_mv (ev_t rfl)) ?_
  refine Dr2.s (v := .o (.c (.ptr (h.length + 0) 0))) rfl rfl rfl rfl rfl rfl (e_fa' fa108_0 (ev_t rfl)) ?_
  refine Dr2.f (v := VI (t_.id_)) rfl rfl rfl rfl rfl rfl (e_ldb1 (ev_t rfl) ty3 (bx rfl rfl) rfl) ?_
  obtain ⟨x4, e4, hm⟩ := hm.call
  refine Dr2.fc (v := VI (x4)) rfl rfl rfl rfl rfl rfl rfl pl73 (R2.wk _) (FnOK.borrow (R2.cons (BorV.c (BorC.g (bx rfl rfl) (by simp) (fun _ => rfl) (fun _ => rfl))) (R2.cons (BorV.c BorC.v) (R2.nil _))) (transactions_Find_ok (h := []) e4) rfl) ?_
  refine Dr2.f (v := .o (.agg [I (t_.id_), I (t_.state), I (t_.last), I (t_.until_), .L 1 (t_.pending.map cI), .L 1 (t_.saves.map cI)])) rfl rfl rfl rfl rfl rfl (e_ldbA (ev_t rfl) ty108 (bx rfl rfl) rfl rfl) ?_
  obtain ⟨c5, hm⟩ := hm.ifs
  refine Dr2.s (v := .o (.c (.ptr (h.length + 1) (0 + (Int.toNat x4) * 6)))) rfl rfl rfl rfl rfl rfl (e_ixg (ev_t rfl) (ev_t rfl) el92 c5) ?_
  obtain ⟨c6, hm⟩ := hm.ifs
  refine Dr2.c0 rfl rfl rfl rfl (e_stg (k := 6) (off := 0) (f := Tx.cs) (l := l_) (i := x4) (x := t_) (L' := [⟨[I (t_.id_), I (t_.state), I (t_.last), I (t_.until_), .L 1 (t_.pending.map cI), .L 1 (t_.saves.map cI)], true, true⟩, ⟨((l_.set (Int.toNat x4) t_).map Tx.cs).flatten, true, true⟩]) rfl (ev_t rfl) (ev_t rfl) ty108 rfl (by intro x; rfl) rfl rfl c6 (by omega) rfl) (.m (by decide +kernel) (.m (by decide +kernel) (.m (by decide +kernel) .nil))) ?_
  refine Dr2.nil ?_
  show CdOK _ _ _ _ _ _
  refine CdOK.seq ?_
  refine CdOK.region ?_
  refine RgOK.s (v := .o (.c (.g (h.length + 1) ((l_).length) 6 true))) rfl rfl rfl (e_mv (ev_t rfl)) ?_
  refine RgOK.s (v := .o (.c (.g (h.length + 1) ((l_).length) 6 true))) rfl rfl rfl (e_as (ev_t rfl)) ?_
  refine RgOK.nil ?_
  show CdOK _ _ _ _ _ _
  refine CdOK.ret ?_
  refine ⟨.inr rfl, _, rfl, h, [⟨[I (t_.id_), I (t_.state), I (t_.last), I (t_.until_), .L 1 (t_.pending.map cI), .L 1 (t_.saves.map cI)], true, true⟩, ⟨((l_.set (Int.toNat x4) t_).map Tx.cs).flatten, true, true⟩], _, rfl, rfl, hC, ((.o (.c (.fzg 1 _ 6 _ ((l_.set (Int.toNat x4) t_).map Tx.cs) rfl (by decide) (by first | exact List.length_map .. | simp) (lens_all (by intro x; rfl)) (vl_all (by intro x; rfl))))) : RenV _ _ _ _ (.o (.c (.L 6 ((l_.set (Int.toNat x4) t_).map Tx.cs))))), ?_⟩
  have hr := hm.ret
  subst hr
  exact ⟨rfl, rfl⟩
/- pagemend/transactions.place$1 -/
def transactions_placeF (i_ : Int) (a1 : (List Tx)) (a2 : Int) : Option Bool := (if (0 : Int) ≤ i_ ∧ i_ < (a1.length : Int) then some (decide (a2 ≤ ((gd a1 i_).id_))) else none)
theorem transactions_placeF.eq (i_ : Int) (a1 : (List Tx)) (a2 : Int) : transactions_placeF i_ a1 a2 = (if (0 : Int) ≤ i_ ∧ i_ < (a1.length : Int) then some (decide (a2 ≤ ((gd a1 i_).id_))) else none) := rfl
theorem transactions_placeF_ok {h : Heap} {i_ : Int} {a1 : (List Tx)} {a2 : Int} {b_a1 : Nat} (hb_a1 : h[b_a1]? = some ⟨[.L 6 (a1.map Tx.cs)], true, true⟩) {b_a2 : Nat} (hb_a2 : h[b_a2]? = some ⟨[I (a2)], true, true⟩) {r : Bool} (hm : transactions_placeF i_ a1 a2 = some r) : FnOK Try.prog 192 [VI (i_), .o (.c (.ptr b_a1 0)), .o (.c (.ptr b_a2 0))] h (fun v h' => v = VB (r) ∧ h' = h) := by
  refine FnOK.fin ?_
  refine FnOK.bodyC (N := 12) Try.func192 rfl rfl rfl (fun hC => ?_)
  have hl_a1 := lt_of_get hb_a1
  have hl_a2 := lt_of_get hb_a2
  replace hm := Ev.of hm
  rw [transactions_placeF.eq] at hm
  show CdOK _ _ _ (look _ [(0, VI (i_)), (1, .o (.c (.ptr b_a1 0))), (2, .o (.c (.ptr b_a2 0)))]) (h ++ ([] : Heap)) _
  refine CdOK.seq ?_
  refine CdOK.region ?_
  refine RgOK.s (v := VB (false)) rfl rfl rfl (e_as rfl) ?_
  refine RgOK.nil ?_
  show CdOK _ _ _ _ _ _
  refine CdOK.seq ?_
  refine CdOK.draw fol (by decide +kernel) ?_
  refine DrOK.s (v := .o (.c (.L 6 (a1.map Tx.cs)))) rfl rfl rfl (e_ldb1 (ev_t rfl) ty92 (pb hb_a1) rfl) ?_
  refine DrOK.s (v := VI (i_)) rfl rfl rfl (e_mv (ev_t rfl)) ?_
  obtain ⟨c1, hm⟩ := hm.ifs
  refine DrOK.s (v := .o (.c (.rp [I ((gd a1 i_).id_), I ((gd a1 i_).state), I ((gd a1 i_).last), I ((gd a1 i_).until_), .L 1 (((gd a1 i_).pending).map cI), .L 1 (((gd a1 i_).saves).map cI)]))) rfl rfl rfl (e_ixM (f := Tx.cs) (l := a1) (i := i_) (ev_t rfl) (ev_t rfl) el92 c1) ?_
  refine DrOK.s (v := .o (.c (.rp [I ((gd a1 i_).id_), I ((gd a1 i_).state), I ((gd a1 i_).last), I ((gd a1 i_).until_), .L 1 (((gd a1 i_).pending).map cI), .L 1 (((gd a1 i_).saves).map cI)]))) rfl rfl rfl (e_faR fa108_0 (ev_t rfl) rfl) ?_
  refine DrOK.s (v := VI ((gd a1 i_).id_)) rfl rfl rfl (e_ldR1 (ev_t rfl) ty3 rfl) ?_
  refine DrOK.s (v := VI (a2)) rfl rfl rfl (e_ldb1 (ev_t rfl) ty3 (pb hb_a2) rfl) ?_
  refine DrOK.s (v := VB (decide (a2 ≤ ((gd a1 i_).id_)))) rfl rfl rfl (e_bin (ev_t rfl) (ev_t rfl) rfl rfl) ?_
  refine DrOK.s (v := VB (decide (a2 ≤ ((gd a1 i_).id_)))) rfl rfl rfl (e_as (ev_t rfl)) ?_
  refine DrOK.nil ?_
  show CdOK _ _ _ _ _ _
  refine CdOK.ret ?_
  refine ⟨.inr rfl, _, rfl, h, [], _, rfl, rfl, hC, ((renFlV rfl) : RenV _ _ _ _ (VB (decide (a2 ≤ ((gd a1 i_).id_))))), ?_⟩
  have hr := hm.ret
  subst hr
  exact ⟨rfl, rfl⟩
/- sort.Search -/
def sort_SearchP.l1 (f_0 : (List Tx)) (f_1 : Int) : Nat → Int → Int → Option Int
  | 0, _, _ => none
  | kk4 + 1, i2, j3 => (if i2 < j3 then ((transactions_placeF (w64 (Int.fdiv (IntKind.u64.wrap (w64 (i2 + j3))) (2 ^ (min (Int.toNat 1) (IntKind.bits .u64))))) f_0 f_1).bind fun (x6 : Bool) => (if (!x6) = true then sort_SearchP.l1 f_0 f_1 kk4 (w64 ((w64 (Int.fdiv (IntKind.u64.wrap (w64 (i2 + j3))) (2 ^ (min (Int.toNat 1) (IntKind.bits .u64))))) + 1)) j3 else sort_SearchP.l1 f_0 f_1 kk4 i2 (w64 (Int.fdiv (IntKind.u64.wrap (w64 (i2 + j3))) (2 ^ (min (Int.toNat 1) (IntKind.bits .u64))))))) else some i2)
theorem sort_SearchP.l1_s (f_0 : (List Tx)) (f_1 : Int) (kk4 : Nat) (i2 : Int) (j3 : Int) : sort_SearchP.l1 f_0 f_1 (kk4 + 1) i2 j3 = (if i2 < j3 then ((transactions_placeF (w64 (Int.fdiv (IntKind.u64.wrap (w64 (i2 + j3))) (2 ^ (min (Int.toNat 1) (IntKind.bits .u64))))) f_0 f_1).bind fun (x6 : Bool) => (if (!x6) = true then sort_SearchP.l1 f_0 f_1 kk4 (w64 ((w64 (Int.fdiv (IntKind.u64.wrap (w64 (i2 + j3))) (2 ^ (min (Int.toNat 1) (IntKind.bits .u64))))) + 1)) j3 else sort_SearchP.l1 f_0 f_1 kk4 i2 (w64 (Int.fdiv (IntKind.u64.wrap (w64 (i2 + j3))) (2 ^ (min (Int.toNat 1) (IntKind.bits .u64))))))) else some i2) := rfl
def sort_SearchP (n_ : Int) (f_0 : (List Tx)) (f_1 : Int) : Option Int := ((sort_SearchP.l1 f_0 f_1 FU 0 n_).bind fun (s10 : Int) => some s10)
theorem sort_SearchP.eq (n_ : Int) (f_0 : (List Tx)) (f_1 : Int) : sort_SearchP n_ f_0 f_1 = ((sort_SearchP.l1 f_0 f_1 FU 0 n_).bind fun (s10 : Int) => some s10) := rfl
theorem sort_SearchP_ok {h : Heap} {n_ : Int} {f_0 : (List Tx)} {f_1 : Int} {b_f_0 : Nat} (hb_f_0 : h[b_f_0]? = some ⟨[.L 6 (f_0.map Tx.cs)], true, true⟩) {b_f_1 : Nat} (hb_f_1 : h[b_f_1]? = some ⟨[I (f_1)], true, true⟩) {r : Int} (hm : sort_SearchP n_ f_0 f_1 = some r) : FnOK Try.prog 191 [VI (n_), .o (.c (.fn 192 [(b_f_0, 0), (b_f_1, 0)]))] h (fun v h' => v = VI (r) ∧ h' = h) := by
  refine FnOK.fin ?_
  refine FnOK.bodyC (N := 26) Try.func191 rfl rfl rfl (fun hC => ?_)
  have hl_f_0 := lt_of_get hb_f_0
  have hl_f_1 := lt_of_get hb_f_1
  replace hm := Ev.of hm
  rw [sort_SearchP.eq] at hm
  show CdOK _ _ _ (look _ [(0, VI (n_)), (1, .o (.c (.fn 192 [(b_f_0, 0), (b_f_1, 0)])))]) (h ++ ([] : Heap)) _
  refine CdOK.seq ?_
  refine CdOK.region ?_
  refine RgOK.s (v := VI (0)) rfl rfl rfl (e_as rfl) ?_
  refine RgOK.nil ?_
  show CdOK _ _ _ _ _ _
  refine CdOK.seq ?_
  refine CdOK.region ?_
  refine RgOK.s (v := VI (n_)) rfl rfl rfl (e_mv (ev_t rfl)) ?_
  refine RgOK.s (v := VI (0)) rfl rfl rfl (e_as rfl) ?_
  refine RgOK.s (v := VI (n_)) rfl rfl rfl (e_as (ev_t rfl)) ?_
  refine RgOK.nil ?_
  show CdOK _ _ _ _ _ _
  replace hm := hm.bnd
  refine CdOK.joinE (σ := Int) (fun s => s) hm (fun s => [(5, VI (s))]) (fun s => h ++ ([] : Heap)) ?_ ?_
  · intro hm
    refine CdOK.block ?_
    refine CdOK.loopE (σ := (Int × Int)) (fun k s => Ev (sort_SearchP.l1 f_0 f_1 k s.1 s.2) _) (fun s => [(1, .o (.c (.fn 192 [(b_f_0, 0), (b_f_1, 0)]))), (5, VI (s.1)), (6, VI (s.2))]) (fun s => h ++ ([] : Heap)) FU (0, n_) hm (.cons rfl (.cons rfl (.cons rfl .nil))) rfl ?_
    rintro kk4 ⟨i2, j3⟩ T0 hm
    replace hm : Ev (sort_SearchP.l1 f_0 f_1 kk4 i2 j3) _ := hm
    cases kk4 with
    | zero => exact (Ev.non hm).elim
    | succ kk4 =>
    rw [sort_SearchP.l1_s] at hm
    show CdOK _ _ _ (look T0 [(1, .o (.c (.fn 192 [(b_f_0, 0), (b_f_1, 0)]))), (5, VI (i2)), (6, VI (j3))]) (h ++ ([] : Heap)) _
    refine CdOK.seq ?_
    refine CdOK.seq ?_
    refine CdOK.region ?_
    refine RgOK.s (v := VI (i2)) rfl rfl rfl (e_mv (ev_t rfl)) ?_
    refine RgOK.s (v := VI (j3)) rfl rfl rfl (e_mv (ev_t rfl)) ?_
    refine RgOK.s (v := VB (decide (i2 < j3))) rfl rfl rfl (e_bin (ev_t rfl) (ev_t rfl) rfl rfl) ?_
    refine RgOK.nil ?_
    show CdOK _ _ _ _ _ _
    refine CdOK.condD (ev_t rfl) ?_ ?_
    · intro c5; replace hm := hm.ifp c5
      refine CdOK.skip ?_
      show CdOK _ _ _ _ _ _
      refine CdOK.block ?_
      refine CdOK.seq ?_
      refine CdOK.region ?_
      refine RgOK.s (v := VI (i2)) rfl rfl rfl (e_mv (ev_t rfl)) ?_
      refine RgOK.s (v := VI (j3)) rfl rfl rfl (e_mv (ev_t rfl)) ?_
      refine RgOK.s (v := VI ((w64 (i2 + j3)))) rfl rfl rfl (e_bin (ev_t rfl) (ev_t rfl) rfl rfl) ?_
      refine RgOK.s (v := .o (.c (.v (.int .u64 ((IntKind.u64.wrap (w64 (i2 + j3)))))))) rfl rfl rfl (e_cvw cv3_175 (ev_t rfl)) ?_
      refine RgOK.s (v := .o (.c (.v (.int .u64 ((Int.fdiv (IntKind.u64.wrap (w64 (i2 + j3))) (2 ^ (min (Int.toNat 1) (IntKind.bits .u64))))))))) rfl rfl rfl (e_bin (ev_t rfl) rfl rfl rfl) ?_
      refine RgOK.s (v := VI ((w64 (Int.fdiv (IntKind.u64.wrap (w64 (i2 + j3))) (2 ^ (min (Int.toNat 1) (IntKind.bits .u64))))))) rfl rfl rfl (e_cvw cv175_3 (ev_t rfl)) ?_
      refine RgOK.s (v := VI ((w64 (Int.fdiv (IntKind.u64.wrap (w64 (i2 + j3))) (2 ^ (min (Int.toNat 1) (IntKind.bits .u64))))))) rfl rfl rfl (e_as (ev_t rfl)) ?_
      refine RgOK.nil ?_
      show CdOK _ _ _ _ _ _
      refine CdOK.seq ?_
      refine CdOK.region ?_
      refine RgOK.s (v := .o (.c (.fn 192 [(b_f_0, 0), (b_f_1, 0)]))) rfl rfl rfl (e_mv (ev_t rfl)) ?_
      refine RgOK.s (v := VI ((w64 (Int.fdiv (IntKind.u64.wrap (w64 (i2 + j3))) (2 ^ (min (Int.toNat 1) (IntKind.bits .u64))))))) rfl rfl rfl (e_mv (ev_t rfl)) ?_
      obtain ⟨x6, e6, hm⟩ := hm.call
      refine RgOK.cl rfl rfl rfl rfl pl192 (R2.wk _) (transactions_placeF_ok (b_a1 := b_f_0) (b_a2 := b_f_1) (pb hb_f_0) (pb hb_f_1) e6) ?_
      rintro _ _ ⟨rfl, rfl⟩
      refine RgOK.s (v := VB ((!x6))) rfl rfl rfl (e_un (ev_t rfl) rfl) ?_
      refine RgOK.nil ?_
      show CdOK _ _ _ _ _ _
      refine CdOK.condB (ev_t rfl) ?_ ?_
      · intro c7; replace hm := hm.ifp c7
        refine CdOK.region ?_
        refine RgOK.s (v := VI ((w64 (Int.fdiv (IntKind.u64.wrap (w64 (i2 + j3))) (2 ^ (min (Int.toNat 1) (IntKind.bits .u64))))))) rfl rfl rfl (e_mv (ev_t rfl)) ?_
        refine RgOK.s (v := VI ((w64 ((w64 (Int.fdiv (IntKind.u64.wrap (w64 (i2 + j3))) (2 ^ (min (Int.toNat 1) (IntKind.bits .u64))))) + 1)))) rfl rfl rfl (e_bin (ev_t rfl) rfl rfl rfl) ?_
        refine RgOK.s (v := VI ((w64 ((w64 (Int.fdiv (IntKind.u64.wrap (w64 (i2 + j3))) (2 ^ (min (Int.toNat 1) (IntKind.bits .u64))))) + 1)))) rfl rfl rfl (e_as (ev_t rfl)) ?_
        refine RgOK.nil ?_
        refine Told.id ?_
        exact ⟨_, ((w64 ((w64 (Int.fdiv (IntKind.u64.wrap (w64 (i2 + j3))) (2 ^ (min (Int.toNat 1) (IntKind.bits .u64))))) + 1)), j3), Nat.lt_succ_self _, hm, (.cons rfl (.cons rfl (.cons rfl .nil))), rfl⟩
      · intro c8; replace hm := hm.ifn c8
        refine CdOK.region ?_
        refine RgOK.s (v := VI ((w64 (Int.fdiv (IntKind.u64.wrap (w64 (i2 + j3))) (2 ^ (min (Int.toNat 1) (IntKind.bits .u64))))))) rfl rfl rfl (e_mv (ev_t rfl)) ?_
        refine RgOK.s (v := VI ((w64 (Int.fdiv (IntKind.u64.wrap (w64 (i2 + j3))) (2 ^ (min (Int.toNat 1) (IntKind.bits .u64))))))) rfl rfl rfl (e_as (ev_t rfl)) ?_
        refine RgOK.nil ?_
        refine Told.id ?_
        exact ⟨_, (i2, (w64 (Int.fdiv (IntKind.u64.wrap (w64 (i2 + j3))) (2 ^ (min (Int.toNat 1) (IntKind.bits .u64)))))), Nat.lt_succ_self _, hm, (.cons rfl (.cons rfl (.cons rfl .nil))), rfl⟩
    · intro c9; replace hm := hm.ifn c9
      refine CdOK.exit ?_
      refine Told.id ?_
      exact ⟨i2, hm.ret, (.cons rfl .nil), rfl⟩
  · rintro i1 T0 hm
    show CdOK _ _ _ (look T0 [(5, VI (i1))]) (h ++ ([] : Heap)) _
    refine CdOK.seq ?_
    refine CdOK.region ?_
    refine RgOK.s (v := VI (i1)) rfl rfl rfl (e_mv (ev_t rfl)) ?_
    refine RgOK.s (v := VI (i1)) rfl rfl rfl (e_as (ev_t rfl)) ?_
    refine RgOK.nil ?_
    show CdOK _ _ _ _ _ _
    refine CdOK.ret ?_
    refine ⟨.inr rfl, _, rfl, h, [], _, rfl, rfl, hC, ((renFlV rfl) : RenV _ _ _ _ (VI (i1))), ?_⟩
    have hr := hm.ret
    subst hr
    exact ⟨rfl, rfl⟩
/- pagemend/transactions.place -/
def transactions_place (l_ : (List Tx)) (id_ : Int) : Option Int := ((sort_SearchP (l_.length : Int) l_ id_).bind fun (x1 : Int) => some x1)
theorem transactions_place.eq (l_ : (List Tx)) (id_ : Int) : transactions_place l_ id_ = ((sort_SearchP (l_.length : Int) l_ id_).bind fun (x1 : Int) => some x1) := rfl
theorem transactions_place_ok {h : Heap} {l_ : (List Tx)} {id_ : Int}  {r : Int} (hm : transactions_place l_ id_ = some r) : FnOK Try.prog 146 [.o (.c (.L 6 (l_.map Tx.cs))), VI (id_)] h (fun v h' => v = VI (r) ∧ h' = h) := by
  refine FnOK.fin ?_
  refine FnOK.bodyC (N := 9) Try.func146 rfl rfl rfl (fun hC => ?_)
  replace hm := Ev.of hm
  rw [transactions_place.eq] at hm
  show CdOK _ _ _ (look _ [(0, .o (.c (.L 6 (l_.map Tx.cs)))), (1, VI (id_))]) (h ++ ([] : Heap)) _
  refine CdOK.seq ?_
  refine CdOK.region ?_
  refine RgOK.s (v := .o (.c (.ptr (h.length + 0) 0))) rfl rfl rfl (e_boxN (L' := [⟨[.L 6 (l_.map Tx.cs)], true, true⟩]) rfl (ev_t rfl) rfl rfl) ?_
  refine RgOK.s (v := .o (.c (.ptr (h.length + 1) 0))) rfl rfl rfl (e_boxN (L' := [⟨[.L 6 (l_.map Tx.cs)], true, true⟩, ⟨[I (id_)], true, true⟩]) rfl (ev_t rfl) rfl rfl) ?_
  refine RgOK.s (v := VI (0)) rfl rfl rfl (e_as rfl) ?_
  refine RgOK.nil ?_
  show CdOK _ _ _ _ _ _
  refine CdOK.seq ?_
  refine CdOK.region ?_
  refine RgOK.s (v := .o (.c (.L 6 (l_.map Tx.cs)))) rfl rfl rfl (e_ldb1 (ev_t rfl) ty92 (bx rfl rfl) rfl) ?_
  refine RgOK.s (v := VI ((l_.length : Int))) rfl rfl rfl (e_lenM (ev_t rfl) is92) ?_
  refine RgOK.s (v := .o (.c (.fn 192 [((h.length + 0), 0), ((h.length + 1), 0)]))) rfl rfl rfl (e_mkf rfl rfl) ?_
  obtain ⟨x1, e1, hm⟩ := hm.call
  refine RgOK.cl rfl rfl rfl rfl pl191 (R2.wk _) (sort_SearchP_ok (b_f_0 := (h.length + 0)) (b_f_1 := (h.length + 1)) (bx rfl rfl) (bx rfl rfl) e1) ?_
  rintro _ _ ⟨rfl, rfl⟩
  refine RgOK.s (v := VI (x1)) rfl rfl rfl (e_as (ev_t rfl)) ?_
  refine RgOK.nil ?_
  show CdOK _ _ _ _ _ _
  refine CdOK.ret ?_
  refine ⟨.inr rfl, _, rfl, h, [⟨[.L 6 (l_.map Tx.cs)], true, true⟩, ⟨[I (id_)], true, true⟩], _, rfl, rfl, hC, ((renFlV rfl) : RenV _ _ _ _ (VI (x1))), ?_⟩
  have hr := hm.ret
  subst hr
  exact ⟨rfl, rfl⟩
/- pagemend/transactions.Begin -/
def transactions_Begin (l_ : (List Tx)) (id_ : Int) : Option ((List Tx) × Int) := ((transactions_Valid l_).bind fun (x1 : Bool) => (if (!x1) = true then some (([] : List Tx), 15) else (if id_ < 1 then some (([] : List Tx), 1) else (if 1073741824 < id_ then some (([] : List Tx), 1) else ((transactions_Find l_ id_).bind fun (x8 : Int) => (if 0 ≤ x8 then some (([] : List Tx), 25) else (if (l_.length : Int) = 64 then some (([] : List Tx), 21) else (if l_.length ≤ 1759218604441 then ((transactions_place l_ id_).bind fun (x15 : Int) => (if ((0 : Int) ≤ x15 ∧ x15 ≤ (l_.length : Int)) ∧ l_.length ≤ 1000000 then some ((insL l_ (Int.toNat x15) (⟨id_, 1, 0, 0, ([] : List Int), ([] : List Int)⟩ : Tx)), 0) else none)) else none))))))))
theorem transactions_Begin.eq (l_ : (List Tx)) (id_ : Int) : transactions_Begin l_ id_ = ((transactions_Valid l_).bind fun (x1 : Bool) => (if (!x1) = true then some (([] : List Tx), 15) else (if id_ < 1 then some (([] : List Tx), 1) else (if 1073741824 < id_ then some (([] : List Tx), 1) else ((transactions_Find l_ id_).bind fun (x8 : Int) => (if 0 ≤ x8 then some (([] : List Tx), 25) else (if (l_.length : Int) = 64 then some (([] : List Tx), 21) else (if l_.length ≤ 1759218604441 then ((transactions_place l_ id_).bind fun (x15 : Int) => (if ((0 : Int) ≤ x15 ∧ x15 ≤ (l_.length : Int)) ∧ l_.length ≤ 1000000 then some ((insL l_ (Int.toNat x15) (⟨id_, 1, 0, 0, ([] : List Int), ([] : List Int)⟩ : Tx)), 0) else none)) else none)))))))) := rfl
theorem transactions_Begin_ok {h : Heap} {l_ : (List Tx)} {id_ : Int}  {r : ((List Tx) × Int)} (hm : transactions_Begin l_ id_ = some r) : FnOK Try.prog 71 [.o (.c (.L 6 (l_.map Tx.cs))), VI (id_)] h (fun v h' => v = .tup [.c (.L 6 (r.1.map Tx.cs)), .c (I (r.2))] ∧ h' = h) := by
  refine FnOK.fin ?_
  refine FnOK.bodyC (N := 35) Try.func71 rfl rfl rfl (fun hC => ?_)
  replace hm := Ev.of hm
  rw [transactions_Begin.eq] at hm
  show CdOK _ _ _ (look _ [(0, .o (.c (.L 6 (l_.map Tx.cs)))), (1, VI (id_))]) (h ++ ([] : Heap)) _
  refine CdOK.seq ?_
  refine CdOK.region ?_
  refine RgOK.s (v := .o (.c (.v (.slice none 0 0)))) rfl rfl rfl (e_as rfl) ?_
  refine RgOK.s (v := VI (0)) rfl rfl rfl (e_as rfl) ?_
  refine RgOK.nil ?_
  show CdOK _ _ _ _ _ _
  refine CdOK.seq ?_
  refine CdOK.block ?_
  refine CdOK.seq ?_
  refine CdOK.region ?_
  refine RgOK.s (v := .o (.c (.L 6 (l_.map Tx.cs)))) rfl rfl rfl (e_mv (ev_t rfl)) ?_
  obtain ⟨x1, e1, hm⟩ := hm.call
  refine RgOK.cl rfl rfl rfl rfl pl65 (R2.wk _) (transactions_Valid_ok   e1) ?_
  rintro _ _ ⟨rfl, rfl⟩
  refine RgOK.s (v := VB ((!x1))) rfl rfl rfl (e_un (ev_t rfl) rfl) ?_
  refine RgOK.s (v := VB ((!x1))) rfl rfl rfl (e_as (ev_t rfl)) ?_
  refine RgOK.nil ?_
  show CdOK _ _ _ _ _ _
  refine CdOK.condB (ev_t rfl) ?_ ?_
  · intro c2; replace hm := hm.ifp c2
    refine CdOK.seq ?_
    refine CdOK.region ?_
    refine RgOK.s (v := .o (.c (.v (.slice none 0 0)))) rfl rfl rfl (e_as rfl) ?_
    refine RgOK.s (v := VI (15)) rfl rfl rfl (e_as rfl) ?_
    refine RgOK.nil ?_
    show CdOK _ _ _ _ _ _
    refine CdOK.ret ?_
    refine ⟨.inr rfl, _, rfl, h, [], _, rfl, rfl, hC, ((.tup (R2.of (.c (.wk (.fl _ rfl) (.nlL _))) (R2.of (.c (.fl _ rfl)) (R2.nil _)))) : RenV _ _ _ _ (.tup [.c (.L 6 (([] : List Tx).map Tx.cs)), .c (I (15))])), ?_⟩
    have hr := hm.ret
    subst hr
    exact ⟨rfl, rfl⟩
  · intro c3; replace hm := hm.ifn c3
    refine CdOK.seq ?_
    refine CdOK.region ?_
    refine RgOK.s (v := VI (id_)) rfl rfl rfl (e_mv (ev_t rfl)) ?_
    refine RgOK.sd rfl rfl rfl (e_bin (ev_t rfl) rfl rfl rfl) ?_ ?_
    · intro c4; replace hm := hm.ifp c4
      refine RgOK.s (v := VB (true)) rfl rfl rfl (e_mv (ev_t rfl)) ?_
      refine RgOK.sk rfl rfl rfl ?_
      refine RgOK.sk rfl rfl rfl ?_
      refine RgOK.s (v := VB (true)) rfl rfl rfl (e_pick (t := true) (ev_t rfl) rfl) ?_
      refine RgOK.s (v := VB (true)) rfl rfl rfl (e_as (ev_t rfl)) ?_
      refine RgOK.nil ?_
      show CdOK _ _ _ _ _ _
      refine CdOK.cond_true rfl ?_
      refine CdOK.seq ?_
      refine CdOK.region ?_
      refine RgOK.s (v := .o (.c (.v (.slice none 0 0)))) rfl rfl rfl (e_as rfl) ?_
      refine RgOK.s (v := VI (1)) rfl rfl rfl (e_as rfl) ?_
      refine RgOK.nil ?_
      show CdOK _ _ _ _ _ _
      refine CdOK.ret ?_
      refine ⟨.inr rfl, _, rfl, h, [], _, rfl, rfl, hC, ((.tup (R2.of (.c (.wk (.fl _ rfl) (.nlL _))) (R2.of (.c (.fl _ rfl)) (R2.nil _)))) : RenV _ _ _ _ (.tup [.c (.L 6 (([] : List Tx).map Tx.cs)), .c (I (1))])), ?_⟩
      have hr := hm.ret
      subst hr
      exact ⟨rfl, rfl⟩
    · intro c5; replace hm := hm.ifn c5
      refine RgOK.s (v := VB (false)) rfl rfl rfl (e_mv (ev_t rfl)) ?_
      refine RgOK.s (v := VI (id_)) rfl rfl rfl (e_mv (ev_t rfl)) ?_
      refine RgOK.s (v := VB (decide (1073741824 < id_))) rfl rfl rfl (e_bin (ev_t rfl) rfl rfl rfl) ?_
      refine RgOK.s (v := VB (decide (1073741824 < id_))) rfl rfl rfl (e_pick (t := false) (ev_t rfl) (ev_t rfl)) ?_
      refine RgOK.s (v := VB (decide (1073741824 < id_))) rfl rfl rfl (e_as (ev_t rfl)) ?_
      refine RgOK.nil ?_
      show CdOK _ _ _ _ _ _
      refine CdOK.condD (ev_t rfl) ?_ ?_
      · intro c6; replace hm := hm.ifp c6
        refine CdOK.seq ?_
        refine CdOK.region ?_
        refine RgOK.s (v := .o (.c (.v (.slice none 0 0)))) rfl rfl rfl (e_as rfl) ?_
        refine RgOK.s (v := VI (1)) rfl rfl rfl (e_as rfl) ?_
        refine RgOK.nil ?_
        show CdOK _ _ _ _ _ _
        refine CdOK.ret ?_
        refine ⟨.inr rfl, _, rfl, h, [], _, rfl, rfl, hC, ((.tup (R2.of (.c (.wk (.fl _ rfl) (.nlL _))) (R2.of (.c (.fl _ rfl)) (R2.nil _)))) : RenV _ _ _ _ (.tup [.c (.L 6 (([] : List Tx).map Tx.cs)), .c (I (1))])), ?_⟩
        have hr := hm.ret
        subst hr
        exact ⟨rfl, rfl⟩
      · intro c7; replace hm := hm.ifn c7
        refine CdOK.seq ?_
        refine CdOK.region ?_
        refine RgOK.s (v := .o (.c (.L 6 (l_.map Tx.cs)))) rfl rfl rfl (e_mv (ev_t rfl)) ?_
        refine RgOK.s (v := VI (id_)) rfl rfl rfl (e_mv (ev_t rfl)) ?_
        obtain ⟨x8, e8, hm⟩ := hm.call
        refine RgOK.cl rfl rfl rfl rfl pl73 (R2.wk _) (transactions_Find_ok   e8) ?_
        rintro _ _ ⟨rfl, rfl⟩
        refine RgOK.s (v := VB (decide (0 ≤ x8))) rfl rfl rfl (e_bin (ev_t rfl) rfl rfl rfl) ?_
        refine RgOK.s (v := VB (decide (0 ≤ x8))) rfl rfl rfl (e_as (ev_t rfl)) ?_
        refine RgOK.nil ?_
        show CdOK _ _ _ _ _ _
        refine CdOK.condD (ev_t rfl) ?_ ?_
        · intro c9; replace hm := hm.ifp c9
          refine CdOK.seq ?_
          refine CdOK.region ?_
          refine RgOK.s (v := .o (.c (.v (.slice none 0 0)))) rfl rfl rfl (e_as rfl) ?_
          refine RgOK.s (v := VI (25)) rfl rfl rfl (e_as rfl) ?_
          refine RgOK.nil ?_
          show CdOK _ _ _ _ _ _
          refine CdOK.ret ?_
          refine ⟨.inr rfl, _, rfl, h, [], _, rfl, rfl, hC, ((.tup (R2.of (.c (.wk (.fl _ rfl) (.nlL _))) (R2.of (.c (.fl _ rfl)) (R2.nil _)))) : RenV _ _ _ _ (.tup [.c (.L 6 (([] : List Tx).map Tx.cs)), .c (I (25))])), ?_⟩
          have hr := hm.ret
          subst hr
          exact ⟨rfl, rfl⟩
        · intro c10; replace hm := hm.ifn c10
          refine CdOK.seq ?_
          refine CdOK.region ?_
          refine RgOK.s (v := .o (.c (.L 6 (l_.map Tx.cs)))) rfl rfl rfl (e_mv (ev_t rfl)) ?_
          refine RgOK.s (v := VI ((l_.length : Int))) rfl rfl rfl (e_lenM (ev_t rfl) is92) ?_
          refine RgOK.s (v := VB (decide ((l_.length : Int) = 64))) rfl rfl rfl (e_eqK (ev_t rfl) rfl) ?_
          refine RgOK.s (v := VB (decide ((l_.length : Int) = 64))) rfl rfl rfl (e_as (ev_t rfl)) ?_
          refine RgOK.nil ?_
          show CdOK _ _ _ _ _ _
          refine CdOK.condD (ev_t rfl) ?_ ?_
          · intro c11; replace hm := hm.ifp c11
            refine CdOK.seq ?_
            refine CdOK.region ?_
            refine RgOK.s (v := .o (.c (.v (.slice none 0 0)))) rfl rfl rfl (e_as rfl) ?_
            refine RgOK.s (v := VI (21)) rfl rfl rfl (e_as rfl) ?_
            refine RgOK.nil ?_
            show CdOK _ _ _ _ _ _
            refine CdOK.ret ?_
            refine ⟨.inr rfl, _, rfl, h, [], _, rfl, rfl, hC, ((.tup (R2.of (.c (.wk (.fl _ rfl) (.nlL _))) (R2.of (.c (.fl _ rfl)) (R2.nil _)))) : RenV _ _ _ _ (.tup [.c (.L 6 (([] : List Tx).map Tx.cs)), .c (I (21))])), ?_⟩
            have hr := hm.ret
            subst hr
            exact ⟨rfl, rfl⟩
          · intro c12; replace hm := hm.ifn c12
            refine CdOK.skip ?_
            show CdOK _ _ _ _ _ _
            refine CdOK.seq ?_
            refine CdOK.region ?_
            refine RgOK.s (v := .o (.c (.L 6 (l_.map Tx.cs)))) rfl rfl rfl (e_mv (ev_t rfl)) ?_
            obtain ⟨c14, hm⟩ := hm.ifs
            refine RgOK.cl rfl rfl rfl rfl pl145 (R2.wk _) (cloneT_ok (A := (h.length + 0)) (l := l_) (lenN rfl rfl) c14) ?_
            rintro _ _ ⟨lv13, rfl, rfl⟩
            rw [show (h ++ ([] : Heap)) ++ [⟨(l_.map Tx.cs).flatten, true, lv13⟩] = h ++ ([⟨(l_.map Tx.cs).flatten, true, lv13⟩] : Heap) from apnd rfl]
            refine RgOK.s (v := .o (.c (.L 6 (l_.map Tx.cs)))) rfl rfl rfl (e_mv (ev_t rfl)) ?_
            refine RgOK.s (v := VI (id_)) rfl rfl rfl (e_mv (ev_t rfl)) ?_
            obtain ⟨x15, e15, hm⟩ := hm.call
            refine RgOK.cl rfl rfl rfl rfl pl146 (R2.wk _) (transactions_place_ok   e15) ?_
            rintro _ _ ⟨rfl, rfl⟩
            refine RgOK.s (v := VI (id_)) rfl rfl rfl (e_mv (ev_t rfl)) ?_
            refine RgOK.sW (v' := .o (.agg [I (id_), I (1), I (0), I (0), .L 1 (([] : List Int).map cI), .L 1 (([] : List Int).map cI)])) rfl rfl rfl (e_bld (cs := [I (id_), I (1), I (0), I (0), .v (.slice none 0 0), .v (.slice none 0 0)]) zo108 bl108 rfl rfl) (.agg (R2.cons (.refl _) (R2.cons (.refl _) (R2.cons (.refl _) (R2.cons (.refl _) (R2.cons (.nlL _) (R2.cons (.nlL _) (R2.nil _)))))))) ?_
            refine RgOK.s (v := .o (.c (.LC 6 (([(⟨id_, 1, 0, 0, ([] : List Int), ([] : List Int)⟩ : Tx)] : List Tx).map Tx.cs)))) rfl rfl rfl (e_lit (cs := [I (id_), I (1), I (0), I (0), .L 1 (([] : List Int).map cI), .L 1 (([] : List Int).map cI)]) (xs := ([(⟨id_, 1, 0, 0, ([] : List Int), ([] : List Int)⟩ : Tx)]).map Tx.cs) slt92 rfl rfl rfl rfl rfl) ?_
            obtain ⟨c16, hm⟩ := hm.ifs
            refine RgOK.cl rfl rfl rfl rfl pl144 (R2.wk _) (insT_ok (A := (h.length + 1)) (l := l_) (x := (⟨id_, 1, 0, 0, ([] : List Int), ([] : List Int)⟩ : Tx)) (lenN rfl rfl) (bx rfl rfl) c16.1 c16.2) ?_
            rintro _ _ ⟨rfl, rfl⟩
            rw [show kill (h ++ ([⟨(l_.map Tx.cs).flatten, true, lv13⟩] : Heap)) (h.length + 0) ++ [⟨((insL l_ (Int.toNat x15) (⟨id_, 1, 0, 0, ([] : List Int), ([] : List Int)⟩ : Tx)).map Tx.cs).flatten, true, true⟩] = h ++ ([⟨(l_.map Tx.cs).flatten, true, false⟩, ⟨((insL l_ (Int.toNat x15) (⟨id_, 1, 0, 0, ([] : List Int), ([] : List Int)⟩ : Tx)).map Tx.cs).flatten, true, true⟩] : Heap) from apndK rfl rfl]
            refine RgOK.s (v := .o (.c (.g (h.length + 1) (((insL l_ (Int.toNat x15) (⟨id_, 1, 0, 0, ([] : List Int), ([] : List Int)⟩ : Tx))).length) 6 true))) rfl rfl rfl (e_as (ev_t rfl)) ?_
            refine RgOK.s (v := VI (0)) rfl rfl rfl (e_as rfl) ?_
            refine RgOK.nil ?_
            show CdOK _ _ _ _ _ _
            refine CdOK.ret ?_
            refine ⟨.inr rfl, _, rfl, h, [⟨(l_.map Tx.cs).flatten, true, false⟩, ⟨((insL l_ (Int.toNat x15) (⟨id_, 1, 0, 0, ([] : List Int), ([] : List Int)⟩ : Tx)).map Tx.cs).flatten, true, true⟩], _, rfl, rfl, hC, ((.tup (R2.of (.c (.fzg 1 _ 6 _ ((insL l_ (Int.toNat x15) (⟨id_, 1, 0, 0, ([] : List Int), ([] : List Int)⟩ : Tx)).map Tx.cs) rfl (by decide) (by first | exact List.length_map .. | simp) (lens_all (by intro x; rfl)) (vl_all (by intro x; rfl)))) (R2.of (.c (.fl _ rfl)) (R2.nil _)))) : RenV _ _ _ _ (.tup [.c (.L 6 ((insL l_ (Int.toNat x15) (⟨id_, 1, 0, 0, ([] : List Int), ([] : List Int)⟩ : Tx)).map Tx.cs)), .c (I (0))])), ?_⟩
            have hr := hm.ret
            subst hr
            exact ⟨rfl, rfl⟩
/- pagemend/transactions.active -/
def transactions_active (l_ : (List Tx)) (id_ : Int) : Option (Tx × Int) := ((transactions_Valid l_).bind fun (x1 : Bool) => (if (!x1) = true then some ((⟨0, 0, 0, 0, ([] : List Int), ([] : List Int)⟩ : Tx), 15) else ((transactions_Find l_ id_).bind fun (x4 : Int) => (if x4 < 0 then some ((⟨0, 0, 0, 0, ([] : List Int), ([] : List Int)⟩ : Tx), 16) else (if (0 : Int) ≤ x4 ∧ x4 < (l_.length : Int) then (if ((gd l_ x4).state) ≠ 1 then some ((⟨0, 0, 0, 0, ([] : List Int), ([] : List Int)⟩ : Tx), 15) else (if (0 : Int) ≤ x4 ∧ x4 < (l_.length : Int) then some ((gd l_ x4), 0) else none)) else none)))))
theorem transactions_active.eq (l_ : (List Tx)) (id_ : Int) : transactions_active l_ id_ = ((transactions_Valid l_).bind fun (x1 : Bool) => (if (!x1) = true then some ((⟨0, 0, 0, 0, ([] : List Int), ([] : List Int)⟩ : Tx), 15) else ((transactions_Find l_ id_).bind fun (x4 : Int) => (if x4 < 0 then some ((⟨0, 0, 0, 0, ([] : List Int), ([] : List Int)⟩ : Tx), 16) else (if (0 : Int) ≤ x4 ∧ x4 < (l_.length : Int) then (if ((gd l_ x4).state) ≠ 1 then some ((⟨0, 0, 0, 0, ([] : List Int), ([] : List Int)⟩ : Tx), 15) else (if (0 : Int) ≤ x4 ∧ x4 < (l_.length : Int) then some ((gd l_ x4), 0) else none)) else none))))) := rfl
theorem transactions_active_ok {h : Heap} {l_ : (List Tx)} {id_ : Int}  {r : (Tx × Int)} (hm : transactions_active l_ id_ = some r) : FnOK Try.prog 151 [.o (.c (.L 6 (l_.map Tx.cs))), VI (id_)] h (fun v h' => v = .tup [.agg [I (r.1.id_), I (r.1.state), I (r.1.last), I (r.1.until_), .L 1 (r.1.pending.map cI), .L 1 (r.1.saves.map cI)], .c (I (r.2))] ∧ h' = h) := by
  refine FnOK.fin ?_
  refine FnOK.bodyC (N := 30) Try.func151 rfl rfl rfl (fun hC => ?_)
  replace hm := Ev.of hm
  rw [transactions_active.eq] at hm
  show CdOK _ _ _ (look _ [(0, .o (.c (.L 6 (l_.map Tx.cs)))), (1, VI (id_))]) (h ++ ([] : Heap)) _
  refine CdOK.seq ?_
  refine CdOK.region ?_
  refine RgOK.s (v := .o (.c (.ptr (h.length + 0) 0))) rfl rfl rfl (e_allocN (L' := [⟨[I (0), I (0), I (0), I (0), .v (.slice none 0 0), .v (.slice none 0 0)], true, true⟩]) rfl zo108 rfl rfl) ?_
  refine RgOK.s (v := VI (0)) rfl rfl rfl (e_as rfl) ?_
  refine RgOK.nil ?_
  show CdOK _ _ _ _ _ _
  refine CdOK.seq ?_
  refine CdOK.seq ?_
  refine CdOK.region ?_
  refine RgOK.s (v := .o (.c (.L 6 (l_.map Tx.cs)))) rfl rfl rfl (e_mv (ev_t rfl)) ?_
  obtain ⟨x1, e1, hm⟩ := hm.call
  refine RgOK.cl rfl rfl rfl rfl pl65 (R2.wk _) (transactions_Valid_ok   e1) ?_
  rintro _ _ ⟨rfl, rfl⟩
  refine RgOK.s (v := VB ((!x1))) rfl rfl rfl (e_un (ev_t rfl) rfl) ?_
  refine RgOK.nil ?_
  show CdOK _ _ _ _ _ _
  refine CdOK.condB (ev_t rfl) ?_ ?_
  · intro c2; replace hm := hm.ifp c2
    refine CdOK.seq ?_
    refine CdOK.region ?_
    refine RgOK.s (v := .o (.agg [I (0), I (0), I (0), I (0), .v (.slice none 0 0), .v (.slice none 0 0)])) rfl rfl rfl (e_bld (cs := [I (0), I (0), I (0), I (0), .v (.slice none 0 0), .v (.slice none 0 0)]) zo108 bl108 rfl rfl) ?_
    refine RgOK.s0 rfl rfl (e_stN (L' := [⟨[I (0), I (0), I (0), I (0), .v (.slice none 0 0), .v (.slice none 0 0)], true, true⟩]) rfl (ev_t rfl) (ev_t rfl) ty108 rfl rfl rfl rfl rfl) ?_
    refine RgOK.s (v := VI (15)) rfl rfl rfl (e_as rfl) ?_
    refine RgOK.nil ?_
    show CdOK _ _ _ _ _ _
    refine CdOK.ret ?_
    refine ⟨.inr rfl, _, (resA_c (look_find rfl) (eLoad_A ty108 (bx rfl rfl) rfl rfl rfl) (resA_t (look_find rfl) resA_n)), h, [⟨[I (0), I (0), I (0), I (0), .v (.slice none 0 0), .v (.slice none 0 0)], true, true⟩], _, rfl, rfl, hC, ((.tup (R2.of (.agg (R2.of (.fl _ rfl) (R2.of (.fl _ rfl) (R2.of (.fl _ rfl) (R2.of (.fl _ rfl) (R2.of (.wk (.fl _ rfl) (.nlL _)) (R2.of (.wk (.fl _ rfl) (.nlL _)) (R2.nil _)))))))) (R2.of (.c (.fl _ rfl)) (R2.nil _)))) : RenV _ _ _ _ (.tup [.agg [I (0), I (0), I (0), I (0), .L 1 (([] : List Int).map cI), .L 1 (([] : List Int).map cI)], .c (I (15))])), ?_⟩
    have hr := hm.ret
    subst hr
    exact ⟨rfl, rfl⟩
  · intro c3; replace hm := hm.ifn c3
    refine CdOK.skip ?_
    show CdOK _ _ _ _ _ _
    refine CdOK.seq ?_
    refine CdOK.region ?_
    refine RgOK.s (v := .o (.c (.L 6 (l_.map Tx.cs)))) rfl rfl rfl (e_mv (ev_t rfl)) ?_
    refine RgOK.s (v := VI (id_)) rfl rfl rfl (e_mv (ev_t rfl)) ?_
    obtain ⟨x4, e4, hm⟩ := hm.call
    refine RgOK.cl rfl rfl rfl rfl pl73 (R2.wk _) (transactions_Find_ok   e4) ?_
    rintro _ _ ⟨rfl, rfl⟩
    refine RgOK.s (v := VI (x4)) rfl rfl rfl (e_as (ev_t rfl)) ?_
    refine RgOK.nil ?_
    show CdOK _ _ _ _ _ _
    refine CdOK.seq ?_
    refine CdOK.block ?_
    refine CdOK.seq ?_
    refine CdOK.region ?_
    refine RgOK.s (v := VI (x4)) rfl rfl rfl (e_mv (ev_t rfl)) ?_
    refine RgOK.s (v := VB (decide (x4 < 0))) rfl rfl rfl (e_bin (ev_t rfl) rfl rfl rfl) ?_
    refine RgOK.s (v := VB (decide (x4 < 0))) rfl rfl rfl (e_as (ev_t rfl)) ?_
    refine RgOK.nil ?_
    show CdOK _ _ _ _ _ _
    refine CdOK.condD (ev_t rfl) ?_ ?_
    · intro c5; replace hm := hm.ifp c5
      refine CdOK.seq ?_
      refine CdOK.region ?_
      refine RgOK.s (v := .o (.agg [I (0), I (0), I (0), I (0), .v (.slice none 0 0), .v (.slice none 0 0)])) rfl rfl rfl (e_bld (cs := [I (0), I (0), I (0), I (0), .v (.slice none 0 0), .v (.slice none 0 0)]) zo108 bl108 rfl rfl) ?_
      refine RgOK.s0 rfl rfl (e_stN (L' := [⟨[I (0), I (0), I (0), I (0), .v (.slice none 0 0), .v (.slice none 0 0)], true, true⟩]) rfl (ev_t rfl) (ev_t rfl) ty108 rfl rfl rfl rfl rfl) ?_
      refine RgOK.s (v := VI (16)) rfl rfl rfl (e_as rfl) ?_
      refine RgOK.nil ?_
      show CdOK _ _ _ _ _ _
      refine CdOK.ret ?_
      refine ⟨.inr rfl, _, (resA_c (look_find rfl) (eLoad_A ty108 (bx rfl rfl) rfl rfl rfl) (resA_t (look_find rfl) resA_n)), h, [⟨[I (0), I (0), I (0), I (0), .v (.slice none 0 0), .v (.slice none 0 0)], true, true⟩], _, rfl, rfl, hC, ((.tup (R2.of (.agg (R2.of (.fl _ rfl) (R2.of (.fl _ rfl) (R2.of (.fl _ rfl) (R2.of (.fl _ rfl) (R2.of (.wk (.fl _ rfl) (.nlL _)) (R2.of (.wk (.fl _ rfl) (.nlL _)) (R2.nil _)))))))) (R2.of (.c (.fl _ rfl)) (R2.nil _)))) : RenV _ _ _ _ (.tup [.agg [I (0), I (0), I (0), I (0), .L 1 (([] : List Int).map cI), .L 1 (([] : List Int).map cI)], .c (I (16))])), ?_⟩
      have hr := hm.ret
      subst hr
      exact ⟨rfl, rfl⟩
    · intro c6; replace hm := hm.ifn c6
      refine CdOK.seq ?_
      refine CdOK.region ?_
      refine RgOK.s (v := .o (.c (.L 6 (l_.map Tx.cs)))) rfl rfl rfl (e_mv (ev_t rfl)) ?_
      refine RgOK.s (v := VI (x4)) rfl rfl rfl (e_mv (ev_t rfl)) ?_
      obtain ⟨c7, hm⟩ := hm.ifs
      refine RgOK.s (v := .o (.c (.rp [I ((gd l_ x4).id_), I ((gd l_ x4).state), I ((gd l_ x4).last), I ((gd l_ x4).until_), .L 1 (((gd l_ x4).pending).map cI), .L 1 (((gd l_ x4).saves).map cI)]))) rfl rfl rfl (e_ixM (f := Tx.cs) (l := l_) (i := x4) (ev_t rfl) (ev_t rfl) el92 c7) ?_
      refine RgOK.s (v := .o (.c (.rp [I ((gd l_ x4).state), I ((gd l_ x4).last), I ((gd l_ x4).until_), .L 1 (((gd l_ x4).pending).map cI), .L 1 (((gd l_ x4).saves).map cI)]))) rfl rfl rfl (e_faR fa108_1 (ev_t rfl) rfl) ?_
      refine RgOK.s (v := VI ((gd l_ x4).state)) rfl rfl rfl (e_ldR1 (ev_t rfl) ty3 rfl) ?_
      refine RgOK.s (v := VB (decide (((gd l_ x4).state) ≠ 1))) rfl rfl rfl (e_neK (ev_t rfl) rfl) ?_
      refine RgOK.s (v := VB (decide (((gd l_ x4).state) ≠ 1))) rfl rfl rfl (e_as (ev_t rfl)) ?_
      refine RgOK.nil ?_
      show CdOK _ _ _ _ _ _
      refine CdOK.condD (ev_t rfl) ?_ ?_
      · intro c8; replace hm := hm.ifp c8
        refine CdOK.seq ?_
        refine CdOK.region ?_
        refine RgOK.s (v := .o (.agg [I (0), I (0), I (0), I (0), .v (.slice none 0 0), .v (.slice none 0 0)])) rfl rfl rfl (e_bld (cs := [I (0), I (0), I (0), I (0), .v (.slice none 0 0), .v (.slice none 0 0)]) zo108 bl108 rfl rfl) ?_
        refine RgOK.s0 rfl rfl (e_stN (L' := [⟨[I (0), I (0), I (0), I (0), .v (.slice none 0 0), .v (.slice none 0 0)], true, true⟩]) rfl (ev_t rfl) (ev_t rfl) ty108 rfl rfl rfl rfl rfl) ?_
        refine RgOK.s (v := VI (15)) rfl rfl rfl (e_as rfl) ?_
        refine RgOK.nil ?_
        show CdOK _ _ _ _ _ _
        refine CdOK.ret ?_
        refine ⟨.inr rfl, _, (resA_c (look_find rfl) (eLoad_A ty108 (bx rfl rfl) rfl rfl rfl) (resA_t (look_find rfl) resA_n)), h, [⟨[I (0), I (0), I (0), I (0), .v (.slice none 0 0), .v (.slice none 0 0)], true, true⟩], _, rfl, rfl, hC, ((.tup (R2.of (.agg (R2.of (.fl _ rfl) (R2.of (.fl _ rfl) (R2.of (.fl _ rfl) (R2.of (.fl _ rfl) (R2.of (.wk (.fl _ rfl) (.nlL _)) (R2.of (.wk (.fl _ rfl) (.nlL _)) (R2.nil _)))))))) (R2.of (.c (.fl _ rfl)) (R2.nil _)))) : RenV _ _ _ _ (.tup [.agg [I (0), I (0), I (0), I (0), .L 1 (([] : List Int).map cI), .L 1 (([] : List Int).map cI)], .c (I (15))])), ?_⟩
        have hr := hm.ret
        subst hr
        exact ⟨rfl, rfl⟩
      · intro c9; replace hm := hm.ifn c9
        refine CdOK.skip ?_
        show CdOK _ _ _ _ _ _
        refine CdOK.seq ?_
        refine CdOK.region ?_
        refine RgOK.s (v := .o (.c (.L 6 (l_.map Tx.cs)))) rfl rfl rfl (e_mv (ev_t rfl)) ?_
        refine RgOK.s (v := VI (x4)) rfl rfl rfl (e_mv (ev_t rfl)) ?_
        obtain ⟨c10, hm⟩ := hm.ifs
        refine RgOK.s (v := .o (.c (.rp [I ((gd l_ x4).id_), I ((gd l_ x4).state), I ((gd l_ x4).last), I ((gd l_ x4).until_), .L 1 (((gd l_ x4).pending).map cI), .L 1 (((gd l_ x4).saves).map cI)]))) rfl rfl rfl (e_ixM (f := Tx.cs) (l := l_) (i := x4) (ev_t rfl) (ev_t rfl) el92 c10) ?_
        refine RgOK.s (v := .o (.agg [I ((gd l_ x4).id_), I ((gd l_ x4).state), I ((gd l_ x4).last), I ((gd l_ x4).until_), .L 1 (((gd l_ x4).pending).map cI), .L 1 (((gd l_ x4).saves).map cI)])) rfl rfl rfl (e_ldRA (ev_t rfl) ty108 rfl rfl) ?_
        refine RgOK.s0 rfl rfl (e_stN (L' := [⟨[I ((gd l_ x4).id_), I ((gd l_ x4).state), I ((gd l_ x4).last), I ((gd l_ x4).until_), .L 1 (((gd l_ x4).pending).map cI), .L 1 (((gd l_ x4).saves).map cI)], true, true⟩]) rfl (ev_t rfl) (ev_t rfl) ty108 rfl rfl rfl rfl rfl) ?_
        refine RgOK.s (v := VI (0)) rfl rfl rfl (e_as rfl) ?_
        refine RgOK.nil ?_
        show CdOK _ _ _ _ _ _
        refine CdOK.ret ?_
        refine ⟨.inr rfl, _, (resA_c (look_find rfl) (eLoad_A ty108 (bx rfl rfl) rfl rfl rfl) (resA_t (look_find rfl) resA_n)), h, [⟨[I ((gd l_ x4).id_), I ((gd l_ x4).state), I ((gd l_ x4).last), I ((gd l_ x4).until_), .L 1 (((gd l_ x4).pending).map cI), .L 1 (((gd l_ x4).saves).map cI)], true, true⟩], _, rfl, rfl, hC, ((renFlV rfl) : RenV _ _ _ _ (.tup [.agg [I ((gd l_ x4).id_), I ((gd l_ x4).state), I ((gd l_ x4).last), I ((gd l_ x4).until_), .L 1 (((gd l_ x4).pending).map cI), .L 1 (((gd l_ x4).saves).map cI)], .c (I (0))])), ?_⟩
        have hr := hm.ret
        subst hr
        exact ⟨rfl, rfl⟩
/- pagemend/transactions.Save -/
def transactions_Save (l_ : (List Tx)) (id_ : Int) : Option ((List Tx) × Int) := ((transactions_active l_ id_).bind fun (x1 : (Tx × Int)) => (if x1.2 ≠ 0 then some (([] : List Tx), x1.2) else (if (x1.1.saves.length : Int) = 8 then some (([] : List Tx), 21) else ((slices_Clip x1.1.saves).bind fun (x6 : (List Int)) => (if (x6.length = 0 ∨ 0 < ([x1.1.last] : List Int).length) ∧ x6.length + ([x1.1.last] : List Int).length ≤ 17592186044416 then ((transactions_with l_ (⟨x1.1.id_, x1.1.state, x1.1.last, x1.1.until_, x1.1.pending, (x6 ++ ([x1.1.last] : List Int))⟩ : Tx)).bind fun (x8 : (List Tx)) => some (x8, 0)) else none)))))
theorem transactions_Save.eq (l_ : (List Tx)) (id_ : Int) : transactions_Save l_ id_ = ((transactions_active l_ id_).bind fun (x1 : (Tx × Int)) => (if x1.2 ≠ 0 then some (([] : List Tx), x1.2) else (if (x1.1.saves.length : Int) = 8 then some (([] : List Tx), 21) else ((slices_Clip x1.1.saves).bind fun (x6 : (List Int)) => (if (x6.length = 0 ∨ 0 < ([x1.1.last] : List Int).length) ∧ x6.length + ([x1.1.last] : List Int).length ≤ 17592186044416 then ((transactions_with l_ (⟨x1.1.id_, x1.1.state, x1.1.last, x1.1.until_, x1.1.pending, (x6 ++ ([x1.1.last] : List Int))⟩ : Tx)).bind fun (x8 : (List Tx)) => some (x8, 0)) else none))))) := rfl
theorem transactions_Save_ok {h : Heap} {l_ : (List Tx)} {id_ : Int}  {r : ((List Tx) × Int)} (hm : transactions_Save l_ id_ = some r) : FnOK Try.prog 77 [.o (.c (.L 6 (l_.map Tx.cs))), VI (id_)] h (fun v h' => v = .tup [.c (.L 6 (r.1.map Tx.cs)), .c (I (r.2))] ∧ h' = h) := by
  refine FnOK.fin ?_
  refine FnOK.bodyC (N := 34) Try.func77 rfl rfl rfl (fun hC => ?_)
  replace hm := Ev.of hm
  rw [transactions_Save.eq] at hm
  show CdOK _ _ _ (look _ [(0, .o (.c (.L 6 (l_.map Tx.cs)))), (1, VI (id_))]) (h ++ ([] : Heap)) _
  refine CdOK.seq ?_
  refine CdOK.region ?_
  refine RgOK.s (v := .o (.c (.v (.slice none 0 0)))) rfl rfl rfl (e_as rfl) ?_
  refine RgOK.s (v := VI (0)) rfl rfl rfl (e_as rfl) ?_
  refine RgOK.nil ?_
  show CdOK _ _ _ _ _ _
  refine CdOK.seq ?_
  refine CdOK.region ?_
  refine RgOK.s (v := .o (.c (.L 6 (l_.map Tx.cs)))) rfl rfl rfl (e_mv (ev_t rfl)) ?_
  refine RgOK.s (v := VI (id_)) rfl rfl rfl (e_mv (ev_t rfl)) ?_
  obtain ⟨x1, e1, hm⟩ := hm.call
  refine RgOK.cl rfl rfl rfl rfl pl151 (R2.wk _) (transactions_active_ok   e1) ?_
  rintro _ _ ⟨rfl, rfl⟩
  refine RgOK.s (v := .tup [.agg [I (x1.1.id_), I (x1.1.state), I (x1.1.last), I (x1.1.until_), .L 1 (x1.1.pending.map cI), .L 1 (x1.1.saves.map cI)], .c (I (x1.2))]) rfl rfl rfl (e_mv (ev_t rfl)) ?_
  refine RgOK.s (v := .o (.agg [I (x1.1.id_), I (x1.1.state), I (x1.1.last), I (x1.1.until_), .L 1 (x1.1.pending.map cI), .L 1 (x1.1.saves.map cI)])) rfl rfl rfl (e_ext (ev_t rfl) rfl) ?_
  refine RgOK.s (v := VI (x1.2)) rfl rfl rfl (e_ext (ev_t rfl) rfl) ?_
  refine RgOK.s (v := .o (.c (.ptr (h.length + 0) 0))) rfl rfl rfl (e_allocN (L' := [⟨[I (0), I (0), I (0), I (0), .v (.slice none 0 0), .v (.slice none 0 0)], true, true⟩]) rfl zo108 rfl rfl) ?_
  refine RgOK.s0 rfl rfl (e_stN (L' := [⟨[I (x1.1.id_), I (x1.1.state), I (x1.1.last), I (x1.1.until_), .L 1 (x1.1.pending.map cI), .L 1 (x1.1.saves.map cI)], true, true⟩]) rfl (ev_t rfl) (ev_t rfl) ty108 rfl rfl rfl rfl rfl) ?_
  refine RgOK.s (v := VI (x1.2)) rfl rfl rfl (e_as (ev_t rfl)) ?_
  refine RgOK.nil ?_
  show CdOK _ _ _ _ _ _
  refine CdOK.seq ?_
  refine CdOK.block ?_
  refine CdOK.seq ?_
  refine CdOK.region ?_
  refine RgOK.s (v := VI (x1.2)) rfl rfl rfl (e_mv (ev_t rfl)) ?_
  refine RgOK.s (v := VB (decide (x1.2 ≠ 0))) rfl rfl rfl (e_neK (ev_t rfl) rfl) ?_
  refine RgOK.s (v := VB (decide (x1.2 ≠ 0))) rfl rfl rfl (e_as (ev_t rfl)) ?_
  refine RgOK.nil ?_
  show CdOK _ _ _ _ _ _
  refine CdOK.condD (ev_t rfl) ?_ ?_
  · intro c2; replace hm := hm.ifp c2
    refine CdOK.seq ?_
    refine CdOK.region ?_
    refine RgOK.s (v := VI (x1.2)) rfl rfl rfl (e_mv (ev_t rfl)) ?_
    refine RgOK.s (v := .o (.c (.v (.slice none 0 0)))) rfl rfl rfl (e_as rfl) ?_
    refine RgOK.s (v := VI (x1.2)) rfl rfl rfl (e_as (ev_t rfl)) ?_
    refine RgOK.nil ?_
    show CdOK _ _ _ _ _ _
    refine CdOK.ret ?_
    refine ⟨.inr rfl, _, rfl, h, [⟨[I (x1.1.id_), I (x1.1.state), I (x1.1.last), I (x1.1.until_), .L 1 (x1.1.pending.map cI), .L 1 (x1.1.saves.map cI)], true, true⟩], _, rfl, rfl, hC, ((.tup (R2.of (.c (.wk (.fl _ rfl) (.nlL _))) (R2.of (.c (.fl _ rfl)) (R2.nil _)))) : RenV _ _ _ _ (.tup [.c (.L 6 (([] : List Tx).map Tx.cs)), .c (I (x1.2))])), ?_⟩
    have hr := hm.ret
    subst hr
    exact ⟨rfl, rfl⟩
  · intro c3; replace hm := hm.ifn c3
    refine CdOK.seq ?_
    refine CdOK.region ?_
    refine RgOK.s (v := .o (.c (.ptr (h.length + 0) 5))) rfl rfl rfl (e_fa' fa108_5 (ev_t rfl)) ?_
    refine RgOK.s (v := .o (.c (.L 1 (x1.1.saves.map cI)))) rfl rfl rfl (e_ldb1 (ev_t rfl) ty27 (bx rfl rfl) rfl) ?_
    refine RgOK.s (v := VI ((x1.1.saves.length : Int))) rfl rfl rfl (e_lenM (ev_t rfl) is27) ?_
    refine RgOK.s (v := VB (decide ((x1.1.saves.length : Int) = 8))) rfl rfl rfl (e_eqK (ev_t rfl) rfl) ?_
    refine RgOK.s (v := VB (decide ((x1.1.saves.length : Int) = 8))) rfl rfl rfl (e_as (ev_t rfl)) ?_
    refine RgOK.nil ?_
    show CdOK _ _ _ _ _ _
    refine CdOK.condD (ev_t rfl) ?_ ?_
    · intro c4; replace hm := hm.ifp c4
      refine CdOK.seq ?_
      refine CdOK.region ?_
      refine RgOK.s (v := .o (.c (.v (.slice none 0 0)))) rfl rfl rfl (e_as rfl) ?_
      refine RgOK.s (v := VI (21)) rfl rfl rfl (e_as rfl) ?_
      refine RgOK.nil ?_
      show CdOK _ _ _ _ _ _
      refine CdOK.ret ?_
      refine ⟨.inr rfl, _, rfl, h, [⟨[I (x1.1.id_), I (x1.1.state), I (x1.1.last), I (x1.1.until_), .L 1 (x1.1.pending.map cI), .L 1 (x1.1.saves.map cI)], true, true⟩], _, rfl, rfl, hC, ((.tup (R2.of (.c (.wk (.fl _ rfl) (.nlL _))) (R2.of (.c (.fl _ rfl)) (R2.nil _)))) : RenV _ _ _ _ (.tup [.c (.L 6 (([] : List Tx).map Tx.cs)), .c (I (21))])), ?_⟩
      have hr := hm.ret
      subst hr
      exact ⟨rfl, rfl⟩
    · intro c5; replace hm := hm.ifn c5
      refine CdOK.skip ?_
      show CdOK _ _ _ _ _ _
      refine CdOK.seq ?_
      refine CdOK.draw2 (ord := [0, 1, 2, 3, 4, 5, 6, 7, 8]) (chain := [6, 8]) fol (by decide +kernel) (by decide +kernel) ?_
      refine Dr2.s (v := .o (.c (.ptr (h.length + 0) 5))) rfl rfl rfl rfl rfl rfl (e_fa' fa108_5 (ev_t rfl)) ?_
      refine Dr2.f (v := .o (.c (.L 1 (x1.1.saves.map cI)))) rfl rfl rfl rfl rfl rfl (e_ldb1 (ev_t rfl) ty27 (bx rfl rfl) rfl) ?_
      obtain ⟨x6, e6, hm⟩ := hm.call
      refine Dr2.fc (v := .o (.c (.LC 1 (x6.map cI)))) rfl rfl rfl rfl rfl rfl rfl pl136 (R2.wk _) (slices_Clip_ok   e6) ?_
      refine Dr2.s (v := .o (.c (.ptr (h.length + 0) 2))) rfl rfl rfl rfl rfl rfl (e_fa' fa108_2 (ev_t rfl)) ?_
      refine Dr2.f (v := VI (x1.1.last)) rfl rfl rfl rfl rfl rfl (e_ldb1 (ev_t rfl) ty3 (bx rfl rfl) rfl) ?_
      refine Dr2.s (v := .o (.c (.LC 1 (([x1.1.last] : List Int).map cI)))) rfl rfl rfl rfl rfl rfl (e_lit (cs := [I (x1.1.last)]) (xs := ([x1.1.last]).map cI) slt27 rfl rfl rfl rfl rfl) ?_
      obtain ⟨c7, hm⟩ := hm.ifs
      refine Dr2.c (v := .o (.c (.g (h.length + 1) (((x6 ++ ([x1.1.last] : List Int))).length) 1 (decide (0 < ([x1.1.last] : List Int).length))))) rfl rfl rfl rfl rfl (e_apC (k := 1) (q := 17592186044416) (m := ([x1.1.last] : List Int).length) (f := cI) (xs := x6) (ys := ([x1.1.last] : List Int)) (L' := [⟨[I (x1.1.id_), I (x1.1.state), I (x1.1.last), I (x1.1.until_), .L 1 (x1.1.pending.map cI), .L 1 (x1.1.saves.map cI)], true, true⟩, ⟨((x6 ++ ([x1.1.last] : List Int)).map cI).flatten, true, (decide (0 < ([x1.1.last] : List Int).length))⟩]) slt27 rfl (ev_t rfl) (ev_t rfl) src_LC rfl c7.1 c7.2 rfl rfl rfl rfl) (.m (by decide +kernel) (.m (by decide +kernel) (.m (by decide +kernel) .nil))) ?_
      refine Dr2.s (v := .o (.c (.ptr (h.length + 0) 5))) rfl rfl rfl rfl rfl rfl (e_fa' fa108_5 (ev_t rfl)) ?_
      refine Dr2.c0 rfl rfl rfl rfl (e_stN (L' := [⟨[I (x1.1.id_), I (x1.1.state), I (x1.1.last), I (x1.1.until_), .L 1 (x1.1.pending.map cI), .g (h.length + 1) (((x6 ++ ([x1.1.last] : List Int))).length) 1 (decide (0 < ([x1.1.last] : List Int).length))], true, true⟩, ⟨((x6 ++ ([x1.1.last] : List Int)).map cI).flatten, true, (decide (0 < ([x1.1.last] : List Int).length))⟩]) rfl (ev_t rfl) (ev_t rfl) ty27 rfl rfl rfl rfl rfl) (.m (by decide +kernel) (.m (by decide +kernel) (.m (by decide +kernel) .nil))) ?_
      refine Dr2.nil ?_
      show CdOK _ _ _ _ _ _
      refine CdOK.seq ?_
      refine CdOK.re (σ := [0]) (X := [(0, .o (.c (.L 6 (l_.map Tx.cs)))), (1, VI (id_)), (4, .o (.c (.v (.slice none 0 0)))), (5, VI (0)), (6, .o (.c (.ptr (h.length + 0) 0))), (7, VI (x1.2)), (9, .o (.c (.L 6 (l_.map Tx.cs)))), (10, VI (id_)), (12, .o (.agg [I (x1.1.id_), I (x1.1.state), I (x1.1.last), I (x1.1.until_), .L 1 (x1.1.pending.map cI), .L 1 (x1.1.saves.map cI)])), (13, VI (x1.2)), (14, VB (decide (x1.2 ≠ 0))), (15, VI (x1.2)), (16, VB (decide (x1.2 ≠ 0))), (18, VB (decide ((x1.1.saves.length : Int) = 8))), (19, .o (.c (.ptr (h.length + 0) 5))), (20, .o (.c (.L 1 (x1.1.saves.map cI)))), (21, VI ((x1.1.saves.length : Int))), (22, VB (decide ((x1.1.saves.length : Int) = 8))), (23, .o (.c (.ptr (h.length + 0) 5))), (24, .o (.c (.L 1 (x1.1.saves.map cI)))), (25, .o (.c (.LC 1 (x6.map cI)))), (26, .o (.c (.ptr (h.length + 0) 2))), (27, VI (x1.1.last)), (28, .o (.c (.LC 1 (([x1.1.last] : List Int).map cI)))), (29, .o (.c (.L 1 ((x6 ++ ([x1.1.last] : List Int)).map cI)))), (30, .o (.c (.ptr (h.length + 0) 5)))]) (L' := [⟨[I (x1.1.id_), I (x1.1.state), I (x1.1.last), I (x1.1.until_), .L 1 (x1.1.pending.map cI), .L 1 ((x6 ++ ([x1.1.last] : List Int)).map cI)], true, true⟩]) rfl rfl hC (by decide) (.obj 0 rfl (R2.of (.fl _ rfl) (R2.of (.fl _ rfl) (R2.of (.fl _ rfl) (R2.of (.fl _ rfl) (R2.of (.fl _ rfl) (R2.of (.fzg 1 _ 1 _ ((x6 ++ ([x1.1.last] : List Int)).map cI) rfl (by decide) (by first | exact List.length_map .. | simp) (lens_all (by intro x; rfl)) (vl_all (by intro x; rfl))) (R2.nil _))))))) .nil) (.cons (renFlV rfl) (.cons (renFlV rfl) (.cons (.o (.c (.fl _ rfl))) (.cons (renFlV rfl) (.cons (.o (.c (.ptr 0 0 _ rfl))) (.cons (renFlV rfl) (.cons (renFlV rfl) (.cons (renFlV rfl) (.cons (renFlV rfl) (.cons (renFlV rfl) (.cons (renFlV rfl) (.cons (renFlV rfl) (.cons (renFlV rfl) (.cons (renFlV rfl) (.cons (.o (.c (.ptr 0 0 _ rfl))) (.cons (renFlV rfl) (.cons (renFlV rfl) (.cons (renFlV rfl) (.cons (.o (.c (.ptr 0 0 _ rfl))) (.cons (renFlV rfl) (.cons (.o (.c (.fl _ rfl))) (.cons (.o (.c (.ptr 0 0 _ rfl))) (.cons (renFlV rfl) (.cons (.o (.c (.fl _ rfl))) (.cons (.o (.c (.fzg 1 _ 1 _ ((x6 ++ ([x1.1.last] : List Int)).map cI) rfl (by decide) (by first | exact List.length_map .. | simp) (lens_all (by intro x; rfl)) (vl_all (by intro x; rfl))))) (.cons (.o (.c (.ptr 0 0 _ rfl))) .nil)))))))))))))))))))))))))) ?_
      refine CdOK.region ?_
      refine RgOK.s (v := .o (.c (.L 6 (l_.map Tx.cs)))) rfl rfl rfl (e_mv (ev_t rfl)) ?_
      refine RgOK.s (v := .o (.agg [I (x1.1.id_), I (x1.1.state), I (x1.1.last), I (x1.1.until_), .L 1 (x1.1.pending.map cI), .L 1 ((x6 ++ ([x1.1.last] : List Int)).map cI)])) rfl rfl rfl (e_ldbA (ev_t rfl) ty108 (bx rfl rfl) rfl rfl) ?_
      obtain ⟨x8, e8, hm⟩ := hm.call
      refine RgOK.cl rfl rfl rfl rfl pl139 (R2.wk _) (transactions_with_ok   e8) ?_
      rintro _ _ ⟨rfl, rfl⟩
      refine RgOK.s (v := .o (.c (.L 6 (x8.map Tx.cs)))) rfl rfl rfl (e_as (ev_t rfl)) ?_
      refine RgOK.s (v := VI (0)) rfl rfl rfl (e_as rfl) ?_
      refine RgOK.nil ?_
      show CdOK _ _ _ _ _ _
      refine CdOK.ret ?_
      refine ⟨.inr rfl, _, rfl, h, [⟨[I (x1.1.id_), I (x1.1.state), I (x1.1.last), I (x1.1.until_), .L 1 (x1.1.pending.map cI), .L 1 ((x6 ++ ([x1.1.last] : List Int)).map cI)], true, true⟩], _, rfl, rfl, hC, ((renFlV rfl) : RenV _ _ _ _ (.tup [.c (.L 6 (x8.map Tx.cs)), .c (I (0))])), ?_⟩
      have hr := hm.ret
      subst hr
      exact ⟨rfl, rfl⟩
/- pagemend/transactions.Back -/
def transactions_Back (l_ : (List Tx)) (id_ : Int) (save : Int) : Option ((List Tx) × Int) := ((transactions_active l_ id_).bind fun (x1 : (Tx × Int)) => (if x1.2 ≠ 0 then some (([] : List Tx), x1.2) else (if save < 0 then some (([] : List Tx), 19) else (if (x1.1.saves.length : Int) ≤ save then some (([] : List Tx), 19) else (if (0 : Int) ≤ (w64 (save + 1)) ∧ (w64 (save + 1)) ≤ (x1.1.saves.length : Int) then (if (x1.1.saves.take (Int.toNat (w64 (save + 1)))).length ≤ 17592186044416 then (((if 0 < (x1.1.saves.take (Int.toNat (w64 (save + 1)))).length then (if (0 : Int) ≤ save ∧ save < ((x1.1.saves.take (Int.toNat (w64 (save + 1)))).length : Int) then (if (0 : Int) ≤ save ∧ save < ((x1.1.saves.take (Int.toNat (w64 (save + 1)))).length : Int) then ((transactions_left (⟨x1.1.id_, x1.1.state, x1.1.last, x1.1.until_, x1.1.pending, (x1.1.saves.take (Int.toNat (w64 (save + 1))))⟩ : Tx) (gd (x1.1.saves.take (Int.toNat (w64 (save + 1)))) save)).bind fun (x15 : Bool) => (if x15 = true then (if (0 : Int) ≤ save ∧ save < ((x1.1.saves.take (Int.toNat (w64 (save + 1)))).length : Int) then (if (0 : Int) ≤ save ∧ save < ((x1.1.saves.take (Int.toNat (w64 (save + 1)))).length : Int) then some (⟨x1.1.id_, 2, x1.1.last, (gd (x1.1.saves.take (Int.toNat (w64 (save + 1)))) save), x1.1.pending, (x1.1.saves.take (Int.toNat (w64 (save + 1))))⟩ : Tx) else none) else none) else some (⟨x1.1.id_, x1.1.state, x1.1.last, x1.1.until_, x1.1.pending, (x1.1.saves.take (Int.toNat (w64 (save + 1))))⟩ : Tx))) else none) else none) else none)).bind fun (s20 : Tx) => ((transactions_with l_ s20).bind fun (x21 : (List Tx)) => some (x21, 0))) else none) else none)))))
theorem transactions_Back.eq (l_ : (List Tx)) (id_ : Int) (save : Int) : transactions_Back l_ id_ save = ((transactions_active l_ id_).bind fun (x1 : (Tx × Int)) => (if x1.2 ≠ 0 then some (([] : List Tx), x1.2) else (if save < 0 then some (([] : List Tx), 19) else (if (x1.1.saves.length : Int) ≤ save then some (([] : List Tx), 19) else (if (0 : Int) ≤ (w64 (save + 1)) ∧ (w64 (save + 1)) ≤ (x1.1.saves.length : Int) then (if (x1.1.saves.take (Int.toNat (w64 (save + 1)))).length ≤ 17592186044416 then (((if 0 < (x1.1.saves.take (Int.toNat (w64 (save + 1)))).length then (if (0 : Int) ≤ save ∧ save < ((x1.1.saves.take (Int.toNat (w64 (save + 1)))).length : Int) then (if (0 : Int) ≤ save ∧ save < ((x1.1.saves.take (Int.toNat (w64 (save + 1)))).length : Int) then ((transactions_left (⟨x1.1.id_, x1.1.state, x1.1.last, x1.1.until_, x1.1.pending, (x1.1.saves.take (Int.toNat (w64 (save + 1))))⟩ : Tx) (gd (x1.1.saves.take (Int.toNat (w64 (save + 1)))) save)).bind fun (x15 : Bool) => (if x15 = true then (if (0 : Int) ≤ save ∧ save < ((x1.1.saves.take (Int.toNat (w64 (save + 1)))).length : Int) then (if (0 : Int) ≤ save ∧ save < ((x1.1.saves.take (Int.toNat (w64 (save + 1)))).length : Int) then some (⟨x1.1.id_, 2, x1.1.last, (gd (x1.1.saves.take (Int.toNat (w64 (save + 1)))) save), x1.1.pending, (x1.1.saves.take (Int.toNat (w64 (save + 1))))⟩ : Tx) else none) else none) else some (⟨x1.1.id_, x1.1.state, x1.1.last, x1.1.until_, x1.1.pending, (x1.1.saves.take (Int.toNat (w64 (save + 1))))⟩ : Tx))) else none) else none) else none)).bind fun (s20 : Tx) => ((transactions_with l_ s20).bind fun (x21 : (List Tx)) => some (x21, 0))) else none) else none))))) := rfl
theorem transactions_Back_ok {h : Heap} {l_ : (List Tx)} {id_ : Int} {save : Int}  {r : ((List Tx) × Int)} (hm : transactions_Back l_ id_ save = some r) : FnOK Try.prog 131 [.o (.c (.L 6 (l_.map Tx.cs))), VI (id_), VI (save)] h (fun v h' => v = .tup [.c (.L 6 (r.1.map Tx.cs)), .c (I (r.2))] ∧ h' = h) := by
  refine FnOK.fin ?_
  refine FnOK.bodyC (N := 54) Try.func131 rfl rfl rfl (fun hC => ?_)
  replace hm := Ev.of hm
  rw [transactions_Back.eq] at hm
  show CdOK _ _ _ (look _ [(0, .o (.c (.L 6 (l_.map Tx.cs)))), (1, VI (id_)), (2, VI (save))]) (h ++ ([] : Heap)) _
  refine CdOK.seq ?_
  refine CdOK.region ?_
  refine RgOK.s (v := .o (.c (.v (.slice none 0 0)))) rfl rfl rfl (e_as rfl) ?_
  refine RgOK.s (v := VI (0)) rfl rfl rfl (e_as rfl) ?_
  refine RgOK.nil ?_
  show CdOK _ _ _ _ _ _
  refine CdOK.seq ?_
  refine CdOK.region ?_
  refine RgOK.s (v := .o (.c (.L 6 (l_.map Tx.cs)))) rfl rfl rfl (e_mv (ev_t rfl)) ?_
  refine RgOK.s (v := VI (id_)) rfl rfl rfl (e_mv (ev_t rfl)) ?_
  obtain ⟨x1, e1, hm⟩ := hm.call
  refine RgOK.cl rfl rfl rfl rfl pl151 (R2.wk _) (transactions_active_ok   e1) ?_
  rintro _ _ ⟨rfl, rfl⟩
  refine RgOK.s (v := .tup [.agg [I (x1.1.id_), I (x1.1.state), I (x1.1.last), I (x1.1.until_), .L 1 (x1.1.pending.map cI), .L 1 (x1.1.saves.map cI)], .c (I (x1.2))]) rfl rfl rfl (e_mv (ev_t rfl)) ?_
  refine RgOK.s (v := .o (.agg [I (x1.1.id_), I (x1.1.state), I (x1.1.last), I (x1.1.until_), .L 1 (x1.1.pending.map cI), .L 1 (x1.1.saves.map cI)])) rfl rfl rfl (e_ext (ev_t rfl) rfl) ?_
  refine RgOK.s (v := VI (x1.2)) rfl rfl rfl (e_ext (ev_t rfl) rfl) ?_
  refine RgOK.s (v := .o (.c (.ptr (h.length + 0) 0))) rfl rfl rfl (e_allocN (L' := [⟨[I (0), I (0), I (0), I (0), .v (.slice none 0 0), .v (.slice none 0 0)], true, true⟩]) rfl zo108 rfl rfl) ?_
  refine RgOK.s0 rfl rfl (e_stN (L' := [⟨[I (x1.1.id_), I (x1.1.state), I (x1.1.last), I (x1.1.until_), .L 1 (x1.1.pending.map cI), .L 1 (x1.1.saves.map cI)], true, true⟩]) rfl (ev_t rfl) (ev_t rfl) ty108 rfl rfl rfl rfl rfl) ?_
  refine RgOK.s (v := VI (x1.2)) rfl rfl rfl (e_as (ev_t rfl)) ?_
  refine RgOK.nil ?_
  show CdOK _ _ _ _ _ _
  refine CdOK.seq ?_
  refine CdOK.block ?_
  refine CdOK.seq ?_
  refine CdOK.region ?_
  refine RgOK.s (v := VI (x1.2)) rfl rfl rfl (e_mv (ev_t rfl)) ?_
  refine RgOK.s (v := VB (decide (x1.2 ≠ 0))) rfl rfl rfl (e_neK (ev_t rfl) rfl) ?_
  refine RgOK.s (v := VB (decide (x1.2 ≠ 0))) rfl rfl rfl (e_as (ev_t rfl)) ?_
  refine RgOK.nil ?_
  show CdOK _ _ _ _ _ _
  refine CdOK.condD (ev_t rfl) ?_ ?_
  · intro c2; replace hm := hm.ifp c2
    refine CdOK.seq ?_
    refine CdOK.region ?_
    refine RgOK.s (v := VI (x1.2)) rfl rfl rfl (e_mv (ev_t rfl)) ?_
    refine RgOK.s (v := .o (.c (.v (.slice none 0 0)))) rfl rfl rfl (e_as rfl) ?_
    refine RgOK.s (v := VI (x1.2)) rfl rfl rfl (e_as (ev_t rfl)) ?_
    refine RgOK.nil ?_
    show CdOK _ _ _ _ _ _
    refine CdOK.ret ?_
    refine ⟨.inr rfl, _, rfl, h, [⟨[I (x1.1.id_), I (x1.1.state), I (x1.1.last), I (x1.1.until_), .L 1 (x1.1.pending.map cI), .L 1 (x1.1.saves.map cI)], true, true⟩], _, rfl, rfl, hC, ((.tup (R2.of (.c (.wk (.fl _ rfl) (.nlL _))) (R2.of (.c (.fl _ rfl)) (R2.nil _)))) : RenV _ _ _ _ (.tup [.c (.L 6 (([] : List Tx).map Tx.cs)), .c (I (x1.2))])), ?_⟩
    have hr := hm.ret
    subst hr
    exact ⟨rfl, rfl⟩
  · intro c3; replace hm := hm.ifn c3
    refine CdOK.seq ?_
    refine CdOK.region ?_
    refine RgOK.s (v := VI (save)) rfl rfl rfl (e_mv (ev_t rfl)) ?_
    refine RgOK.sd rfl rfl rfl (e_bin (ev_t rfl) rfl rfl rfl) ?_ ?_
    · intro c4; replace hm := hm.ifp c4
      refine RgOK.s (v := VB (true)) rfl rfl rfl (e_mv (ev_t rfl)) ?_
      refine RgOK.sk rfl rfl rfl ?_
      refine RgOK.sk rfl rfl rfl ?_
      refine RgOK.sk rfl rfl rfl ?_
      refine RgOK.sk rfl rfl rfl ?_
      refine RgOK.sk rfl rfl rfl ?_
      refine RgOK.s (v := VB (true)) rfl rfl rfl (e_pick (t := true) (ev_t rfl) rfl) ?_
      refine RgOK.s (v := VB (true)) rfl rfl rfl (e_as (ev_t rfl)) ?_
      refine RgOK.nil ?_
      show CdOK _ _ _ _ _ _
      refine CdOK.cond_true rfl ?_
      refine CdOK.seq ?_
      refine CdOK.region ?_
      refine RgOK.s (v := .o (.c (.v (.slice none 0 0)))) rfl rfl rfl (e_as rfl) ?_
      refine RgOK.s (v := VI (19)) rfl rfl rfl (e_as rfl) ?_
      refine RgOK.nil ?_
      show CdOK _ _ _ _ _ _
      refine CdOK.ret ?_
      refine ⟨.inr rfl, _, rfl, h, [⟨[I (x1.1.id_), I (x1.1.state), I (x1.1.last), I (x1.1.until_), .L 1 (x1.1.pending.map cI), .L 1 (x1.1.saves.map cI)], true, true⟩], _, rfl, rfl, hC, ((.tup (R2.of (.c (.wk (.fl _ rfl) (.nlL _))) (R2.of (.c (.fl _ rfl)) (R2.nil _)))) : RenV _ _ _ _ (.tup [.c (.L 6 (([] : List Tx).map Tx.cs)), .c (I (19))])), ?_⟩
      have hr := hm.ret
      subst hr
      exact ⟨rfl, rfl⟩
    · intro c5; replace hm := hm.ifn c5
      refine RgOK.s (v := VB (false)) rfl rfl rfl (e_mv (ev_t rfl)) ?_
      refine RgOK.s (v := VI (save)) rfl rfl rfl (e_mv (ev_t rfl)) ?_
      refine RgOK.s (v := .o (.c (.ptr (h.length + 0) 5))) rfl rfl rfl (e_fa' fa108_5 (ev_t rfl)) ?_
      refine RgOK.s (v := .o (.c (.L 1 (x1.1.saves.map cI)))) rfl rfl rfl (e_ldb1 (ev_t rfl) ty27 (bx rfl rfl) rfl) ?_
      refine RgOK.s (v := VI ((x1.1.saves.length : Int))) rfl rfl rfl (e_lenM (ev_t rfl) is27) ?_
      refine RgOK.s (v := VB (decide ((x1.1.saves.length : Int) ≤ save))) rfl rfl rfl (e_bin (ev_t rfl) (ev_t rfl) rfl rfl) ?_
      refine RgOK.s (v := VB (decide ((x1.1.saves.length : Int) ≤ save))) rfl rfl rfl (e_pick (t := false) (ev_t rfl) (ev_t rfl)) ?_
      refine RgOK.s (v := VB (decide ((x1.1.saves.length : Int) ≤ save))) rfl rfl rfl (e_as (ev_t rfl)) ?_
      refine RgOK.nil ?_
      show CdOK _ _ _ _ _ _
      refine CdOK.condD (ev_t rfl) ?_ ?_
      · intro c6; replace hm := hm.ifp c6
        refine CdOK.seq ?_
        refine CdOK.region ?_
        refine RgOK.s (v := .o (.c (.v (.slice none 0 0)))) rfl rfl rfl (e_as rfl) ?_
        refine RgOK.s (v := VI (19)) rfl rfl rfl (e_as rfl) ?_
        refine RgOK.nil ?_
        show CdOK _ _ _ _ _ _
        refine CdOK.ret ?_
        refine ⟨.inr rfl, _, rfl, h, [⟨[I (x1.1.id_), I (x1.1.state), I (x1.1.last), I (x1.1.until_), .L 1 (x1.1.pending.map cI), .L 1 (x1.1.saves.map cI)], true, true⟩], _, rfl, rfl, hC, ((.tup (R2.of (.c (.wk (.fl _ rfl) (.nlL _))) (R2.of (.c (.fl _ rfl)) (R2.nil _)))) : RenV _ _ _ _ (.tup [.c (.L 6 (([] : List Tx).map Tx.cs)), .c (I (19))])), ?_⟩
        have hr := hm.ret
        subst hr
        exact ⟨rfl, rfl⟩
      · intro c7; replace hm := hm.ifn c7
        refine CdOK.skip ?_
        show CdOK _ _ _ _ _ _
        refine CdOK.seq ?_
        refine CdOK.region ?_
        refine RgOK.s (v := .o (.c (.ptr (h.length + 0) 5))) rfl rfl rfl (e_fa' fa108_5 (ev_t rfl)) ?_
        refine RgOK.s (v := .o (.c (.L 1 (x1.1.saves.map cI)))) rfl rfl rfl (e_ldb1 (ev_t rfl) ty27 (bx rfl rfl) rfl) ?_
        refine RgOK.s (v := VI (save)) rfl rfl rfl (e_mv (ev_t rfl)) ?_
        refine RgOK.s (v := VI ((w64 (save + 1)))) rfl rfl rfl (e_bin (ev_t rfl) rfl rfl rfl) ?_
        obtain ⟨c8, hm⟩ := hm.ifs
        refine RgOK.s (v := .o (.c (.L 1 ((x1.1.saves.take (Int.toNat (w64 (save + 1)))).map cI)))) rfl rfl rfl (e_slhM el27 (ev_t rfl) (ev_t rfl) c8) ?_
        obtain ⟨c10, hm⟩ := hm.ifs
        refine RgOK.cl rfl rfl rfl rfl pl93 (R2.wk _) (cloneI_ok (A := (h.length + 1)) (l := (x1.1.saves.take (Int.toNat (w64 (save + 1))))) (lenN rfl rfl) c10) ?_
        rintro _ _ ⟨lv9, rfl, rfl⟩
        rw [show (h ++ ([⟨[I (x1.1.id_), I (x1.1.state), I (x1.1.last), I (x1.1.until_), .L 1 (x1.1.pending.map cI), .L 1 (x1.1.saves.map cI)], true, true⟩] : Heap)) ++ [⟨((x1.1.saves.take (Int.toNat (w64 (save + 1)))).map cI).flatten, true, lv9⟩] = h ++ ([⟨[I (x1.1.id_), I (x1.1.state), I (x1.1.last), I (x1.1.until_), .L 1 (x1.1.pending.map cI), .L 1 (x1.1.saves.map cI)], true, true⟩, ⟨((x1.1.saves.take (Int.toNat (w64 (save + 1)))).map cI).flatten, true, lv9⟩] : Heap) from apnd rfl]
        refine RgOK.s (v := .o (.c (.ptr (h.length + 0) 5))) rfl rfl rfl (e_fa' fa108_5 (ev_t rfl)) ?_
        refine RgOK.s0 rfl rfl (e_stN (L' := [⟨[I (x1.1.id_), I (x1.1.state), I (x1.1.last), I (x1.1.until_), .L 1 (x1.1.pending.map cI), .g (h.length + 1) (((x1.1.saves.take (Int.toNat (w64 (save + 1))))).length) 1 lv9], true, true⟩, ⟨((x1.1.saves.take (Int.toNat (w64 (save + 1)))).map cI).flatten, true, lv9⟩]) rfl (ev_t rfl) (ev_t rfl) ty27 rfl rfl rfl rfl rfl) ?_
        refine RgOK.nil ?_
        show CdOK _ _ _ _ _ _
        replace hm := hm.bnd
        refine CdOK.joinE (σ := Tx) (fun s => s) hm (fun s => [(0, .o (.c (.L 6 (l_.map Tx.cs)))), (8, .o (.c (.ptr (h.length + 0) 0)))]) (fun s => h ++ ([⟨[I (s.id_), I (s.state), I (s.last), I (s.until_), .L 1 (s.pending.map cI), .L 1 (s.saves.map cI)], true, true⟩] : Heap)) ?_ ?_
        · intro hm
          refine CdOK.seq ?_
          obtain ⟨c12, hm⟩ := hm.ifs
          refine CdOK.glT (d := 35) (ev_t rfl) c12 (fun hlv => ?_)
          subst hlv
          skip
          refine CdOK.draw fol (by decide +kernel) ?_
          refine DrOK.s (v := .o (.agg [I (x1.1.id_), I (x1.1.state), I (x1.1.last), I (x1.1.until_), .L 1 (x1.1.pending.map cI), .g (h.length + 1) (((x1.1.saves.take (Int.toNat (w64 (save + 1))))).length) 1 true])) rfl rfl rfl (e_ldbA (ev_t rfl) ty108 (bx rfl rfl) rfl rfl) ?_
          refine DrOK.s (v := .o (.c (.ptr (h.length + 0) 5))) rfl rfl rfl (e_fa' fa108_5 (ev_t rfl)) ?_
          refine DrOK.s (v := .o (.c (.g (h.length + 1) (((x1.1.saves.take (Int.toNat (w64 (save + 1))))).length) 1 true))) rfl rfl rfl (e_ldb1 (ev_t rfl) ty27 (bx rfl rfl) rfl) ?_
          refine DrOK.s (v := VI (save)) rfl rfl rfl (e_mv (ev_t rfl)) ?_
          obtain ⟨c13, hm⟩ := hm.ifs
          refine DrOK.s (v := .o (.c (.ptr (h.length + 1) (0 + (Int.toNat save) * 1)))) rfl rfl rfl (e_ixg (ev_t rfl) (ev_t rfl) el27 c13) ?_
          obtain ⟨c14, hm⟩ := hm.ifs
          refine DrOK.s (v := VI ((gd (x1.1.saves.take (Int.toNat (w64 (save + 1)))) save))) rfl rfl rfl (e_ldg1 (k := 1) (off := 0) (f := cI) (l := (x1.1.saves.take (Int.toNat (w64 (save + 1))))) (i := save) (ev_t rfl) ty3 (bx rfl rfl) (by intro x; rfl) c14 rfl (by omega)) ?_
          obtain ⟨x15, e15, hm⟩ := hm.call
          refine DrOK.cl rfl rfl rfl rfl pl138 (R2.wk _) (FnOK.borrow (R2.cons (BorV.agg (R2.cons BorC.v (R2.cons BorC.v (R2.cons BorC.v (R2.cons BorC.v (R2.cons BorC.l (R2.cons (BorC.g (bx rfl rfl) (by simp) (fun _ => rfl) (fun _ => rfl)) (R2.nil _)))))))) (R2.cons (BorV.c BorC.v) (R2.nil _))) (transactions_left_ok (h := []) e15) rfl) ?_
          refine DrOK.nil ?_
          show CdOK _ _ _ _ _ _
          refine CdOK.condB (ev_t rfl) ?_ ?_
          · intro c16; replace hm := hm.ifp c16
            refine CdOK.draw2 (ord := [0, 1, 2, 3, 4, 5, 6, 7, 8]) (chain := [6, 8]) fol (by decide +kernel) (by decide +kernel) ?_
            refine Dr2.s (v := .o (.c (.ptr (h.length + 0) 5))) rfl rfl rfl rfl rfl rfl (e_fa' fa108_5 (ev_t rfl)) ?_
            refine Dr2.f (v := .o (.c (.g (h.length + 1) (((x1.1.saves.take (Int.toNat (w64 (save + 1))))).length) 1 true))) rfl rfl rfl rfl rfl rfl (e_ldb1 (ev_t rfl) ty27 (bx rfl rfl) rfl) ?_
            refine Dr2.s (v := VI (save)) rfl rfl rfl rfl rfl rfl (e_mv (ev_t rfl)) ?_
            obtain ⟨c17, hm⟩ := hm.ifs
            refine Dr2.s (v := .o (.c (.ptr (h.length + 1) (0 + (Int.toNat save) * 1)))) rfl rfl rfl rfl rfl rfl (e_ixg (ev_t rfl) (ev_t rfl) el27 c17) ?_
            obtain ⟨c18, hm⟩ := hm.ifs
            refine Dr2.f (v := VI ((gd (x1.1.saves.take (Int.toNat (w64 (save + 1)))) save))) rfl rfl rfl rfl rfl rfl (e_ldg1 (k := 1) (off := 0) (f := cI) (l := (x1.1.saves.take (Int.toNat (w64 (save + 1))))) (i := save) (ev_t rfl) ty3 (bx rfl rfl) (by intro x; rfl) c18 rfl (by omega)) ?_
            refine Dr2.s (v := .o (.c (.ptr (h.length + 0) 1))) rfl rfl rfl rfl rfl rfl (e_fa' fa108_1 (ev_t rfl)) ?_
            refine Dr2.c0 rfl rfl rfl rfl (e_stN (L' := [⟨[I (x1.1.id_), I (2), I (x1.1.last), I (x1.1.until_), .L 1 (x1.1.pending.map cI), .g (h.length + 1) (((x1.1.saves.take (Int.toNat (w64 (save + 1))))).length) 1 true], true, true⟩, ⟨((x1.1.saves.take (Int.toNat (w64 (save + 1)))).map cI).flatten, true, true⟩]) rfl (ev_t rfl) rfl ty3 rfl rfl rfl rfl rfl) (.e rfl rfl (e_ldg1 (k := 1) (off := 0) (f := cI) (l := (x1.1.saves.take (Int.toNat (w64 (save + 1))))) (i := save) (ev_t rfl) ty3 (bx rfl rfl) (by intro x; rfl) c18 rfl (by omega)) (.m (by decide +kernel) .nil)) ?_
            refine Dr2.s (v := .o (.c (.ptr (h.length + 0) 3))) rfl rfl rfl rfl rfl rfl (e_fa' fa108_3 (ev_t rfl)) ?_
            refine Dr2.c0 rfl rfl rfl rfl (e_stN (L' := [⟨[I (x1.1.id_), I (2), I (x1.1.last), I ((gd (x1.1.saves.take (Int.toNat (w64 (save + 1)))) save)), .L 1 (x1.1.pending.map cI), .g (h.length + 1) (((x1.1.saves.take (Int.toNat (w64 (save + 1))))).length) 1 true], true, true⟩, ⟨((x1.1.saves.take (Int.toNat (w64 (save + 1)))).map cI).flatten, true, true⟩]) rfl (ev_t rfl) (ev_t rfl) ty3 rfl rfl rfl rfl rfl) (.m (by decide +kernel) (.m (by decide +kernel) .nil)) ?_
            refine Dr2.nil ?_
            refine Told.re (σ := [0]) (X := [(0, .o (.c (.L 6 (l_.map Tx.cs)))), (8, .o (.c (.ptr (h.length + 0) 0)))]) (L' := [⟨[I ((⟨x1.1.id_, 2, x1.1.last, (gd (x1.1.saves.take (Int.toNat (w64 (save + 1)))) save), x1.1.pending, (x1.1.saves.take (Int.toNat (w64 (save + 1))))⟩ : Tx).id_), I ((⟨x1.1.id_, 2, x1.1.last, (gd (x1.1.saves.take (Int.toNat (w64 (save + 1)))) save), x1.1.pending, (x1.1.saves.take (Int.toNat (w64 (save + 1))))⟩ : Tx).state), I ((⟨x1.1.id_, 2, x1.1.last, (gd (x1.1.saves.take (Int.toNat (w64 (save + 1)))) save), x1.1.pending, (x1.1.saves.take (Int.toNat (w64 (save + 1))))⟩ : Tx).last), I ((⟨x1.1.id_, 2, x1.1.last, (gd (x1.1.saves.take (Int.toNat (w64 (save + 1)))) save), x1.1.pending, (x1.1.saves.take (Int.toNat (w64 (save + 1))))⟩ : Tx).until_), .L 1 ((⟨x1.1.id_, 2, x1.1.last, (gd (x1.1.saves.take (Int.toNat (w64 (save + 1)))) save), x1.1.pending, (x1.1.saves.take (Int.toNat (w64 (save + 1))))⟩ : Tx).pending.map cI), .L 1 ((⟨x1.1.id_, 2, x1.1.last, (gd (x1.1.saves.take (Int.toNat (w64 (save + 1)))) save), x1.1.pending, (x1.1.saves.take (Int.toNat (w64 (save + 1))))⟩ : Tx).saves.map cI)], true, true⟩]) rfl rfl hC (by decide) (.obj 0 rfl (R2.of (.fl _ rfl) (R2.of (.fl _ rfl) (R2.of (.fl _ rfl) (R2.of (.fl _ rfl) (R2.of (.fl _ rfl) (R2.of (.fzg 1 _ 1 _ ((x1.1.saves.take (Int.toNat (w64 (save + 1)))).map cI) rfl (by decide) (by first | exact List.length_map .. | simp) (lens_all (by intro x; rfl)) (vl_all (by intro x; rfl))) (R2.nil _))))))) .nil) (.cons (renFlV rfl) (.cons (.o (.c (.ptr 0 0 _ rfl))) .nil)) ?_
            exact ⟨(⟨x1.1.id_, 2, x1.1.last, (gd (x1.1.saves.take (Int.toNat (w64 (save + 1)))) save), x1.1.pending, (x1.1.saves.take (Int.toNat (w64 (save + 1))))⟩ : Tx), hm.ret, (.cons rfl (.cons rfl .nil)), rfl⟩
          · intro c19; replace hm := hm.ifn c19
            refine CdOK.skip ?_
            refine Told.re (σ := [0]) (X := [(0, .o (.c (.L 6 (l_.map Tx.cs)))), (8, .o (.c (.ptr (h.length + 0) 0)))]) (L' := [⟨[I ((⟨x1.1.id_, x1.1.state, x1.1.last, x1.1.until_, x1.1.pending, (x1.1.saves.take (Int.toNat (w64 (save + 1))))⟩ : Tx).id_), I ((⟨x1.1.id_, x1.1.state, x1.1.last, x1.1.until_, x1.1.pending, (x1.1.saves.take (Int.toNat (w64 (save + 1))))⟩ : Tx).state), I ((⟨x1.1.id_, x1.1.state, x1.1.last, x1.1.until_, x1.1.pending, (x1.1.saves.take (Int.toNat (w64 (save + 1))))⟩ : Tx).last), I ((⟨x1.1.id_, x1.1.state, x1.1.last, x1.1.until_, x1.1.pending, (x1.1.saves.take (Int.toNat (w64 (save + 1))))⟩ : Tx).until_), .L 1 ((⟨x1.1.id_, x1.1.state, x1.1.last, x1.1.until_, x1.1.pending, (x1.1.saves.take (Int.toNat (w64 (save + 1))))⟩ : Tx).pending.map cI), .L 1 ((⟨x1.1.id_, x1.1.state, x1.1.last, x1.1.until_, x1.1.pending, (x1.1.saves.take (Int.toNat (w64 (save + 1))))⟩ : Tx).saves.map cI)], true, true⟩]) rfl rfl hC (by decide) (.obj 0 rfl (R2.of (.fl _ rfl) (R2.of (.fl _ rfl) (R2.of (.fl _ rfl) (R2.of (.fl _ rfl) (R2.of (.fl _ rfl) (R2.of (.fzg 1 _ 1 _ ((x1.1.saves.take (Int.toNat (w64 (save + 1)))).map cI) rfl (by decide) (by first | exact List.length_map .. | simp) (lens_all (by intro x; rfl)) (vl_all (by intro x; rfl))) (R2.nil _))))))) .nil) (.cons (renFlV rfl) (.cons (.o (.c (.ptr 0 0 _ rfl))) .nil)) ?_
            exact ⟨(⟨x1.1.id_, x1.1.state, x1.1.last, x1.1.until_, x1.1.pending, (x1.1.saves.take (Int.toNat (w64 (save + 1))))⟩ : Tx), hm.ret, (.cons rfl (.cons rfl .nil)), rfl⟩
        · rintro bx11 T0 hm
          show CdOK _ _ _ (look T0 [(0, .o (.c (.L 6 (l_.map Tx.cs)))), (8, .o (.c (.ptr (h.length + 0) 0)))]) (h ++ ([⟨[I (bx11.id_), I (bx11.state), I (bx11.last), I (bx11.until_), .L 1 (bx11.pending.map cI), .L 1 (bx11.saves.map cI)], true, true⟩] : Heap)) _
          refine CdOK.seq ?_
          refine CdOK.region ?_
          refine RgOK.s (v := .o (.c (.L 6 (l_.map Tx.cs)))) rfl rfl rfl (e_mv (ev_t rfl)) ?_
          refine RgOK.s (v := .o (.agg [I (bx11.id_), I (bx11.state), I (bx11.last), I (bx11.until_), .L 1 (bx11.pending.map cI), .L 1 (bx11.saves.map cI)])) rfl rfl rfl (e_ldbA (ev_t rfl) ty108 (bx rfl rfl) rfl rfl) ?_
          obtain ⟨x21, e21, hm⟩ := hm.call
          refine RgOK.cl rfl rfl rfl rfl pl139 (R2.wk _) (transactions_with_ok   e21) ?_
          rintro _ _ ⟨rfl, rfl⟩
          refine RgOK.s (v := .o (.c (.L 6 (x21.map Tx.cs)))) rfl rfl rfl (e_as (ev_t rfl)) ?_
          refine RgOK.s (v := VI (0)) rfl rfl rfl (e_as rfl) ?_
          refine RgOK.nil ?_
          show CdOK _ _ _ _ _ _
          refine CdOK.ret ?_
          refine ⟨.inr rfl, _, rfl, h, [⟨[I (bx11.id_), I (bx11.state), I (bx11.last), I (bx11.until_), .L 1 (bx11.pending.map cI), .L 1 (bx11.saves.map cI)], true, true⟩], _, rfl, rfl, hC, ((renFlV rfl) : RenV _ _ _ _ (.tup [.c (.L 6 (x21.map Tx.cs)), .c (I (0))])), ?_⟩
          have hr := hm.ret
          subst hr
          exact ⟨rfl, rfl⟩
/- pagemend/pagemendref12.valid -/
def ref12_valid1.l1 (x_ : Tx) : Nat → Int → Option (Sum Unit Bool)
  | 0, _ => none
  | kk27 + 1, i26 => (if i26 < (x_.pending.length : Int) then (if (0 : Int) ≤ i26 ∧ i26 < (x_.pending.length : Int) then (if (gd x_.pending i26) < 1 then some (Sum.inr false) else (if (0 : Int) ≤ i26 ∧ i26 < (x_.pending.length : Int) then (if x_.last < (gd x_.pending i26) then some (Sum.inr false) else (if 0 < i26 then (if (0 : Int) ≤ (w64 (i26 - 1)) ∧ (w64 (i26 - 1)) < (x_.pending.length : Int) then (if (0 : Int) ≤ i26 ∧ i26 < (x_.pending.length : Int) then (if (gd x_.pending i26) ≤ (gd x_.pending (w64 (i26 - 1))) then some (Sum.inr false) else ref12_valid1.l1 x_ kk27 (w64 (i26 + 1))) else none) else none) else ref12_valid1.l1 x_ kk27 (w64 (i26 + 1)))) else none)) else none) else some (Sum.inl ()))
theorem ref12_valid1.l1_s (x_ : Tx) (kk27 : Nat) (i26 : Int) : ref12_valid1.l1 x_ (kk27 + 1) i26 = (if i26 < (x_.pending.length : Int) then (if (0 : Int) ≤ i26 ∧ i26 < (x_.pending.length : Int) then (if (gd x_.pending i26) < 1 then some (Sum.inr false) else (if (0 : Int) ≤ i26 ∧ i26 < (x_.pending.length : Int) then (if x_.last < (gd x_.pending i26) then some (Sum.inr false) else (if 0 < i26 then (if (0 : Int) ≤ (w64 (i26 - 1)) ∧ (w64 (i26 - 1)) < (x_.pending.length : Int) then (if (0 : Int) ≤ i26 ∧ i26 < (x_.pending.length : Int) then (if (gd x_.pending i26) ≤ (gd x_.pending (w64 (i26 - 1))) then some (Sum.inr false) else ref12_valid1.l1 x_ kk27 (w64 (i26 + 1))) else none) else none) else ref12_valid1.l1 x_ kk27 (w64 (i26 + 1)))) else none)) else none) else some (Sum.inl ())) := rfl
def ref12_valid1.l2 (x_ : Tx) : Nat → Int → Option (Sum Unit Bool)
  | 0, _ => none
  | kk44 + 1, i43 => (if i43 < (x_.saves.length : Int) then (if (0 : Int) ≤ i43 ∧ i43 < (x_.saves.length : Int) then (if (gd x_.saves i43) < 0 then some (Sum.inr false) else (if (0 : Int) ≤ i43 ∧ i43 < (x_.saves.length : Int) then (if x_.last < (gd x_.saves i43) then some (Sum.inr false) else (if 0 < i43 then (if (0 : Int) ≤ (w64 (i43 - 1)) ∧ (w64 (i43 - 1)) < (x_.saves.length : Int) then (if (0 : Int) ≤ i43 ∧ i43 < (x_.saves.length : Int) then (if (gd x_.saves i43) < (gd x_.saves (w64 (i43 - 1))) then some (Sum.inr false) else ref12_valid1.l2 x_ kk44 (w64 (i43 + 1))) else none) else none) else ref12_valid1.l2 x_ kk44 (w64 (i43 + 1)))) else none)) else none) else some (Sum.inl ()))
theorem ref12_valid1.l2_s (x_ : Tx) (kk44 : Nat) (i43 : Int) : ref12_valid1.l2 x_ (kk44 + 1) i43 = (if i43 < (x_.saves.length : Int) then (if (0 : Int) ≤ i43 ∧ i43 < (x_.saves.length : Int) then (if (gd x_.saves i43) < 0 then some (Sum.inr false) else (if (0 : Int) ≤ i43 ∧ i43 < (x_.saves.length : Int) then (if x_.last < (gd x_.saves i43) then some (Sum.inr false) else (if 0 < i43 then (if (0 : Int) ≤ (w64 (i43 - 1)) ∧ (w64 (i43 - 1)) < (x_.saves.length : Int) then (if (0 : Int) ≤ i43 ∧ i43 < (x_.saves.length : Int) then (if (gd x_.saves i43) < (gd x_.saves (w64 (i43 - 1))) then some (Sum.inr false) else ref12_valid1.l2 x_ kk44 (w64 (i43 + 1))) else none) else none) else ref12_valid1.l2 x_ kk44 (w64 (i43 + 1)))) else none)) else none) else some (Sum.inl ())) := rfl
def ref12_valid1 (x_ : Tx) : Option Bool := (if x_.id_ < 1 then some false else (if 1073741824 < x_.id_ then some false else (if x_.state < 1 then some false else (if 3 < x_.state then some false else (if x_.last < 0 then some false else (if 1099511627776 < x_.last then some false else (if 4096 < (x_.pending.length : Int) then some false else (if 8 < (x_.saves.length : Int) then some false else (((if x_.until_ < 0 then some (Sum.inr false) else (if x_.last < x_.until_ then some (Sum.inr false) else (if x_.state ≠ 2 then (if x_.until_ ≠ 0 then some (Sum.inr false) else some (Sum.inl ())) else some (Sum.inl ()))))).bind fun (z : Sum Unit Bool) => match z with | .inl (s25 : Unit) => ((ref12_valid1.l1 x_ FU 0).bind fun (z : Sum Unit Bool) => match z with | .inl (s42 : Unit) => ((ref12_valid1.l2 x_ FU 0).bind fun (z : Sum Unit Bool) => match z with | .inl (s59 : Unit) => some true | .inr r => some r) | .inr r => some r) | .inr r => some r)))))))))
theorem ref12_valid1.eq (x_ : Tx) : ref12_valid1 x_ = (if x_.id_ < 1 then some false else (if 1073741824 < x_.id_ then some false else (if x_.state < 1 then some false else (if 3 < x_.state then some false else (if x_.last < 0 then some false else (if 1099511627776 < x_.last then some false else (if 4096 < (x_.pending.length : Int) then some false else (if 8 < (x_.saves.length : Int) then some false else (((if x_.until_ < 0 then some (Sum.inr false) else (if x_.last < x_.until_ then some (Sum.inr false) else (if x_.state ≠ 2 then (if x_.until_ ≠ 0 then some (Sum.inr false) else some (Sum.inl ())) else some (Sum.inl ()))))).bind fun (z : Sum Unit Bool) => match z with | .inl (s25 : Unit) => ((ref12_valid1.l1 x_ FU 0).bind fun (z : Sum Unit Bool) => match z with | .inl (s42 : Unit) => ((ref12_valid1.l2 x_ FU 0).bind fun (z : Sum Unit Bool) => match z with | .inl (s59 : Unit) => some true | .inr r => some r) | .inr r => some r) | .inr r => some r))))))))) := rfl
theorem ref12_valid1_ok {h : Heap} {x_ : Tx}  {r : Bool} (hm : ref12_valid1 x_ = some r) : FnOK Try.prog 134 [.o (.agg [I (x_.id_), I (x_.state), I (x_.last), I (x_.until_), .L 1 (x_.pending.map cI), .L 1 (x_.saves.map cI)])] h (fun v h' => v = VB (r) ∧ h' = h) := by
  refine FnOK.fin ?_
  refine FnOK.bodyC (N := 147) Try.func134 rfl rfl rfl (fun hC => ?_)
  replace hm := Ev.of hm
  rw [ref12_valid1.eq] at hm
  show CdOK _ _ _ (look _ [(0, .o (.agg [I (x_.id_), I (x_.state), I (x_.last), I (x_.until_), .L 1 (x_.pending.map cI), .L 1 (x_.saves.map cI)]))]) (h ++ ([] : Heap)) _
  refine CdOK.seq ?_
  refine CdOK.region ?_
  refine RgOK.s (v := .o (.c (.ptr (h.length + 0) 0))) rfl rfl rfl (e_boxN (L' := [⟨[I (x_.id_), I (x_.state), I (x_.last), I (x_.until_), .L 1 (x_.pending.map cI), .L 1 (x_.saves.map cI)], true, true⟩]) rfl (ev_t rfl) rfl rfl) ?_
  refine RgOK.s (v := VB (false)) rfl rfl rfl (e_as rfl) ?_
  refine RgOK.nil ?_
  show CdOK _ _ _ _ _ _
  refine CdOK.seq ?_
  refine CdOK.seq ?_
  refine CdOK.region ?_
  refine RgOK.s (v := .o (.c (.ptr (h.length + 0) 0))) rfl rfl rfl (e_fa' fa108_0 (ev_t rfl)) ?_
  refine RgOK.s (v := VI (x_.id_)) rfl rfl rfl (e_ldb1 (ev_t rfl) ty3 (bx rfl rfl) rfl) ?_
  refine RgOK.sd rfl rfl rfl (e_bin (ev_t rfl) rfl rfl rfl) ?_ ?_
  · intro c1; replace hm := hm.ifp c1
    refine RgOK.s (v := VB (true)) rfl rfl rfl (e_mv (ev_t rfl)) ?_
    refine RgOK.sk rfl rfl rfl ?_
    refine RgOK.sk rfl rfl rfl ?_
    refine RgOK.sk rfl rfl rfl ?_
    refine RgOK.s (v := VB (true)) rfl rfl rfl (e_pick (t := true) (ev_t rfl) rfl) ?_
    refine RgOK.s (v := VB (true)) rfl rfl rfl (e_mv (ev_t rfl)) ?_
    refine RgOK.sk rfl rfl rfl ?_
    refine RgOK.sk rfl rfl rfl ?_
    refine RgOK.sk rfl rfl rfl ?_
    refine RgOK.s (v := VB (true)) rfl rfl rfl (e_pick (t := true) (ev_t rfl) rfl) ?_
    refine RgOK.s (v := VB (true)) rfl rfl rfl (e_mv (ev_t rfl)) ?_
    refine RgOK.sk rfl rfl rfl ?_
    refine RgOK.sk rfl rfl rfl ?_
    refine RgOK.sk rfl rfl rfl ?_
    refine RgOK.s (v := VB (true)) rfl rfl rfl (e_pick (t := true) (ev_t rfl) rfl) ?_
    refine RgOK.s (v := VB (true)) rfl rfl rfl (e_mv (ev_t rfl)) ?_
    refine RgOK.sk rfl rfl rfl ?_
    refine RgOK.sk rfl rfl rfl ?_
    refine RgOK.sk rfl rfl rfl ?_
    refine RgOK.s (v := VB (true)) rfl rfl rfl (e_pick (t := true) (ev_t rfl) rfl) ?_
    refine RgOK.s (v := VB (true)) rfl rfl rfl (e_mv (ev_t rfl)) ?_
    refine RgOK.sk rfl rfl rfl ?_
    refine RgOK.sk rfl rfl rfl ?_
    refine RgOK.sk rfl rfl rfl ?_
    refine RgOK.s (v := VB (true)) rfl rfl rfl (e_pick (t := true) (ev_t rfl) rfl) ?_
    refine RgOK.s (v := VB (true)) rfl rfl rfl (e_mv (ev_t rfl)) ?_
    refine RgOK.sk rfl rfl rfl ?_
    refine RgOK.sk rfl rfl rfl ?_
    refine RgOK.sk rfl rfl rfl ?_
    refine RgOK.sk rfl rfl rfl ?_
    refine RgOK.s (v := VB (true)) rfl rfl rfl (e_pick (t := true) (ev_t rfl) rfl) ?_
    refine RgOK.s (v := VB (true)) rfl rfl rfl (e_mv (ev_t rfl)) ?_
    refine RgOK.sk rfl rfl rfl ?_
    refine RgOK.sk rfl rfl rfl ?_
    refine RgOK.sk rfl rfl rfl ?_
    refine RgOK.sk rfl rfl rfl ?_
    refine RgOK.s (v := VB (true)) rfl rfl rfl (e_pick (t := true) (ev_t rfl) rfl) ?_
    refine RgOK.nil ?_
    show CdOK _ _ _ _ _ _
    refine CdOK.cond_true rfl ?_
    refine CdOK.seq ?_
    refine CdOK.region ?_
    refine RgOK.s (v := VB (false)) rfl rfl rfl (e_as rfl) ?_
    refine RgOK.nil ?_
    show CdOK _ _ _ _ _ _
    refine CdOK.ret ?_
    refine ⟨.inr rfl, _, rfl, h, [⟨[I (x_.id_), I (x_.state), I (x_.last), I (x_.until_), .L 1 (x_.pending.map cI), .L 1 (x_.saves.map cI)], true, true⟩], _, rfl, rfl, hC, ((renFlV rfl) : RenV _ _ _ _ (VB (false))), ?_⟩
    have hr := hm.ret
    subst hr
    exact ⟨rfl, rfl⟩
  · intro c2; replace hm := hm.ifn c2
    refine RgOK.s (v := VB (false)) rfl rfl rfl (e_mv (ev_t rfl)) ?_
    refine RgOK.s (v := .o (.c (.ptr (h.length + 0) 0))) rfl rfl rfl (e_fa' fa108_0 (ev_t rfl)) ?_
    refine RgOK.s (v := VI (x_.id_)) rfl rfl rfl (e_ldb1 (ev_t rfl) ty3 (bx rfl rfl) rfl) ?_
    refine RgOK.sd rfl rfl rfl (e_bin (ev_t rfl) rfl rfl rfl) ?_ ?_
    · intro c3; replace hm := hm.ifp c3
      refine RgOK.s (v := VB (true)) rfl rfl rfl (e_pick (t := false) (ev_t rfl) (ev_t rfl)) ?_
      refine RgOK.s (v := VB (true)) rfl rfl rfl (e_mv (ev_t rfl)) ?_
      refine RgOK.sk rfl rfl rfl ?_
      refine RgOK.sk rfl rfl rfl ?_
      refine RgOK.sk rfl rfl rfl ?_
      refine RgOK.s (v := VB (true)) rfl rfl rfl (e_pick (t := true) (ev_t rfl) rfl) ?_
      refine RgOK.s (v := VB (true)) rfl rfl rfl (e_mv (ev_t rfl)) ?_
      refine RgOK.sk rfl rfl rfl ?_
      refine RgOK.sk rfl rfl rfl ?_
      refine RgOK.sk rfl rfl rfl ?_
      refine RgOK.s (v := VB (true)) rfl rfl rfl (e_pick (t := true) (ev_t rfl) rfl) ?_
      refine RgOK.s (v := VB (true)) rfl rfl rfl (e_mv (ev_t rfl)) ?_
      refine RgOK.sk rfl rfl rfl ?_
      refine RgOK.sk rfl rfl rfl ?_
      refine RgOK.sk rfl rfl rfl ?_
      refine RgOK.s (v := VB (true)) rfl rfl rfl (e_pick (t := true) (ev_t rfl) rfl) ?_
      refine RgOK.s (v := VB (true)) rfl rfl rfl (e_mv (ev_t rfl)) ?_
      refine RgOK.sk rfl rfl rfl ?_
      refine RgOK.sk rfl rfl rfl ?_
      refine RgOK.sk rfl rfl rfl ?_
      refine RgOK.s (v := VB (true)) rfl rfl rfl (e_pick (t := true) (ev_t rfl) rfl) ?_
      refine RgOK.s (v := VB (true)) rfl rfl rfl (e_mv (ev_t rfl)) ?_
      refine RgOK.sk rfl rfl rfl ?_
      refine RgOK.sk rfl rfl rfl ?_
      refine RgOK.sk rfl rfl rfl ?_
      refine RgOK.sk rfl rfl rfl ?_
      refine RgOK.s (v := VB (true)) rfl rfl rfl (e_pick (t := true) (ev_t rfl) rfl) ?_
      refine RgOK.s (v := VB (true)) rfl rfl rfl (e_mv (ev_t rfl)) ?_
      refine RgOK.sk rfl rfl rfl ?_
      refine RgOK.sk rfl rfl rfl ?_
      refine RgOK.sk rfl rfl rfl ?_
      refine RgOK.sk rfl rfl rfl ?_
      refine RgOK.s (v := VB (true)) rfl rfl rfl (e_pick (t := true) (ev_t rfl) rfl) ?_
      refine RgOK.nil ?_
      show CdOK _ _ _ _ _ _
      refine CdOK.cond_true rfl ?_
      refine CdOK.seq ?_
      refine CdOK.region ?_
      refine RgOK.s (v := VB (false)) rfl rfl rfl (e_as rfl) ?_
      refine RgOK.nil ?_
      show CdOK _ _ _ _ _ _
      refine CdOK.ret ?_
      refine ⟨.inr rfl, _, rfl, h, [⟨[I (x_.id_), I (x_.state), I (x_.last), I (x_.until_), .L 1 (x_.pending.map cI), .L 1 (x_.saves.map cI)], true, true⟩], _, rfl, rfl, hC, ((renFlV rfl) : RenV _ _ _ _ (VB (false))), ?_⟩
      have hr := hm.ret
      subst hr
      exact ⟨rfl, rfl⟩
    · intro c4; replace hm := hm.ifn c4
      refine RgOK.s (v := VB (false)) rfl rfl rfl (e_pick (t := false) (ev_t rfl) (ev_t rfl)) ?_
      refine RgOK.s (v := VB (false)) rfl rfl rfl (e_mv (ev_t rfl)) ?_
      refine RgOK.s (v := .o (.c (.ptr (h.length + 0) 1))) rfl rfl rfl (e_fa' fa108_1 (ev_t rfl)) ?_
      refine RgOK.s (v := VI (x_.state)) rfl rfl rfl (e_ldb1 (ev_t rfl) ty3 (bx rfl rfl) rfl) ?_
      refine RgOK.sd rfl rfl rfl (e_bin (ev_t rfl) rfl rfl rfl) ?_ ?_
      · intro c5; replace hm := hm.ifp c5
        refine RgOK.s (v := VB (true)) rfl rfl rfl (e_pick (t := false) (ev_t rfl) (ev_t rfl)) ?_
        refine RgOK.s (v := VB (true)) rfl rfl rfl (e_mv (ev_t rfl)) ?_
        refine RgOK.sk rfl rfl rfl ?_
        refine RgOK.sk rfl rfl rfl ?_
        refine RgOK.sk rfl rfl rfl ?_
        refine RgOK.s (v := VB (true)) rfl rfl rfl (e_pick (t := true) (ev_t rfl) rfl) ?_
        refine RgOK.s (v := VB (true)) rfl rfl rfl (e_mv (ev_t rfl)) ?_
        refine RgOK.sk rfl rfl rfl ?_
        refine RgOK.sk rfl rfl rfl ?_
        refine RgOK.sk rfl rfl rfl ?_
        refine RgOK.s (v := VB (true)) rfl rfl rfl (e_pick (t := true) (ev_t rfl) rfl) ?_
        refine RgOK.s (v := VB (true)) rfl rfl rfl (e_mv (ev_t rfl)) ?_
        refine RgOK.sk rfl rfl rfl ?_
        refine RgOK.sk rfl rfl rfl ?_
        refine RgOK.sk rfl rfl rfl ?_
        refine RgOK.s (v := VB (true)) rfl rfl rfl (e_pick (t := true) (ev_t rfl) rfl) ?_
        refine RgOK.s (v := VB (true)) rfl rfl rfl (e_mv (ev_t rfl)) ?_
        refine RgOK.sk rfl rfl rfl ?_
        refine RgOK.sk rfl rfl rfl ?_
        refine RgOK.sk rfl rfl rfl ?_
        refine RgOK.sk rfl rfl rfl ?_
        refine RgOK.s (v := VB (true)) rfl rfl rfl (e_pick (t := true) (ev_t rfl) rfl) ?_
        refine RgOK.s (v := VB (true)) rfl rfl rfl (e_mv (ev_t rfl)) ?_
        refine RgOK.sk rfl rfl rfl ?_
        refine RgOK.sk rfl rfl rfl ?_
        refine RgOK.sk rfl rfl rfl ?_
        refine RgOK.sk rfl rfl rfl ?_
        refine RgOK.s (v := VB (true)) rfl rfl rfl (e_pick (t := true) (ev_t rfl) rfl) ?_
        refine RgOK.nil ?_
        show CdOK _ _ _ _ _ _
        refine CdOK.cond_true rfl ?_
        refine CdOK.seq ?_
        refine CdOK.region ?_
        refine RgOK.s (v := VB (false)) rfl rfl rfl (e_as rfl) ?_
        refine RgOK.nil ?_
        show CdOK _ _ _ _ _ _
        refine CdOK.ret ?_
        refine ⟨.inr rfl, _, rfl, h, [⟨[I (x_.id_), I (x_.state), I (x_.last), I (x_.until_), .L 1 (x_.pending.map cI), .L 1 (x_.saves.map cI)], true, true⟩], _, rfl, rfl, hC, ((renFlV rfl) : RenV _ _ _ _ (VB (false))), ?_⟩
        have hr := hm.ret
        subst hr
        exact ⟨rfl, rfl⟩
      · intro c6; replace hm := hm.ifn c6
        refine RgOK.s (v := VB (false)) rfl rfl rfl (e_pick (t := false) (ev_t rfl) (ev_t rfl)) ?_
        refine RgOK.s (v := VB (false)) rfl rfl rfl (e_mv (ev_t rfl)) ?_
        refine RgOK.s (v := .o (.c (.ptr (h.length + 0) 1))) rfl rfl rfl (e_fa' fa108_1 (ev_t rfl)) ?_
        refine RgOK.s (v := VI (x_.state)) rfl rfl rfl (e_ldb1 (ev_t rfl) ty3 (bx rfl rfl) rfl) ?_
        refine RgOK.sd rfl rfl rfl (e_bin (ev_t rfl) rfl rfl rfl) ?_ ?_
        · intro c7; replace hm := hm.ifp c7
          refine RgOK.s (v := VB (true)) rfl rfl rfl (e_pick (t := false) (ev_t rfl) (ev_t rfl)) ?_
          refine RgOK.s (v := VB (true)) rfl rfl rfl (e_mv (ev_t rfl)) ?_
          refine RgOK.sk rfl rfl rfl ?_
          refine RgOK.sk rfl rfl rfl ?_
          refine RgOK.sk rfl rfl rfl ?_
          refine RgOK.s (v := VB (true)) rfl rfl rfl (e_pick (t := true) (ev_t rfl) rfl) ?_
          refine RgOK.s (v := VB (true)) rfl rfl rfl (e_mv (ev_t rfl)) ?_
          refine RgOK.sk rfl rfl rfl ?_
          refine RgOK.sk rfl rfl rfl ?_
          refine RgOK.sk rfl rfl rfl ?_
          refine RgOK.s (v := VB (true)) rfl rfl rfl (e_pick (t := true) (ev_t rfl) rfl) ?_
          refine RgOK.s (v := VB (true)) rfl rfl rfl (e_mv (ev_t rfl)) ?_
          refine RgOK.sk rfl rfl rfl ?_
          refine RgOK.sk rfl rfl rfl ?_
          refine RgOK.sk rfl rfl rfl ?_
          refine RgOK.sk rfl rfl rfl ?_
          refine RgOK.s (v := VB (true)) rfl rfl rfl (e_pick (t := true) (ev_t rfl) rfl) ?_
          refine RgOK.s (v := VB (true)) rfl rfl rfl (e_mv (ev_t rfl)) ?_
          refine RgOK.sk rfl rfl rfl ?_
          refine RgOK.sk rfl rfl rfl ?_
          refine RgOK.sk rfl rfl rfl ?_
          refine RgOK.sk rfl rfl rfl ?_
          refine RgOK.s (v := VB (true)) rfl rfl rfl (e_pick (t := true) (ev_t rfl) rfl) ?_
          refine RgOK.nil ?_
          show CdOK _ _ _ _ _ _
          refine CdOK.cond_true rfl ?_
          refine CdOK.seq ?_
          refine CdOK.region ?_
          refine RgOK.s (v := VB (false)) rfl rfl rfl (e_as rfl) ?_
          refine RgOK.nil ?_
          show CdOK _ _ _ _ _ _
          refine CdOK.ret ?_
          refine ⟨.inr rfl, _, rfl, h, [⟨[I (x_.id_), I (x_.state), I (x_.last), I (x_.until_), .L 1 (x_.pending.map cI), .L 1 (x_.saves.map cI)], true, true⟩], _, rfl, rfl, hC, ((renFlV rfl) : RenV _ _ _ _ (VB (false))), ?_⟩
          have hr := hm.ret
          subst hr
          exact ⟨rfl, rfl⟩
        · intro c8; replace hm := hm.ifn c8
          refine RgOK.s (v := VB (false)) rfl rfl rfl (e_pick (t := false) (ev_t rfl) (ev_t rfl)) ?_
          refine RgOK.s (v := VB (false)) rfl rfl rfl (e_mv (ev_t rfl)) ?_
          refine RgOK.s (v := .o (.c (.ptr (h.length + 0) 2))) rfl rfl rfl (e_fa' fa108_2 (ev_t rfl)) ?_
          refine RgOK.s (v := VI (x_.last)) rfl rfl rfl (e_ldb1 (ev_t rfl) ty3 (bx rfl rfl) rfl) ?_
          refine RgOK.sd rfl rfl rfl (e_bin (ev_t rfl) rfl rfl rfl) ?_ ?_
          · intro c9; replace hm := hm.ifp c9
            refine RgOK.s (v := VB (true)) rfl rfl rfl (e_pick (t := false) (ev_t rfl) (ev_t rfl)) ?_
            refine RgOK.s (v := VB (true)) rfl rfl rfl (e_mv (ev_t rfl)) ?_
            refine RgOK.sk rfl rfl rfl ?_
            refine RgOK.sk rfl rfl rfl ?_
            refine RgOK.sk rfl rfl rfl ?_
            refine RgOK.s (v := VB (true)) rfl rfl rfl (e_pick (t := true) (ev_t rfl) rfl) ?_
            refine RgOK.s (v := VB (true)) rfl rfl rfl (e_mv (ev_t rfl)) ?_
            refine RgOK.sk rfl rfl rfl ?_
            refine RgOK.sk rfl rfl rfl ?_
            refine RgOK.sk rfl rfl rfl ?_
            refine RgOK.sk rfl rfl rfl ?_
            refine RgOK.s (v := VB (true)) rfl rfl rfl (e_pick (t := true) (ev_t rfl) rfl) ?_
            refine RgOK.s (v := VB (true)) rfl rfl rfl (e_mv (ev_t rfl)) ?_
            refine RgOK.sk rfl rfl rfl ?_
            refine RgOK.sk rfl rfl rfl ?_
            refine RgOK.sk rfl rfl rfl ?_
            refine RgOK.sk rfl rfl rfl ?_
            refine RgOK.s (v := VB (true)) rfl rfl rfl (e_pick (t := true) (ev_t rfl) rfl) ?_
            refine RgOK.nil ?_
            show CdOK _ _ _ _ _ _
            refine CdOK.cond_true rfl ?_
            refine CdOK.seq ?_
            refine CdOK.region ?_
            refine RgOK.s (v := VB (false)) rfl rfl rfl (e_as rfl) ?_
            refine RgOK.nil ?_
            show CdOK _ _ _ _ _ _
            refine CdOK.ret ?_
            refine ⟨.inr rfl, _, rfl, h, [⟨[I (x_.id_), I (x_.state), I (x_.last), I (x_.until_), .L 1 (x_.pending.map cI), .L 1 (x_.saves.map cI)], true, true⟩], _, rfl, rfl, hC, ((renFlV rfl) : RenV _ _ _ _ (VB (false))), ?_⟩
            have hr := hm.ret
            subst hr
            exact ⟨rfl, rfl⟩
          · intro c10; replace hm := hm.ifn c10
            refine RgOK.s (v := VB (false)) rfl rfl rfl (e_pick (t := false) (ev_t rfl) (ev_t rfl)) ?_
            refine RgOK.s (v := VB (false)) rfl rfl rfl (e_mv (ev_t rfl)) ?_
            refine RgOK.s (v := .o (.c (.ptr (h.length + 0) 2))) rfl rfl rfl (e_fa' fa108_2 (ev_t rfl)) ?_
            refine RgOK.s (v := VI (x_.last)) rfl rfl rfl (e_ldb1 (ev_t rfl) ty3 (bx rfl rfl) rfl) ?_
            refine RgOK.sd rfl rfl rfl (e_bin (ev_t rfl) rfl rfl rfl) ?_ ?_
            · intro c11; replace hm := hm.ifp c11
              refine RgOK.s (v := VB (true)) rfl rfl rfl (e_pick (t := false) (ev_t rfl) (ev_t rfl)) ?_
              refine RgOK.s (v := VB (true)) rfl rfl rfl (e_mv (ev_t rfl)) ?_
              refine RgOK.sk rfl rfl rfl ?_
              refine RgOK.sk rfl rfl rfl ?_
              refine RgOK.sk rfl rfl rfl ?_
              refine RgOK.sk rfl rfl rfl ?_
              refine RgOK.s (v := VB (true)) rfl rfl rfl (e_pick (t := true) (ev_t rfl) rfl) ?_
              refine RgOK.s (v := VB (true)) rfl rfl rfl (e_mv (ev_t rfl)) ?_
              refine RgOK.sk rfl rfl rfl ?_
              refine RgOK.sk rfl rfl rfl ?_
              refine RgOK.sk rfl rfl rfl ?_
              refine RgOK.sk rfl rfl rfl ?_
              refine RgOK.s (v := VB (true)) rfl rfl rfl (e_pick (t := true) (ev_t rfl) rfl) ?_
              refine RgOK.nil ?_
              show CdOK _ _ _ _ _ _
              refine CdOK.cond_true rfl ?_
              refine CdOK.seq ?_
              refine CdOK.region ?_
              refine RgOK.s (v := VB (false)) rfl rfl rfl (e_as rfl) ?_
              refine RgOK.nil ?_
              show CdOK _ _ _ _ _ _
              refine CdOK.ret ?_
              refine ⟨.inr rfl, _, rfl, h, [⟨[I (x_.id_), I (x_.state), I (x_.last), I (x_.until_), .L 1 (x_.pending.map cI), .L 1 (x_.saves.map cI)], true, true⟩], _, rfl, rfl, hC, ((renFlV rfl) : RenV _ _ _ _ (VB (false))), ?_⟩
              have hr := hm.ret
              subst hr
              exact ⟨rfl, rfl⟩
            · intro c12; replace hm := hm.ifn c12
              refine RgOK.s (v := VB (false)) rfl rfl rfl (e_pick (t := false) (ev_t rfl) (ev_t rfl)) ?_
              refine RgOK.s (v := VB (false)) rfl rfl rfl (e_mv (ev_t rfl)) ?_
              refine RgOK.s (v := .o (.c (.ptr (h.length + 0) 4))) rfl rfl rfl (e_fa' fa108_4 (ev_t rfl)) ?_
              refine RgOK.s (v := .o (.c (.L 1 (x_.pending.map cI)))) rfl rfl rfl (e_ldb1 (ev_t rfl) ty27 (bx rfl rfl) rfl) ?_
              refine RgOK.s (v := VI ((x_.pending.length : Int))) rfl rfl rfl (e_lenM (ev_t rfl) is27) ?_
              refine RgOK.sd rfl rfl rfl (e_bin (ev_t rfl) rfl rfl rfl) ?_ ?_
              · intro c13; replace hm := hm.ifp c13
                refine RgOK.s (v := VB (true)) rfl rfl rfl (e_pick (t := false) (ev_t rfl) (ev_t rfl)) ?_
                refine RgOK.s (v := VB (true)) rfl rfl rfl (e_mv (ev_t rfl)) ?_
                refine RgOK.sk rfl rfl rfl ?_
                refine RgOK.sk rfl rfl rfl ?_
                refine RgOK.sk rfl rfl rfl ?_
                refine RgOK.sk rfl rfl rfl ?_
                refine RgOK.s (v := VB (true)) rfl rfl rfl (e_pick (t := true) (ev_t rfl) rfl) ?_
                refine RgOK.nil ?_
                show CdOK _ _ _ _ _ _
                refine CdOK.cond_true rfl ?_
                refine CdOK.seq ?_
                refine CdOK.region ?_
                refine RgOK.s (v := VB (false)) rfl rfl rfl (e_as rfl) ?_
                refine RgOK.nil ?_
                show CdOK _ _ _ _ _ _
                refine CdOK.ret ?_
                refine ⟨.inr rfl, _, rfl, h, [⟨[I (x_.id_), I (x_.state), I (x_.last), I (x_.until_), .L 1 (x_.pending.map cI), .L 1 (x_.saves.map cI)], true, true⟩], _, rfl, rfl, hC, ((renFlV rfl) : RenV _ _ _ _ (VB (false))), ?_⟩
                have hr := hm.ret
                subst hr
                exact ⟨rfl, rfl⟩
              · intro c14; replace hm := hm.ifn c14
                refine RgOK.s (v := VB (false)) rfl rfl rfl (e_pick (t := false) (ev_t rfl) (ev_t rfl)) ?_
                refine RgOK.s (v := VB (false)) rfl rfl rfl (e_mv (ev_t rfl)) ?_
                refine RgOK.s (v := .o (.c (.ptr (h.length + 0) 5))) rfl rfl rfl (e_fa' fa108_5 (ev_t rfl)) ?_
                refine RgOK.s (v := .o (.c (.L 1 (x_.saves.map cI)))) rfl rfl rfl (e_ldb1 (ev_t rfl) ty27 (bx rfl rfl) rfl) ?_
                refine RgOK.s (v := VI ((x_.saves.length : Int))) rfl rfl rfl (e_lenM (ev_t rfl) is27) ?_
                refine RgOK.s (v := VB (decide (8 < (x_.saves.length : Int)))) rfl rfl rfl (e_bin (ev_t rfl) rfl rfl rfl) ?_
                refine RgOK.s (v := VB (decide (8 < (x_.saves.length : Int)))) rfl rfl rfl (e_pick (t := false) (ev_t rfl) (ev_t rfl)) ?_
                refine RgOK.nil ?_
                show CdOK _ _ _ _ _ _
                refine CdOK.condD (ev_t rfl) ?_ ?_
                · intro c15; replace hm := hm.ifp c15
                  refine CdOK.seq ?_
                  refine CdOK.region ?_
                  refine RgOK.s (v := VB (false)) rfl rfl rfl (e_as rfl) ?_
                  refine RgOK.nil ?_
                  show CdOK _ _ _ _ _ _
                  refine CdOK.ret ?_
                  refine ⟨.inr rfl, _, rfl, h, [⟨[I (x_.id_), I (x_.state), I (x_.last), I (x_.until_), .L 1 (x_.pending.map cI), .L 1 (x_.saves.map cI)], true, true⟩], _, rfl, rfl, hC, ((renFlV rfl) : RenV _ _ _ _ (VB (false))), ?_⟩
                  have hr := hm.ret
                  subst hr
                  exact ⟨rfl, rfl⟩
                · intro c16; replace hm := hm.ifn c16
                  refine CdOK.skip ?_
                  show CdOK _ _ _ _ _ _
                  replace hm := hm.bnd
                  refine CdOK.joinE (σ := Unit) (fun s => Sum.inl ()) hm (fun s => [(1, .o (.c (.ptr (h.length + 0) 0)))]) (fun s => h ++ ([⟨[I (x_.id_), I (x_.state), I (x_.last), I (x_.until_), .L 1 (x_.pending.map cI), .L 1 (x_.saves.map cI)], true, true⟩] : Heap)) ?_ ?_
                  · intro hm
                    refine CdOK.seq ?_
                    refine CdOK.region ?_
                    refine RgOK.s (v := .o (.c (.ptr (h.length + 0) 3))) rfl rfl rfl (e_fa' fa108_3 (ev_t rfl)) ?_
                    refine RgOK.s (v := VI (x_.until_)) rfl rfl rfl (e_ldb1 (ev_t rfl) ty3 (bx rfl rfl) rfl) ?_
                    refine RgOK.sd rfl rfl rfl (e_bin (ev_t rfl) rfl rfl rfl) ?_ ?_
                    · intro c17; replace hm := hm.ifp c17
                      refine RgOK.s (v := VB (true)) rfl rfl rfl (e_mv (ev_t rfl)) ?_
                      refine RgOK.sk rfl rfl rfl ?_
                      refine RgOK.sk rfl rfl rfl ?_
                      refine RgOK.sk rfl rfl rfl ?_
                      refine RgOK.sk rfl rfl rfl ?_
                      refine RgOK.sk rfl rfl rfl ?_
                      refine RgOK.s (v := VB (true)) rfl rfl rfl (e_pick (t := true) (ev_t rfl) rfl) ?_
                      refine RgOK.s (v := VB (true)) rfl rfl rfl (e_mv (ev_t rfl)) ?_
                      refine RgOK.sk rfl rfl rfl ?_
                      refine RgOK.sk rfl rfl rfl ?_
                      refine RgOK.sk rfl rfl rfl ?_
                      refine RgOK.sk rfl rfl rfl ?_
                      refine RgOK.sk rfl rfl rfl ?_
                      refine RgOK.sk rfl rfl rfl ?_
                      refine RgOK.sk rfl rfl rfl ?_
                      refine RgOK.sk rfl rfl rfl ?_
                      refine RgOK.s (v := VB (true)) rfl rfl rfl (e_pick (t := true) (ev_t rfl) rfl) ?_
                      refine RgOK.nil ?_
                      show CdOK _ _ _ _ _ _
                      refine CdOK.cond_true rfl ?_
                      refine CdOK.seq ?_
                      refine CdOK.region ?_
                      refine RgOK.s (v := VB (false)) rfl rfl rfl (e_as rfl) ?_
                      refine RgOK.nil ?_
                      show CdOK _ _ _ _ _ _
                      refine CdOK.ret ?_
                      refine ⟨.inr rfl, _, rfl, h, [⟨[I (x_.id_), I (x_.state), I (x_.last), I (x_.until_), .L 1 (x_.pending.map cI), .L 1 (x_.saves.map cI)], true, true⟩], _, rfl, rfl, hC, ((renFlV rfl) : RenV _ _ _ _ (VB (false))), ?_⟩
                      have hr := hm.ret
                      replace hr := Ev.ret hr
                      subst hr
                      exact ⟨rfl, rfl⟩
                    · intro c18; replace hm := hm.ifn c18
                      refine RgOK.s (v := VB (false)) rfl rfl rfl (e_mv (ev_t rfl)) ?_
                      refine RgOK.s (v := .o (.c (.ptr (h.length + 0) 3))) rfl rfl rfl (e_fa' fa108_3 (ev_t rfl)) ?_
                      refine RgOK.s (v := VI (x_.until_)) rfl rfl rfl (e_ldb1 (ev_t rfl) ty3 (bx rfl rfl) rfl) ?_
                      refine RgOK.s (v := .o (.c (.ptr (h.length + 0) 2))) rfl rfl rfl (e_fa' fa108_2 (ev_t rfl)) ?_
                      refine RgOK.s (v := VI (x_.last)) rfl rfl rfl (e_ldb1 (ev_t rfl) ty3 (bx rfl rfl) rfl) ?_
                      refine RgOK.sd rfl rfl rfl (e_bin (ev_t rfl) (ev_t rfl) rfl rfl) ?_ ?_
                      · intro c19; replace hm := hm.ifp c19
                        refine RgOK.s (v := VB (true)) rfl rfl rfl (e_pick (t := false) (ev_t rfl) (ev_t rfl)) ?_
                        refine RgOK.s (v := VB (true)) rfl rfl rfl (e_mv (ev_t rfl)) ?_
                        refine RgOK.sk rfl rfl rfl ?_
                        refine RgOK.sk rfl rfl rfl ?_
                        refine RgOK.sk rfl rfl rfl ?_
                        refine RgOK.sk rfl rfl rfl ?_
                        refine RgOK.sk rfl rfl rfl ?_
                        refine RgOK.sk rfl rfl rfl ?_
                        refine RgOK.sk rfl rfl rfl ?_
                        refine RgOK.sk rfl rfl rfl ?_
                        refine RgOK.s (v := VB (true)) rfl rfl rfl (e_pick (t := true) (ev_t rfl) rfl) ?_
                        refine RgOK.nil ?_
                        show CdOK _ _ _ _ _ _
                        refine CdOK.cond_true rfl ?_
                        refine CdOK.seq ?_
                        refine CdOK.region ?_
                        refine RgOK.s (v := VB (false)) rfl rfl rfl (e_as rfl) ?_
                        refine RgOK.nil ?_
                        show CdOK _ _ _ _ _ _
                        refine CdOK.ret ?_
                        refine ⟨.inr rfl, _, rfl, h, [⟨[I (x_.id_), I (x_.state), I (x_.last), I (x_.until_), .L 1 (x_.pending.map cI), .L 1 (x_.saves.map cI)], true, true⟩], _, rfl, rfl, hC, ((renFlV rfl) : RenV _ _ _ _ (VB (false))), ?_⟩
                        have hr := hm.ret
                        replace hr := Ev.ret hr
                        subst hr
                        exact ⟨rfl, rfl⟩
                      · intro c20; replace hm := hm.ifn c20
                        refine RgOK.s (v := VB (false)) rfl rfl rfl (e_pick (t := false) (ev_t rfl) (ev_t rfl)) ?_
                        refine RgOK.s (v := VB (false)) rfl rfl rfl (e_mv (ev_t rfl)) ?_
                        refine RgOK.s (v := .o (.c (.ptr (h.length + 0) 1))) rfl rfl rfl (e_fa' fa108_1 (ev_t rfl)) ?_
                        refine RgOK.s (v := VI (x_.state)) rfl rfl rfl (e_ldb1 (ev_t rfl) ty3 (bx rfl rfl) rfl) ?_
                        refine RgOK.sd rfl rfl rfl (e_neK (ev_t rfl) rfl) ?_ ?_
                        · intro c21; replace hm := hm.ifp c21
                          refine RgOK.s (v := VB (true)) rfl rfl rfl (e_mv (ev_t rfl)) ?_
                          refine RgOK.s (v := .o (.c (.ptr (h.length + 0) 3))) rfl rfl rfl (e_fa' fa108_3 (ev_t rfl)) ?_
                          refine RgOK.s (v := VI (x_.until_)) rfl rfl rfl (e_ldb1 (ev_t rfl) ty3 (bx rfl rfl) rfl) ?_
                          refine RgOK.s (v := VB (decide (x_.until_ ≠ 0))) rfl rfl rfl (e_neK (ev_t rfl) rfl) ?_
                          refine RgOK.s (v := VB (decide (x_.until_ ≠ 0))) rfl rfl rfl (e_pick (t := true) (ev_t rfl) (ev_t rfl)) ?_
                          refine RgOK.s (v := VB (decide (x_.until_ ≠ 0))) rfl rfl rfl (e_pick (t := false) (ev_t rfl) (ev_t rfl)) ?_
                          refine RgOK.nil ?_
                          show CdOK _ _ _ _ _ _
                          refine CdOK.condD (ev_t rfl) ?_ ?_
                          · intro c22; replace hm := hm.ifp c22
                            refine CdOK.seq ?_
                            refine CdOK.region ?_
                            refine RgOK.s (v := VB (false)) rfl rfl rfl (e_as rfl) ?_
                            refine RgOK.nil ?_
                            show CdOK _ _ _ _ _ _
                            refine CdOK.ret ?_
                            refine ⟨.inr rfl, _, rfl, h, [⟨[I (x_.id_), I (x_.state), I (x_.last), I (x_.until_), .L 1 (x_.pending.map cI), .L 1 (x_.saves.map cI)], true, true⟩], _, rfl, rfl, hC, ((renFlV rfl) : RenV _ _ _ _ (VB (false))), ?_⟩
                            have hr := hm.ret
                            replace hr := Ev.ret hr
                            subst hr
                            exact ⟨rfl, rfl⟩
                          · intro c23; replace hm := hm.ifn c23
                            refine CdOK.skip ?_
                            refine Told.id ?_
                            exact ⟨(), hm.ret, (.cons rfl .nil), rfl⟩
                        · intro c24; replace hm := hm.ifn c24
                          refine RgOK.s (v := VB (false)) rfl rfl rfl (e_mv (ev_t rfl)) ?_
                          refine RgOK.sk rfl rfl rfl ?_
                          refine RgOK.sk rfl rfl rfl ?_
                          refine RgOK.sk rfl rfl rfl ?_
                          refine RgOK.s (v := VB (false)) rfl rfl rfl (e_pick (t := false) (ev_t rfl) rfl) ?_
                          refine RgOK.s (v := VB (false)) rfl rfl rfl (e_pick (t := false) (ev_t rfl) (ev_t rfl)) ?_
                          refine RgOK.nil ?_
                          show CdOK _ _ _ _ _ _
                          refine CdOK.cond_false rfl ?_
                          refine CdOK.skip ?_
                          refine Told.id ?_
                          exact ⟨(), hm.ret, (.cons rfl .nil), rfl⟩
                  · intro _ T0 hm
                    show CdOK _ _ _ (look T0 [(1, .o (.c (.ptr (h.length + 0) 0)))]) (h ++ ([⟨[I (x_.id_), I (x_.state), I (x_.last), I (x_.until_), .L 1 (x_.pending.map cI), .L 1 (x_.saves.map cI)], true, true⟩] : Heap)) _
                    replace hm : Ev _ _ := hm
                    refine CdOK.seq ?_
                    refine CdOK.seq ?_
                    refine CdOK.region ?_
                    refine RgOK.s (v := VI (0)) rfl rfl rfl (e_as rfl) ?_
                    refine RgOK.nil ?_
                    show CdOK _ _ _ _ _ _
                    replace hm := hm.bnd
                    refine CdOK.joinT (σ := Unit) (fun s => Sum.inl ()) hm (fun s => [(1, .o (.c (.ptr (h.length + 0) 0)))]) (fun s => h ++ ([⟨[I (x_.id_), I (x_.state), I (x_.last), I (x_.until_), .L 1 (x_.pending.map cI), .L 1 (x_.saves.map cI)], true, true⟩] : Heap)) ?_ ?_
                    · intro hm
                      refine CdOK.block ?_
                      refine CdOK.loopE (σ := Int) (fun k s => Ev (ref12_valid1.l1 x_ k s) _) (fun s => [(1, .o (.c (.ptr (h.length + 0) 0))), (3, VI (s))]) (fun s => h ++ ([⟨[I (x_.id_), I (x_.state), I (x_.last), I (x_.until_), .L 1 (x_.pending.map cI), .L 1 (x_.saves.map cI)], true, true⟩] : Heap)) FU 0 hm (.cons rfl (.cons rfl .nil)) rfl ?_
                      rintro kk27 i26 T0 hm
                      replace hm : Ev (ref12_valid1.l1 x_ kk27 i26) _ := hm
                      cases kk27 with
                      | zero => exact (Ev.non hm).elim
                      | succ kk27 =>
                      rw [ref12_valid1.l1_s] at hm
                      show CdOK _ _ _ (look T0 [(1, .o (.c (.ptr (h.length + 0) 0))), (3, VI (i26))]) (h ++ ([⟨[I (x_.id_), I (x_.state), I (x_.last), I (x_.until_), .L 1 (x_.pending.map cI), .L 1 (x_.saves.map cI)], true, true⟩] : Heap)) _
                      refine CdOK.seq ?_
                      refine CdOK.seq ?_
                      refine CdOK.region ?_
                      refine RgOK.s (v := VI (i26)) rfl rfl rfl (e_mv (ev_t rfl)) ?_
                      refine RgOK.s (v := .o (.c (.ptr (h.length + 0) 4))) rfl rfl rfl (e_fa' fa108_4 (ev_t rfl)) ?_
                      refine RgOK.s (v := .o (.c (.L 1 (x_.pending.map cI)))) rfl rfl rfl (e_ldb1 (ev_t rfl) ty27 (bx rfl rfl) rfl) ?_
                      refine RgOK.s (v := VI ((x_.pending.length : Int))) rfl rfl rfl (e_lenM (ev_t rfl) is27) ?_
                      refine RgOK.s (v := VB (decide (i26 < (x_.pending.length : Int)))) rfl rfl rfl (e_bin (ev_t rfl) (ev_t rfl) rfl rfl) ?_
                      refine RgOK.nil ?_
                      show CdOK _ _ _ _ _ _
                      refine CdOK.condD (ev_t rfl) ?_ ?_
                      · intro c28; replace hm := hm.ifp c28
                        refine CdOK.skip ?_
                        show CdOK _ _ _ _ _ _
                        refine CdOK.seq ?_
                        refine CdOK.block ?_
                        refine CdOK.seq ?_
                        refine CdOK.draw fol (by decide +kernel) ?_
                        refine DrOK.s (v := .o (.c (.ptr (h.length + 0) 4))) rfl rfl rfl (e_fa' fa108_4 (ev_t rfl)) ?_
                        refine DrOK.s (v := .o (.c (.L 1 (x_.pending.map cI)))) rfl rfl rfl (e_ldb1 (ev_t rfl) ty27 (bx rfl rfl) rfl) ?_
                        refine DrOK.s (v := VI (i26)) rfl rfl rfl (e_mv (ev_t rfl)) ?_
                        obtain ⟨c29, hm⟩ := hm.ifs
                        refine DrOK.s (v := .o (.c (.rp [I ((gd x_.pending i26))]))) rfl rfl rfl (e_ixM (f := cI) (l := x_.pending) (i := i26) (ev_t rfl) (ev_t rfl) el27 c29) ?_
                        refine DrOK.s (v := VI ((gd x_.pending i26))) rfl rfl rfl (e_ldR1 (ev_t rfl) ty3 rfl) ?_
                        refine DrOK.sd rfl rfl rfl (e_bin (ev_t rfl) rfl rfl rfl) ?_ ?_
                        · intro c30; replace hm := hm.ifp c30
                          refine DrOK.s (v := VB (true)) rfl rfl rfl (e_mv (ev_t rfl)) ?_
                          refine DrOK.sk rfl rfl rfl ?_
                          refine DrOK.sk rfl rfl rfl ?_
                          refine DrOK.sk rfl rfl rfl ?_
                          refine DrOK.sk rfl rfl rfl ?_
                          refine DrOK.sk rfl rfl rfl ?_
                          refine DrOK.sk rfl rfl rfl ?_
                          refine DrOK.sk rfl rfl rfl ?_
                          refine DrOK.sk rfl rfl rfl ?_
                          refine DrOK.s (v := VB (true)) rfl rfl rfl (e_pick (t := true) (ev_t rfl) rfl) ?_
                          refine DrOK.s (v := VB (true)) rfl rfl rfl (e_mv (ev_t rfl)) ?_
                          refine DrOK.sk rfl rfl rfl ?_
                          refine DrOK.sk rfl rfl rfl ?_
                          refine DrOK.sk rfl rfl rfl ?_
                          refine DrOK.sk rfl rfl rfl ?_
                          refine DrOK.sk rfl rfl rfl ?_
                          refine DrOK.sk rfl rfl rfl ?_
                          refine DrOK.sk rfl rfl rfl ?_
                          refine DrOK.sk rfl rfl rfl ?_
                          refine DrOK.sk rfl rfl rfl ?_
                          refine DrOK.sk rfl rfl rfl ?_
                          refine DrOK.sk rfl rfl rfl ?_
                          refine DrOK.sk rfl rfl rfl ?_
                          refine DrOK.sk rfl rfl rfl ?_
                          refine DrOK.sk rfl rfl rfl ?_
                          refine DrOK.sk rfl rfl rfl ?_
                          refine DrOK.sk rfl rfl rfl ?_
                          refine DrOK.s (v := VB (true)) rfl rfl rfl (e_pick (t := true) (ev_t rfl) rfl) ?_
                          refine DrOK.nil ?_
                          show CdOK _ _ _ _ _ _
                          refine CdOK.cond_true rfl ?_
                          refine CdOK.seq ?_
                          refine CdOK.region ?_
                          refine RgOK.s (v := VB (false)) rfl rfl rfl (e_as rfl) ?_
                          refine RgOK.nil ?_
                          show CdOK _ _ _ _ _ _
                          refine CdOK.ret ?_
                          refine ⟨.inr rfl, _, rfl, h, [⟨[I (x_.id_), I (x_.state), I (x_.last), I (x_.until_), .L 1 (x_.pending.map cI), .L 1 (x_.saves.map cI)], true, true⟩], _, rfl, rfl, hC, ((renFlV rfl) : RenV _ _ _ _ (VB (false))), ?_⟩
                          have hr := hm.ret
                          replace hr := Ev.ret hr
                          subst hr
                          exact ⟨rfl, rfl⟩
                        · intro c31; replace hm := hm.ifn c31
                          refine DrOK.s (v := VB (false)) rfl rfl rfl (e_mv (ev_t rfl)) ?_
                          refine DrOK.s (v := .o (.c (.ptr (h.length + 0) 4))) rfl rfl rfl (e_fa' fa108_4 (ev_t rfl)) ?_
                          refine DrOK.s (v := .o (.c (.L 1 (x_.pending.map cI)))) rfl rfl rfl (e_ldb1 (ev_t rfl) ty27 (bx rfl rfl) rfl) ?_
                          refine DrOK.s (v := VI (i26)) rfl rfl rfl (e_mv (ev_t rfl)) ?_
                          obtain ⟨c32, hm⟩ := hm.ifs
                          refine DrOK.s (v := .o (.c (.rp [I ((gd x_.pending i26))]))) rfl rfl rfl (e_ixM (f := cI) (l := x_.pending) (i := i26) (ev_t rfl) (ev_t rfl) el27 c32) ?_
                          refine DrOK.s (v := VI ((gd x_.pending i26))) rfl rfl rfl (e_ldR1 (ev_t rfl) ty3 rfl) ?_
                          refine DrOK.s (v := .o (.c (.ptr (h.length + 0) 2))) rfl rfl rfl (e_fa' fa108_2 (ev_t rfl)) ?_
                          refine DrOK.s (v := VI (x_.last)) rfl rfl rfl (e_ldb1 (ev_t rfl) ty3 (bx rfl rfl) rfl) ?_
                          refine DrOK.sd rfl rfl rfl (e_bin (ev_t rfl) (ev_t rfl) rfl rfl) ?_ ?_
                          · intro c33; replace hm := hm.ifp c33
                            refine DrOK.s (v := VB (true)) rfl rfl rfl (e_pick (t := false) (ev_t rfl) (ev_t rfl)) ?_
                            refine DrOK.s (v := VB (true)) rfl rfl rfl (e_mv (ev_t rfl)) ?_
                            refine DrOK.sk rfl rfl rfl ?_
                            refine DrOK.sk rfl rfl rfl ?_
                            refine DrOK.sk rfl rfl rfl ?_
                            refine DrOK.sk rfl rfl rfl ?_
                            refine DrOK.sk rfl rfl rfl ?_
                            refine DrOK.sk rfl rfl rfl ?_
                            refine DrOK.sk rfl rfl rfl ?_
                            refine DrOK.sk rfl rfl rfl ?_
                            refine DrOK.sk rfl rfl rfl ?_
                            refine DrOK.sk rfl rfl rfl ?_
                            refine DrOK.sk rfl rfl rfl ?_
                            refine DrOK.sk rfl rfl rfl ?_
                            refine DrOK.sk rfl rfl rfl ?_
                            refine DrOK.sk rfl rfl rfl ?_
                            refine DrOK.sk rfl rfl rfl ?_
                            refine DrOK.sk rfl rfl rfl ?_
                            refine DrOK.s (v := VB (true)) rfl rfl rfl (e_pick (t := true) (ev_t rfl) rfl) ?_
                            refine DrOK.nil ?_
                            show CdOK _ _ _ _ _ _
                            refine CdOK.cond_true rfl ?_
                            refine CdOK.seq ?_
                            refine CdOK.region ?_
                            refine RgOK.s (v := VB (false)) rfl rfl rfl (e_as rfl) ?_
                            refine RgOK.nil ?_
                            show CdOK _ _ _ _ _ _
                            refine CdOK.ret ?_
                            refine ⟨.inr rfl, _, rfl, h, [⟨[I (x_.id_), I (x_.state), I (x_.last), I (x_.until_), .L 1 (x_.pending.map cI), .L 1 (x_.saves.map cI)], true, true⟩], _, rfl, rfl, hC, ((renFlV rfl) : RenV _ _ _ _ (VB (false))), ?_⟩
                            have hr := hm.ret
                            replace hr := Ev.ret hr
                            subst hr
                            exact ⟨rfl, rfl⟩
                          · intro c34; replace hm := hm.ifn c34
                            refine DrOK.s (v := VB (false)) rfl rfl rfl (e_pick (t := false) (ev_t rfl) (ev_t rfl)) ?_
                            refine DrOK.s (v := VB (false)) rfl rfl rfl (e_mv (ev_t rfl)) ?_
                            refine DrOK.s (v := VI (i26)) rfl rfl rfl (e_mv (ev_t rfl)) ?_
                            refine DrOK.sd rfl rfl rfl (e_bin (ev_t rfl) rfl rfl rfl) ?_ ?_
                            · intro c35; replace hm := hm.ifp c35
                              refine DrOK.s (v := VB (true)) rfl rfl rfl (e_mv (ev_t rfl)) ?_
                              refine DrOK.s (v := .o (.c (.ptr (h.length + 0) 4))) rfl rfl rfl (e_fa' fa108_4 (ev_t rfl)) ?_
                              refine DrOK.s (v := .o (.c (.L 1 (x_.pending.map cI)))) rfl rfl rfl (e_ldb1 (ev_t rfl) ty27 (bx rfl rfl) rfl) ?_
                              refine DrOK.s (v := VI (i26)) rfl rfl rfl (e_mv (ev_t rfl)) ?_
                              refine DrOK.s (v := VI ((w64 (i26 - 1)))) rfl rfl rfl (e_bin (ev_t rfl) rfl rfl rfl) ?_
                              obtain ⟨c36, hm⟩ := hm.ifs
                              refine DrOK.s (v := .o (.c (.rp [I ((gd x_.pending (w64 (i26 - 1))))]))) rfl rfl rfl (e_ixM (f := cI) (l := x_.pending) (i := (w64 (i26 - 1))) (ev_t rfl) (ev_t rfl) el27 c36) ?_
                              refine DrOK.s (v := VI ((gd x_.pending (w64 (i26 - 1))))) rfl rfl rfl (e_ldR1 (ev_t rfl) ty3 rfl) ?_
                              refine DrOK.s (v := .o (.c (.ptr (h.length + 0) 4))) rfl rfl rfl (e_fa' fa108_4 (ev_t rfl)) ?_
                              refine DrOK.s (v := .o (.c (.L 1 (x_.pending.map cI)))) rfl rfl rfl (e_ldb1 (ev_t rfl) ty27 (bx rfl rfl) rfl) ?_
                              refine DrOK.s (v := VI (i26)) rfl rfl rfl (e_mv (ev_t rfl)) ?_
                              obtain ⟨c37, hm⟩ := hm.ifs
                              refine DrOK.s (v := .o (.c (.rp [I ((gd x_.pending i26))]))) rfl rfl rfl (e_ixM (f := cI) (l := x_.pending) (i := i26) (ev_t rfl) (ev_t rfl) el27 c37) ?_
                              refine DrOK.s (v := VI ((gd x_.pending i26))) rfl rfl rfl (e_ldR1 (ev_t rfl) ty3 rfl) ?_
                              refine DrOK.s (v := VB (decide ((gd x_.pending i26) ≤ (gd x_.pending (w64 (i26 - 1)))))) rfl rfl rfl (e_bin (ev_t rfl) (ev_t rfl) rfl rfl) ?_
                              refine DrOK.s (v := VB (decide ((gd x_.pending i26) ≤ (gd x_.pending (w64 (i26 - 1)))))) rfl rfl rfl (e_pick (t := true) (ev_t rfl) (ev_t rfl)) ?_
                              refine DrOK.s (v := VB (decide ((gd x_.pending i26) ≤ (gd x_.pending (w64 (i26 - 1)))))) rfl rfl rfl (e_pick (t := false) (ev_t rfl) (ev_t rfl)) ?_
                              refine DrOK.nil ?_
                              show CdOK _ _ _ _ _ _
                              refine CdOK.condD (ev_t rfl) ?_ ?_
                              · intro c38; replace hm := hm.ifp c38
                                refine CdOK.seq ?_
                                refine CdOK.region ?_
                                refine RgOK.s (v := VB (false)) rfl rfl rfl (e_as rfl) ?_
                                refine RgOK.nil ?_
                                show CdOK _ _ _ _ _ _
                                refine CdOK.ret ?_
                                refine ⟨.inr rfl, _, rfl, h, [⟨[I (x_.id_), I (x_.state), I (x_.last), I (x_.until_), .L 1 (x_.pending.map cI), .L 1 (x_.saves.map cI)], true, true⟩], _, rfl, rfl, hC, ((renFlV rfl) : RenV _ _ _ _ (VB (false))), ?_⟩
                                have hr := hm.ret
                                replace hr := Ev.ret hr
                                subst hr
                                exact ⟨rfl, rfl⟩
                              · intro c39; replace hm := hm.ifn c39
                                refine CdOK.skip ?_
                                show CdOK _ _ _ _ _ _
                                refine CdOK.region ?_
                                refine RgOK.s (v := VI (i26)) rfl rfl rfl (e_mv (ev_t rfl)) ?_
                                refine RgOK.s (v := VI ((w64 (i26 + 1)))) rfl rfl rfl (e_bin (ev_t rfl) rfl rfl rfl) ?_
                                refine RgOK.s (v := VI ((w64 (i26 + 1)))) rfl rfl rfl (e_as (ev_t rfl)) ?_
                                refine RgOK.nil ?_
                                refine Told.id ?_
                                exact ⟨_, (w64 (i26 + 1)), Nat.lt_succ_self _, hm, (.cons rfl (.cons rfl .nil)), rfl⟩
                            · intro c40; replace hm := hm.ifn c40
                              refine DrOK.s (v := VB (false)) rfl rfl rfl (e_mv (ev_t rfl)) ?_
                              refine DrOK.sk rfl rfl rfl ?_
                              refine DrOK.sk rfl rfl rfl ?_
                              refine DrOK.sk rfl rfl rfl ?_
                              refine DrOK.sk rfl rfl rfl ?_
                              refine DrOK.sk rfl rfl rfl ?_
                              refine DrOK.sk rfl rfl rfl ?_
                              refine DrOK.sk rfl rfl rfl ?_
                              refine DrOK.sk rfl rfl rfl ?_
                              refine DrOK.sk rfl rfl rfl ?_
                              refine DrOK.sk rfl rfl rfl ?_
                              refine DrOK.sk rfl rfl rfl ?_
                              refine DrOK.sk rfl rfl rfl ?_
                              refine DrOK.s (v := VB (false)) rfl rfl rfl (e_pick (t := false) (ev_t rfl) rfl) ?_
                              refine DrOK.s (v := VB (false)) rfl rfl rfl (e_pick (t := false) (ev_t rfl) (ev_t rfl)) ?_
                              refine DrOK.nil ?_
                              show CdOK _ _ _ _ _ _
                              refine CdOK.cond_false rfl ?_
                              refine CdOK.skip ?_
                              show CdOK _ _ _ _ _ _
                              refine CdOK.region ?_
                              refine RgOK.s (v := VI (i26)) rfl rfl rfl (e_mv (ev_t rfl)) ?_
                              refine RgOK.s (v := VI ((w64 (i26 + 1)))) rfl rfl rfl (e_bin (ev_t rfl) rfl rfl rfl) ?_
                              refine RgOK.s (v := VI ((w64 (i26 + 1)))) rfl rfl rfl (e_as (ev_t rfl)) ?_
                              refine RgOK.nil ?_
                              refine Told.id ?_
                              exact ⟨_, (w64 (i26 + 1)), Nat.lt_succ_self _, hm, (.cons rfl (.cons rfl .nil)), rfl⟩
                      · intro c41; replace hm := hm.ifn c41
                        refine CdOK.exit ?_
                        refine Told.id ?_
                        exact ⟨(), hm.ret, (.cons rfl .nil), rfl⟩
                    · intro _ T0 hm
                      show CdOK _ _ _ _ _ _
                      refine CdOK.seq ?_
                      refine CdOK.seq ?_
                      refine CdOK.region ?_
                      refine RgOK.s (v := VI (0)) rfl rfl rfl (e_as rfl) ?_
                      refine RgOK.nil ?_
                      show CdOK _ _ _ _ _ _
                      replace hm := hm.bnd
                      refine CdOK.joinT (σ := Unit) (fun s => Sum.inl ()) hm (fun s => []) (fun s => h ++ ([] : Heap)) ?_ ?_
                      · intro hm
                        refine CdOK.block ?_
                        refine CdOK.loopE (σ := Int) (fun k s => Ev (ref12_valid1.l2 x_ k s) _) (fun s => [(1, .o (.c (.ptr (h.length + 0) 0))), (4, VI (s))]) (fun s => h ++ ([⟨[I (x_.id_), I (x_.state), I (x_.last), I (x_.until_), .L 1 (x_.pending.map cI), .L 1 (x_.saves.map cI)], true, true⟩] : Heap)) FU 0 hm (.cons rfl (.cons rfl .nil)) rfl ?_
                        rintro kk44 i43 T0 hm
                        replace hm : Ev (ref12_valid1.l2 x_ kk44 i43) _ := hm
                        cases kk44 with
                        | zero => exact (Ev.non hm).elim
                        | succ kk44 =>
                        rw [ref12_valid1.l2_s] at hm
                        show CdOK _ _ _ (look T0 [(1, .o (.c (.ptr (h.length + 0) 0))), (4, VI (i43))]) (h ++ ([⟨[I (x_.id_), I (x_.state), I (x_.last), I (x_.until_), .L 1 (x_.pending.map cI), .L 1 (x_.saves.map cI)], true, true⟩] : Heap)) _
                        refine CdOK.seq ?_
                        refine CdOK.seq ?_
                        refine CdOK.region ?_
                        refine RgOK.s (v := VI (i43)) rfl rfl rfl (e_mv (ev_t rfl)) ?_
                        refine RgOK.s (v := .o (.c (.ptr (h.length + 0) 5))) rfl rfl rfl (e_fa' fa108_5 (ev_t rfl)) ?_
                        refine RgOK.s (v := .o (.c (.L 1 (x_.saves.map cI)))) rfl rfl rfl (e_ldb1 (ev_t rfl) ty27 (bx rfl rfl) rfl) ?_
                        refine RgOK.s (v := VI ((x_.saves.length : Int))) rfl rfl rfl (e_lenM (ev_t rfl) is27) ?_
                        refine RgOK.s (v := VB (decide (i43 < (x_.saves.length : Int)))) rfl rfl rfl (e_bin (ev_t rfl) (ev_t rfl) rfl rfl) ?_
                        refine RgOK.nil ?_
                        show CdOK _ _ _ _ _ _
                        refine CdOK.condD (ev_t rfl) ?_ ?_
                        · intro c45; replace hm := hm.ifp c45
                          refine CdOK.skip ?_
                          show CdOK _ _ _ _ _ _
                          refine CdOK.seq ?_
                          refine CdOK.block ?_
                          refine CdOK.seq ?_
                          refine CdOK.draw fol (by decide +kernel) ?_
                          refine DrOK.s (v := .o (.c (.ptr (h.length + 0) 5))) rfl rfl rfl (e_fa' fa108_5 (ev_t rfl)) ?_
                          refine DrOK.s (v := .o (.c (.L 1 (x_.saves.map cI)))) rfl rfl rfl (e_ldb1 (ev_t rfl) ty27 (bx rfl rfl) rfl) ?_
                          refine DrOK.s (v := VI (i43)) rfl rfl rfl (e_mv (ev_t rfl)) ?_
                          obtain ⟨c46, hm⟩ := hm.ifs
                          refine DrOK.s (v := .o (.c (.rp [I ((gd x_.saves i43))]))) rfl rfl rfl (e_ixM (f := cI) (l := x_.saves) (i := i43) (ev_t rfl) (ev_t rfl) el27 c46) ?_
                          refine DrOK.s (v := VI ((gd x_.saves i43))) rfl rfl rfl (e_ldR1 (ev_t rfl) ty3 rfl) ?_
                          refine DrOK.sd rfl rfl rfl (e_bin (ev_t rfl) rfl rfl rfl) ?_ ?_
                          · intro c47; replace hm := hm.ifp c47
                            refine DrOK.s (v := VB (true)) rfl rfl rfl (e_mv (ev_t rfl)) ?_
                            refine DrOK.sk rfl rfl rfl ?_
                            refine DrOK.sk rfl rfl rfl ?_
                            refine DrOK.sk rfl rfl rfl ?_
                            refine DrOK.sk rfl rfl rfl ?_
                            refine DrOK.sk rfl rfl rfl ?_
                            refine DrOK.sk rfl rfl rfl ?_
                            refine DrOK.sk rfl rfl rfl ?_
                            refine DrOK.sk rfl rfl rfl ?_
                            refine DrOK.s (v := VB (true)) rfl rfl rfl (e_pick (t := true) (ev_t rfl) rfl) ?_
                            refine DrOK.s (v := VB (true)) rfl rfl rfl (e_mv (ev_t rfl)) ?_
                            refine DrOK.sk rfl rfl rfl ?_
                            refine DrOK.sk rfl rfl rfl ?_
                            refine DrOK.sk rfl rfl rfl ?_
                            refine DrOK.sk rfl rfl rfl ?_
                            refine DrOK.sk rfl rfl rfl ?_
                            refine DrOK.sk rfl rfl rfl ?_
                            refine DrOK.sk rfl rfl rfl ?_
                            refine DrOK.sk rfl rfl rfl ?_
                            refine DrOK.sk rfl rfl rfl ?_
                            refine DrOK.sk rfl rfl rfl ?_
                            refine DrOK.sk rfl rfl rfl ?_
                            refine DrOK.sk rfl rfl rfl ?_
                            refine DrOK.sk rfl rfl rfl ?_
                            refine DrOK.sk rfl rfl rfl ?_
                            refine DrOK.sk rfl rfl rfl ?_
                            refine DrOK.sk rfl rfl rfl ?_
                            refine DrOK.s (v := VB (true)) rfl rfl rfl (e_pick (t := true) (ev_t rfl) rfl) ?_
                            refine DrOK.nil ?_
                            show CdOK _ _ _ _ _ _
                            refine CdOK.cond_true rfl ?_
                            refine CdOK.seq ?_
                            refine CdOK.region ?_
                            refine RgOK.s (v := VB (false)) rfl rfl rfl (e_as rfl) ?_
                            refine RgOK.nil ?_
                            show CdOK _ _ _ _ _ _
                            refine CdOK.ret ?_
                            refine ⟨.inr rfl, _, rfl, h, [⟨[I (x_.id_), I (x_.state), I (x_.last), I (x_.until_), .L 1 (x_.pending.map cI), .L 1 (x_.saves.map cI)], true, true⟩], _, rfl, rfl, hC, ((renFlV rfl) : RenV _ _ _ _ (VB (false))), ?_⟩
                            have hr := hm.ret
                            replace hr := Ev.ret hr
                            subst hr
                            exact ⟨rfl, rfl⟩
                          · intro c48; replace hm := hm.ifn c48
                            refine DrOK.s (v := VB (false)) rfl rfl rfl (e_mv (ev_t rfl)) ?_
                            refine DrOK.s (v := .o (.c (.ptr (h.length + 0) 5))) rfl rfl rfl (e_fa' fa108_5 (ev_t rfl)) ?_
                            refine DrOK.s (v := .o (.c (.L 1 (x_.saves.map cI)))) rfl rfl rfl (e_ldb1 (ev_t rfl) ty27 (bx rfl rfl) rfl) ?_
                            refine DrOK.s (v := VI (i43)) rfl rfl rfl (e_mv (ev_t rfl)) ?_
                            obtain ⟨c49, hm⟩ := hm.ifs
                            refine DrOK.s (v := .o (.c (.rp [I ((gd x_.saves i43))]))) rfl rfl rfl (e_ixM (f := cI) (l := x_.saves) (i := i43) (ev_t rfl) (ev_t rfl) el27 c49) ?_
                            refine DrOK.s (v := VI ((gd x_.saves i43))) rfl rfl rfl (e_ldR1 (ev_t rfl) ty3 rfl) ?_
                            refine DrOK.s (v := .o (.c (.ptr (h.length + 0) 2))) rfl rfl rfl (e_fa' fa108_2 (ev_t rfl)) ?_
                            refine DrOK.s (v := VI (x_.last)) rfl rfl rfl (e_ldb1 (ev_t rfl) ty3 (bx rfl rfl) rfl) ?_
                            refine DrOK.sd rfl rfl rfl (e_bin (ev_t rfl) (ev_t rfl) rfl rfl) ?_ ?_
                            · intro c50; replace hm := hm.ifp c50
                              refine DrOK.s (v := VB (true)) rfl rfl rfl (e_pick (t := false) (ev_t rfl) (ev_t rfl)) ?_
                              refine DrOK.s (v := VB (true)) rfl rfl rfl (e_mv (ev_t rfl)) ?_
                              refine DrOK.sk rfl rfl rfl ?_
                              refine DrOK.sk rfl rfl rfl ?_
                              refine DrOK.sk rfl rfl rfl ?_
                              refine DrOK.sk rfl rfl rfl ?_
                              refine DrOK.sk rfl rfl rfl ?_
                              refine DrOK.sk rfl rfl rfl ?_
                              refine DrOK.sk rfl rfl rfl ?_
                              refine DrOK.sk rfl rfl rfl ?_
                              refine DrOK.sk rfl rfl rfl ?_
                              refine DrOK.sk rfl rfl rfl ?_
                              refine DrOK.sk rfl rfl rfl ?_
                              refine DrOK.sk rfl rfl rfl ?_
                              refine DrOK.sk rfl rfl rfl ?_
                              refine DrOK.sk rfl rfl rfl ?_
                              refine DrOK.sk rfl rfl rfl ?_
                              refine DrOK.sk rfl rfl rfl ?_
                              refine DrOK.s (v := VB (true)) rfl rfl rfl (e_pick (t := true) (ev_t rfl) rfl) ?_
                              refine DrOK.nil ?_
                              show CdOK _ _ _ _ _ _
                              refine CdOK.cond_true rfl ?_
                              refine CdOK.seq ?_
                              refine CdOK.region ?_
                              refine RgOK.s (v := VB (false)) rfl rfl rfl (e_as rfl) ?_
                              refine RgOK.nil ?_
                              show CdOK _ _ _ _ _ _
                              refine CdOK.ret ?_
                              refine ⟨.inr rfl, _, rfl, h, [⟨[I (x_.id_), I (x_.state), I (x_.last), I (x_.until_), .L 1 (x_.pending.map cI), .L 1 (x_.saves.map cI)], true, true⟩], _, rfl, rfl, hC, ((renFlV rfl) : RenV _ _ _ _ (VB (false))), ?_⟩
                              have hr := hm.ret
                              replace hr := Ev.ret hr
                              subst hr
                              exact ⟨rfl, rfl⟩
                            · intro c51; replace hm := hm.ifn c51
                              refine DrOK.s (v := VB (false)) rfl rfl rfl (e_pick (t := false) (ev_t rfl) (ev_t rfl)) ?_
                              refine DrOK.s (v := VB (false)) rfl rfl rfl (e_mv (ev_t rfl)) ?_
                              refine DrOK.s (v := VI (i43)) rfl rfl rfl (e_mv (ev_t rfl)) ?_
                              refine DrOK.sd rfl rfl rfl (e_bin (ev_t rfl) rfl rfl rfl) ?_ ?_
                              · intro c52; replace hm := hm.ifp c52
                                refine DrOK.s (v := VB (true)) rfl rfl rfl (e_mv (ev_t rfl)) ?_
                                refine DrOK.s (v := .o (.c (.ptr (h.length + 0) 5))) rfl rfl rfl (e_fa' fa108_5 (ev_t rfl)) ?_
                                refine DrOK.s (v := .o (.c (.L 1 (x_.saves.map cI)))) rfl rfl rfl (e_ldb1 (ev_t rfl) ty27 (bx rfl rfl) rfl) ?_
                                refine DrOK.s (v := VI (i43)) rfl rfl rfl (e_mv (ev_t rfl)) ?_
                                refine DrOK.s (v := VI ((w64 (i43 - 1)))) rfl rfl rfl (e_bin (ev_t rfl) rfl rfl rfl) ?_
                                obtain ⟨c53, hm⟩ := hm.ifs
                                refine DrOK.s (v := .o (.c (.rp [I ((gd x_.saves (w64 (i43 - 1))))]))) rfl rfl rfl (e_ixM (f := cI) (l := x_.saves) (i := (w64 (i43 - 1))) (ev_t rfl) (ev_t rfl) el27 c53) ?_
                                refine DrOK.s (v := VI ((gd x_.saves (w64 (i43 - 1))))) rfl rfl rfl (e_ldR1 (ev_t rfl) ty3 rfl) ?_
                                refine DrOK.s (v := .o (.c (.ptr (h.length + 0) 5))) rfl rfl rfl (e_fa' fa108_5 (ev_t rfl)) ?_
                                refine DrOK.s (v := .o (.c (.L 1 (x_.saves.map cI)))) rfl rfl rfl (e_ldb1 (ev_t rfl) ty27 (bx rfl rfl) rfl) ?_
                                refine DrOK.s (v := VI (i43)) rfl rfl rfl (e_mv (ev_t rfl)) ?_
                                obtain ⟨c54, hm⟩ := hm.ifs
                                refine DrOK.s (v := .o (.c (.rp [I ((gd x_.saves i43))]))) rfl rfl rfl (e_ixM (f := cI) (l := x_.saves) (i := i43) (ev_t rfl) (ev_t rfl) el27 c54) ?_
                                refine DrOK.s (v := VI ((gd x_.saves i43))) rfl rfl rfl (e_ldR1 (ev_t rfl) ty3 rfl) ?_
                                refine DrOK.s (v := VB (decide ((gd x_.saves i43) < (gd x_.saves (w64 (i43 - 1)))))) rfl rfl rfl (e_bin (ev_t rfl) (ev_t rfl) rfl rfl) ?_
                                refine DrOK.s (v := VB (decide ((gd x_.saves i43) < (gd x_.saves (w64 (i43 - 1)))))) rfl rfl rfl (e_pick (t := true) (ev_t rfl) (ev_t rfl)) ?_
                                refine DrOK.s (v := VB (decide ((gd x_.saves i43) < (gd x_.saves (w64 (i43 - 1)))))) rfl rfl rfl (e_pick (t := false) (ev_t rfl) (ev_t rfl)) ?_
                                refine DrOK.nil ?_
                                show CdOK _ _ _ _ _ _
                                refine CdOK.condD (ev_t rfl) ?_ ?_
                                · intro c55; replace hm := hm.ifp c55
                                  refine CdOK.seq ?_
                                  refine CdOK.region ?_
                                  refine RgOK.s (v := VB (false)) rfl rfl rfl (e_as rfl) ?_
                                  refine RgOK.nil ?_
                                  show CdOK _ _ _ _ _ _
                                  refine CdOK.ret ?_
                                  refine ⟨.inr rfl, _, rfl, h, [⟨[I (x_.id_), I (x_.state), I (x_.last), I (x_.until_), .L 1 (x_.pending.map cI), .L 1 (x_.saves.map cI)], true, true⟩], _, rfl, rfl, hC, ((renFlV rfl) : RenV _ _ _ _ (VB (false))), ?_⟩
                                  have hr := hm.ret
                                  replace hr := Ev.ret hr
                                  subst hr
                                  exact ⟨rfl, rfl⟩
                                · intro c56; replace hm := hm.ifn c56
                                  refine CdOK.skip ?_
                                  show CdOK _ _ _ _ _ _
                                  refine CdOK.region ?_
                                  refine RgOK.s (v := VI (i43)) rfl rfl rfl (e_mv (ev_t rfl)) ?_
                                  refine RgOK.s (v := VI ((w64 (i43 + 1)))) rfl rfl rfl (e_bin (ev_t rfl) rfl rfl rfl) ?_
                                  refine RgOK.s (v := VI ((w64 (i43 + 1)))) rfl rfl rfl (e_as (ev_t rfl)) ?_
                                  refine RgOK.nil ?_
                                  refine Told.id ?_
                                  exact ⟨_, (w64 (i43 + 1)), Nat.lt_succ_self _, hm, (.cons rfl (.cons rfl .nil)), rfl⟩
                              · intro c57; replace hm := hm.ifn c57
                                refine DrOK.s (v := VB (false)) rfl rfl rfl (e_mv (ev_t rfl)) ?_
                                refine DrOK.sk rfl rfl rfl ?_
                                refine DrOK.sk rfl rfl rfl ?_
                                refine DrOK.sk rfl rfl rfl ?_
                                refine DrOK.sk rfl rfl rfl ?_
                                refine DrOK.sk rfl rfl rfl ?_
                                refine DrOK.sk rfl rfl rfl ?_
                                refine DrOK.sk rfl rfl rfl ?_
                                refine DrOK.sk rfl rfl rfl ?_
                                refine DrOK.sk rfl rfl rfl ?_
                                refine DrOK.sk rfl rfl rfl ?_
                                refine DrOK.sk rfl rfl rfl ?_
                                refine DrOK.sk rfl rfl rfl ?_
                                refine DrOK.s (v := VB (false)) rfl rfl rfl (e_pick (t := false) (ev_t rfl) rfl) ?_
                                refine DrOK.s (v := VB (false)) rfl rfl rfl (e_pick (t := false) (ev_t rfl) (ev_t rfl)) ?_
                                refine DrOK.nil ?_
                                show CdOK _ _ _ _ _ _
                                refine CdOK.cond_false rfl ?_
                                refine CdOK.skip ?_
                                show CdOK _ _ _ _ _ _
                                refine CdOK.region ?_
                                refine RgOK.s (v := VI (i43)) rfl rfl rfl (e_mv (ev_t rfl)) ?_
                                refine RgOK.s (v := VI ((w64 (i43 + 1)))) rfl rfl rfl (e_bin (ev_t rfl) rfl rfl rfl) ?_
                                refine RgOK.s (v := VI ((w64 (i43 + 1)))) rfl rfl rfl (e_as (ev_t rfl)) ?_
                                refine RgOK.nil ?_
                                refine Told.id ?_
                                exact ⟨_, (w64 (i43 + 1)), Nat.lt_succ_self _, hm, (.cons rfl (.cons rfl .nil)), rfl⟩
                        · intro c58; replace hm := hm.ifn c58
                          refine CdOK.exit ?_
                          refine Told.re (σ := []) (X := []) (L' := []) rfl rfl hC (by decide) .nil .nil ?_
                          exact ⟨(), hm.ret, .nil, rfl⟩
                      · intro _ T0 hm
                        show CdOK _ _ _ _ _ _
                        refine CdOK.seq ?_
                        refine CdOK.region ?_
                        refine RgOK.s (v := VB (true)) rfl rfl rfl (e_as rfl) ?_
                        refine RgOK.nil ?_
                        show CdOK _ _ _ _ _ _
                        refine CdOK.ret ?_
                        refine ⟨.inr rfl, _, rfl, h, [], _, rfl, rfl, hC, ((renFlV rfl) : RenV _ _ _ _ (VB (true))), ?_⟩
                        have hr := hm.ret
                        subst hr
                        exact ⟨rfl, rfl⟩
/- pagemend/pagemendref12.Valid -/
def ref12_Valid.l1 (l_ : (List Tx)) : Nat → Int → Option (Sum Unit Bool)
  | 0, _ => none
  | kk4 + 1, i3 => (if i3 < (l_.length : Int) then (if (0 : Int) ≤ i3 ∧ i3 < (l_.length : Int) then ((ref12_valid1 (gd l_ i3)).bind fun (x7 : Bool) => (if x7 = true then (if 0 < i3 then (if (0 : Int) ≤ (w64 (i3 - 1)) ∧ (w64 (i3 - 1)) < (l_.length : Int) then (if (0 : Int) ≤ i3 ∧ i3 < (l_.length : Int) then (if ((gd l_ i3).id_) ≤ ((gd l_ (w64 (i3 - 1))).id_) then some (Sum.inr false) else ref12_Valid.l1 l_ kk4 (w64 (i3 + 1))) else none) else none) else ref12_Valid.l1 l_ kk4 (w64 (i3 + 1))) else some (Sum.inr false))) else none) else some (Sum.inl ()))
theorem ref12_Valid.l1_s (l_ : (List Tx)) (kk4 : Nat) (i3 : Int) : ref12_Valid.l1 l_ (kk4 + 1) i3 = (if i3 < (l_.length : Int) then (if (0 : Int) ≤ i3 ∧ i3 < (l_.length : Int) then ((ref12_valid1 (gd l_ i3)).bind fun (x7 : Bool) => (if x7 = true then (if 0 < i3 then (if (0 : Int) ≤ (w64 (i3 - 1)) ∧ (w64 (i3 - 1)) < (l_.length : Int) then (if (0 : Int) ≤ i3 ∧ i3 < (l_.length : Int) then (if ((gd l_ i3).id_) ≤ ((gd l_ (w64 (i3 - 1))).id_) then some (Sum.inr false) else ref12_Valid.l1 l_ kk4 (w64 (i3 + 1))) else none) else none) else ref12_Valid.l1 l_ kk4 (w64 (i3 + 1))) else some (Sum.inr false))) else none) else some (Sum.inl ())) := rfl
def ref12_Valid (l_ : (List Tx)) : Option Bool := (if 64 < (l_.length : Int) then some false else ((ref12_Valid.l1 l_ FU 0).bind fun (z : Sum Unit Bool) => match z with | .inl (s15 : Unit) => some true | .inr r => some r))
theorem ref12_Valid.eq (l_ : (List Tx)) : ref12_Valid l_ = (if 64 < (l_.length : Int) then some false else ((ref12_Valid.l1 l_ FU 0).bind fun (z : Sum Unit Bool) => match z with | .inl (s15 : Unit) => some true | .inr r => some r)) := rfl
theorem ref12_Valid_ok {h : Heap} {l_ : (List Tx)}  {r : Bool} (hm : ref12_Valid l_ = some r) : FnOK Try.prog 66 [.o (.c (.L 6 (l_.map Tx.cs)))] h (fun v h' => v = VB (r) ∧ h' = h) := by
  refine FnOK.fin ?_
  refine FnOK.bodyC (N := 37) Try.func66 rfl rfl rfl (fun hC => ?_)
  replace hm := Ev.of hm
  rw [ref12_Valid.eq] at hm
  show CdOK _ _ _ (look _ [(0, .o (.c (.L 6 (l_.map Tx.cs))))]) (h ++ ([] : Heap)) _
  refine CdOK.seq ?_
  refine CdOK.region ?_
  refine RgOK.s (v := VB (false)) rfl rfl rfl (e_as rfl) ?_
  refine RgOK.nil ?_
  show CdOK _ _ _ _ _ _
  refine CdOK.seq ?_
  refine CdOK.seq ?_
  refine CdOK.region ?_
  refine RgOK.s (v := .o (.c (.L 6 (l_.map Tx.cs)))) rfl rfl rfl (e_mv (ev_t rfl)) ?_
  refine RgOK.s (v := VI ((l_.length : Int))) rfl rfl rfl (e_lenM (ev_t rfl) is92) ?_
  refine RgOK.s (v := VB (decide (64 < (l_.length : Int)))) rfl rfl rfl (e_bin (ev_t rfl) rfl rfl rfl) ?_
  refine RgOK.nil ?_
  show CdOK _ _ _ _ _ _
  refine CdOK.condD (ev_t rfl) ?_ ?_
  · intro c1; replace hm := hm.ifp c1
    refine CdOK.seq ?_
    refine CdOK.region ?_
    refine RgOK.s (v := VB (false)) rfl rfl rfl (e_as rfl) ?_
    refine RgOK.nil ?_
    show CdOK _ _ _ _ _ _
    refine CdOK.ret ?_
    refine ⟨.inr rfl, _, rfl, h, [], _, rfl, rfl, hC, ((renFlV rfl) : RenV _ _ _ _ (VB (false))), ?_⟩
    have hr := hm.ret
    subst hr
    exact ⟨rfl, rfl⟩
  · intro c2; replace hm := hm.ifn c2
    refine CdOK.skip ?_
    show CdOK _ _ _ _ _ _
    refine CdOK.seq ?_
    refine CdOK.seq ?_
    refine CdOK.region ?_
    refine RgOK.s (v := VI (0)) rfl rfl rfl (e_as rfl) ?_
    refine RgOK.nil ?_
    show CdOK _ _ _ _ _ _
    replace hm := hm.bnd
    refine CdOK.joinT (σ := Unit) (fun s => Sum.inl ()) hm (fun s => []) (fun s => h ++ ([] : Heap)) ?_ ?_
    · intro hm
      refine CdOK.block ?_
      refine CdOK.loopE (σ := Int) (fun k s => Ev (ref12_Valid.l1 l_ k s) _) (fun s => [(0, .o (.c (.L 6 (l_.map Tx.cs)))), (3, VI (s))]) (fun s => h ++ ([] : Heap)) FU 0 hm (.cons rfl (.cons rfl .nil)) rfl ?_
      rintro kk4 i3 T0 hm
      replace hm : Ev (ref12_Valid.l1 l_ kk4 i3) _ := hm
      cases kk4 with
      | zero => exact (Ev.non hm).elim
      | succ kk4 =>
      rw [ref12_Valid.l1_s] at hm
      show CdOK _ _ _ (look T0 [(0, .o (.c (.L 6 (l_.map Tx.cs)))), (3, VI (i3))]) (h ++ ([] : Heap)) _
      refine CdOK.seq ?_
      refine CdOK.seq ?_
      refine CdOK.region ?_
      refine RgOK.s (v := VI (i3)) rfl rfl rfl (e_mv (ev_t rfl)) ?_
      refine RgOK.s (v := .o (.c (.L 6 (l_.map Tx.cs)))) rfl rfl rfl (e_mv (ev_t rfl)) ?_
      refine RgOK.s (v := VI ((l_.length : Int))) rfl rfl rfl (e_lenM (ev_t rfl) is92) ?_
      refine RgOK.s (v := VB (decide (i3 < (l_.length : Int)))) rfl rfl rfl (e_bin (ev_t rfl) (ev_t rfl) rfl rfl) ?_
      refine RgOK.nil ?_
      show CdOK _ _ _ _ _ _
      refine CdOK.condD (ev_t rfl) ?_ ?_
      · intro c5; replace hm := hm.ifp c5
        refine CdOK.skip ?_
        show CdOK _ _ _ _ _ _
        refine CdOK.seq ?_
        refine CdOK.block ?_
        refine CdOK.seq ?_
        refine CdOK.draw fol (by decide +kernel) ?_
        refine DrOK.s (v := .o (.c (.L 6 (l_.map Tx.cs)))) rfl rfl rfl (e_mv (ev_t rfl)) ?_
        refine DrOK.s (v := VI (i3)) rfl rfl rfl (e_mv (ev_t rfl)) ?_
        obtain ⟨c6, hm⟩ := hm.ifs
        refine DrOK.s (v := .o (.c (.rp [I ((gd l_ i3).id_), I ((gd l_ i3).state), I ((gd l_ i3).last), I ((gd l_ i3).until_), .L 1 (((gd l_ i3).pending).map cI), .L 1 (((gd l_ i3).saves).map cI)]))) rfl rfl rfl (e_ixM (f := Tx.cs) (l := l_) (i := i3) (ev_t rfl) (ev_t rfl) el92 c6) ?_
        refine DrOK.s (v := .o (.agg [I ((gd l_ i3).id_), I ((gd l_ i3).state), I ((gd l_ i3).last), I ((gd l_ i3).until_), .L 1 (((gd l_ i3).pending).map cI), .L 1 (((gd l_ i3).saves).map cI)])) rfl rfl rfl (e_ldRA (ev_t rfl) ty108 rfl rfl) ?_
        obtain ⟨x7, e7, hm⟩ := hm.call
        cases x7 with
        | true =>
          replace hm := hm.ifp rfl
          refine DrOK.cl rfl rfl rfl rfl pl134 (R2.wk _) (ref12_valid1_ok   e7) ?_
          refine DrOK.s (v := VB (false)) rfl rfl rfl (e_un (ev_t rfl) rfl) ?_
          refine DrOK.s (v := VB (false)) rfl rfl rfl (e_mv (ev_t rfl)) ?_
          refine DrOK.s (v := VI (i3)) rfl rfl rfl (e_mv (ev_t rfl)) ?_
          refine DrOK.sd rfl rfl rfl (e_bin (ev_t rfl) rfl rfl rfl) ?_ ?_
          · intro c8; replace hm := hm.ifp c8
            refine DrOK.s (v := VB (true)) rfl rfl rfl (e_mv (ev_t rfl)) ?_
            refine DrOK.s (v := .o (.c (.L 6 (l_.map Tx.cs)))) rfl rfl rfl (e_mv (ev_t rfl)) ?_
            refine DrOK.s (v := VI (i3)) rfl rfl rfl (e_mv (ev_t rfl)) ?_
            refine DrOK.s (v := VI ((w64 (i3 - 1)))) rfl rfl rfl (e_bin (ev_t rfl) rfl rfl rfl) ?_
            obtain ⟨c9, hm⟩ := hm.ifs
            refine DrOK.s (v := .o (.c (.rp [I ((gd l_ (w64 (i3 - 1))).id_), I ((gd l_ (w64 (i3 - 1))).state), I ((gd l_ (w64 (i3 - 1))).last), I ((gd l_ (w64 (i3 - 1))).until_), .L 1 (((gd l_ (w64 (i3 - 1))).pending).map cI), .L 1 (((gd l_ (w64 (i3 - 1))).saves).map cI)]))) rfl rfl rfl (e_ixM (f := Tx.cs) (l := l_) (i := (w64 (i3 - 1))) (ev_t rfl) (ev_t rfl) el92 c9) ?_
            refine DrOK.s (v := .o (.c (.rp [I ((gd l_ (w64 (i3 - 1))).id_), I ((gd l_ (w64 (i3 - 1))).state), I ((gd l_ (w64 (i3 - 1))).last), I ((gd l_ (w64 (i3 - 1))).until_), .L 1 (((gd l_ (w64 (i3 - 1))).pending).map cI), .L 1 (((gd l_ (w64 (i3 - 1))).saves).map cI)]))) rfl rfl rfl (e_faR fa108_0 (ev_t rfl) rfl) ?_
            refine DrOK.s (v := VI ((gd l_ (w64 (i3 - 1))).id_)) rfl rfl rfl (e_ldR1 (ev_t rfl) ty3 rfl) ?_
            refine DrOK.s (v := .o (.c (.L 6 (l_.map Tx.cs)))) rfl rfl rfl (e_mv (ev_t rfl)) ?_
            refine DrOK.s (v := VI (i3)) rfl rfl rfl (e_mv (ev_t rfl)) ?_
            obtain ⟨c10, hm⟩ := hm.ifs
            refine DrOK.s (v := .o (.c (.rp [I ((gd l_ i3).id_), I ((gd l_ i3).state), I ((gd l_ i3).last), I ((gd l_ i3).until_), .L 1 (((gd l_ i3).pending).map cI), .L 1 (((gd l_ i3).saves).map cI)]))) rfl rfl rfl (e_ixM (f := Tx.cs) (l := l_) (i := i3) (ev_t rfl) (ev_t rfl) el92 c10) ?_
            refine DrOK.s (v := .o (.c (.rp [I ((gd l_ i3).id_), I ((gd l_ i3).state), I ((gd l_ i3).last), I ((gd l_ i3).until_), .L 1 (((gd l_ i3).pending).map cI), .L 1 (((gd l_ i3).saves).map cI)]))) rfl rfl rfl (e_faR fa108_0 (ev_t rfl) rfl) ?_
            refine DrOK.s (v := VI ((gd l_ i3).id_)) rfl rfl rfl (e_ldR1 (ev_t rfl) ty3 rfl) ?_
            refine DrOK.s (v := VB (decide (((gd l_ i3).id_) ≤ ((gd l_ (w64 (i3 - 1))).id_)))) rfl rfl rfl (e_bin (ev_t rfl) (ev_t rfl) rfl rfl) ?_
            refine DrOK.s (v := VB (decide (((gd l_ i3).id_) ≤ ((gd l_ (w64 (i3 - 1))).id_)))) rfl rfl rfl (e_pick (t := true) (ev_t rfl) (ev_t rfl)) ?_
            refine DrOK.s (v := VB (decide (((gd l_ i3).id_) ≤ ((gd l_ (w64 (i3 - 1))).id_)))) rfl rfl rfl (e_pick (t := false) (ev_t rfl) (ev_t rfl)) ?_
            refine DrOK.nil ?_
            show CdOK _ _ _ _ _ _
            refine CdOK.condD (ev_t rfl) ?_ ?_
            · intro c11; replace hm := hm.ifp c11
              refine CdOK.seq ?_
              refine CdOK.region ?_
              refine RgOK.s (v := VB (false)) rfl rfl rfl (e_as rfl) ?_
              refine RgOK.nil ?_
              show CdOK _ _ _ _ _ _
              refine CdOK.ret ?_
              refine ⟨.inr rfl, _, rfl, h, [], _, rfl, rfl, hC, ((renFlV rfl) : RenV _ _ _ _ (VB (false))), ?_⟩
              have hr := hm.ret
              replace hr := Ev.ret hr
              subst hr
              exact ⟨rfl, rfl⟩
            · intro c12; replace hm := hm.ifn c12
              refine CdOK.skip ?_
              show CdOK _ _ _ _ _ _
              refine CdOK.region ?_
              refine RgOK.s (v := VI (i3)) rfl rfl rfl (e_mv (ev_t rfl)) ?_
              refine RgOK.s (v := VI ((w64 (i3 + 1)))) rfl rfl rfl (e_bin (ev_t rfl) rfl rfl rfl) ?_
              refine RgOK.s (v := VI ((w64 (i3 + 1)))) rfl rfl rfl (e_as (ev_t rfl)) ?_
              refine RgOK.nil ?_
              refine Told.id ?_
              exact ⟨_, (w64 (i3 + 1)), Nat.lt_succ_self _, hm, (.cons rfl (.cons rfl .nil)), rfl⟩
          · intro c13; replace hm := hm.ifn c13
            refine DrOK.s (v := VB (false)) rfl rfl rfl (e_mv (ev_t rfl)) ?_
            refine DrOK.sk rfl rfl rfl ?_
            refine DrOK.sk rfl rfl rfl ?_
            refine DrOK.sk rfl rfl rfl ?_
            refine DrOK.sk rfl rfl rfl ?_
            refine DrOK.sk rfl rfl rfl ?_
            refine DrOK.sk rfl rfl rfl ?_
            refine DrOK.sk rfl rfl rfl ?_
            refine DrOK.sk rfl rfl rfl ?_
            refine DrOK.sk rfl rfl rfl ?_
            refine DrOK.sk rfl rfl rfl ?_
            refine DrOK.sk rfl rfl rfl ?_
            refine DrOK.sk rfl rfl rfl ?_
            refine DrOK.s (v := VB (false)) rfl rfl rfl (e_pick (t := false) (ev_t rfl) rfl) ?_
            refine DrOK.s (v := VB (false)) rfl rfl rfl (e_pick (t := false) (ev_t rfl) (ev_t rfl)) ?_
            refine DrOK.nil ?_
            show CdOK _ _ _ _ _ _
            refine CdOK.cond_false rfl ?_
            refine CdOK.skip ?_
            show CdOK _ _ _ _ _ _
            refine CdOK.region ?_
            refine RgOK.s (v := VI (i3)) rfl rfl rfl (e_mv (ev_t rfl)) ?_
            refine RgOK.s (v := VI ((w64 (i3 + 1)))) rfl rfl rfl (e_bin (ev_t rfl) rfl rfl rfl) ?_
            refine RgOK.s (v := VI ((w64 (i3 + 1)))) rfl rfl rfl (e_as (ev_t rfl)) ?_
            refine RgOK.nil ?_
            refine Told.id ?_
            exact ⟨_, (w64 (i3 + 1)), Nat.lt_succ_self _, hm, (.cons rfl (.cons rfl .nil)), rfl⟩
        | false =>
          replace hm := hm.ifn Bool.false_ne_true
          refine DrOK.cl rfl rfl rfl rfl pl134 (R2.wk _) (ref12_valid1_ok   e7) ?_
          refine DrOK.s (v := VB (true)) rfl rfl rfl (e_un (ev_t rfl) rfl) ?_
          refine DrOK.s (v := VB (true)) rfl rfl rfl (e_mv (ev_t rfl)) ?_
          refine DrOK.sk rfl rfl rfl ?_
          refine DrOK.sk rfl rfl rfl ?_
          refine DrOK.sk rfl rfl rfl ?_
          refine DrOK.sk rfl rfl rfl ?_
          refine DrOK.sk rfl rfl rfl ?_
          refine DrOK.sk rfl rfl rfl ?_
          refine DrOK.sk rfl rfl rfl ?_
          refine DrOK.sk rfl rfl rfl ?_
          refine DrOK.sk rfl rfl rfl ?_
          refine DrOK.sk rfl rfl rfl ?_
          refine DrOK.sk rfl rfl rfl ?_
          refine DrOK.sk rfl rfl rfl ?_
          refine DrOK.sk rfl rfl rfl ?_
          refine DrOK.sk rfl rfl rfl ?_
          refine DrOK.sk rfl rfl rfl ?_
          refine DrOK.sk rfl rfl rfl ?_
          refine DrOK.s (v := VB (true)) rfl rfl rfl (e_pick (t := true) (ev_t rfl) rfl) ?_
          refine DrOK.nil ?_
          show CdOK _ _ _ _ _ _
          refine CdOK.cond_true rfl ?_
          refine CdOK.seq ?_
          refine CdOK.region ?_
          refine RgOK.s (v := VB (false)) rfl rfl rfl (e_as rfl) ?_
          refine RgOK.nil ?_
          show CdOK _ _ _ _ _ _
          refine CdOK.ret ?_
          refine ⟨.inr rfl, _, rfl, h, [], _, rfl, rfl, hC, ((renFlV rfl) : RenV _ _ _ _ (VB (false))), ?_⟩
          have hr := hm.ret
          replace hr := Ev.ret hr
          subst hr
          exact ⟨rfl, rfl⟩
      · intro c14; replace hm := hm.ifn c14
        refine CdOK.exit ?_
        refine Told.id ?_
        exact ⟨(), hm.ret, .nil, rfl⟩
    · intro _ T0 hm
      show CdOK _ _ _ _ _ _
      refine CdOK.seq ?_
      refine CdOK.region ?_
      refine RgOK.s (v := VB (true)) rfl rfl rfl (e_as rfl) ?_
      refine RgOK.nil ?_
      show CdOK _ _ _ _ _ _
      refine CdOK.ret ?_
      refine ⟨.inr rfl, _, rfl, h, [], _, rfl, rfl, hC, ((renFlV rfl) : RenV _ _ _ _ (VB (true))), ?_⟩
      have hr := hm.ret
      subst hr
      exact ⟨rfl, rfl⟩
/- pagemend/entry.before -/
def entry_before (n_ : Int) (e_ : AEntry) : Option Bool := (if 0 ≤ n_ then some (decide (n_ < e_.lsn)) else some false)
theorem entry_before.eq (n_ : Int) (e_ : AEntry) : entry_before n_ e_ = (if 0 ≤ n_ then some (decide (n_ < e_.lsn)) else some false) := rfl
theorem entry_before_ok {h : Heap} {n_ : Int} {e_ : AEntry}  {r : Bool} (hm : entry_before n_ e_ = some r) : FnOK Try.prog 187 [VI (n_), .o (.agg [I (e_.lsn), I (e_.kind_), I (e_.tx), I (e_.prevTx), I (e_.prevPage), I (e_.ref), I (e_.change.page), I (e_.change.slot), Bo (e_.change.before.set_), .v (.string e_.change.before.data), Bo (e_.change.after.set_), .v (.string e_.change.after.data), .v (.string e_.blob)])] h (fun v h' => v = VB (r) ∧ h' = h) := by
  refine FnOK.fin ?_
  refine FnOK.bodyC (N := 13) Try.func187 rfl rfl rfl (fun hC => ?_)
  replace hm := Ev.of hm
  rw [entry_before.eq] at hm
  show CdOK _ _ _ (look _ [(0, VI (n_)), (1, .o (.agg [I (e_.lsn), I (e_.kind_), I (e_.tx), I (e_.prevTx), I (e_.prevPage), I (e_.ref), I (e_.change.page), I (e_.change.slot), Bo (e_.change.before.set_), .v (.string e_.change.before.data), Bo (e_.change.after.set_), .v (.string e_.change.after.data), .v (.string e_.blob)]))]) (h ++ ([] : Heap)) _
  refine CdOK.seq ?_
  refine CdOK.region ?_
  refine RgOK.s (v := .o (.c (.ptr (h.length + 0) 0))) rfl rfl rfl (e_boxN (L' := [⟨[I (e_.lsn), I (e_.kind_), I (e_.tx), I (e_.prevTx), I (e_.prevPage), I (e_.ref), I (e_.change.page), I (e_.change.slot), Bo (e_.change.before.set_), .v (.string e_.change.before.data), Bo (e_.change.after.set_), .v (.string e_.change.after.data), .v (.string e_.blob)], true, true⟩]) rfl (ev_t rfl) rfl rfl) ?_
  refine RgOK.s (v := VB (false)) rfl rfl rfl (e_as rfl) ?_
  refine RgOK.nil ?_
  show CdOK _ _ _ _ _ _
  refine CdOK.seq ?_
  refine CdOK.region ?_
  refine RgOK.s (v := VI (n_)) rfl rfl rfl (e_mv (ev_t rfl)) ?_
  refine RgOK.sd rfl rfl rfl (e_bin (ev_t rfl) rfl rfl rfl) ?_ ?_
  · intro c1; replace hm := hm.ifp c1
    refine RgOK.s (v := VB (true)) rfl rfl rfl (e_mv (ev_t rfl)) ?_
    refine RgOK.s (v := VI (n_)) rfl rfl rfl (e_mv (ev_t rfl)) ?_
    refine RgOK.s (v := .o (.c (.ptr (h.length + 0) 0))) rfl rfl rfl (e_fa' fa59_0 (ev_t rfl)) ?_
    refine RgOK.s (v := VI (e_.lsn)) rfl rfl rfl (e_ldb1 (ev_t rfl) ty3 (bx rfl rfl) rfl) ?_
    refine RgOK.s (v := VB (decide (n_ < e_.lsn))) rfl rfl rfl (e_bin (ev_t rfl) (ev_t rfl) rfl rfl) ?_
    refine RgOK.s (v := VB (decide (n_ < e_.lsn))) rfl rfl rfl (e_pick (t := true) (ev_t rfl) (ev_t rfl)) ?_
    refine RgOK.s (v := VB (decide (n_ < e_.lsn))) rfl rfl rfl (e_as (ev_t rfl)) ?_
    refine RgOK.nil ?_
    show CdOK _ _ _ _ _ _
    refine CdOK.ret ?_
    refine ⟨.inr rfl, _, rfl, h, [⟨[I (e_.lsn), I (e_.kind_), I (e_.tx), I (e_.prevTx), I (e_.prevPage), I (e_.ref), I (e_.change.page), I (e_.change.slot), Bo (e_.change.before.set_), .v (.string e_.change.before.data), Bo (e_.change.after.set_), .v (.string e_.change.after.data), .v (.string e_.blob)], true, true⟩], _, rfl, rfl, hC, ((renFlV rfl) : RenV _ _ _ _ (VB (decide (n_ < e_.lsn)))), ?_⟩
    have hr := hm.ret
    subst hr
    exact ⟨rfl, rfl⟩
  · intro c2; replace hm := hm.ifn c2
    refine RgOK.s (v := VB (false)) rfl rfl rfl (e_mv (ev_t rfl)) ?_
    refine RgOK.sk rfl rfl rfl ?_
    refine RgOK.sk rfl rfl rfl ?_
    refine RgOK.sk rfl rfl rfl ?_
    refine RgOK.sk rfl rfl rfl ?_
    refine RgOK.s (v := VB (false)) rfl rfl rfl (e_pick (t := false) (ev_t rfl) rfl) ?_
    refine RgOK.s (v := VB (false)) rfl rfl rfl (e_as (ev_t rfl)) ?_
    refine RgOK.nil ?_
    show CdOK _ _ _ _ _ _
    refine CdOK.ret ?_
    refine ⟨.inr rfl, _, rfl, h, [⟨[I (e_.lsn), I (e_.kind_), I (e_.tx), I (e_.prevTx), I (e_.prevPage), I (e_.ref), I (e_.change.page), I (e_.change.slot), Bo (e_.change.before.set_), .v (.string e_.change.before.data), Bo (e_.change.after.set_), .v (.string e_.change.after.data), .v (.string e_.blob)], true, true⟩], _, rfl, rfl, hC, ((renFlV rfl) : RenV _ _ _ _ (VB (false))), ?_⟩
    have hr := hm.ret
    subst hr
    exact ⟨rfl, rfl⟩
end Rv
