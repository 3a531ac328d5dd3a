/- Chapter 35: the program's functions, as plain functions. -/
import Derived.Test.YtnlpkgamglhnbaaRvLi3
set_option linter.unusedVariables false
set_option linter.unusedSimpArgs false
namespace Rv
open Go Go.RowKit Go.Proofs
theorem ar118 : ArF Try.prog 118 64 1 := .of (by decide +kernel)
theorem bl29 : bldf Try.prog 29 [(0, 1), (1, 1), (2, 1), (3, 1)] = true := by decide +kernel
theorem bl117 : bldf Try.prog 117 [(0, 1), (1, 1)] = true := by decide +kernel
theorem cv3_175 : cvk Try.prog 3 175 .u64 = true := by decide +kernel
theorem cv175_3 : cvk Try.prog 175 3 .i64 = true := by decide +kernel
theorem fa29_0 : fadr Try.prog 29 0 0 = true := by decide +kernel
theorem fa29_1 : fadr Try.prog 29 1 1 = true := by decide +kernel
theorem fa29_2 : fadr Try.prog 29 2 2 = true := by decide +kernel
theorem fa29_3 : fadr Try.prog 29 3 3 = true := by decide +kernel
theorem fa117_0 : fadr Try.prog 117 0 0 = true := by decide +kernel
theorem fa117_1 : fadr Try.prog 117 1 1 = true := by decide +kernel
theorem pl22 : plainFn Try.prog 22 = true := by decide +kernel
theorem pl28 : plainFn Try.prog 28 = true := by decide +kernel
theorem pl84 : plainFn Try.prog 84 = true := by decide +kernel
theorem pl86 : plainFn Try.prog 86 = true := by decide +kernel
theorem pl88 : plainFn Try.prog 88 = true := by decide +kernel
theorem pl89 : plainFn Try.prog 89 = true := by decide +kernel
theorem pl90 : plainFn Try.prog 90 = true := by decide +kernel
theorem pl91 : plainFn Try.prog 91 = true := by decide +kernel
theorem pl92 : plainFn Try.prog 92 = true := by decide +kernel
theorem pl93 : plainFn Try.prog 93 = true := by decide +kernel
theorem pl94 : plainFn Try.prog 94 = true := by decide +kernel
theorem pl95 : plainFn Try.prog 95 = true := by decide +kernel
theorem pl159 : plainFn Try.prog 159 = true := by decide +kernel
theorem pl160 : plainFn Try.prog 160 = true := by decide +kernel
theorem pl161 : plainFn Try.prog 161 = true := by decide +kernel
theorem pl162 : plainFn Try.prog 162 = true := by decide +kernel
theorem pl195 : plainFn Try.prog 195 = true := by decide +kernel
theorem ty3 : TyF Try.prog 3 false 1 := .of (by decide +kernel)
theorem ty4 : TyF Try.prog 4 false 1 := .of (by decide +kernel)
theorem ty26 : TyF Try.prog 26 false 1 := .of (by decide +kernel)
theorem ty27 : TyF Try.prog 27 false 1 := .of (by decide +kernel)
theorem ty29 : TyF Try.prog 29 true 4 := .of (by decide +kernel)
theorem ty117 : TyF Try.prog 117 true 2 := .of (by decide +kernel)
theorem zo29 : zeroOf Try.prog 29 = some ([.v (.int .i64 0)] ++ [.v (.int .i64 0)] ++ [.v (.slice none 0 0)] ++ [.v (.slice none 0 0)]) := by kernel_rfl
theorem zo117 : zeroOf Try.prog 117 = some ([.v (.int .i64 0)] ++ [.v (.int .i64 0)]) := by kernel_rfl
theorem zo118 : zeroOf Try.prog 118 = some (UB 64 (fun _ => false)) := by rw [← UB_zero]; kernel_rfl
/- cmp.isNaN[int] -/
def cmp_isNaN (x_ : Int) : Option Bool := some (decide (x_ ≠ x_))
theorem cmp_isNaN.eq (x_ : Int) : cmp_isNaN x_ = some (decide (x_ ≠ x_)) := rfl
theorem cmp_isNaN_ok {h : Heap} {x_ : Int}  {r : Bool} (hm : cmp_isNaN x_ = some r) : FnOK Try.prog 195 [VI (x_)] h (fun v h' => v = VB (r) ∧ h' = h) := by
  refine FnOK.fin ?_
  refine FnOK.bodyC (N := 6) Try.func195 rfl rfl rfl (fun hC => ?_)
  replace hm := Ev.of hm
  rw [cmp_isNaN.eq] at hm
  show CdOK _ _ _ (look _ [(0, VI (x_))]) (h ++ ([] : Heap)) _
  refine CdOK.seq ?_
  refine CdOK.region ?_
  refine RgOK.s (v := VB (false)) rfl rfl rfl (e_as rfl) ?_
  refine RgOK.nil ?_
  show CdOK _ _ _ _ _ _
  refine CdOK.seq ?_
  refine CdOK.region ?_
  refine RgOK.s (v := VI (x_)) rfl rfl rfl (e_mv (ev_t rfl)) ?_
  refine RgOK.s (v := VI (x_)) rfl rfl rfl (e_mv (ev_t rfl)) ?_
  refine RgOK.s (v := VB (decide (x_ ≠ x_))) rfl rfl rfl (e_neK (ev_t rfl) (ev_t rfl)) ?_
  refine RgOK.s (v := VB (decide (x_ ≠ x_))) rfl rfl rfl (e_as (ev_t rfl)) ?_
  refine RgOK.nil ?_
  show CdOK _ _ _ _ _ _
  refine CdOK.ret ?_
  refine ⟨.inr rfl, _, rfl, h, [], _, rfl, rfl, hC, ((renFlV rfl) : RenV _ _ _ _ (VB (decide (x_ ≠ x_)))), ?_⟩
  have hr := hm.ret
  subst hr
  exact ⟨rfl, rfl⟩
/- slices.isNaN[int] -/
def slices_isNaN (x_ : Int) : Option Bool := some (decide (x_ ≠ x_))
theorem slices_isNaN.eq (x_ : Int) : slices_isNaN x_ = some (decide (x_ ≠ x_)) := rfl
theorem slices_isNaN_ok {h : Heap} {x_ : Int}  {r : Bool} (hm : slices_isNaN x_ = some r) : FnOK Try.prog 162 [VI (x_)] h (fun v h' => v = VB (r) ∧ h' = h) := by
  refine FnOK.fin ?_
  refine FnOK.bodyC (N := 6) Try.func162 rfl rfl rfl (fun hC => ?_)
  replace hm := Ev.of hm
  rw [slices_isNaN.eq] at hm
  show CdOK _ _ _ (look _ [(0, VI (x_))]) (h ++ ([] : Heap)) _
  refine CdOK.seq ?_
  refine CdOK.region ?_
  refine RgOK.s (v := VB (false)) rfl rfl rfl (e_as rfl) ?_
  refine RgOK.nil ?_
  show CdOK _ _ _ _ _ _
  refine CdOK.seq ?_
  refine CdOK.region ?_
  refine RgOK.s (v := VI (x_)) rfl rfl rfl (e_mv (ev_t rfl)) ?_
  refine RgOK.s (v := VI (x_)) rfl rfl rfl (e_mv (ev_t rfl)) ?_
  refine RgOK.s (v := VB (decide (x_ ≠ x_))) rfl rfl rfl (e_neK (ev_t rfl) (ev_t rfl)) ?_
  refine RgOK.s (v := VB (decide (x_ ≠ x_))) rfl rfl rfl (e_as (ev_t rfl)) ?_
  refine RgOK.nil ?_
  show CdOK _ _ _ _ _ _
  refine CdOK.ret ?_
  refine ⟨.inr rfl, _, rfl, h, [], _, rfl, rfl, hC, ((renFlV rfl) : RenV _ _ _ _ (VB (decide (x_ ≠ x_)))), ?_⟩
  have hr := hm.ret
  subst hr
  exact ⟨rfl, rfl⟩
/- cmp.Less[int] -/
def cmp_Less (x_ : Int) (y_ : Int) : Option Bool := ((cmp_isNaN x_).bind fun (x1 : Bool) => (if x1 = true then ((cmp_isNaN y_).bind fun (x2 : Bool) => (if x2 = true then some (decide (x_ < y_)) else some true)) else some (decide (x_ < y_))))
theorem cmp_Less.eq (x_ : Int) (y_ : Int) : cmp_Less x_ y_ = ((cmp_isNaN x_).bind fun (x1 : Bool) => (if x1 = true then ((cmp_isNaN y_).bind fun (x2 : Bool) => (if x2 = true then some (decide (x_ < y_)) else some true)) else some (decide (x_ < y_)))) := rfl
theorem cmp_Less_ok {h : Heap} {x_ : Int} {y_ : Int}  {r : Bool} (hm : cmp_Less x_ y_ = some r) : FnOK Try.prog 161 [VI (x_), VI (y_)] h (fun v h' => v = VB (r) ∧ h' = h) := by
  refine FnOK.fin ?_
  refine FnOK.bodyC (N := 17) Try.func161 rfl rfl rfl (fun hC => ?_)
  replace hm := Ev.of hm
  rw [cmp_Less.eq] at hm
  show CdOK _ _ _ (look _ [(0, VI (x_)), (1, VI (y_))]) (h ++ ([] : Heap)) _
  refine CdOK.seq ?_
  refine CdOK.region ?_
  refine RgOK.s (v := VB (false)) rfl rfl rfl (e_as rfl) ?_
  refine RgOK.nil ?_
  show CdOK _ _ _ _ _ _
  refine CdOK.seq ?_
  refine CdOK.region ?_
  refine RgOK.s (v := VI (x_)) rfl rfl rfl (e_mv (ev_t rfl)) ?_
  obtain ⟨x1, e1, hm⟩ := hm.call
  cases x1 with
  | true =>
    replace hm := hm.ifp rfl
    refine RgOK.cl rfl rfl rfl rfl pl195 (R2.wk _) (cmp_isNaN_ok   e1) ?_
    rintro _ _ ⟨rfl, rfl⟩
    refine RgOK.s (v := VB (true)) rfl rfl rfl (e_mv (ev_t rfl)) ?_
    refine RgOK.s (v := VI (y_)) rfl rfl rfl (e_mv (ev_t rfl)) ?_
    obtain ⟨x2, e2, hm⟩ := hm.call
    cases x2 with
    | true =>
      replace hm := hm.ifp rfl
      refine RgOK.cl rfl rfl rfl rfl pl195 (R2.wk _) (cmp_isNaN_ok   e2) ?_
      rintro _ _ ⟨rfl, rfl⟩
      refine RgOK.s (v := VB (false)) rfl rfl rfl (e_un (ev_t rfl) rfl) ?_
      refine RgOK.s (v := VB (false)) rfl rfl rfl (e_pick (t := true) (ev_t rfl) (ev_t rfl)) ?_
      refine RgOK.s (v := VB (false)) rfl rfl rfl (e_mv (ev_t rfl)) ?_
      refine RgOK.s (v := VI (x_)) rfl rfl rfl (e_mv (ev_t rfl)) ?_
      refine RgOK.s (v := VI (y_)) rfl rfl rfl (e_mv (ev_t rfl)) ?_
      refine RgOK.s (v := VB (decide (x_ < y_))) rfl rfl rfl (e_bin (ev_t rfl) (ev_t rfl) rfl rfl) ?_
      refine RgOK.s (v := VB (decide (x_ < y_))) rfl rfl rfl (e_pick (t := false) (ev_t rfl) (ev_t rfl)) ?_
      refine RgOK.s (v := VB (decide (x_ < y_))) rfl rfl rfl (e_as (ev_t rfl)) ?_
      refine RgOK.nil ?_
      show CdOK _ _ _ _ _ _
      refine CdOK.ret ?_
      refine ⟨.inr rfl, _, rfl, h, [], _, rfl, rfl, hC, ((renFlV rfl) : RenV _ _ _ _ (VB (decide (x_ < y_)))), ?_⟩
      have hr := hm.ret
      subst hr
      exact ⟨rfl, rfl⟩
    | false =>
      replace hm := hm.ifn Bool.false_ne_true
      refine RgOK.cl rfl rfl rfl rfl pl195 (R2.wk _) (cmp_isNaN_ok   e2) ?_
      rintro _ _ ⟨rfl, rfl⟩
      refine RgOK.s (v := VB (true)) rfl rfl rfl (e_un (ev_t rfl) rfl) ?_
      refine RgOK.s (v := VB (true)) rfl rfl rfl (e_pick (t := true) (ev_t rfl) (ev_t rfl)) ?_
      refine RgOK.s (v := VB (true)) rfl rfl rfl (e_mv (ev_t rfl)) ?_
      refine RgOK.sk rfl rfl rfl ?_
      refine RgOK.sk rfl rfl rfl ?_
      refine RgOK.sk rfl rfl rfl ?_
      refine RgOK.s (v := VB (true)) rfl rfl rfl (e_pick (t := true) (ev_t rfl) rfl) ?_
      refine RgOK.s (v := VB (true)) rfl rfl rfl (e_as (ev_t rfl)) ?_
      refine RgOK.nil ?_
      show CdOK _ _ _ _ _ _
      refine CdOK.ret ?_
      refine ⟨.inr rfl, _, rfl, h, [], _, rfl, rfl, hC, ((renFlV rfl) : RenV _ _ _ _ (VB (true))), ?_⟩
      have hr := hm.ret
      subst hr
      exact ⟨rfl, rfl⟩
  | false =>
    replace hm := hm.ifn Bool.false_ne_true
    refine RgOK.cl rfl rfl rfl rfl pl195 (R2.wk _) (cmp_isNaN_ok   e1) ?_
    rintro _ _ ⟨rfl, rfl⟩
    refine RgOK.s (v := VB (false)) rfl rfl rfl (e_mv (ev_t rfl)) ?_
    refine RgOK.sk rfl rfl rfl ?_
    refine RgOK.sk rfl rfl rfl ?_
    refine RgOK.sk rfl rfl rfl ?_
    refine RgOK.s (v := VB (false)) rfl rfl rfl (e_pick (t := false) (ev_t rfl) rfl) ?_
    refine RgOK.s (v := VB (false)) rfl rfl rfl (e_mv (ev_t rfl)) ?_
    refine RgOK.s (v := VI (x_)) rfl rfl rfl (e_mv (ev_t rfl)) ?_
    refine RgOK.s (v := VI (y_)) rfl rfl rfl (e_mv (ev_t rfl)) ?_
    refine RgOK.s (v := VB (decide (x_ < y_))) rfl rfl rfl (e_bin (ev_t rfl) (ev_t rfl) rfl rfl) ?_
    refine RgOK.s (v := VB (decide (x_ < y_))) rfl rfl rfl (e_pick (t := false) (ev_t rfl) (ev_t rfl)) ?_
    refine RgOK.s (v := VB (decide (x_ < y_))) rfl rfl rfl (e_as (ev_t rfl)) ?_
    refine RgOK.nil ?_
    show CdOK _ _ _ _ _ _
    refine CdOK.ret ?_
    refine ⟨.inr rfl, _, rfl, h, [], _, rfl, rfl, hC, ((renFlV rfl) : RenV _ _ _ _ (VB (decide (x_ < y_)))), ?_⟩
    have hr := hm.ret
    subst hr
    exact ⟨rfl, rfl⟩
/- slices.BinarySearch[[]int,int] -/
def BinarySearch.l1 (x_ : (List Int)) (target : Int) : Nat → Int → Int → Option Int
  | 0, _, _ => none
  | kk4 + 1, i2, j3 => (if i2 < j3 then (if (0 : Int) ≤ (w64 (Int.fdiv (IntKind.u64.wrap (w64 (i2 + j3))) (2 ^ (min (Int.toNat 1) (IntKind.bits .u64))))) ∧ (w64 (Int.fdiv (IntKind.u64.wrap (w64 (i2 + j3))) (2 ^ (min (Int.toNat 1) (IntKind.bits .u64))))) < (x_.length : Int) then ((cmp_Less (gd x_ (w64 (Int.fdiv (IntKind.u64.wrap (w64 (i2 + j3))) (2 ^ (min (Int.toNat 1) (IntKind.bits .u64)))))) target).bind fun (x7 : Bool) => (if x7 = true then BinarySearch.l1 x_ target kk4 (w64 ((w64 (Int.fdiv (IntKind.u64.wrap (w64 (i2 + j3))) (2 ^ (min (Int.toNat 1) (IntKind.bits .u64))))) + 1)) j3 else BinarySearch.l1 x_ target kk4 i2 (w64 (Int.fdiv (IntKind.u64.wrap (w64 (i2 + j3))) (2 ^ (min (Int.toNat 1) (IntKind.bits .u64))))))) else none) else some i2)
theorem BinarySearch.l1_s (x_ : (List Int)) (target : Int) (kk4 : Nat) (i2 : Int) (j3 : Int) : BinarySearch.l1 x_ target (kk4 + 1) i2 j3 = (if i2 < j3 then (if (0 : Int) ≤ (w64 (Int.fdiv (IntKind.u64.wrap (w64 (i2 + j3))) (2 ^ (min (Int.toNat 1) (IntKind.bits .u64))))) ∧ (w64 (Int.fdiv (IntKind.u64.wrap (w64 (i2 + j3))) (2 ^ (min (Int.toNat 1) (IntKind.bits .u64))))) < (x_.length : Int) then ((cmp_Less (gd x_ (w64 (Int.fdiv (IntKind.u64.wrap (w64 (i2 + j3))) (2 ^ (min (Int.toNat 1) (IntKind.bits .u64)))))) target).bind fun (x7 : Bool) => (if x7 = true then BinarySearch.l1 x_ target kk4 (w64 ((w64 (Int.fdiv (IntKind.u64.wrap (w64 (i2 + j3))) (2 ^ (min (Int.toNat 1) (IntKind.bits .u64))))) + 1)) j3 else BinarySearch.l1 x_ target kk4 i2 (w64 (Int.fdiv (IntKind.u64.wrap (w64 (i2 + j3))) (2 ^ (min (Int.toNat 1) (IntKind.bits .u64))))))) else none) else some i2) := rfl
def BinarySearch (x_ : (List Int)) (target : Int) : Option (Int × Bool) := ((BinarySearch.l1 x_ target FU 0 (x_.length : Int)).bind fun (s11 : Int) => (if s11 < (x_.length : Int) then (if (0 : Int) ≤ s11 ∧ s11 < (x_.length : Int) then (if (gd x_ s11) = target then some (s11, true) else (if (0 : Int) ≤ s11 ∧ s11 < (x_.length : Int) then ((slices_isNaN (gd x_ s11)).bind fun (x17 : Bool) => (if x17 = true then ((slices_isNaN target).bind fun (x18 : Bool) => some (s11, x18)) else some (s11, false))) else none)) else none) else some (s11, false)))
theorem BinarySearch.eq (x_ : (List Int)) (target : Int) : BinarySearch x_ target = ((BinarySearch.l1 x_ target FU 0 (x_.length : Int)).bind fun (s11 : Int) => (if s11 < (x_.length : Int) then (if (0 : Int) ≤ s11 ∧ s11 < (x_.length : Int) then (if (gd x_ s11) = target then some (s11, true) else (if (0 : Int) ≤ s11 ∧ s11 < (x_.length : Int) then ((slices_isNaN (gd x_ s11)).bind fun (x17 : Bool) => (if x17 = true then ((slices_isNaN target).bind fun (x18 : Bool) => some (s11, x18)) else some (s11, false))) else none)) else none) else some (s11, false))) := rfl
theorem BinarySearch_ok {h : Heap} {x_ : (List Int)} {target : Int}  {r : (Int × Bool)} (hm : BinarySearch x_ target = some r) : FnOK Try.prog 91 [.o (.c (.L 1 (x_.map cI))), VI (target)] h (fun v h' => v = .tup [.c (I (r.1)), .c (Bo (r.2))] ∧ h' = h) := by
  refine FnOK.fin ?_
  refine FnOK.bodyC (N := 54) Try.func91 rfl rfl rfl (fun hC => ?_)
  replace hm := Ev.of hm
  rw [BinarySearch.eq] at hm
  show CdOK _ _ _ (look _ [(0, .o (.c (.L 1 (x_.map cI)))), (1, VI (target))]) (h ++ ([] : Heap)) _
  refine CdOK.seq ?_
  refine CdOK.region ?_
  refine RgOK.s (v := VI (0)) rfl rfl rfl (e_as rfl) ?_
  refine RgOK.s (v := VB (false)) rfl rfl rfl (e_as rfl) ?_
  refine RgOK.nil ?_
  show CdOK _ _ _ _ _ _
  refine CdOK.seq ?_
  refine CdOK.region ?_
  refine RgOK.s (v := .o (.c (.L 1 (x_.map cI)))) rfl rfl rfl (e_mv (ev_t rfl)) ?_
  refine RgOK.s (v := VI ((x_.length : Int))) rfl rfl rfl (e_lenM (ev_t rfl) is27) ?_
  refine RgOK.s (v := VI ((x_.length : Int))) rfl rfl rfl (e_as (ev_t rfl)) ?_
  refine RgOK.nil ?_
  show CdOK _ _ _ _ _ _
  refine CdOK.seq ?_
  refine CdOK.region ?_
  refine RgOK.s (v := VI ((x_.length : Int))) rfl rfl rfl (e_mv (ev_t rfl)) ?_
  refine RgOK.s (v := VI (0)) rfl rfl rfl (e_as rfl) ?_
  refine RgOK.s (v := VI ((x_.length : Int))) rfl rfl rfl (e_as (ev_t rfl)) ?_
  refine RgOK.nil ?_
  show CdOK _ _ _ _ _ _
  replace hm := hm.bnd
  refine CdOK.joinE (σ := Int) (fun s => s) hm (fun s => [(0, .o (.c (.L 1 (x_.map cI)))), (1, VI (target)), (6, VI ((x_.length : Int))), (7, VI (s))]) (fun s => h ++ ([] : Heap)) ?_ ?_
  · intro hm
    refine CdOK.block ?_
    refine CdOK.loopE (σ := (Int × Int)) (fun k s => Ev (BinarySearch.l1 x_ target k s.1 s.2) _) (fun s => [(0, .o (.c (.L 1 (x_.map cI)))), (1, VI (target)), (6, VI ((x_.length : Int))), (7, VI (s.1)), (8, VI (s.2))]) (fun s => h ++ ([] : Heap)) FU (0, (x_.length : Int)) hm (.cons rfl (.cons rfl (.cons rfl (.cons rfl (.cons rfl .nil))))) rfl ?_
    rintro kk4 ⟨i2, j3⟩ T0 hm
    replace hm : Ev (BinarySearch.l1 x_ target kk4 i2 j3) _ := hm
    cases kk4 with
    | zero => exact (Ev.non hm).elim
    | succ kk4 =>
    rw [BinarySearch.l1_s] at hm
    show CdOK _ _ _ (look T0 [(0, .o (.c (.L 1 (x_.map cI)))), (1, VI (target)), (6, VI ((x_.length : Int))), (7, VI (i2)), (8, VI (j3))]) (h ++ ([] : Heap)) _
    refine CdOK.seq ?_
    refine CdOK.seq ?_
    refine CdOK.region ?_
    refine RgOK.s (v := VI (i2)) rfl rfl rfl (e_mv (ev_t rfl)) ?_
    refine RgOK.s (v := VI (j3)) rfl rfl rfl (e_mv (ev_t rfl)) ?_
    refine RgOK.s (v := VB (decide (i2 < j3))) rfl rfl rfl (e_bin (ev_t rfl) (ev_t rfl) rfl rfl) ?_
    refine RgOK.nil ?_
    show CdOK _ _ _ _ _ _
    refine CdOK.condD (ev_t rfl) ?_ ?_
    · intro c5; replace hm := hm.ifp c5
      refine CdOK.skip ?_
      show CdOK _ _ _ _ _ _
      refine CdOK.block ?_
      refine CdOK.seq ?_
      refine CdOK.region ?_
      refine RgOK.s (v := VI (i2)) rfl rfl rfl (e_mv (ev_t rfl)) ?_
      refine RgOK.s (v := VI (j3)) rfl rfl rfl (e_mv (ev_t rfl)) ?_
      refine RgOK.s (v := VI ((w64 (i2 + j3)))) rfl rfl rfl (e_bin (ev_t rfl) (ev_t rfl) rfl rfl) ?_
      refine RgOK.s (v := .o (.c (.v (.int .u64 ((IntKind.u64.wrap (w64 (i2 + j3)))))))) rfl rfl rfl (e_cvw cv3_175 (ev_t rfl)) ?_
      refine RgOK.s (v := .o (.c (.v (.int .u64 ((Int.fdiv (IntKind.u64.wrap (w64 (i2 + j3))) (2 ^ (min (Int.toNat 1) (IntKind.bits .u64))))))))) rfl rfl rfl (e_bin (ev_t rfl) rfl rfl rfl) ?_
      refine RgOK.s (v := VI ((w64 (Int.fdiv (IntKind.u64.wrap (w64 (i2 + j3))) (2 ^ (min (Int.toNat 1) (IntKind.bits .u64))))))) rfl rfl rfl (e_cvw cv175_3 (ev_t rfl)) ?_
      refine RgOK.s (v := VI ((w64 (Int.fdiv (IntKind.u64.wrap (w64 (i2 + j3))) (2 ^ (min (Int.toNat 1) (IntKind.bits .u64))))))) rfl rfl rfl (e_as (ev_t rfl)) ?_
      refine RgOK.nil ?_
      show CdOK _ _ _ _ _ _
      refine CdOK.seq ?_
      refine CdOK.region ?_
      refine RgOK.s (v := .o (.c (.L 1 (x_.map cI)))) rfl rfl rfl (e_mv (ev_t rfl)) ?_
      refine RgOK.s (v := VI ((w64 (Int.fdiv (IntKind.u64.wrap (w64 (i2 + j3))) (2 ^ (min (Int.toNat 1) (IntKind.bits .u64))))))) rfl rfl rfl (e_mv (ev_t rfl)) ?_
      obtain ⟨c6, hm⟩ := hm.ifs
      refine RgOK.s (v := .o (.c (.rp [I ((gd x_ (w64 (Int.fdiv (IntKind.u64.wrap (w64 (i2 + j3))) (2 ^ (min (Int.toNat 1) (IntKind.bits .u64)))))))]))) rfl rfl rfl (e_ixM (f := cI) (l := x_) (i := (w64 (Int.fdiv (IntKind.u64.wrap (w64 (i2 + j3))) (2 ^ (min (Int.toNat 1) (IntKind.bits .u64)))))) (ev_t rfl) (ev_t rfl) el27 c6) ?_
      refine RgOK.s (v := VI ((gd x_ (w64 (Int.fdiv (IntKind.u64.wrap (w64 (i2 + j3))) (2 ^ (min (Int.toNat 1) (IntKind.bits .u64)))))))) rfl rfl rfl (e_ldR1 (ev_t rfl) ty3 rfl) ?_
      refine RgOK.s (v := VI (target)) rfl rfl rfl (e_mv (ev_t rfl)) ?_
      obtain ⟨x7, e7, hm⟩ := hm.call
      refine RgOK.cl rfl rfl rfl rfl pl161 (R2.wk _) (cmp_Less_ok   e7) ?_
      rintro _ _ ⟨rfl, rfl⟩
      refine RgOK.nil ?_
      show CdOK _ _ _ _ _ _
      refine CdOK.condB (ev_t rfl) ?_ ?_
      · intro c8; replace hm := hm.ifp c8
        refine CdOK.region ?_
        refine RgOK.s (v := VI ((w64 (Int.fdiv (IntKind.u64.wrap (w64 (i2 + j3))) (2 ^ (min (Int.toNat 1) (IntKind.bits .u64))))))) rfl rfl rfl (e_mv (ev_t rfl)) ?_
        refine RgOK.s (v := VI ((w64 ((w64 (Int.fdiv (IntKind.u64.wrap (w64 (i2 + j3))) (2 ^ (min (Int.toNat 1) (IntKind.bits .u64))))) + 1)))) rfl rfl rfl (e_bin (ev_t rfl) rfl rfl rfl) ?_
        refine RgOK.s (v := VI ((w64 ((w64 (Int.fdiv (IntKind.u64.wrap (w64 (i2 + j3))) (2 ^ (min (Int.toNat 1) (IntKind.bits .u64))))) + 1)))) rfl rfl rfl (e_as (ev_t rfl)) ?_
        refine RgOK.nil ?_
        refine Told.id ?_
        exact ⟨_, ((w64 ((w64 (Int.fdiv (IntKind.u64.wrap (w64 (i2 + j3))) (2 ^ (min (Int.toNat 1) (IntKind.bits .u64))))) + 1)), j3), Nat.lt_succ_self _, hm, (.cons rfl (.cons rfl (.cons rfl (.cons rfl (.cons rfl .nil))))), rfl⟩
      · intro c9; replace hm := hm.ifn c9
        refine CdOK.region ?_
        refine RgOK.s (v := VI ((w64 (Int.fdiv (IntKind.u64.wrap (w64 (i2 + j3))) (2 ^ (min (Int.toNat 1) (IntKind.bits .u64))))))) rfl rfl rfl (e_mv (ev_t rfl)) ?_
        refine RgOK.s (v := VI ((w64 (Int.fdiv (IntKind.u64.wrap (w64 (i2 + j3))) (2 ^ (min (Int.toNat 1) (IntKind.bits .u64))))))) rfl rfl rfl (e_as (ev_t rfl)) ?_
        refine RgOK.nil ?_
        refine Told.id ?_
        exact ⟨_, (i2, (w64 (Int.fdiv (IntKind.u64.wrap (w64 (i2 + j3))) (2 ^ (min (Int.toNat 1) (IntKind.bits .u64)))))), Nat.lt_succ_self _, hm, (.cons rfl (.cons rfl (.cons rfl (.cons rfl (.cons rfl .nil))))), rfl⟩
    · intro c10; replace hm := hm.ifn c10
      refine CdOK.exit ?_
      refine Told.id ?_
      exact ⟨i2, hm.ret, (.cons rfl (.cons rfl (.cons rfl (.cons rfl .nil)))), rfl⟩
  · rintro i1 T0 hm
    show CdOK _ _ _ (look T0 [(0, .o (.c (.L 1 (x_.map cI)))), (1, VI (target)), (6, VI ((x_.length : Int))), (7, VI (i1))]) (h ++ ([] : Heap)) _
    refine CdOK.seq ?_
    refine CdOK.region ?_
    refine RgOK.s (v := VI (i1)) rfl rfl rfl (e_mv (ev_t rfl)) ?_
    refine RgOK.s (v := VI (i1)) rfl rfl rfl (e_mv (ev_t rfl)) ?_
    refine RgOK.s (v := VI ((x_.length : Int))) rfl rfl rfl (e_mv (ev_t rfl)) ?_
    refine RgOK.sd rfl rfl rfl (e_bin (ev_t rfl) (ev_t rfl) rfl rfl) ?_ ?_
    · intro c12; replace hm := hm.ifp c12
      refine RgOK.s (v := VB (true)) rfl rfl rfl (e_mv (ev_t rfl)) ?_
      refine RgOK.s (v := .o (.c (.L 1 (x_.map cI)))) rfl rfl rfl (e_mv (ev_t rfl)) ?_
      refine RgOK.s (v := VI (i1)) rfl rfl rfl (e_mv (ev_t rfl)) ?_
      obtain ⟨c13, hm⟩ := hm.ifs
      refine RgOK.s (v := .o (.c (.rp [I ((gd x_ i1))]))) rfl rfl rfl (e_ixM (f := cI) (l := x_) (i := i1) (ev_t rfl) (ev_t rfl) el27 c13) ?_
      refine RgOK.s (v := VI ((gd x_ i1))) rfl rfl rfl (e_ldR1 (ev_t rfl) ty3 rfl) ?_
      refine RgOK.s (v := VI (target)) rfl rfl rfl (e_mv (ev_t rfl)) ?_
      refine RgOK.sd rfl rfl rfl (e_eqK (ev_t rfl) (ev_t rfl)) ?_ ?_
      · intro c14; replace hm := hm.ifp c14
        refine RgOK.s (v := VB (true)) rfl rfl rfl (e_mv (ev_t rfl)) ?_
        refine RgOK.sk rfl rfl rfl ?_
        refine RgOK.sk rfl rfl rfl ?_
        refine RgOK.sk rfl rfl rfl ?_
        refine RgOK.sk rfl rfl rfl ?_
        refine RgOK.sk rfl rfl rfl ?_
        refine RgOK.sk rfl rfl rfl ?_
        refine RgOK.sk rfl rfl rfl ?_
        refine RgOK.sk rfl rfl rfl ?_
        refine RgOK.sk rfl rfl rfl ?_
        refine RgOK.s (v := VB (true)) rfl rfl rfl (e_pick (t := true) (ev_t rfl) rfl) ?_
        refine RgOK.s (v := VB (true)) rfl rfl rfl (e_pick (t := true) (ev_t rfl) (ev_t rfl)) ?_
        refine RgOK.s (v := VI (i1)) rfl rfl rfl (e_as (ev_t rfl)) ?_
        refine RgOK.s (v := VB (true)) rfl rfl rfl (e_as (ev_t rfl)) ?_
        refine RgOK.nil ?_
        show CdOK _ _ _ _ _ _
        refine CdOK.ret ?_
        refine ⟨.inr rfl, _, rfl, h, [], _, rfl, rfl, hC, ((renFlV rfl) : RenV _ _ _ _ (.tup [.c (I (i1)), .c (Bo true)])), ?_⟩
        have hr := hm.ret
        subst hr
        exact ⟨rfl, rfl⟩
      · intro c15; replace hm := hm.ifn c15
        refine RgOK.s (v := VB (false)) rfl rfl rfl (e_mv (ev_t rfl)) ?_
        refine RgOK.s (v := .o (.c (.L 1 (x_.map cI)))) rfl rfl rfl (e_mv (ev_t rfl)) ?_
        refine RgOK.s (v := VI (i1)) rfl rfl rfl (e_mv (ev_t rfl)) ?_
        obtain ⟨c16, hm⟩ := hm.ifs
        refine RgOK.s (v := .o (.c (.rp [I ((gd x_ i1))]))) rfl rfl rfl (e_ixM (f := cI) (l := x_) (i := i1) (ev_t rfl) (ev_t rfl) el27 c16) ?_
        refine RgOK.s (v := VI ((gd x_ i1))) rfl rfl rfl (e_ldR1 (ev_t rfl) ty3 rfl) ?_
        obtain ⟨x17, e17, hm⟩ := hm.call
        cases x17 with
        | true =>
          replace hm := hm.ifp rfl
          refine RgOK.cl rfl rfl rfl rfl pl162 (R2.wk _) (slices_isNaN_ok   e17) ?_
          rintro _ _ ⟨rfl, rfl⟩
          refine RgOK.s (v := VB (true)) rfl rfl rfl (e_mv (ev_t rfl)) ?_
          refine RgOK.s (v := VI (target)) rfl rfl rfl (e_mv (ev_t rfl)) ?_
          obtain ⟨x18, e18, hm⟩ := hm.call
          refine RgOK.cl rfl rfl rfl rfl pl162 (R2.wk _) (slices_isNaN_ok   e18) ?_
          rintro _ _ ⟨rfl, rfl⟩
          refine RgOK.s (v := VB (x18)) rfl rfl rfl (e_pick (t := true) (ev_t rfl) (ev_t rfl)) ?_
          refine RgOK.s (v := VB (x18)) rfl rfl rfl (e_pick (t := false) (ev_t rfl) (ev_t rfl)) ?_
          refine RgOK.s (v := VB (x18)) rfl rfl rfl (e_pick (t := true) (ev_t rfl) (ev_t rfl)) ?_
          refine RgOK.s (v := VI (i1)) rfl rfl rfl (e_as (ev_t rfl)) ?_
          refine RgOK.s (v := VB (x18)) rfl rfl rfl (e_as (ev_t rfl)) ?_
          refine RgOK.nil ?_
          show CdOK _ _ _ _ _ _
          refine CdOK.ret ?_
          refine ⟨.inr rfl, _, rfl, h, [], _, rfl, rfl, hC, ((renFlV rfl) : RenV _ _ _ _ (.tup [.c (I (i1)), .c (Bo x18)])), ?_⟩
          have hr := hm.ret
          subst hr
          exact ⟨rfl, rfl⟩
        | false =>
          replace hm := hm.ifn Bool.false_ne_true
          refine RgOK.cl rfl rfl rfl rfl pl162 (R2.wk _) (slices_isNaN_ok   e17) ?_
          rintro _ _ ⟨rfl, rfl⟩
          refine RgOK.s (v := VB (false)) rfl rfl rfl (e_mv (ev_t rfl)) ?_
          refine RgOK.sk rfl rfl rfl ?_
          refine RgOK.sk rfl rfl rfl ?_
          refine RgOK.s (v := VB (false)) rfl rfl rfl (e_pick (t := false) (ev_t rfl) rfl) ?_
          refine RgOK.s (v := VB (false)) rfl rfl rfl (e_pick (t := false) (ev_t rfl) (ev_t rfl)) ?_
          refine RgOK.s (v := VB (false)) rfl rfl rfl (e_pick (t := true) (ev_t rfl) (ev_t rfl)) ?_
          refine RgOK.s (v := VI (i1)) rfl rfl rfl (e_as (ev_t rfl)) ?_
          refine RgOK.s (v := VB (false)) rfl rfl rfl (e_as (ev_t rfl)) ?_
          refine RgOK.nil ?_
          show CdOK _ _ _ _ _ _
          refine CdOK.ret ?_
          refine ⟨.inr rfl, _, rfl, h, [], _, rfl, rfl, hC, ((renFlV rfl) : RenV _ _ _ _ (.tup [.c (I (i1)), .c (Bo false)])), ?_⟩
          have hr := hm.ret
          subst hr
          exact ⟨rfl, rfl⟩
    · intro c19; replace hm := hm.ifn c19
      refine RgOK.s (v := VB (false)) rfl rfl rfl (e_mv (ev_t rfl)) ?_
      refine RgOK.sk rfl rfl rfl ?_
      refine RgOK.sk rfl rfl rfl ?_
      refine RgOK.sk rfl rfl rfl ?_
      refine RgOK.sk rfl rfl rfl ?_
      refine RgOK.sk rfl rfl rfl ?_
      refine RgOK.sk rfl rfl rfl ?_
      refine RgOK.sk rfl rfl rfl ?_
      refine RgOK.sk rfl rfl rfl ?_
      refine RgOK.sk rfl rfl rfl ?_
      refine RgOK.sk rfl rfl rfl ?_
      refine RgOK.sk rfl rfl rfl ?_
      refine RgOK.sk rfl rfl rfl ?_
      refine RgOK.sk rfl rfl rfl ?_
      refine RgOK.sk rfl rfl rfl ?_
      refine RgOK.sk rfl rfl rfl ?_
      refine RgOK.sk rfl rfl rfl ?_
      refine RgOK.sk rfl rfl rfl ?_
      refine RgOK.s (v := VB (false)) rfl rfl rfl (e_pick (t := false) (ev_t rfl) rfl) ?_
      refine RgOK.s (v := VI (i1)) rfl rfl rfl (e_as (ev_t rfl)) ?_
      refine RgOK.s (v := VB (false)) rfl rfl rfl (e_as (ev_t rfl)) ?_
      refine RgOK.nil ?_
      show CdOK _ _ _ _ _ _
      refine CdOK.ret ?_
      refine ⟨.inr rfl, _, rfl, h, [], _, rfl, rfl, hC, ((renFlV rfl) : RenV _ _ _ _ (.tup [.c (I (i1)), .c (Bo false)])), ?_⟩
      have hr := hm.ret
      subst hr
      exact ⟨rfl, rfl⟩
/- pagemend/quarantine.bad -/
def quarantine_bad (r_ : Remap) (address : Int) : Option Bool := ((BinarySearch r_.bad address).bind fun (x1 : (Int × Bool)) => some x1.2)
theorem quarantine_bad.eq (r_ : Remap) (address : Int) : quarantine_bad r_ address = ((BinarySearch r_.bad address).bind fun (x1 : (Int × Bool)) => some x1.2) := rfl
theorem quarantine_bad_ok {h : Heap} {r_ : Remap} {address : Int}  {r : Bool} (hm : quarantine_bad r_ address = some r) : FnOK Try.prog 84 [.o (.agg [I (r_.pages), I (r_.spares), .L 2 (r_.places.map Place.cs), .L 1 (r_.bad.map cI)]), VI (address)] h (fun v h' => v = VB (r) ∧ h' = h) := by
  refine FnOK.fin ?_
  refine FnOK.bodyC (N := 15) Try.func84 rfl rfl rfl (fun hC => ?_)
  replace hm := Ev.of hm
  rw [quarantine_bad.eq] at hm
  show CdOK _ _ _ (look _ [(0, .o (.agg [I (r_.pages), I (r_.spares), .L 2 (r_.places.map Place.cs), .L 1 (r_.bad.map cI)])), (1, VI (address))]) (h ++ ([] : Heap)) _
  refine CdOK.seq ?_
  refine CdOK.region ?_
  refine RgOK.s (v := .o (.c (.ptr (h.length + 0) 0))) rfl rfl rfl (e_boxN (L' := [⟨[I (r_.pages), I (r_.spares), .L 2 (r_.places.map Place.cs), .L 1 (r_.bad.map cI)], true, true⟩]) rfl (ev_t rfl) rfl rfl) ?_
  refine RgOK.s (v := VB (false)) rfl rfl rfl (e_as rfl) ?_
  refine RgOK.nil ?_
  show CdOK _ _ _ _ _ _
  refine CdOK.seq ?_
  refine CdOK.region ?_
  refine RgOK.s (v := .o (.c (.ptr (h.length + 0) 3))) rfl rfl rfl (e_fa' fa29_3 (ev_t rfl)) ?_
  refine RgOK.s (v := .o (.c (.L 1 (r_.bad.map cI)))) rfl rfl rfl (e_ldb1 (ev_t rfl) ty27 (bx rfl rfl) rfl) ?_
  refine RgOK.s (v := VI (address)) rfl rfl rfl (e_mv (ev_t rfl)) ?_
  obtain ⟨x1, e1, hm⟩ := hm.call
  refine RgOK.cl rfl rfl rfl rfl pl91 (R2.wk _) (BinarySearch_ok   e1) ?_
  rintro _ _ ⟨rfl, rfl⟩
  refine RgOK.s (v := .tup [.c (I (x1.1)), .c (Bo (x1.2))]) rfl rfl rfl (e_mv (ev_t rfl)) ?_
  refine RgOK.s (v := VI (x1.1)) rfl rfl rfl (e_ext (ev_t rfl) rfl) ?_
  refine RgOK.s (v := VB (x1.2)) rfl rfl rfl (e_ext (ev_t rfl) rfl) ?_
  refine RgOK.s (v := VI (x1.1)) rfl rfl rfl (e_as (ev_t rfl)) ?_
  refine RgOK.s (v := VB (x1.2)) rfl rfl rfl (e_as (ev_t rfl)) ?_
  refine RgOK.nil ?_
  show CdOK _ _ _ _ _ _
  refine CdOK.seq ?_
  refine CdOK.region ?_
  refine RgOK.s (v := VB (x1.2)) rfl rfl rfl (e_mv (ev_t rfl)) ?_
  refine RgOK.s (v := VB (x1.2)) rfl rfl rfl (e_as (ev_t rfl)) ?_
  refine RgOK.nil ?_
  show CdOK _ _ _ _ _ _
  refine CdOK.ret ?_
  refine ⟨.inr rfl, _, rfl, h, [⟨[I (r_.pages), I (r_.spares), .L 2 (r_.places.map Place.cs), .L 1 (r_.bad.map cI)], true, true⟩], _, rfl, rfl, hC, ((renFlV rfl) : RenV _ _ _ _ (VB (x1.2))), ?_⟩
  have hr := hm.ret
  subst hr
  exact ⟨rfl, rfl⟩
/- pagemend/quarantine.Valid -/
def quarantine_Valid.l1 (r_ : Remap) : Nat → Int → Int → Option (Sum Int Bool)
  | 0, _, _ => none
  | kk14 + 1, own12, t3813 => (if t3813 < (r_.bad.length : Int) then (if (0 : Int) ≤ t3813 ∧ t3813 < (r_.bad.length : Int) then (((if (gd r_.bad t3813) < 0 then some (Sum.inr false) else (if (w64 (r_.pages + r_.spares)) ≤ (gd r_.bad t3813) then some (Sum.inr false) else (if 0 < t3813 then (if (0 : Int) ≤ (w64 (t3813 - 1)) ∧ (w64 (t3813 - 1)) < (r_.bad.length : Int) then (if (gd r_.bad t3813) ≤ (gd r_.bad (w64 (t3813 - 1))) then some (Sum.inr false) else some (Sum.inl ())) else none) else some (Sum.inl ()))))).bind fun (z : Sum Unit Bool) => match z with | .inl (s26 : Unit) => (if (gd r_.bad t3813) < r_.pages then quarantine_Valid.l1 r_ kk14 (w64 (own12 + 1)) (w64 (t3813 + 1)) else quarantine_Valid.l1 r_ kk14 own12 (w64 (t3813 + 1))) | .inr r => some (Sum.inr r)) else none) else some (Sum.inl own12))
theorem quarantine_Valid.l1_s (r_ : Remap) (kk14 : Nat) (own12 : Int) (t3813 : Int) : quarantine_Valid.l1 r_ (kk14 + 1) own12 t3813 = (if t3813 < (r_.bad.length : Int) then (if (0 : Int) ≤ t3813 ∧ t3813 < (r_.bad.length : Int) then (((if (gd r_.bad t3813) < 0 then some (Sum.inr false) else (if (w64 (r_.pages + r_.spares)) ≤ (gd r_.bad t3813) then some (Sum.inr false) else (if 0 < t3813 then (if (0 : Int) ≤ (w64 (t3813 - 1)) ∧ (w64 (t3813 - 1)) < (r_.bad.length : Int) then (if (gd r_.bad t3813) ≤ (gd r_.bad (w64 (t3813 - 1))) then some (Sum.inr false) else some (Sum.inl ())) else none) else some (Sum.inl ()))))).bind fun (z : Sum Unit Bool) => match z with | .inl (s26 : Unit) => (if (gd r_.bad t3813) < r_.pages then quarantine_Valid.l1 r_ kk14 (w64 (own12 + 1)) (w64 (t3813 + 1)) else quarantine_Valid.l1 r_ kk14 own12 (w64 (t3813 + 1))) | .inr r => some (Sum.inr r)) else none) else some (Sum.inl own12)) := rfl
def quarantine_Valid.l2 (r_ : Remap) : Nat → Int → (List Bool) → Option (Sum Unit Bool)
  | 0, _, _ => none
  | kk33 + 1, t7831, bx32 => (if t7831 < (r_.places.length : Int) then (if (0 : Int) ≤ t7831 ∧ t7831 < (r_.places.length : Int) then (((if ((gd r_.places t7831).page) < 0 then some (Sum.inr false) else (if r_.pages ≤ ((gd r_.places t7831).page) then some (Sum.inr false) else (if 0 < t7831 then (if (0 : Int) ≤ (w64 (t7831 - 1)) ∧ (w64 (t7831 - 1)) < (r_.places.length : Int) then (if ((gd r_.places t7831).page) ≤ ((gd r_.places (w64 (t7831 - 1))).page) then some (Sum.inr false) else ((quarantine_bad r_ ((gd r_.places t7831).page)).bind fun (x44 : Bool) => (if (!x44) = true then some (Sum.inr false) else (if ((gd r_.places t7831).address) < r_.pages then some (Sum.inr false) else (if (w64 (r_.pages + r_.spares)) ≤ ((gd r_.places t7831).address) then some (Sum.inr false) else ((quarantine_bad r_ ((gd r_.places t7831).address)).bind fun (x51 : Bool) => (if x51 = true then some (Sum.inr false) else (if (0 : Int) ≤ ((gd r_.places t7831).address) ∧ ((gd r_.places t7831).address) < (64 : Int) then (if (0 : Int) ≤ ((gd r_.places t7831).address) ∧ ((gd r_.places t7831).address) < (bx32.length : Int) then (if (gd bx32 ((gd r_.places t7831).address)) = true then some (Sum.inr false) else some (Sum.inl ())) else none) else none)))))))) else none) else ((quarantine_bad r_ ((gd r_.places t7831).page)).bind fun (x57 : Bool) => (if (!x57) = true then some (Sum.inr false) else (if ((gd r_.places t7831).address) < r_.pages then some (Sum.inr false) else (if (w64 (r_.pages + r_.spares)) ≤ ((gd r_.places t7831).address) then some (Sum.inr false) else ((quarantine_bad r_ ((gd r_.places t7831).address)).bind fun (x64 : Bool) => (if x64 = true then some (Sum.inr false) else (if (0 : Int) ≤ ((gd r_.places t7831).address) ∧ ((gd r_.places t7831).address) < (64 : Int) then (if (0 : Int) ≤ ((gd r_.places t7831).address) ∧ ((gd r_.places t7831).address) < (bx32.length : Int) then (if (gd bx32 ((gd r_.places t7831).address)) = true then some (Sum.inr false) else some (Sum.inl ())) else none) else none))))))))))).bind fun (z : Sum Unit Bool) => match z with | .inl (s69 : Unit) => (if (0 : Int) ≤ ((gd r_.places t7831).address) ∧ ((gd r_.places t7831).address) < (64 : Int) then (if (0 : Int) ≤ ((gd r_.places t7831).address) ∧ ((gd r_.places t7831).address) < (bx32.length : Int) then quarantine_Valid.l2 r_ kk33 (w64 (t7831 + 1)) (bx32.set (Int.toNat ((gd r_.places t7831).address)) true) else none) else none) | .inr r => some (Sum.inr r)) else none) else some (Sum.inl ()))
theorem quarantine_Valid.l2_s (r_ : Remap) (kk33 : Nat) (t7831 : Int) (bx32 : (List Bool)) : quarantine_Valid.l2 r_ (kk33 + 1) t7831 bx32 = (if t7831 < (r_.places.length : Int) then (if (0 : Int) ≤ t7831 ∧ t7831 < (r_.places.length : Int) then (((if ((gd r_.places t7831).page) < 0 then some (Sum.inr false) else (if r_.pages ≤ ((gd r_.places t7831).page) then some (Sum.inr false) else (if 0 < t7831 then (if (0 : Int) ≤ (w64 (t7831 - 1)) ∧ (w64 (t7831 - 1)) < (r_.places.length : Int) then (if ((gd r_.places t7831).page) ≤ ((gd r_.places (w64 (t7831 - 1))).page) then some (Sum.inr false) else ((quarantine_bad r_ ((gd r_.places t7831).page)).bind fun (x44 : Bool) => (if (!x44) = true then some (Sum.inr false) else (if ((gd r_.places t7831).address) < r_.pages then some (Sum.inr false) else (if (w64 (r_.pages + r_.spares)) ≤ ((gd r_.places t7831).address) then some (Sum.inr false) else ((quarantine_bad r_ ((gd r_.places t7831).address)).bind fun (x51 : Bool) => (if x51 = true then some (Sum.inr false) else (if (0 : Int) ≤ ((gd r_.places t7831).address) ∧ ((gd r_.places t7831).address) < (64 : Int) then (if (0 : Int) ≤ ((gd r_.places t7831).address) ∧ ((gd r_.places t7831).address) < (bx32.length : Int) then (if (gd bx32 ((gd r_.places t7831).address)) = true then some (Sum.inr false) else some (Sum.inl ())) else none) else none)))))))) else none) else ((quarantine_bad r_ ((gd r_.places t7831).page)).bind fun (x57 : Bool) => (if (!x57) = true then some (Sum.inr false) else (if ((gd r_.places t7831).address) < r_.pages then some (Sum.inr false) else (if (w64 (r_.pages + r_.spares)) ≤ ((gd r_.places t7831).address) then some (Sum.inr false) else ((quarantine_bad r_ ((gd r_.places t7831).address)).bind fun (x64 : Bool) => (if x64 = true then some (Sum.inr false) else (if (0 : Int) ≤ ((gd r_.places t7831).address) ∧ ((gd r_.places t7831).address) < (64 : Int) then (if (0 : Int) ≤ ((gd r_.places t7831).address) ∧ ((gd r_.places t7831).address) < (bx32.length : Int) then (if (gd bx32 ((gd r_.places t7831).address)) = true then some (Sum.inr false) else some (Sum.inl ())) else none) else none))))))))))).bind fun (z : Sum Unit Bool) => match z with | .inl (s69 : Unit) => (if (0 : Int) ≤ ((gd r_.places t7831).address) ∧ ((gd r_.places t7831).address) < (64 : Int) then (if (0 : Int) ≤ ((gd r_.places t7831).address) ∧ ((gd r_.places t7831).address) < (bx32.length : Int) then quarantine_Valid.l2 r_ kk33 (w64 (t7831 + 1)) (bx32.set (Int.toNat ((gd r_.places t7831).address)) true) else none) else none) | .inr r => some (Sum.inr r)) else none) else some (Sum.inl ())) := rfl
def quarantine_Valid (r_ : Remap) : Option Bool := (if r_.pages < 1 then some false else (if 64 < r_.pages then some false else (if r_.spares < 0 then some false else (if 16 < r_.spares then some false else (if 64 < (w64 (r_.pages + r_.spares)) then some false else ((quarantine_Valid.l1 r_ FU 0 0).bind fun (z : Sum Int Bool) => match z with | .inl (s30 : Int) => ((quarantine_Valid.l2 r_ FU 0 (List.replicate 64 false)).bind fun (z : Sum Unit Bool) => match z with | .inl (s73 : Unit) => some (decide (s30 = (r_.places.length : Int))) | .inr r => some r) | .inr r => some r))))))
theorem quarantine_Valid.eq (r_ : Remap) : quarantine_Valid r_ = (if r_.pages < 1 then some false else (if 64 < r_.pages then some false else (if r_.spares < 0 then some false else (if 16 < r_.spares then some false else (if 64 < (w64 (r_.pages + r_.spares)) then some false else ((quarantine_Valid.l1 r_ FU 0 0).bind fun (z : Sum Int Bool) => match z with | .inl (s30 : Int) => ((quarantine_Valid.l2 r_ FU 0 (List.replicate 64 false)).bind fun (z : Sum Unit Bool) => match z with | .inl (s73 : Unit) => some (decide (s30 = (r_.places.length : Int))) | .inr r => some r) | .inr r => some r)))))) := rfl
theorem quarantine_Valid_ok {h : Heap} {r_ : Remap}  {r : Bool} (hm : quarantine_Valid r_ = some r) : FnOK Try.prog 22 [.o (.agg [I (r_.pages), I (r_.spares), .L 2 (r_.places.map Place.cs), .L 1 (r_.bad.map cI)])] h (fun v h' => v = VB (r) ∧ h' = h) := by
  refine FnOK.fin ?_
  refine FnOK.bodyC (N := 154) Try.func22 rfl rfl rfl (fun hC => ?_)
  replace hm := Ev.of hm
  rw [quarantine_Valid.eq] at hm
  show CdOK _ _ _ (look _ [(0, .o (.agg [I (r_.pages), I (r_.spares), .L 2 (r_.places.map Place.cs), .L 1 (r_.bad.map cI)]))]) (h ++ ([] : Heap)) _
  refine CdOK.seq ?_
  refine CdOK.region ?_
  refine RgOK.s (v := .o (.c (.ptr (h.length + 0) 0))) rfl rfl rfl (e_boxN (L' := [⟨[I (r_.pages), I (r_.spares), .L 2 (r_.places.map Place.cs), .L 1 (r_.bad.map cI)], true, true⟩]) rfl (ev_t rfl) rfl rfl) ?_
  refine RgOK.s (v := VB (false)) rfl rfl rfl (e_as rfl) ?_
  refine RgOK.nil ?_
  show CdOK _ _ _ _ _ _
  refine CdOK.seq ?_
  refine CdOK.seq ?_
  refine CdOK.region ?_
  refine RgOK.s (v := .o (.c (.ptr (h.length + 0) 0))) rfl rfl rfl (e_fa' fa29_0 (ev_t rfl)) ?_
  refine RgOK.s (v := VI (r_.pages)) rfl rfl rfl (e_ldb1 (ev_t rfl) ty3 (bx rfl rfl) rfl) ?_
  refine RgOK.sd rfl rfl rfl (e_bin (ev_t rfl) rfl rfl rfl) ?_ ?_
  · intro c1; replace hm := hm.ifp c1
    refine RgOK.s (v := VB (true)) rfl rfl rfl (e_mv (ev_t rfl)) ?_
    refine RgOK.sk rfl rfl rfl ?_
    refine RgOK.sk rfl rfl rfl ?_
    refine RgOK.sk rfl rfl rfl ?_
    refine RgOK.s (v := VB (true)) rfl rfl rfl (e_pick (t := true) (ev_t rfl) rfl) ?_
    refine RgOK.s (v := VB (true)) rfl rfl rfl (e_mv (ev_t rfl)) ?_
    refine RgOK.sk rfl rfl rfl ?_
    refine RgOK.sk rfl rfl rfl ?_
    refine RgOK.sk rfl rfl rfl ?_
    refine RgOK.s (v := VB (true)) rfl rfl rfl (e_pick (t := true) (ev_t rfl) rfl) ?_
    refine RgOK.s (v := VB (true)) rfl rfl rfl (e_mv (ev_t rfl)) ?_
    refine RgOK.sk rfl rfl rfl ?_
    refine RgOK.sk rfl rfl rfl ?_
    refine RgOK.sk rfl rfl rfl ?_
    refine RgOK.s (v := VB (true)) rfl rfl rfl (e_pick (t := true) (ev_t rfl) rfl) ?_
    refine RgOK.s (v := VB (true)) rfl rfl rfl (e_mv (ev_t rfl)) ?_
    refine RgOK.sk rfl rfl rfl ?_
    refine RgOK.sk rfl rfl rfl ?_
    refine RgOK.sk rfl rfl rfl ?_
    refine RgOK.sk rfl rfl rfl ?_
    refine RgOK.sk rfl rfl rfl ?_
    refine RgOK.sk rfl rfl rfl ?_
    refine RgOK.s (v := VB (true)) rfl rfl rfl (e_pick (t := true) (ev_t rfl) rfl) ?_
    refine RgOK.nil ?_
    show CdOK _ _ _ _ _ _
    refine CdOK.cond_true rfl ?_
    refine CdOK.seq ?_
    refine CdOK.region ?_
    refine RgOK.s (v := VB (false)) rfl rfl rfl (e_as rfl) ?_
    refine RgOK.nil ?_
    show CdOK _ _ _ _ _ _
    refine CdOK.ret ?_
    refine ⟨.inr rfl, _, rfl, h, [⟨[I (r_.pages), I (r_.spares), .L 2 (r_.places.map Place.cs), .L 1 (r_.bad.map cI)], true, true⟩], _, rfl, rfl, hC, ((renFlV rfl) : RenV _ _ _ _ (VB (false))), ?_⟩
    have hr := hm.ret
    subst hr
    exact ⟨rfl, rfl⟩
  · intro c2; replace hm := hm.ifn c2
    refine RgOK.s (v := VB (false)) rfl rfl rfl (e_mv (ev_t rfl)) ?_
    refine RgOK.s (v := .o (.c (.ptr (h.length + 0) 0))) rfl rfl rfl (e_fa' fa29_0 (ev_t rfl)) ?_
    refine RgOK.s (v := VI (r_.pages)) rfl rfl rfl (e_ldb1 (ev_t rfl) ty3 (bx rfl rfl) rfl) ?_
    refine RgOK.sd rfl rfl rfl (e_bin (ev_t rfl) rfl rfl rfl) ?_ ?_
    · intro c3; replace hm := hm.ifp c3
      refine RgOK.s (v := VB (true)) rfl rfl rfl (e_pick (t := false) (ev_t rfl) (ev_t rfl)) ?_
      refine RgOK.s (v := VB (true)) rfl rfl rfl (e_mv (ev_t rfl)) ?_
      refine RgOK.sk rfl rfl rfl ?_
      refine RgOK.sk rfl rfl rfl ?_
      refine RgOK.sk rfl rfl rfl ?_
      refine RgOK.s (v := VB (true)) rfl rfl rfl (e_pick (t := true) (ev_t rfl) rfl) ?_
      refine RgOK.s (v := VB (true)) rfl rfl rfl (e_mv (ev_t rfl)) ?_
      refine RgOK.sk rfl rfl rfl ?_
      refine RgOK.sk rfl rfl rfl ?_
      refine RgOK.sk rfl rfl rfl ?_
      refine RgOK.s (v := VB (true)) rfl rfl rfl (e_pick (t := true) (ev_t rfl) rfl) ?_
      refine RgOK.s (v := VB (true)) rfl rfl rfl (e_mv (ev_t rfl)) ?_
      refine RgOK.sk rfl rfl rfl ?_
      refine RgOK.sk rfl rfl rfl ?_
      refine RgOK.sk rfl rfl rfl ?_
      refine RgOK.sk rfl rfl rfl ?_
      refine RgOK.sk rfl rfl rfl ?_
      refine RgOK.sk rfl rfl rfl ?_
      refine RgOK.s (v := VB (true)) rfl rfl rfl (e_pick (t := true) (ev_t rfl) rfl) ?_
      refine RgOK.nil ?_
      show CdOK _ _ _ _ _ _
      refine CdOK.cond_true rfl ?_
      refine CdOK.seq ?_
      refine CdOK.region ?_
      refine RgOK.s (v := VB (false)) rfl rfl rfl (e_as rfl) ?_
      refine RgOK.nil ?_
      show CdOK _ _ _ _ _ _
      refine CdOK.ret ?_
      refine ⟨.inr rfl, _, rfl, h, [⟨[I (r_.pages), I (r_.spares), .L 2 (r_.places.map Place.cs), .L 1 (r_.bad.map cI)], true, true⟩], _, rfl, rfl, hC, ((renFlV rfl) : RenV _ _ _ _ (VB (false))), ?_⟩
      have hr := hm.ret
      subst hr
      exact ⟨rfl, rfl⟩
    · intro c4; replace hm := hm.ifn c4
      refine RgOK.s (v := VB (false)) rfl rfl rfl (e_pick (t := false) (ev_t rfl) (ev_t rfl)) ?_
      refine RgOK.s (v := VB (false)) rfl rfl rfl (e_mv (ev_t rfl)) ?_
      refine RgOK.s (v := .o (.c (.ptr (h.length + 0) 1))) rfl rfl rfl (e_fa' fa29_1 (ev_t rfl)) ?_
      refine RgOK.s (v := VI (r_.spares)) rfl rfl rfl (e_ldb1 (ev_t rfl) ty3 (bx rfl rfl) rfl) ?_
      refine RgOK.sd rfl rfl rfl (e_bin (ev_t rfl) rfl rfl rfl) ?_ ?_
      · intro c5; replace hm := hm.ifp c5
        refine RgOK.s (v := VB (true)) rfl rfl rfl (e_pick (t := false) (ev_t rfl) (ev_t rfl)) ?_
        refine RgOK.s (v := VB (true)) rfl rfl rfl (e_mv (ev_t rfl)) ?_
        refine RgOK.sk rfl rfl rfl ?_
        refine RgOK.sk rfl rfl rfl ?_
        refine RgOK.sk rfl rfl rfl ?_
        refine RgOK.s (v := VB (true)) rfl rfl rfl (e_pick (t := true) (ev_t rfl) rfl) ?_
        refine RgOK.s (v := VB (true)) rfl rfl rfl (e_mv (ev_t rfl)) ?_
        refine RgOK.sk rfl rfl rfl ?_
        refine RgOK.sk rfl rfl rfl ?_
        refine RgOK.sk rfl rfl rfl ?_
        refine RgOK.sk rfl rfl rfl ?_
        refine RgOK.sk rfl rfl rfl ?_
        refine RgOK.sk rfl rfl rfl ?_
        refine RgOK.s (v := VB (true)) rfl rfl rfl (e_pick (t := true) (ev_t rfl) rfl) ?_
        refine RgOK.nil ?_
        show CdOK _ _ _ _ _ _
        refine CdOK.cond_true rfl ?_
        refine CdOK.seq ?_
        refine CdOK.region ?_
        refine RgOK.s (v := VB (false)) rfl rfl rfl (e_as rfl) ?_
        refine RgOK.nil ?_
        show CdOK _ _ _ _ _ _
        refine CdOK.ret ?_
        refine ⟨.inr rfl, _, rfl, h, [⟨[I (r_.pages), I (r_.spares), .L 2 (r_.places.map Place.cs), .L 1 (r_.bad.map cI)], true, true⟩], _, rfl, rfl, hC, ((renFlV rfl) : RenV _ _ _ _ (VB (false))), ?_⟩
        have hr := hm.ret
        subst hr
        exact ⟨rfl, rfl⟩
      · intro c6; replace hm := hm.ifn c6
        refine RgOK.s (v := VB (false)) rfl rfl rfl (e_pick (t := false) (ev_t rfl) (ev_t rfl)) ?_
        refine RgOK.s (v := VB (false)) rfl rfl rfl (e_mv (ev_t rfl)) ?_
        refine RgOK.s (v := .o (.c (.ptr (h.length + 0) 1))) rfl rfl rfl (e_fa' fa29_1 (ev_t rfl)) ?_
        refine RgOK.s (v := VI (r_.spares)) rfl rfl rfl (e_ldb1 (ev_t rfl) ty3 (bx rfl rfl) rfl) ?_
        refine RgOK.sd rfl rfl rfl (e_bin (ev_t rfl) rfl rfl rfl) ?_ ?_
        · intro c7; replace hm := hm.ifp c7
          refine RgOK.s (v := VB (true)) rfl rfl rfl (e_pick (t := false) (ev_t rfl) (ev_t rfl)) ?_
          refine RgOK.s (v := VB (true)) rfl rfl rfl (e_mv (ev_t rfl)) ?_
          refine RgOK.sk rfl rfl rfl ?_
          refine RgOK.sk rfl rfl rfl ?_
          refine RgOK.sk rfl rfl rfl ?_
          refine RgOK.sk rfl rfl rfl ?_
          refine RgOK.sk rfl rfl rfl ?_
          refine RgOK.sk rfl rfl rfl ?_
          refine RgOK.s (v := VB (true)) rfl rfl rfl (e_pick (t := true) (ev_t rfl) rfl) ?_
          refine RgOK.nil ?_
          show CdOK _ _ _ _ _ _
          refine CdOK.cond_true rfl ?_
          refine CdOK.seq ?_
          refine CdOK.region ?_
          refine RgOK.s (v := VB (false)) rfl rfl rfl (e_as rfl) ?_
          refine RgOK.nil ?_
          show CdOK _ _ _ _ _ _
          refine CdOK.ret ?_
          refine ⟨.inr rfl, _, rfl, h, [⟨[I (r_.pages), I (r_.spares), .L 2 (r_.places.map Place.cs), .L 1 (r_.bad.map cI)], true, true⟩], _, rfl, rfl, hC, ((renFlV rfl) : RenV _ _ _ _ (VB (false))), ?_⟩
          have hr := hm.ret
          subst hr
          exact ⟨rfl, rfl⟩
        · intro c8; replace hm := hm.ifn c8
          refine RgOK.s (v := VB (false)) rfl rfl rfl (e_pick (t := false) (ev_t rfl) (ev_t rfl)) ?_
          refine RgOK.s (v := VB (false)) rfl rfl rfl (e_mv (ev_t rfl)) ?_
          refine RgOK.s (v := .o (.c (.ptr (h.length + 0) 0))) rfl rfl rfl (e_fa' fa29_0 (ev_t rfl)) ?_
          refine RgOK.s (v := VI (r_.pages)) rfl rfl rfl (e_ldb1 (ev_t rfl) ty3 (bx rfl rfl) rfl) ?_
          refine RgOK.s (v := .o (.c (.ptr (h.length + 0) 1))) rfl rfl rfl (e_fa' fa29_1 (ev_t rfl)) ?_
          refine RgOK.s (v := VI (r_.spares)) rfl rfl rfl (e_ldb1 (ev_t rfl) ty3 (bx rfl rfl) rfl) ?_
          refine RgOK.s (v := VI ((w64 (r_.pages + r_.spares)))) rfl rfl rfl (e_bin (ev_t rfl) (ev_t rfl) rfl rfl) ?_
          refine RgOK.s (v := VB (decide (64 < (w64 (r_.pages + r_.spares))))) rfl rfl rfl (e_bin (ev_t rfl) rfl rfl rfl) ?_
          refine RgOK.s (v := VB (decide (64 < (w64 (r_.pages + r_.spares))))) rfl rfl rfl (e_pick (t := false) (ev_t rfl) (ev_t rfl)) ?_
          refine RgOK.nil ?_
          show CdOK _ _ _ _ _ _
          refine CdOK.condD (ev_t rfl) ?_ ?_
          · intro c9; replace hm := hm.ifp c9
            refine CdOK.seq ?_
            refine CdOK.region ?_
            refine RgOK.s (v := VB (false)) rfl rfl rfl (e_as rfl) ?_
            refine RgOK.nil ?_
            show CdOK _ _ _ _ _ _
            refine CdOK.ret ?_
            refine ⟨.inr rfl, _, rfl, h, [⟨[I (r_.pages), I (r_.spares), .L 2 (r_.places.map Place.cs), .L 1 (r_.bad.map cI)], true, true⟩], _, rfl, rfl, hC, ((renFlV rfl) : RenV _ _ _ _ (VB (false))), ?_⟩
            have hr := hm.ret
            subst hr
            exact ⟨rfl, rfl⟩
          · intro c10; replace hm := hm.ifn c10
            refine CdOK.skip ?_
            show CdOK _ _ _ _ _ _
            refine CdOK.seq ?_
            refine CdOK.region ?_
            refine RgOK.s (v := VI (0)) rfl rfl rfl (e_as rfl) ?_
            refine RgOK.nil ?_
            show CdOK _ _ _ _ _ _
            refine CdOK.seq ?_
            refine CdOK.seq ?_
            refine CdOK.region ?_
            refine RgOK.s (v := .o (.c (.ptr (h.length + 0) 3))) rfl rfl rfl (e_fa' fa29_3 (ev_t rfl)) ?_
            refine RgOK.s (v := .o (.c (.L 1 (r_.bad.map cI)))) rfl rfl rfl (e_ldb1 (ev_t rfl) ty27 (bx rfl rfl) rfl) ?_
            refine RgOK.s (v := VI ((r_.bad.length : Int))) rfl rfl rfl (e_lenM (ev_t rfl) is27) ?_
            refine RgOK.s (v := VI (0)) rfl rfl rfl (e_mv rfl) ?_
            refine RgOK.nil ?_
            show CdOK _ _ _ _ _ _
            replace hm := hm.bnd
            refine CdOK.joinT (σ := Int) (fun s => Sum.inl s) hm (fun s => [(1, .o (.c (.ptr (h.length + 0) 0))), (3, VI (s))]) (fun s => h ++ ([⟨[I (r_.pages), I (r_.spares), .L 2 (r_.places.map Place.cs), .L 1 (r_.bad.map cI)], true, true⟩] : Heap)) ?_ ?_
            · intro hm
              refine CdOK.block ?_
              refine CdOK.loopE (σ := (Int × Int)) (fun k s => Ev (quarantine_Valid.l1 r_ k s.1 s.2) _) (fun s => [(1, .o (.c (.ptr (h.length + 0) 0))), (3, VI (s.1)), (36, .o (.c (.L 1 (r_.bad.map cI)))), (37, VI ((r_.bad.length : Int))), (38, VI (s.2))]) (fun s => h ++ ([⟨[I (r_.pages), I (r_.spares), .L 2 (r_.places.map Place.cs), .L 1 (r_.bad.map cI)], true, true⟩] : Heap)) FU (0, 0) hm (.cons rfl (.cons rfl (.cons rfl (.cons rfl (.cons rfl .nil))))) rfl ?_
              rintro kk14 ⟨own12, t3813⟩ T0 hm
              replace hm : Ev (quarantine_Valid.l1 r_ kk14 own12 t3813) _ := hm
              cases kk14 with
              | zero => exact (Ev.non hm).elim
              | succ kk14 =>
              rw [quarantine_Valid.l1_s] at hm
              show CdOK _ _ _ (look T0 [(1, .o (.c (.ptr (h.length + 0) 0))), (3, VI (own12)), (36, .o (.c (.L 1 (r_.bad.map cI)))), (37, VI ((r_.bad.length : Int))), (38, VI (t3813))]) (h ++ ([⟨[I (r_.pages), I (r_.spares), .L 2 (r_.places.map Place.cs), .L 1 (r_.bad.map cI)], true, true⟩] : Heap)) _
              refine CdOK.seq ?_
              refine CdOK.region ?_
              refine RgOK.s (v := VB (decide (t3813 < (r_.bad.length : Int)))) rfl rfl rfl (e_bin (ev_t rfl) (ev_t rfl) rfl rfl) ?_
              refine RgOK.nil ?_
              show CdOK _ _ _ _ _ _
              refine CdOK.seq ?_
              refine CdOK.condD (ev_t rfl) ?_ ?_
              · intro c15; replace hm := hm.ifp c15
                refine CdOK.skip ?_
                show CdOK _ _ _ _ _ _
                refine CdOK.seq ?_
                refine CdOK.block ?_
                refine CdOK.seq ?_
                refine CdOK.region ?_
                refine RgOK.s (v := VI (t3813)) rfl rfl rfl (e_mv (ev_t rfl)) ?_
                obtain ⟨c16, hm⟩ := hm.ifs
                refine RgOK.s (v := .o (.c (.rp [I ((gd r_.bad t3813))]))) rfl rfl rfl (e_ixM (f := cI) (l := r_.bad) (i := t3813) (ev_t rfl) (ev_t rfl) el27 c16) ?_
                refine RgOK.s (v := VI ((gd r_.bad t3813))) rfl rfl rfl (e_ldR1 (ev_t rfl) ty3 rfl) ?_
                refine RgOK.s (v := VI (t3813)) rfl rfl rfl (e_as (ev_t rfl)) ?_
                refine RgOK.s (v := VI ((gd r_.bad t3813))) rfl rfl rfl (e_as (ev_t rfl)) ?_
                refine RgOK.nil ?_
                show CdOK _ _ _ _ _ _
                replace hm := hm.bnd
                refine CdOK.joinE (σ := Unit) (fun s => Sum.inl ()) hm (fun s => [(1, .o (.c (.ptr (h.length + 0) 0))), (3, VI (own12)), (5, VI ((gd r_.bad t3813))), (36, .o (.c (.L 1 (r_.bad.map cI)))), (37, VI ((r_.bad.length : Int))), (38, VI (t3813))]) (fun s => h ++ ([⟨[I (r_.pages), I (r_.spares), .L 2 (r_.places.map Place.cs), .L 1 (r_.bad.map cI)], true, true⟩] : Heap)) ?_ ?_
                · intro hm
                  refine CdOK.seq ?_
                  refine CdOK.region ?_
                  refine RgOK.s (v := VI ((gd r_.bad t3813))) rfl rfl rfl (e_mv (ev_t rfl)) ?_
                  refine RgOK.sd rfl rfl rfl (e_bin (ev_t rfl) rfl rfl rfl) ?_ ?_
                  · intro c17; replace hm := hm.ifp c17
                    refine RgOK.s (v := VB (true)) rfl rfl rfl (e_mv (ev_t rfl)) ?_
                    refine RgOK.sk rfl rfl rfl ?_
                    refine RgOK.sk rfl rfl rfl ?_
                    refine RgOK.sk rfl rfl rfl ?_
                    refine RgOK.sk rfl rfl rfl ?_
                    refine RgOK.sk rfl rfl rfl ?_
                    refine RgOK.sk rfl rfl rfl ?_
                    refine RgOK.sk rfl rfl rfl ?_
                    refine RgOK.s (v := VB (true)) rfl rfl rfl (e_pick (t := true) (ev_t rfl) rfl) ?_
                    refine RgOK.s (v := VB (true)) rfl rfl rfl (e_mv (ev_t rfl)) ?_
                    refine RgOK.sk rfl rfl rfl ?_
                    refine RgOK.sk rfl rfl rfl ?_
                    refine RgOK.sk rfl rfl rfl ?_
                    refine RgOK.sk rfl rfl rfl ?_
                    refine RgOK.sk rfl rfl rfl ?_
                    refine RgOK.sk rfl rfl rfl ?_
                    refine RgOK.sk rfl rfl rfl ?_
                    refine RgOK.sk rfl rfl rfl ?_
                    refine RgOK.sk rfl rfl rfl ?_
                    refine RgOK.sk rfl rfl rfl ?_
                    refine RgOK.sk rfl rfl rfl ?_
                    refine RgOK.sk rfl rfl rfl ?_
                    refine RgOK.s (v := VB (true)) rfl rfl rfl (e_pick (t := true) (ev_t rfl) rfl) ?_
                    refine RgOK.nil ?_
                    show CdOK _ _ _ _ _ _
                    refine CdOK.cond_true rfl ?_
                    refine CdOK.seq ?_
                    refine CdOK.region ?_
                    refine RgOK.s (v := VB (false)) rfl rfl rfl (e_as rfl) ?_
                    refine RgOK.nil ?_
                    show CdOK _ _ _ _ _ _
                    refine CdOK.ret ?_
                    refine ⟨.inr rfl, _, rfl, h, [⟨[I (r_.pages), I (r_.spares), .L 2 (r_.places.map Place.cs), .L 1 (r_.bad.map cI)], true, true⟩], _, rfl, rfl, hC, ((renFlV rfl) : RenV _ _ _ _ (VB (false))), ?_⟩
                    have hr := hm.ret
                    replace hr := Ev.ret hr
                    replace hr := Ev.ret hr
                    subst hr
                    exact ⟨rfl, rfl⟩
                  · intro c18; replace hm := hm.ifn c18
                    refine RgOK.s (v := VB (false)) rfl rfl rfl (e_mv (ev_t rfl)) ?_
                    refine RgOK.s (v := VI ((gd r_.bad t3813))) rfl rfl rfl (e_mv (ev_t rfl)) ?_
                    refine RgOK.s (v := .o (.c (.ptr (h.length + 0) 0))) rfl rfl rfl (e_fa' fa29_0 (ev_t rfl)) ?_
                    refine RgOK.s (v := VI (r_.pages)) rfl rfl rfl (e_ldb1 (ev_t rfl) ty3 (bx rfl rfl) rfl) ?_
                    refine RgOK.s (v := .o (.c (.ptr (h.length + 0) 1))) rfl rfl rfl (e_fa' fa29_1 (ev_t rfl)) ?_
                    refine RgOK.s (v := VI (r_.spares)) rfl rfl rfl (e_ldb1 (ev_t rfl) ty3 (bx rfl rfl) rfl) ?_
                    refine RgOK.s (v := VI ((w64 (r_.pages + r_.spares)))) rfl rfl rfl (e_bin (ev_t rfl) (ev_t rfl) rfl rfl) ?_
                    refine RgOK.sd rfl rfl rfl (e_bin (ev_t rfl) (ev_t rfl) rfl rfl) ?_ ?_
                    · intro c19; replace hm := hm.ifp c19
                      refine RgOK.s (v := VB (true)) rfl rfl rfl (e_pick (t := false) (ev_t rfl) (ev_t rfl)) ?_
                      refine RgOK.s (v := VB (true)) rfl rfl rfl (e_mv (ev_t rfl)) ?_
                      refine RgOK.sk rfl rfl rfl ?_
                      refine RgOK.sk rfl rfl rfl ?_
                      refine RgOK.sk rfl rfl rfl ?_
                      refine RgOK.sk rfl rfl rfl ?_
                      refine RgOK.sk rfl rfl rfl ?_
                      refine RgOK.sk rfl rfl rfl ?_
                      refine RgOK.sk rfl rfl rfl ?_
                      refine RgOK.sk rfl rfl rfl ?_
                      refine RgOK.sk rfl rfl rfl ?_
                      refine RgOK.sk rfl rfl rfl ?_
                      refine RgOK.sk rfl rfl rfl ?_
                      refine RgOK.sk rfl rfl rfl ?_
                      refine RgOK.s (v := VB (true)) rfl rfl rfl (e_pick (t := true) (ev_t rfl) rfl) ?_
                      refine RgOK.nil ?_
                      show CdOK _ _ _ _ _ _
                      refine CdOK.cond_true rfl ?_
                      refine CdOK.seq ?_
                      refine CdOK.region ?_
                      refine RgOK.s (v := VB (false)) rfl rfl rfl (e_as rfl) ?_
                      refine RgOK.nil ?_
                      show CdOK _ _ _ _ _ _
                      refine CdOK.ret ?_
                      refine ⟨.inr rfl, _, rfl, h, [⟨[I (r_.pages), I (r_.spares), .L 2 (r_.places.map Place.cs), .L 1 (r_.bad.map cI)], true, true⟩], _, rfl, rfl, hC, ((renFlV rfl) : RenV _ _ _ _ (VB (false))), ?_⟩
                      have hr := hm.ret
                      replace hr := Ev.ret hr
                      replace hr := Ev.ret hr
                      subst hr
                      exact ⟨rfl, rfl⟩
                    · intro c20; replace hm := hm.ifn c20
                      refine RgOK.s (v := VB (false)) rfl rfl rfl (e_pick (t := false) (ev_t rfl) (ev_t rfl)) ?_
                      refine RgOK.s (v := VB (false)) rfl rfl rfl (e_mv (ev_t rfl)) ?_
                      refine RgOK.s (v := VI (t3813)) rfl rfl rfl (e_mv (ev_t rfl)) ?_
                      refine RgOK.sd rfl rfl rfl (e_bin (ev_t rfl) rfl rfl rfl) ?_ ?_
                      · intro c21; replace hm := hm.ifp c21
                        refine RgOK.s (v := VB (true)) rfl rfl rfl (e_mv (ev_t rfl)) ?_
                        refine RgOK.s (v := .o (.c (.ptr (h.length + 0) 3))) rfl rfl rfl (e_fa' fa29_3 (ev_t rfl)) ?_
                        refine RgOK.s (v := .o (.c (.L 1 (r_.bad.map cI)))) rfl rfl rfl (e_ldb1 (ev_t rfl) ty27 (bx rfl rfl) rfl) ?_
                        refine RgOK.s (v := VI (t3813)) rfl rfl rfl (e_mv (ev_t rfl)) ?_
                        refine RgOK.s (v := VI ((w64 (t3813 - 1)))) rfl rfl rfl (e_bin (ev_t rfl) rfl rfl rfl) ?_
                        obtain ⟨c22, hm⟩ := hm.ifs
                        refine RgOK.s (v := .o (.c (.rp [I ((gd r_.bad (w64 (t3813 - 1))))]))) rfl rfl rfl (e_ixM (f := cI) (l := r_.bad) (i := (w64 (t3813 - 1))) (ev_t rfl) (ev_t rfl) el27 c22) ?_
                        refine RgOK.s (v := VI ((gd r_.bad (w64 (t3813 - 1))))) rfl rfl rfl (e_ldR1 (ev_t rfl) ty3 rfl) ?_
                        refine RgOK.s (v := VI ((gd r_.bad t3813))) rfl rfl rfl (e_mv (ev_t rfl)) ?_
                        refine RgOK.s (v := VB (decide ((gd r_.bad t3813) ≤ (gd r_.bad (w64 (t3813 - 1)))))) rfl rfl rfl (e_bin (ev_t rfl) (ev_t rfl) rfl rfl) ?_
                        refine RgOK.s (v := VB (decide ((gd r_.bad t3813) ≤ (gd r_.bad (w64 (t3813 - 1)))))) rfl rfl rfl (e_pick (t := true) (ev_t rfl) (ev_t rfl)) ?_
                        refine RgOK.s (v := VB (decide ((gd r_.bad t3813) ≤ (gd r_.bad (w64 (t3813 - 1)))))) rfl rfl rfl (e_pick (t := false) (ev_t rfl) (ev_t rfl)) ?_
                        refine RgOK.nil ?_
                        show CdOK _ _ _ _ _ _
                        refine CdOK.condD (ev_t rfl) ?_ ?_
                        · intro c23; replace hm := hm.ifp c23
                          refine CdOK.seq ?_
                          refine CdOK.region ?_
                          refine RgOK.s (v := VB (false)) rfl rfl rfl (e_as rfl) ?_
                          refine RgOK.nil ?_
                          show CdOK _ _ _ _ _ _
                          refine CdOK.ret ?_
                          refine ⟨.inr rfl, _, rfl, h, [⟨[I (r_.pages), I (r_.spares), .L 2 (r_.places.map Place.cs), .L 1 (r_.bad.map cI)], true, true⟩], _, rfl, rfl, hC, ((renFlV rfl) : RenV _ _ _ _ (VB (false))), ?_⟩
                          have hr := hm.ret
                          replace hr := Ev.ret hr
                          replace hr := Ev.ret hr
                          subst hr
                          exact ⟨rfl, rfl⟩
                        · intro c24; replace hm := hm.ifn c24
                          refine CdOK.skip ?_
                          refine Told.id ?_
                          exact ⟨(), hm.ret, (.cons rfl (.cons rfl (.cons rfl (.cons rfl (.cons rfl (.cons rfl .nil)))))), rfl⟩
                      · intro c25; replace hm := hm.ifn c25
                        refine RgOK.s (v := VB (false)) rfl rfl rfl (e_mv (ev_t rfl)) ?_
                        refine RgOK.sk rfl rfl rfl ?_
                        refine RgOK.sk rfl rfl rfl ?_
                        refine RgOK.sk rfl rfl rfl ?_
                        refine RgOK.sk rfl rfl rfl ?_
                        refine RgOK.sk rfl rfl rfl ?_
                        refine RgOK.sk rfl rfl rfl ?_
                        refine RgOK.sk rfl rfl rfl ?_
                        refine RgOK.sk rfl rfl rfl ?_
                        refine RgOK.s (v := VB (false)) rfl rfl rfl (e_pick (t := false) (ev_t rfl) rfl) ?_
                        refine RgOK.s (v := VB (false)) rfl rfl rfl (e_pick (t := false) (ev_t rfl) (ev_t rfl)) ?_
                        refine RgOK.nil ?_
                        show CdOK _ _ _ _ _ _
                        refine CdOK.cond_false rfl ?_
                        refine CdOK.skip ?_
                        refine Told.id ?_
                        exact ⟨(), hm.ret, (.cons rfl (.cons rfl (.cons rfl (.cons rfl (.cons rfl (.cons rfl .nil)))))), rfl⟩
                · intro _ T0 hm
                  show CdOK _ _ _ (look T0 [(1, .o (.c (.ptr (h.length + 0) 0))), (3, VI (own12)), (5, VI ((gd r_.bad t3813))), (36, .o (.c (.L 1 (r_.bad.map cI)))), (37, VI ((r_.bad.length : Int))), (38, VI (t3813))]) (h ++ ([⟨[I (r_.pages), I (r_.spares), .L 2 (r_.places.map Place.cs), .L 1 (r_.bad.map cI)], true, true⟩] : Heap)) _
                  replace hm : Ev _ _ := hm
                  refine CdOK.seq ?_
                  refine CdOK.region ?_
                  refine RgOK.s (v := VI ((gd r_.bad t3813))) rfl rfl rfl (e_mv (ev_t rfl)) ?_
                  refine RgOK.s (v := .o (.c (.ptr (h.length + 0) 0))) rfl rfl rfl (e_fa' fa29_0 (ev_t rfl)) ?_
                  refine RgOK.s (v := VI (r_.pages)) rfl rfl rfl (e_ldb1 (ev_t rfl) ty3 (bx rfl rfl) rfl) ?_
                  refine RgOK.s (v := VB (decide ((gd r_.bad t3813) < r_.pages))) rfl rfl rfl (e_bin (ev_t rfl) (ev_t rfl) rfl rfl) ?_
                  refine RgOK.nil ?_
                  show CdOK _ _ _ _ _ _
                  refine CdOK.condD (ev_t rfl) ?_ ?_
                  · intro c27; replace hm := hm.ifp c27
                    refine CdOK.region ?_
                    refine RgOK.s (v := VI (own12)) rfl rfl rfl (e_mv (ev_t rfl)) ?_
                    refine RgOK.s (v := VI ((w64 (own12 + 1)))) rfl rfl rfl (e_bin (ev_t rfl) rfl rfl rfl) ?_
                    refine RgOK.s (v := VI ((w64 (own12 + 1)))) rfl rfl rfl (e_as (ev_t rfl)) ?_
                    refine RgOK.nil ?_
                    show CdOK _ _ _ _ _ _
                    refine CdOK.region ?_
                    refine RgOK.s (v := VI ((w64 (t3813 + 1)))) rfl rfl rfl (e_bin (ev_t rfl) rfl rfl rfl) ?_
                    refine RgOK.s (v := VI ((w64 (t3813 + 1)))) rfl rfl rfl (e_mv (ev_t rfl)) ?_
                    refine RgOK.nil ?_
                    refine Told.id ?_
                    exact ⟨_, ((w64 (own12 + 1)), (w64 (t3813 + 1))), Nat.lt_succ_self _, hm, (.cons rfl (.cons rfl (.cons rfl (.cons rfl (.cons rfl .nil))))), rfl⟩
                  · intro c28; replace hm := hm.ifn c28
                    refine CdOK.skip ?_
                    show CdOK _ _ _ _ _ _
                    refine CdOK.region ?_
                    refine RgOK.s (v := VI ((w64 (t3813 + 1)))) rfl rfl rfl (e_bin (ev_t rfl) rfl rfl rfl) ?_
                    refine RgOK.s (v := VI ((w64 (t3813 + 1)))) rfl rfl rfl (e_mv (ev_t rfl)) ?_
                    refine RgOK.nil ?_
                    refine Told.id ?_
                    exact ⟨_, (own12, (w64 (t3813 + 1))), Nat.lt_succ_self _, hm, (.cons rfl (.cons rfl (.cons rfl (.cons rfl (.cons rfl .nil))))), rfl⟩
              · intro c29; replace hm := hm.ifn c29
                refine CdOK.exit ?_
                refine Told.id ?_
                exact ⟨own12, hm.ret, (.cons rfl (.cons rfl .nil)), rfl⟩
            · rintro own11 T0 hm
              show CdOK _ _ _ _ _ _
              refine CdOK.seq ?_
              refine CdOK.region ?_
              refine RgOK.s (v := .o (.c (.ptr (h.length + 1) 0))) rfl rfl rfl (e_allocN (L' := [⟨[I (r_.pages), I (r_.spares), .L 2 (r_.places.map Place.cs), .L 1 (r_.bad.map cI)], true, true⟩, ⟨((List.replicate 64 false).map cB).flatten, true, true⟩]) rfl zo118 rfl rfl) ?_
              refine RgOK.nil ?_
              show CdOK _ _ _ _ _ _
              refine CdOK.seq ?_
              refine CdOK.seq ?_
              refine CdOK.region ?_
              refine RgOK.s (v := .o (.c (.ptr (h.length + 0) 2))) rfl rfl rfl (e_fa' fa29_2 (ev_t rfl)) ?_
              refine RgOK.s (v := .o (.c (.L 2 (r_.places.map Place.cs)))) rfl rfl rfl (e_ldb1 (ev_t rfl) ty26 (bx rfl rfl) rfl) ?_
              refine RgOK.s (v := VI ((r_.places.length : Int))) rfl rfl rfl (e_lenM (ev_t rfl) is26) ?_
              refine RgOK.s (v := VI (0)) rfl rfl rfl (e_mv rfl) ?_
              refine RgOK.nil ?_
              show CdOK _ _ _ _ _ _
              replace hm := hm.bnd
              refine CdOK.joinT (σ := Unit) (fun s => Sum.inl ()) hm (fun s => [(1, .o (.c (.ptr (h.length + 0) 0))), (3, VI (own11))]) (fun s => h ++ ([⟨[I (r_.pages), I (r_.spares), .L 2 (r_.places.map Place.cs), .L 1 (r_.bad.map cI)], true, true⟩] : Heap)) ?_ ?_
              · intro hm
                refine CdOK.block ?_
                refine CdOK.loopE (σ := (Int × (List Bool))) (fun k s => Ev (quarantine_Valid.l2 r_ k s.1 s.2) _) (fun s => [(1, .o (.c (.ptr (h.length + 0) 0))), (3, VI (own11)), (6, .o (.c (.ptr (h.length + 1) 0))), (76, .o (.c (.L 2 (r_.places.map Place.cs)))), (77, VI ((r_.places.length : Int))), (78, VI (s.1))]) (fun s => h ++ ([⟨[I (r_.pages), I (r_.spares), .L 2 (r_.places.map Place.cs), .L 1 (r_.bad.map cI)], true, true⟩, ⟨(s.2.map cB).flatten, true, true⟩] : Heap)) FU (0, (List.replicate 64 false)) hm (.cons rfl (.cons rfl (.cons rfl (.cons rfl (.cons rfl (.cons rfl .nil)))))) rfl ?_
                rintro kk33 ⟨t7831, bx32⟩ T0 hm
                replace hm : Ev (quarantine_Valid.l2 r_ kk33 t7831 bx32) _ := hm
                cases kk33 with
                | zero => exact (Ev.non hm).elim
                | succ kk33 =>
                rw [quarantine_Valid.l2_s] at hm
                show CdOK _ _ _ (look T0 [(1, .o (.c (.ptr (h.length + 0) 0))), (3, VI (own11)), (6, .o (.c (.ptr (h.length + 1) 0))), (76, .o (.c (.L 2 (r_.places.map Place.cs)))), (77, VI ((r_.places.length : Int))), (78, VI (t7831))]) (h ++ ([⟨[I (r_.pages), I (r_.spares), .L 2 (r_.places.map Place.cs), .L 1 (r_.bad.map cI)], true, true⟩, ⟨(bx32.map cB).flatten, true, true⟩] : Heap)) _
                refine CdOK.seq ?_
                refine CdOK.region ?_
                refine RgOK.s (v := VB (decide (t7831 < (r_.places.length : Int)))) rfl rfl rfl (e_bin (ev_t rfl) (ev_t rfl) rfl rfl) ?_
                refine RgOK.nil ?_
                show CdOK _ _ _ _ _ _
                refine CdOK.seq ?_
                refine CdOK.condD (ev_t rfl) ?_ ?_
                · intro c34; replace hm := hm.ifp c34
                  refine CdOK.skip ?_
                  show CdOK _ _ _ _ _ _
                  refine CdOK.seq ?_
                  refine CdOK.block ?_
                  refine CdOK.seq ?_
                  refine CdOK.region ?_
                  refine RgOK.s (v := VI (t7831)) rfl rfl rfl (e_mv (ev_t rfl)) ?_
                  obtain ⟨c35, hm⟩ := hm.ifs
                  refine RgOK.s (v := .o (.c (.rp [I ((gd r_.places t7831).page), I ((gd r_.places t7831).address)]))) rfl rfl rfl (e_ixM (f := Place.cs) (l := r_.places) (i := t7831) (ev_t rfl) (ev_t rfl) el26 c35) ?_
                  refine RgOK.s (v := .o (.agg [I ((gd r_.places t7831).page), I ((gd r_.places t7831).address)])) rfl rfl rfl (e_ldRA (ev_t rfl) ty117 rfl rfl) ?_
                  refine RgOK.s (v := .o (.c (.ptr (h.length + 2) 0))) rfl rfl rfl (e_allocN (L' := [⟨[I (r_.pages), I (r_.spares), .L 2 (r_.places.map Place.cs), .L 1 (r_.bad.map cI)], true, true⟩, ⟨(bx32.map cB).flatten, true, true⟩, ⟨[I (0), I (0)], true, true⟩]) rfl zo117 rfl rfl) ?_
                  refine RgOK.s (v := VI (t7831)) rfl rfl rfl (e_as (ev_t rfl)) ?_
                  refine RgOK.s0 rfl rfl (e_stN (L' := [⟨[I (r_.pages), I (r_.spares), .L 2 (r_.places.map Place.cs), .L 1 (r_.bad.map cI)], true, true⟩, ⟨(bx32.map cB).flatten, true, true⟩, ⟨[I ((gd r_.places t7831).page), I ((gd r_.places t7831).address)], true, true⟩]) rfl (ev_t rfl) (ev_t rfl) ty117 rfl rfl rfl rfl rfl) ?_
                  refine RgOK.nil ?_
                  show CdOK _ _ _ _ _ _
                  replace hm := hm.bnd
                  refine CdOK.joinE (σ := Unit) (fun s => Sum.inl ()) hm (fun s => [(1, .o (.c (.ptr (h.length + 0) 0))), (3, VI (own11)), (6, .o (.c (.ptr (h.length + 1) 0))), (8, .o (.c (.ptr (h.length + 2) 0))), (76, .o (.c (.L 2 (r_.places.map Place.cs)))), (77, VI ((r_.places.length : Int))), (78, VI (t7831))]) (fun s => h ++ ([⟨[I (r_.pages), I (r_.spares), .L 2 (r_.places.map Place.cs), .L 1 (r_.bad.map cI)], true, true⟩, ⟨(bx32.map cB).flatten, true, true⟩, ⟨[I ((gd r_.places t7831).page), I ((gd r_.places t7831).address)], true, true⟩] : Heap)) ?_ ?_
                  · intro hm
                    refine CdOK.block ?_
                    refine CdOK.seq ?_
                    refine CdOK.draw fol (by decide +kernel) ?_
                    refine DrOK.s (v := .o (.c (.ptr (h.length + 2) 0))) rfl rfl rfl (e_fa' fa117_0 (ev_t rfl)) ?_
                    refine DrOK.s (v := VI ((gd r_.places t7831).page)) rfl rfl rfl (e_ldb1 (ev_t rfl) ty3 (bx rfl rfl) rfl) ?_
                    refine DrOK.sd rfl rfl rfl (e_bin (ev_t rfl) rfl rfl rfl) ?_ ?_
                    · intro c36; replace hm := hm.ifp c36
                      refine DrOK.s (v := VB (true)) rfl rfl rfl (e_mv (ev_t rfl)) ?_
                      refine DrOK.sk rfl rfl rfl ?_
                      refine DrOK.sk rfl rfl rfl ?_
                      refine DrOK.sk rfl rfl rfl ?_
                      refine DrOK.sk rfl rfl rfl ?_
                      refine DrOK.sk rfl rfl rfl ?_
                      refine DrOK.s (v := VB (true)) rfl rfl rfl (e_pick (t := true) (ev_t rfl) rfl) ?_
                      refine DrOK.s (v := VB (true)) rfl rfl rfl (e_mv (ev_t rfl)) ?_
                      refine DrOK.sk rfl rfl rfl ?_
                      refine DrOK.sk rfl rfl rfl ?_
                      refine DrOK.sk rfl rfl rfl ?_
                      refine DrOK.sk rfl rfl rfl ?_
                      refine DrOK.sk rfl rfl rfl ?_
                      refine DrOK.sk rfl rfl rfl ?_
                      refine DrOK.sk rfl rfl rfl ?_
                      refine DrOK.sk rfl rfl rfl ?_
                      refine DrOK.sk rfl rfl rfl ?_
                      refine DrOK.sk rfl rfl rfl ?_
                      refine DrOK.sk rfl rfl rfl ?_
                      refine DrOK.sk rfl rfl rfl ?_
                      refine DrOK.sk rfl rfl rfl ?_
                      refine DrOK.sk rfl rfl rfl ?_
                      refine DrOK.s (v := VB (true)) rfl rfl rfl (e_pick (t := true) (ev_t rfl) rfl) ?_
                      refine DrOK.s (v := VB (true)) rfl rfl rfl (e_mv (ev_t rfl)) ?_
                      refine DrOK.sk rfl rfl rfl ?_
                      refine DrOK.sk rfl rfl rfl ?_
                      refine DrOK.sk rfl rfl rfl ?_
                      refine DrOK.sk rfl rfl rfl ?_
                      refine DrOK.sk rfl rfl rfl ?_
                      refine DrOK.s (v := VB (true)) rfl rfl rfl (e_pick (t := true) (ev_t rfl) rfl) ?_
                      refine DrOK.s (v := VB (true)) rfl rfl rfl (e_as (ev_t rfl)) ?_
                      refine DrOK.nil ?_
                      show CdOK _ _ _ _ _ _
                      refine CdOK.cond_true rfl ?_
                      refine CdOK.seq ?_
                      refine CdOK.region ?_
                      refine RgOK.s (v := VB (false)) rfl rfl rfl (e_as rfl) ?_
                      refine RgOK.nil ?_
                      show CdOK _ _ _ _ _ _
                      refine CdOK.ret ?_
                      refine ⟨.inr rfl, _, rfl, h, [⟨[I (r_.pages), I (r_.spares), .L 2 (r_.places.map Place.cs), .L 1 (r_.bad.map cI)], true, true⟩, ⟨(bx32.map cB).flatten, true, true⟩, ⟨[I ((gd r_.places t7831).page), I ((gd r_.places t7831).address)], true, true⟩], _, rfl, rfl, hC, ((renFlV rfl) : RenV _ _ _ _ (VB (false))), ?_⟩
                      have hr := hm.ret
                      replace hr := Ev.ret hr
                      replace hr := Ev.ret hr
                      subst hr
                      exact ⟨rfl, rfl⟩
                    · intro c37; replace hm := hm.ifn c37
                      refine DrOK.s (v := VB (false)) rfl rfl rfl (e_mv (ev_t rfl)) ?_
                      refine DrOK.s (v := .o (.c (.ptr (h.length + 2) 0))) rfl rfl rfl (e_fa' fa117_0 (ev_t rfl)) ?_
                      refine DrOK.s (v := VI ((gd r_.places t7831).page)) rfl rfl rfl (e_ldb1 (ev_t rfl) ty3 (bx rfl rfl) rfl) ?_
                      refine DrOK.s (v := .o (.c (.ptr (h.length + 0) 0))) rfl rfl rfl (e_fa' fa29_0 (ev_t rfl)) ?_
                      refine DrOK.s (v := VI (r_.pages)) rfl rfl rfl (e_ldb1 (ev_t rfl) ty3 (bx rfl rfl) rfl) ?_
                      refine DrOK.sd rfl rfl rfl (e_bin (ev_t rfl) (ev_t rfl) rfl rfl) ?_ ?_
                      · intro c38; replace hm := hm.ifp c38
                        refine DrOK.s (v := VB (true)) rfl rfl rfl (e_pick (t := false) (ev_t rfl) (ev_t rfl)) ?_
                        refine DrOK.s (v := VB (true)) rfl rfl rfl (e_mv (ev_t rfl)) ?_
                        refine DrOK.sk rfl rfl rfl ?_
                        refine DrOK.sk rfl rfl rfl ?_
                        refine DrOK.sk rfl rfl rfl ?_
                        refine DrOK.sk rfl rfl rfl ?_
                        refine DrOK.sk rfl rfl rfl ?_
                        refine DrOK.sk rfl rfl rfl ?_
                        refine DrOK.sk rfl rfl rfl ?_
                        refine DrOK.sk rfl rfl rfl ?_
                        refine DrOK.sk rfl rfl rfl ?_
                        refine DrOK.sk rfl rfl rfl ?_
                        refine DrOK.sk rfl rfl rfl ?_
                        refine DrOK.sk rfl rfl rfl ?_
                        refine DrOK.sk rfl rfl rfl ?_
                        refine DrOK.sk rfl rfl rfl ?_
                        refine DrOK.s (v := VB (true)) rfl rfl rfl (e_pick (t := true) (ev_t rfl) rfl) ?_
                        refine DrOK.s (v := VB (true)) rfl rfl rfl (e_mv (ev_t rfl)) ?_
                        refine DrOK.sk rfl rfl rfl ?_
                        refine DrOK.sk rfl rfl rfl ?_
                        refine DrOK.sk rfl rfl rfl ?_
                        refine DrOK.sk rfl rfl rfl ?_
                        refine DrOK.sk rfl rfl rfl ?_
                        refine DrOK.s (v := VB (true)) rfl rfl rfl (e_pick (t := true) (ev_t rfl) rfl) ?_
                        refine DrOK.s (v := VB (true)) rfl rfl rfl (e_as (ev_t rfl)) ?_
                        refine DrOK.nil ?_
                        show CdOK _ _ _ _ _ _
                        refine CdOK.cond_true rfl ?_
                        refine CdOK.seq ?_
                        refine CdOK.region ?_
                        refine RgOK.s (v := VB (false)) rfl rfl rfl (e_as rfl) ?_
                        refine RgOK.nil ?_
                        show CdOK _ _ _ _ _ _
                        refine CdOK.ret ?_
                        refine ⟨.inr rfl, _, rfl, h, [⟨[I (r_.pages), I (r_.spares), .L 2 (r_.places.map Place.cs), .L 1 (r_.bad.map cI)], true, true⟩, ⟨(bx32.map cB).flatten, true, true⟩, ⟨[I ((gd r_.places t7831).page), I ((gd r_.places t7831).address)], true, true⟩], _, rfl, rfl, hC, ((renFlV rfl) : RenV _ _ _ _ (VB (false))), ?_⟩
                        have hr := hm.ret
                        replace hr := Ev.ret hr
                        replace hr := Ev.ret hr
                        subst hr
                        exact ⟨rfl, rfl⟩
                      · intro c39; replace hm := hm.ifn c39
                        refine DrOK.s (v := VB (false)) rfl rfl rfl (e_pick (t := false) (ev_t rfl) (ev_t rfl)) ?_
                        refine DrOK.s (v := VB (false)) rfl rfl rfl (e_mv (ev_t rfl)) ?_
                        refine DrOK.s (v := VI (t7831)) rfl rfl rfl (e_mv (ev_t rfl)) ?_
                        refine DrOK.sd rfl rfl rfl (e_bin (ev_t rfl) rfl rfl rfl) ?_ ?_
                        · intro c40; replace hm := hm.ifp c40
                          refine DrOK.s (v := VB (true)) rfl rfl rfl (e_mv (ev_t rfl)) ?_
                          refine DrOK.s (v := .o (.c (.ptr (h.length + 0) 2))) rfl rfl rfl (e_fa' fa29_2 (ev_t rfl)) ?_
                          refine DrOK.s (v := .o (.c (.L 2 (r_.places.map Place.cs)))) rfl rfl rfl (e_ldb1 (ev_t rfl) ty26 (bx rfl rfl) rfl) ?_
                          refine DrOK.s (v := VI (t7831)) rfl rfl rfl (e_mv (ev_t rfl)) ?_
                          refine DrOK.s (v := VI ((w64 (t7831 - 1)))) rfl rfl rfl (e_bin (ev_t rfl) rfl rfl rfl) ?_
                          obtain ⟨c41, hm⟩ := hm.ifs
                          refine DrOK.s (v := .o (.c (.rp [I ((gd r_.places (w64 (t7831 - 1))).page), I ((gd r_.places (w64 (t7831 - 1))).address)]))) rfl rfl rfl (e_ixM (f := Place.cs) (l := r_.places) (i := (w64 (t7831 - 1))) (ev_t rfl) (ev_t rfl) el26 c41) ?_
                          refine DrOK.s (v := .o (.c (.rp [I ((gd r_.places (w64 (t7831 - 1))).page), I ((gd r_.places (w64 (t7831 - 1))).address)]))) rfl rfl rfl (e_faR fa117_0 (ev_t rfl) rfl) ?_
                          refine DrOK.s (v := VI ((gd r_.places (w64 (t7831 - 1))).page)) rfl rfl rfl (e_ldR1 (ev_t rfl) ty3 rfl) ?_
                          refine DrOK.s (v := .o (.c (.ptr (h.length + 2) 0))) rfl rfl rfl (e_fa' fa117_0 (ev_t rfl)) ?_
                          refine DrOK.s (v := VI ((gd r_.places t7831).page)) rfl rfl rfl (e_ldb1 (ev_t rfl) ty3 (bx rfl rfl) rfl) ?_
                          refine DrOK.sd rfl rfl rfl (e_bin (ev_t rfl) (ev_t rfl) rfl rfl) ?_ ?_
                          · intro c42; replace hm := hm.ifp c42
                            refine DrOK.s (v := VB (true)) rfl rfl rfl (e_pick (t := true) (ev_t rfl) (ev_t rfl)) ?_
                            refine DrOK.s (v := VB (true)) rfl rfl rfl (e_pick (t := false) (ev_t rfl) (ev_t rfl)) ?_
                            refine DrOK.s (v := VB (true)) rfl rfl rfl (e_mv (ev_t rfl)) ?_
                            refine DrOK.sk rfl rfl rfl ?_
                            refine DrOK.sk rfl rfl rfl ?_
                            refine DrOK.sk rfl rfl rfl ?_
                            refine DrOK.sk rfl rfl rfl ?_
                            refine DrOK.sk rfl rfl rfl ?_
                            refine DrOK.s (v := VB (true)) rfl rfl rfl (e_pick (t := true) (ev_t rfl) rfl) ?_
                            refine DrOK.s (v := VB (true)) rfl rfl rfl (e_as (ev_t rfl)) ?_
                            refine DrOK.nil ?_
                            show CdOK _ _ _ _ _ _
                            refine CdOK.cond_true rfl ?_
                            refine CdOK.seq ?_
                            refine CdOK.region ?_
                            refine RgOK.s (v := VB (false)) rfl rfl rfl (e_as rfl) ?_
                            refine RgOK.nil ?_
                            show CdOK _ _ _ _ _ _
                            refine CdOK.ret ?_
                            refine ⟨.inr rfl, _, rfl, h, [⟨[I (r_.pages), I (r_.spares), .L 2 (r_.places.map Place.cs), .L 1 (r_.bad.map cI)], true, true⟩, ⟨(bx32.map cB).flatten, true, true⟩, ⟨[I ((gd r_.places t7831).page), I ((gd r_.places t7831).address)], true, true⟩], _, rfl, rfl, hC, ((renFlV rfl) : RenV _ _ _ _ (VB (false))), ?_⟩
                            have hr := hm.ret
                            replace hr := Ev.ret hr
                            replace hr := Ev.ret hr
                            subst hr
                            exact ⟨rfl, rfl⟩
                          · intro c43; replace hm := hm.ifn c43
                            refine DrOK.s (v := VB (false)) rfl rfl rfl (e_pick (t := true) (ev_t rfl) (ev_t rfl)) ?_
                            refine DrOK.s (v := VB (false)) rfl rfl rfl (e_pick (t := false) (ev_t rfl) (ev_t rfl)) ?_
                            refine DrOK.s (v := VB (false)) rfl rfl rfl (e_mv (ev_t rfl)) ?_
                            refine DrOK.s (v := .o (.agg [I (r_.pages), I (r_.spares), .L 2 (r_.places.map Place.cs), .L 1 (r_.bad.map cI)])) rfl rfl rfl (e_ldbA (ev_t rfl) ty29 (bx rfl rfl) rfl rfl) ?_
                            refine DrOK.s (v := .o (.c (.ptr (h.length + 2) 0))) rfl rfl rfl (e_fa' fa117_0 (ev_t rfl)) ?_
                            refine DrOK.s (v := VI ((gd r_.places t7831).page)) rfl rfl rfl (e_ldb1 (ev_t rfl) ty3 (bx rfl rfl) rfl) ?_
                            obtain ⟨x44, e44, hm⟩ := hm.call
                            refine DrOK.cl rfl rfl rfl rfl pl84 (R2.wk _) (quarantine_bad_ok   e44) ?_
                            refine DrOK.s (v := VB ((!x44))) rfl rfl rfl (e_un (ev_t rfl) rfl) ?_
                            refine DrOK.s (v := VB ((!x44))) rfl rfl rfl (e_pick (t := false) (ev_t rfl) (ev_t rfl)) ?_
                            refine DrOK.s (v := VB ((!x44))) rfl rfl rfl (e_as (ev_t rfl)) ?_
                            refine DrOK.nil ?_
                            show CdOK _ _ _ _ _ _
                            refine CdOK.condB (ev_t rfl) ?_ ?_
                            · intro c45; replace hm := hm.ifp c45
                              refine CdOK.seq ?_
                              refine CdOK.region ?_
                              refine RgOK.s (v := VB (false)) rfl rfl rfl (e_as rfl) ?_
                              refine RgOK.nil ?_
                              show CdOK _ _ _ _ _ _
                              refine CdOK.ret ?_
                              refine ⟨.inr rfl, _, rfl, h, [⟨[I (r_.pages), I (r_.spares), .L 2 (r_.places.map Place.cs), .L 1 (r_.bad.map cI)], true, true⟩, ⟨(bx32.map cB).flatten, true, true⟩, ⟨[I ((gd r_.places t7831).page), I ((gd r_.places t7831).address)], true, true⟩], _, rfl, rfl, hC, ((renFlV rfl) : RenV _ _ _ _ (VB (false))), ?_⟩
                              have hr := hm.ret
                              replace hr := Ev.ret hr
                              replace hr := Ev.ret hr
                              subst hr
                              exact ⟨rfl, rfl⟩
                            · intro c46; replace hm := hm.ifn c46
                              refine CdOK.seq ?_
                              refine CdOK.region ?_
                              refine RgOK.s (v := .o (.c (.ptr (h.length + 2) 1))) rfl rfl rfl (e_fa' fa117_1 (ev_t rfl)) ?_
                              refine RgOK.s (v := VI ((gd r_.places t7831).address)) rfl rfl rfl (e_ldb1 (ev_t rfl) ty3 (bx rfl rfl) rfl) ?_
                              refine RgOK.s (v := .o (.c (.ptr (h.length + 0) 0))) rfl rfl rfl (e_fa' fa29_0 (ev_t rfl)) ?_
                              refine RgOK.s (v := VI (r_.pages)) rfl rfl rfl (e_ldb1 (ev_t rfl) ty3 (bx rfl rfl) rfl) ?_
                              refine RgOK.sd rfl rfl rfl (e_bin (ev_t rfl) (ev_t rfl) rfl rfl) ?_ ?_
                              · intro c47; replace hm := hm.ifp c47
                                refine RgOK.s (v := VB (true)) rfl rfl rfl (e_mv (ev_t rfl)) ?_
                                refine RgOK.sk rfl rfl rfl ?_
                                refine RgOK.sk rfl rfl rfl ?_
                                refine RgOK.sk rfl rfl rfl ?_
                                refine RgOK.sk rfl rfl rfl ?_
                                refine RgOK.sk rfl rfl rfl ?_
                                refine RgOK.sk rfl rfl rfl ?_
                                refine RgOK.sk rfl rfl rfl ?_
                                refine RgOK.sk rfl rfl rfl ?_
                                refine RgOK.s (v := VB (true)) rfl rfl rfl (e_pick (t := true) (ev_t rfl) rfl) ?_
                                refine RgOK.s (v := VB (true)) rfl rfl rfl (e_mv (ev_t rfl)) ?_
                                refine RgOK.sk rfl rfl rfl ?_
                                refine RgOK.sk rfl rfl rfl ?_
                                refine RgOK.sk rfl rfl rfl ?_
                                refine RgOK.sk rfl rfl rfl ?_
                                refine RgOK.s (v := VB (true)) rfl rfl rfl (e_pick (t := true) (ev_t rfl) rfl) ?_
                                refine RgOK.s (v := VB (true)) rfl rfl rfl (e_mv (ev_t rfl)) ?_
                                refine RgOK.sk rfl rfl rfl ?_
                                refine RgOK.sk rfl rfl rfl ?_
                                refine RgOK.sk rfl rfl rfl ?_
                                refine RgOK.sk rfl rfl rfl ?_
                                refine RgOK.s (v := VB (true)) rfl rfl rfl (e_pick (t := true) (ev_t rfl) rfl) ?_
                                refine RgOK.s (v := VB (true)) rfl rfl rfl (e_as (ev_t rfl)) ?_
                                refine RgOK.nil ?_
                                show CdOK _ _ _ _ _ _
                                refine CdOK.cond_true rfl ?_
                                refine CdOK.seq ?_
                                refine CdOK.region ?_
                                refine RgOK.s (v := VB (false)) rfl rfl rfl (e_as rfl) ?_
                                refine RgOK.nil ?_
                                show CdOK _ _ _ _ _ _
                                refine CdOK.ret ?_
                                refine ⟨.inr rfl, _, rfl, h, [⟨[I (r_.pages), I (r_.spares), .L 2 (r_.places.map Place.cs), .L 1 (r_.bad.map cI)], true, true⟩, ⟨(bx32.map cB).flatten, true, true⟩, ⟨[I ((gd r_.places t7831).page), I ((gd r_.places t7831).address)], true, true⟩], _, rfl, rfl, hC, ((renFlV rfl) : RenV _ _ _ _ (VB (false))), ?_⟩
                                have hr := hm.ret
                                replace hr := Ev.ret hr
                                replace hr := Ev.ret hr
                                subst hr
                                exact ⟨rfl, rfl⟩
                              · intro c48; replace hm := hm.ifn c48
                                refine RgOK.s (v := VB (false)) rfl rfl rfl (e_mv (ev_t rfl)) ?_
                                refine RgOK.s (v := .o (.c (.ptr (h.length + 2) 1))) rfl rfl rfl (e_fa' fa117_1 (ev_t rfl)) ?_
                                refine RgOK.s (v := VI ((gd r_.places t7831).address)) rfl rfl rfl (e_ldb1 (ev_t rfl) ty3 (bx rfl rfl) rfl) ?_
                                refine RgOK.s (v := .o (.c (.ptr (h.length + 0) 0))) rfl rfl rfl (e_fa' fa29_0 (ev_t rfl)) ?_
                                refine RgOK.s (v := VI (r_.pages)) rfl rfl rfl (e_ldb1 (ev_t rfl) ty3 (bx rfl rfl) rfl) ?_
                                refine RgOK.s (v := .o (.c (.ptr (h.length + 0) 1))) rfl rfl rfl (e_fa' fa29_1 (ev_t rfl)) ?_
                                refine RgOK.s (v := VI (r_.spares)) rfl rfl rfl (e_ldb1 (ev_t rfl) ty3 (bx rfl rfl) rfl) ?_
                                refine RgOK.s (v := VI ((w64 (r_.pages + r_.spares)))) rfl rfl rfl (e_bin (ev_t rfl) (ev_t rfl) rfl rfl) ?_
                                refine RgOK.sd rfl rfl rfl (e_bin (ev_t rfl) (ev_t rfl) rfl rfl) ?_ ?_
                                · intro c49; replace hm := hm.ifp c49
                                  refine RgOK.s (v := VB (true)) rfl rfl rfl (e_pick (t := false) (ev_t rfl) (ev_t rfl)) ?_
                                  refine RgOK.s (v := VB (true)) rfl rfl rfl (e_mv (ev_t rfl)) ?_
                                  refine RgOK.sk rfl rfl rfl ?_
                                  refine RgOK.sk rfl rfl rfl ?_
                                  refine RgOK.sk rfl rfl rfl ?_
                                  refine RgOK.sk rfl rfl rfl ?_
                                  refine RgOK.s (v := VB (true)) rfl rfl rfl (e_pick (t := true) (ev_t rfl) rfl) ?_
                                  refine RgOK.s (v := VB (true)) rfl rfl rfl (e_mv (ev_t rfl)) ?_
                                  refine RgOK.sk rfl rfl rfl ?_
                                  refine RgOK.sk rfl rfl rfl ?_
                                  refine RgOK.sk rfl rfl rfl ?_
                                  refine RgOK.sk rfl rfl rfl ?_
                                  refine RgOK.s (v := VB (true)) rfl rfl rfl (e_pick (t := true) (ev_t rfl) rfl) ?_
                                  refine RgOK.s (v := VB (true)) rfl rfl rfl (e_as (ev_t rfl)) ?_
                                  refine RgOK.nil ?_
                                  show CdOK _ _ _ _ _ _
                                  refine CdOK.cond_true rfl ?_
                                  refine CdOK.seq ?_
                                  refine CdOK.region ?_
                                  refine RgOK.s (v := VB (false)) rfl rfl rfl (e_as rfl) ?_
                                  refine RgOK.nil ?_
                                  show CdOK _ _ _ _ _ _
                                  refine CdOK.ret ?_
                                  refine ⟨.inr rfl, _, rfl, h, [⟨[I (r_.pages), I (r_.spares), .L 2 (r_.places.map Place.cs), .L 1 (r_.bad.map cI)], true, true⟩, ⟨(bx32.map cB).flatten, true, true⟩, ⟨[I ((gd r_.places t7831).page), I ((gd r_.places t7831).address)], true, true⟩], _, rfl, rfl, hC, ((renFlV rfl) : RenV _ _ _ _ (VB (false))), ?_⟩
                                  have hr := hm.ret
                                  replace hr := Ev.ret hr
                                  replace hr := Ev.ret hr
                                  subst hr
                                  exact ⟨rfl, rfl⟩
                                · intro c50; replace hm := hm.ifn c50
                                  refine RgOK.s (v := VB (false)) rfl rfl rfl (e_pick (t := false) (ev_t rfl) (ev_t rfl)) ?_
                                  refine RgOK.s (v := VB (false)) rfl rfl rfl (e_mv (ev_t rfl)) ?_
                                  refine RgOK.s (v := .o (.agg [I (r_.pages), I (r_.spares), .L 2 (r_.places.map Place.cs), .L 1 (r_.bad.map cI)])) rfl rfl rfl (e_ldbA (ev_t rfl) ty29 (bx rfl rfl) rfl rfl) ?_
                                  refine RgOK.s (v := .o (.c (.ptr (h.length + 2) 1))) rfl rfl rfl (e_fa' fa117_1 (ev_t rfl)) ?_
                                  refine RgOK.s (v := VI ((gd r_.places t7831).address)) rfl rfl rfl (e_ldb1 (ev_t rfl) ty3 (bx rfl rfl) rfl) ?_
                                  obtain ⟨x51, e51, hm⟩ := hm.call
                                  cases x51 with
                                  | true =>
                                    replace hm := hm.ifp rfl
                                    refine RgOK.cl rfl rfl rfl rfl pl84 (R2.wk _) (quarantine_bad_ok   e51) ?_
                                    rintro _ _ ⟨rfl, rfl⟩
                                    refine RgOK.s (v := VB (true)) rfl rfl rfl (e_pick (t := false) (ev_t rfl) (ev_t rfl)) ?_
                                    refine RgOK.s (v := VB (true)) rfl rfl rfl (e_mv (ev_t rfl)) ?_
                                    refine RgOK.sk rfl rfl rfl ?_
                                    refine RgOK.sk rfl rfl rfl ?_
                                    refine RgOK.sk rfl rfl rfl ?_
                                    refine RgOK.sk rfl rfl rfl ?_
                                    refine RgOK.s (v := VB (true)) rfl rfl rfl (e_pick (t := true) (ev_t rfl) rfl) ?_
                                    refine RgOK.s (v := VB (true)) rfl rfl rfl (e_as (ev_t rfl)) ?_
                                    refine RgOK.nil ?_
                                    show CdOK _ _ _ _ _ _
                                    refine CdOK.cond_true rfl ?_
                                    refine CdOK.seq ?_
                                    refine CdOK.region ?_
                                    refine RgOK.s (v := VB (false)) rfl rfl rfl (e_as rfl) ?_
                                    refine RgOK.nil ?_
                                    show CdOK _ _ _ _ _ _
                                    refine CdOK.ret ?_
                                    refine ⟨.inr rfl, _, rfl, h, [⟨[I (r_.pages), I (r_.spares), .L 2 (r_.places.map Place.cs), .L 1 (r_.bad.map cI)], true, true⟩, ⟨(bx32.map cB).flatten, true, true⟩, ⟨[I ((gd r_.places t7831).page), I ((gd r_.places t7831).address)], true, true⟩], _, rfl, rfl, hC, ((renFlV rfl) : RenV _ _ _ _ (VB (false))), ?_⟩
                                    have hr := hm.ret
                                    replace hr := Ev.ret hr
                                    replace hr := Ev.ret hr
                                    subst hr
                                    exact ⟨rfl, rfl⟩
                                  | false =>
                                    replace hm := hm.ifn Bool.false_ne_true
                                    refine RgOK.cl rfl rfl rfl rfl pl84 (R2.wk _) (quarantine_bad_ok   e51) ?_
                                    rintro _ _ ⟨rfl, rfl⟩
                                    refine RgOK.s (v := VB (false)) rfl rfl rfl (e_pick (t := false) (ev_t rfl) (ev_t rfl)) ?_
                                    refine RgOK.s (v := VB (false)) rfl rfl rfl (e_mv (ev_t rfl)) ?_
                                    refine RgOK.s (v := .o (.c (.ptr (h.length + 2) 1))) rfl rfl rfl (e_fa' fa117_1 (ev_t rfl)) ?_
                                    refine RgOK.s (v := VI ((gd r_.places t7831).address)) rfl rfl rfl (e_ldb1 (ev_t rfl) ty3 (bx rfl rfl) rfl) ?_
                                    obtain ⟨c52, hm⟩ := hm.ifs
                                    refine RgOK.s (v := .o (.c (.ptr (h.length + 1) (0 + (Int.toNat ((gd r_.places t7831).address)) * 1)))) rfl rfl rfl (e_ixa (ev_t rfl) (ev_t rfl) ar118 c52) ?_
                                    obtain ⟨c53, hm⟩ := hm.ifs
                                    refine RgOK.s (v := VB ((gd bx32 ((gd r_.places t7831).address)))) rfl rfl rfl (e_ldx (f := cB) (l := bx32) (i := (gd r_.places t7831).address) (ev_t rfl) ty4 (bx rfl rfl) (by intro x; rfl) c53 rfl) ?_
                                    refine RgOK.s (v := VB ((gd bx32 ((gd r_.places t7831).address)))) rfl rfl rfl (e_pick (t := false) (ev_t rfl) (ev_t rfl)) ?_
                                    refine RgOK.s (v := VB ((gd bx32 ((gd r_.places t7831).address)))) rfl rfl rfl (e_as (ev_t rfl)) ?_
                                    refine RgOK.nil ?_
                                    show CdOK _ _ _ _ _ _
                                    refine CdOK.condB (ev_t rfl) ?_ ?_
                                    · intro c54; replace hm := hm.ifp c54
                                      refine CdOK.seq ?_
                                      refine CdOK.region ?_
                                      refine RgOK.s (v := VB (false)) rfl rfl rfl (e_as rfl) ?_
                                      refine RgOK.nil ?_
                                      show CdOK _ _ _ _ _ _
                                      refine CdOK.ret ?_
                                      refine ⟨.inr rfl, _, rfl, h, [⟨[I (r_.pages), I (r_.spares), .L 2 (r_.places.map Place.cs), .L 1 (r_.bad.map cI)], true, true⟩, ⟨(bx32.map cB).flatten, true, true⟩, ⟨[I ((gd r_.places t7831).page), I ((gd r_.places t7831).address)], true, true⟩], _, rfl, rfl, hC, ((renFlV rfl) : RenV _ _ _ _ (VB (false))), ?_⟩
                                      have hr := hm.ret
                                      replace hr := Ev.ret hr
                                      replace hr := Ev.ret hr
                                      subst hr
                                      exact ⟨rfl, rfl⟩
                                    · intro c55; replace hm := hm.ifn c55
                                      refine CdOK.skip ?_
                                      refine Told.id ?_
                                      exact ⟨(), hm.ret, (.cons rfl (.cons rfl (.cons rfl (.cons rfl (.cons rfl (.cons rfl (.cons rfl .nil))))))), rfl⟩
                        · intro c56; replace hm := hm.ifn c56
                          refine DrOK.s (v := VB (false)) rfl rfl rfl (e_mv (ev_t rfl)) ?_
                          refine DrOK.sk rfl rfl rfl ?_
                          refine DrOK.sk rfl rfl rfl ?_
                          refine DrOK.sk rfl rfl rfl ?_
                          refine DrOK.sk rfl rfl rfl ?_
                          refine DrOK.sk rfl rfl rfl ?_
                          refine DrOK.sk rfl rfl rfl ?_
                          refine DrOK.sk rfl rfl rfl ?_
                          refine DrOK.sk rfl rfl rfl ?_
                          refine DrOK.sk rfl rfl rfl ?_
                          refine DrOK.sk rfl rfl rfl ?_
                          refine DrOK.s (v := VB (false)) rfl rfl rfl (e_pick (t := false) (ev_t rfl) rfl) ?_
                          refine DrOK.s (v := VB (false)) rfl rfl rfl (e_pick (t := false) (ev_t rfl) (ev_t rfl)) ?_
                          refine DrOK.s (v := VB (false)) rfl rfl rfl (e_mv (ev_t rfl)) ?_
                          refine DrOK.s (v := .o (.agg [I (r_.pages), I (r_.spares), .L 2 (r_.places.map Place.cs), .L 1 (r_.bad.map cI)])) rfl rfl rfl (e_ldbA (ev_t rfl) ty29 (bx rfl rfl) rfl rfl) ?_
                          refine DrOK.s (v := .o (.c (.ptr (h.length + 2) 0))) rfl rfl rfl (e_fa' fa117_0 (ev_t rfl)) ?_
                          refine DrOK.s (v := VI ((gd r_.places t7831).page)) rfl rfl rfl (e_ldb1 (ev_t rfl) ty3 (bx rfl rfl) rfl) ?_
                          obtain ⟨x57, e57, hm⟩ := hm.call
                          refine DrOK.cl rfl rfl rfl rfl pl84 (R2.wk _) (quarantine_bad_ok   e57) ?_
                          refine DrOK.s (v := VB ((!x57))) rfl rfl rfl (e_un (ev_t rfl) rfl) ?_
                          refine DrOK.s (v := VB ((!x57))) rfl rfl rfl (e_pick (t := false) (ev_t rfl) (ev_t rfl)) ?_
                          refine DrOK.s (v := VB ((!x57))) rfl rfl rfl (e_as (ev_t rfl)) ?_
                          refine DrOK.nil ?_
                          show CdOK _ _ _ _ _ _
                          refine CdOK.condB (ev_t rfl) ?_ ?_
                          · intro c58; replace hm := hm.ifp c58
                            refine CdOK.seq ?_
                            refine CdOK.region ?_
                            refine RgOK.s (v := VB (false)) rfl rfl rfl (e_as rfl) ?_
                            refine RgOK.nil ?_
                            show CdOK _ _ _ _ _ _
                            refine CdOK.ret ?_
                            refine ⟨.inr rfl, _, rfl, h, [⟨[I (r_.pages), I (r_.spares), .L 2 (r_.places.map Place.cs), .L 1 (r_.bad.map cI)], true, true⟩, ⟨(bx32.map cB).flatten, true, true⟩, ⟨[I ((gd r_.places t7831).page), I ((gd r_.places t7831).address)], true, true⟩], _, rfl, rfl, hC, ((renFlV rfl) : RenV _ _ _ _ (VB (false))), ?_⟩
                            have hr := hm.ret
                            replace hr := Ev.ret hr
                            replace hr := Ev.ret hr
                            subst hr
                            exact ⟨rfl, rfl⟩
                          · intro c59; replace hm := hm.ifn c59
                            refine CdOK.seq ?_
                            refine CdOK.region ?_
                            refine RgOK.s (v := .o (.c (.ptr (h.length + 2) 1))) rfl rfl rfl (e_fa' fa117_1 (ev_t rfl)) ?_
                            refine RgOK.s (v := VI ((gd r_.places t7831).address)) rfl rfl rfl (e_ldb1 (ev_t rfl) ty3 (bx rfl rfl) rfl) ?_
                            refine RgOK.s (v := .o (.c (.ptr (h.length + 0) 0))) rfl rfl rfl (e_fa' fa29_0 (ev_t rfl)) ?_
                            refine RgOK.s (v := VI (r_.pages)) rfl rfl rfl (e_ldb1 (ev_t rfl) ty3 (bx rfl rfl) rfl) ?_
                            refine RgOK.sd rfl rfl rfl (e_bin (ev_t rfl) (ev_t rfl) rfl rfl) ?_ ?_
                            · intro c60; replace hm := hm.ifp c60
                              refine RgOK.s (v := VB (true)) rfl rfl rfl (e_mv (ev_t rfl)) ?_
                              refine RgOK.sk rfl rfl rfl ?_
                              refine RgOK.sk rfl rfl rfl ?_
                              refine RgOK.sk rfl rfl rfl ?_
                              refine RgOK.sk rfl rfl rfl ?_
                              refine RgOK.sk rfl rfl rfl ?_
                              refine RgOK.sk rfl rfl rfl ?_
                              refine RgOK.sk rfl rfl rfl ?_
                              refine RgOK.sk rfl rfl rfl ?_
                              refine RgOK.s (v := VB (true)) rfl rfl rfl (e_pick (t := true) (ev_t rfl) rfl) ?_
                              refine RgOK.s (v := VB (true)) rfl rfl rfl (e_mv (ev_t rfl)) ?_
                              refine RgOK.sk rfl rfl rfl ?_
                              refine RgOK.sk rfl rfl rfl ?_
                              refine RgOK.sk rfl rfl rfl ?_
                              refine RgOK.sk rfl rfl rfl ?_
                              refine RgOK.s (v := VB (true)) rfl rfl rfl (e_pick (t := true) (ev_t rfl) rfl) ?_
                              refine RgOK.s (v := VB (true)) rfl rfl rfl (e_mv (ev_t rfl)) ?_
                              refine RgOK.sk rfl rfl rfl ?_
                              refine RgOK.sk rfl rfl rfl ?_
                              refine RgOK.sk rfl rfl rfl ?_
                              refine RgOK.sk rfl rfl rfl ?_
                              refine RgOK.s (v := VB (true)) rfl rfl rfl (e_pick (t := true) (ev_t rfl) rfl) ?_
                              refine RgOK.s (v := VB (true)) rfl rfl rfl (e_as (ev_t rfl)) ?_
                              refine RgOK.nil ?_
                              show CdOK _ _ _ _ _ _
                              refine CdOK.cond_true rfl ?_
                              refine CdOK.seq ?_
                              refine CdOK.region ?_
                              refine RgOK.s (v := VB (false)) rfl rfl rfl (e_as rfl) ?_
                              refine RgOK.nil ?_
                              show CdOK _ _ _ _ _ _
                              refine CdOK.ret ?_
                              refine ⟨.inr rfl, _, rfl, h, [⟨[I (r_.pages), I (r_.spares), .L 2 (r_.places.map Place.cs), .L 1 (r_.bad.map cI)], true, true⟩, ⟨(bx32.map cB).flatten, true, true⟩, ⟨[I ((gd r_.places t7831).page), I ((gd r_.places t7831).address)], true, true⟩], _, rfl, rfl, hC, ((renFlV rfl) : RenV _ _ _ _ (VB (false))), ?_⟩
                              have hr := hm.ret
                              replace hr := Ev.ret hr
                              replace hr := Ev.ret hr
                              subst hr
                              exact ⟨rfl, rfl⟩
                            · intro c61; replace hm := hm.ifn c61
                              refine RgOK.s (v := VB (false)) rfl rfl rfl (e_mv (ev_t rfl)) ?_
                              refine RgOK.s (v := .o (.c (.ptr (h.length + 2) 1))) rfl rfl rfl (e_fa' fa117_1 (ev_t rfl)) ?_
                              refine RgOK.s (v := VI ((gd r_.places t7831).address)) rfl rfl rfl (e_ldb1 (ev_t rfl) ty3 (bx rfl rfl) rfl) ?_
                              refine RgOK.s (v := .o (.c (.ptr (h.length + 0) 0))) rfl rfl rfl (e_fa' fa29_0 (ev_t rfl)) ?_
                              refine RgOK.s (v := VI (r_.pages)) rfl rfl rfl (e_ldb1 (ev_t rfl) ty3 (bx rfl rfl) rfl) ?_
                              refine RgOK.s (v := .o (.c (.ptr (h.length + 0) 1))) rfl rfl rfl (e_fa' fa29_1 (ev_t rfl)) ?_
                              refine RgOK.s (v := VI (r_.spares)) rfl rfl rfl (e_ldb1 (ev_t rfl) ty3 (bx rfl rfl) rfl) ?_
                              refine RgOK.s (v := VI ((w64 (r_.pages + r_.spares)))) rfl rfl rfl (e_bin (ev_t rfl) (ev_t rfl) rfl rfl) ?_
                              refine RgOK.sd rfl rfl rfl (e_bin (ev_t rfl) (ev_t rfl) rfl rfl) ?_ ?_
                              · intro c62; replace hm := hm.ifp c62
                                refine RgOK.s (v := VB (true)) rfl rfl rfl (e_pick (t := false) (ev_t rfl) (ev_t rfl)) ?_
                                refine RgOK.s (v := VB (true)) rfl rfl rfl (e_mv (ev_t rfl)) ?_
                                refine RgOK.sk rfl rfl rfl ?_
                                refine RgOK.sk rfl rfl rfl ?_
                                refine RgOK.sk rfl rfl rfl ?_
                                refine RgOK.sk rfl rfl rfl ?_
                                refine RgOK.s (v := VB (true)) rfl rfl rfl (e_pick (t := true) (ev_t rfl) rfl) ?_
                                refine RgOK.s (v := VB (true)) rfl rfl rfl (e_mv (ev_t rfl)) ?_
                                refine RgOK.sk rfl rfl rfl ?_
                                refine RgOK.sk rfl rfl rfl ?_
                                refine RgOK.sk rfl rfl rfl ?_
                                refine RgOK.sk rfl rfl rfl ?_
                                refine RgOK.s (v := VB (true)) rfl rfl rfl (e_pick (t := true) (ev_t rfl) rfl) ?_
                                refine RgOK.s (v := VB (true)) rfl rfl rfl (e_as (ev_t rfl)) ?_
                                refine RgOK.nil ?_
                                show CdOK _ _ _ _ _ _
                                refine CdOK.cond_true rfl ?_
                                refine CdOK.seq ?_
                                refine CdOK.region ?_
                                refine RgOK.s (v := VB (false)) rfl rfl rfl (e_as rfl) ?_
                                refine RgOK.nil ?_
                                show CdOK _ _ _ _ _ _
                                refine CdOK.ret ?_
                                refine ⟨.inr rfl, _, rfl, h, [⟨[I (r_.pages), I (r_.spares), .L 2 (r_.places.map Place.cs), .L 1 (r_.bad.map cI)], true, true⟩, ⟨(bx32.map cB).flatten, true, true⟩, ⟨[I ((gd r_.places t7831).page), I ((gd r_.places t7831).address)], true, true⟩], _, rfl, rfl, hC, ((renFlV rfl) : RenV _ _ _ _ (VB (false))), ?_⟩
                                have hr := hm.ret
                                replace hr := Ev.ret hr
                                replace hr := Ev.ret hr
                                subst hr
                                exact ⟨rfl, rfl⟩
                              · intro c63; replace hm := hm.ifn c63
                                refine RgOK.s (v := VB (false)) rfl rfl rfl (e_pick (t := false) (ev_t rfl) (ev_t rfl)) ?_
                                refine RgOK.s (v := VB (false)) rfl rfl rfl (e_mv (ev_t rfl)) ?_
                                refine RgOK.s (v := .o (.agg [I (r_.pages), I (r_.spares), .L 2 (r_.places.map Place.cs), .L 1 (r_.bad.map cI)])) rfl rfl rfl (e_ldbA (ev_t rfl) ty29 (bx rfl rfl) rfl rfl) ?_
                                refine RgOK.s (v := .o (.c (.ptr (h.length + 2) 1))) rfl rfl rfl (e_fa' fa117_1 (ev_t rfl)) ?_
                                refine RgOK.s (v := VI ((gd r_.places t7831).address)) rfl rfl rfl (e_ldb1 (ev_t rfl) ty3 (bx rfl rfl) rfl) ?_
                                obtain ⟨x64, e64, hm⟩ := hm.call
                                cases x64 with
                                | true =>
                                  replace hm := hm.ifp rfl
                                  refine RgOK.cl rfl rfl rfl rfl pl84 (R2.wk _) (quarantine_bad_ok   e64) ?_
                                  rintro _ _ ⟨rfl, rfl⟩
                                  refine RgOK.s (v := VB (true)) rfl rfl rfl (e_pick (t := false) (ev_t rfl) (ev_t rfl)) ?_
                                  refine RgOK.s (v := VB (true)) rfl rfl rfl (e_mv (ev_t rfl)) ?_
                                  refine RgOK.sk rfl rfl rfl ?_
                                  refine RgOK.sk rfl rfl rfl ?_
                                  refine RgOK.sk rfl rfl rfl ?_
                                  refine RgOK.sk rfl rfl rfl ?_
                                  refine RgOK.s (v := VB (true)) rfl rfl rfl (e_pick (t := true) (ev_t rfl) rfl) ?_
                                  refine RgOK.s (v := VB (true)) rfl rfl rfl (e_as (ev_t rfl)) ?_
                                  refine RgOK.nil ?_
                                  show CdOK _ _ _ _ _ _
                                  refine CdOK.cond_true rfl ?_
                                  refine CdOK.seq ?_
                                  refine CdOK.region ?_
                                  refine RgOK.s (v := VB (false)) rfl rfl rfl (e_as rfl) ?_
                                  refine RgOK.nil ?_
                                  show CdOK _ _ _ _ _ _
                                  refine CdOK.ret ?_
                                  refine ⟨.inr rfl, _, rfl, h, [⟨[I (r_.pages), I (r_.spares), .L 2 (r_.places.map Place.cs), .L 1 (r_.bad.map cI)], true, true⟩, ⟨(bx32.map cB).flatten, true, true⟩, ⟨[I ((gd r_.places t7831).page), I ((gd r_.places t7831).address)], true, true⟩], _, rfl, rfl, hC, ((renFlV rfl) : RenV _ _ _ _ (VB (false))), ?_⟩
                                  have hr := hm.ret
                                  replace hr := Ev.ret hr
                                  replace hr := Ev.ret hr
                                  subst hr
                                  exact ⟨rfl, rfl⟩
                                | false =>
                                  replace hm := hm.ifn Bool.false_ne_true
                                  refine RgOK.cl rfl rfl rfl rfl pl84 (R2.wk _) (quarantine_bad_ok   e64) ?_
                                  rintro _ _ ⟨rfl, rfl⟩
                                  refine RgOK.s (v := VB (false)) rfl rfl rfl (e_pick (t := false) (ev_t rfl) (ev_t rfl)) ?_
                                  refine RgOK.s (v := VB (false)) rfl rfl rfl (e_mv (ev_t rfl)) ?_
                                  refine RgOK.s (v := .o (.c (.ptr (h.length + 2) 1))) rfl rfl rfl (e_fa' fa117_1 (ev_t rfl)) ?_
                                  refine RgOK.s (v := VI ((gd r_.places t7831).address)) rfl rfl rfl (e_ldb1 (ev_t rfl) ty3 (bx rfl rfl) rfl) ?_
                                  obtain ⟨c65, hm⟩ := hm.ifs
                                  refine RgOK.s (v := .o (.c (.ptr (h.length + 1) (0 + (Int.toNat ((gd r_.places t7831).address)) * 1)))) rfl rfl rfl (e_ixa (ev_t rfl) (ev_t rfl) ar118 c65) ?_
                                  obtain ⟨c66, hm⟩ := hm.ifs
                                  refine RgOK.s (v := VB ((gd bx32 ((gd r_.places t7831).address)))) rfl rfl rfl (e_ldx (f := cB) (l := bx32) (i := (gd r_.places t7831).address) (ev_t rfl) ty4 (bx rfl rfl) (by intro x; rfl) c66 rfl) ?_
                                  refine RgOK.s (v := VB ((gd bx32 ((gd r_.places t7831).address)))) rfl rfl rfl (e_pick (t := false) (ev_t rfl) (ev_t rfl)) ?_
                                  refine RgOK.s (v := VB ((gd bx32 ((gd r_.places t7831).address)))) rfl rfl rfl (e_as (ev_t rfl)) ?_
                                  refine RgOK.nil ?_
                                  show CdOK _ _ _ _ _ _
                                  refine CdOK.condB (ev_t rfl) ?_ ?_
                                  · intro c67; replace hm := hm.ifp c67
                                    refine CdOK.seq ?_
                                    refine CdOK.region ?_
                                    refine RgOK.s (v := VB (false)) rfl rfl rfl (e_as rfl) ?_
                                    refine RgOK.nil ?_
                                    show CdOK _ _ _ _ _ _
                                    refine CdOK.ret ?_
                                    refine ⟨.inr rfl, _, rfl, h, [⟨[I (r_.pages), I (r_.spares), .L 2 (r_.places.map Place.cs), .L 1 (r_.bad.map cI)], true, true⟩, ⟨(bx32.map cB).flatten, true, true⟩, ⟨[I ((gd r_.places t7831).page), I ((gd r_.places t7831).address)], true, true⟩], _, rfl, rfl, hC, ((renFlV rfl) : RenV _ _ _ _ (VB (false))), ?_⟩
                                    have hr := hm.ret
                                    replace hr := Ev.ret hr
                                    replace hr := Ev.ret hr
                                    subst hr
                                    exact ⟨rfl, rfl⟩
                                  · intro c68; replace hm := hm.ifn c68
                                    refine CdOK.skip ?_
                                    refine Told.id ?_
                                    exact ⟨(), hm.ret, (.cons rfl (.cons rfl (.cons rfl (.cons rfl (.cons rfl (.cons rfl (.cons rfl .nil))))))), rfl⟩
                  · intro _ T0 hm
                    show CdOK _ _ _ (look T0 [(1, .o (.c (.ptr (h.length + 0) 0))), (3, VI (own11)), (6, .o (.c (.ptr (h.length + 1) 0))), (8, .o (.c (.ptr (h.length + 2) 0))), (76, .o (.c (.L 2 (r_.places.map Place.cs)))), (77, VI ((r_.places.length : Int))), (78, VI (t7831))]) (h ++ ([⟨[I (r_.pages), I (r_.spares), .L 2 (r_.places.map Place.cs), .L 1 (r_.bad.map cI)], true, true⟩, ⟨(bx32.map cB).flatten, true, true⟩, ⟨[I ((gd r_.places t7831).page), I ((gd r_.places t7831).address)], true, true⟩] : Heap)) _
                    replace hm : Ev _ _ := hm
                    refine CdOK.region ?_
                    refine RgOK.s (v := .o (.c (.ptr (h.length + 2) 1))) rfl rfl rfl (e_fa' fa117_1 (ev_t rfl)) ?_
                    refine RgOK.s (v := VI ((gd r_.places t7831).address)) rfl rfl rfl (e_ldb1 (ev_t rfl) ty3 (bx rfl rfl) rfl) ?_
                    obtain ⟨c70, hm⟩ := hm.ifs
                    refine RgOK.s (v := .o (.c (.ptr (h.length + 1) (0 + (Int.toNat ((gd r_.places t7831).address)) * 1)))) rfl rfl rfl (e_ixa (ev_t rfl) (ev_t rfl) ar118 c70) ?_
                    obtain ⟨c71, hm⟩ := hm.ifs
                    refine RgOK.s0 rfl rfl (e_stx (f := cB) (l := bx32) (i := (gd r_.places t7831).address) (x := true) (L' := [⟨[I (r_.pages), I (r_.spares), .L 2 (r_.places.map Place.cs), .L 1 (r_.bad.map cI)], true, true⟩, ⟨((bx32.set (Int.toNat ((gd r_.places t7831).address)) true).map cB).flatten, true, true⟩, ⟨[I ((gd r_.places t7831).page), I ((gd r_.places t7831).address)], true, true⟩]) rfl (ev_t rfl) rfl ty4 rfl (by intro x; rfl) rfl c71 rfl) ?_
                    refine RgOK.nil ?_
                    show CdOK _ _ _ _ _ _
                    refine CdOK.region ?_
                    refine RgOK.s (v := VI ((w64 (t7831 + 1)))) rfl rfl rfl (e_bin (ev_t rfl) rfl rfl rfl) ?_
                    refine RgOK.s (v := VI ((w64 (t7831 + 1)))) rfl rfl rfl (e_mv (ev_t rfl)) ?_
                    refine RgOK.nil ?_
                    refine Told.re (σ := [0, 1]) (X := [(1, .o (.c (.ptr (h.length + 0) 0))), (3, VI (own11)), (6, .o (.c (.ptr (h.length + 1) 0))), (76, .o (.c (.L 2 (r_.places.map Place.cs)))), (77, VI ((r_.places.length : Int))), (78, VI ((w64 (t7831 + 1))))]) (L' := [⟨[I (r_.pages), I (r_.spares), .L 2 (r_.places.map Place.cs), .L 1 (r_.bad.map cI)], true, true⟩, ⟨((bx32.set (Int.toNat ((gd r_.places t7831).address)) true).map cB).flatten, true, true⟩]) rfl rfl hC (by decide) (.obj 0 rfl (renFl rfl) (.obj 1 rfl (renFl (flat_all (f := cB) (l := (bx32.set (Int.toNat ((gd r_.places t7831).address)) true)) (by intro x; rfl))) .nil)) (.cons (.o (.c (.ptr 0 0 _ rfl))) (.cons (renFlV rfl) (.cons (.o (.c (.ptr 1 1 _ rfl))) (.cons (renFlV rfl) (.cons (renFlV rfl) (.cons (renFlV rfl) .nil)))))) ?_
                    exact ⟨_, ((w64 (t7831 + 1)), (bx32.set (Int.toNat ((gd r_.places t7831).address)) true)), Nat.lt_succ_self _, hm, (.cons rfl (.cons rfl (.cons rfl (.cons rfl (.cons rfl (.cons rfl .nil)))))), rfl⟩
                · intro c72; replace hm := hm.ifn c72
                  refine CdOK.exit ?_
                  refine Told.re (σ := [0]) (X := [(1, .o (.c (.ptr (h.length + 0) 0))), (3, VI (own11))]) (L' := [⟨[I (r_.pages), I (r_.spares), .L 2 (r_.places.map Place.cs), .L 1 (r_.bad.map cI)], true, true⟩]) rfl rfl hC (by decide) (.obj 0 rfl (renFl rfl) .nil) (.cons (.o (.c (.ptr 0 0 _ rfl))) (.cons (renFlV rfl) .nil)) ?_
                  exact ⟨(), hm.ret, (.cons rfl (.cons rfl .nil)), rfl⟩
              · intro _ T0 hm
                show CdOK _ _ _ _ _ _
                refine CdOK.seq ?_
                refine CdOK.region ?_
                refine RgOK.s (v := VI (own11)) rfl rfl rfl (e_mv (ev_t rfl)) ?_
                refine RgOK.s (v := .o (.c (.ptr (h.length + 0) 2))) rfl rfl rfl (e_fa' fa29_2 (ev_t rfl)) ?_
                refine RgOK.s (v := .o (.c (.L 2 (r_.places.map Place.cs)))) rfl rfl rfl (e_ldb1 (ev_t rfl) ty26 (bx rfl rfl) rfl) ?_
                refine RgOK.s (v := VI ((r_.places.length : Int))) rfl rfl rfl (e_lenM (ev_t rfl) is26) ?_
                refine RgOK.s (v := VB (decide (own11 = (r_.places.length : Int)))) rfl rfl rfl (e_eqK (ev_t rfl) (ev_t rfl)) ?_
                refine RgOK.s (v := VB (decide (own11 = (r_.places.length : Int)))) rfl rfl rfl (e_as (ev_t rfl)) ?_
                refine RgOK.nil ?_
                show CdOK _ _ _ _ _ _
                refine CdOK.ret ?_
                refine ⟨.inr rfl, _, rfl, h, [⟨[I (r_.pages), I (r_.spares), .L 2 (r_.places.map Place.cs), .L 1 (r_.bad.map cI)], true, true⟩], _, rfl, rfl, hC, ((renFlV rfl) : RenV _ _ _ _ (VB (decide (own11 = (r_.places.length : Int))))), ?_⟩
                have hr := hm.ret
                subst hr
                exact ⟨rfl, rfl⟩
/- pagemend/quarantine.place$1 -/
def quarantine_place1 (p_ : Place) (page : Int) : Option Int := some (w64 (p_.page - page))
theorem quarantine_place1.eq (p_ : Place) (page : Int) : quarantine_place1 p_ page = some (w64 (p_.page - page)) := rfl
theorem quarantine_place1_ok {h : Heap} {p_ : Place} {page : Int}  {r : Int} (hm : quarantine_place1 p_ page = some r) : FnOK Try.prog 160 [.o (.agg [I (p_.page), I (p_.address)]), VI (page)] h (fun v h' => v = VI (r) ∧ h' = h) := by
  refine FnOK.fin ?_
  refine FnOK.bodyC (N := 9) Try.func160 rfl rfl rfl (fun hC => ?_)
  replace hm := Ev.of hm
  rw [quarantine_place1.eq] at hm
  show CdOK _ _ _ (look _ [(0, .o (.agg [I (p_.page), I (p_.address)])), (1, VI (page))]) (h ++ ([] : Heap)) _
  refine CdOK.seq ?_
  refine CdOK.region ?_
  refine RgOK.s (v := .o (.c (.ptr (h.length + 0) 0))) rfl rfl rfl (e_boxN (L' := [⟨[I (p_.page), I (p_.address)], true, true⟩]) rfl (ev_t rfl) rfl rfl) ?_
  refine RgOK.s (v := VI (0)) rfl rfl rfl (e_as rfl) ?_
  refine RgOK.nil ?_
  show CdOK _ _ _ _ _ _
  refine CdOK.seq ?_
  refine CdOK.region ?_
  refine RgOK.s (v := .o (.c (.ptr (h.length + 0) 0))) rfl rfl rfl (e_fa' fa117_0 (ev_t rfl)) ?_
  refine RgOK.s (v := VI (p_.page)) rfl rfl rfl (e_ldb1 (ev_t rfl) ty3 (bx rfl rfl) rfl) ?_
  refine RgOK.s (v := VI (page)) rfl rfl rfl (e_mv (ev_t rfl)) ?_
  refine RgOK.s (v := VI ((w64 (p_.page - page)))) rfl rfl rfl (e_bin (ev_t rfl) (ev_t rfl) rfl rfl) ?_
  refine RgOK.s (v := VI ((w64 (p_.page - page)))) rfl rfl rfl (e_as (ev_t rfl)) ?_
  refine RgOK.nil ?_
  show CdOK _ _ _ _ _ _
  refine CdOK.ret ?_
  refine ⟨.inr rfl, _, rfl, h, [⟨[I (p_.page), I (p_.address)], true, true⟩], _, rfl, rfl, hC, ((renFlV rfl) : RenV _ _ _ _ (VI ((w64 (p_.page - page))))), ?_⟩
  have hr := hm.ret
  subst hr
  exact ⟨rfl, rfl⟩
/- slices.BinarySearchFunc[[]pagemend/api.Place,pagemend/api.Place,int] -/
def BinarySearchFuncP.l1 (x_ : (List Place)) (target : Int) : Nat → Int → Int → Option Int
  | 0, _, _ => none
  | kk4 + 1, i2, j3 => (if i2 < j3 then (if (0 : Int) ≤ (w64 (Int.fdiv (IntKind.u64.wrap (w64 (i2 + j3))) (2 ^ (min (Int.toNat 1) (IntKind.bits .u64))))) ∧ (w64 (Int.fdiv (IntKind.u64.wrap (w64 (i2 + j3))) (2 ^ (min (Int.toNat 1) (IntKind.bits .u64))))) < (x_.length : Int) then ((quarantine_place1 (⟨(gd x_ (w64 (Int.fdiv (IntKind.u64.wrap (w64 (i2 + j3))) (2 ^ (min (Int.toNat 1) (IntKind.bits .u64)))))).page, (gd x_ (w64 (Int.fdiv (IntKind.u64.wrap (w64 (i2 + j3))) (2 ^ (min (Int.toNat 1) (IntKind.bits .u64)))))).address⟩ : Place) target).bind fun (x7 : Int) => (if x7 < 0 then BinarySearchFuncP.l1 x_ target kk4 (w64 ((w64 (Int.fdiv (IntKind.u64.wrap (w64 (i2 + j3))) (2 ^ (min (Int.toNat 1) (IntKind.bits .u64))))) + 1)) j3 else BinarySearchFuncP.l1 x_ target kk4 i2 (w64 (Int.fdiv (IntKind.u64.wrap (w64 (i2 + j3))) (2 ^ (min (Int.toNat 1) (IntKind.bits .u64))))))) else none) else some i2)
theorem BinarySearchFuncP.l1_s (x_ : (List Place)) (target : Int) (kk4 : Nat) (i2 : Int) (j3 : Int) : BinarySearchFuncP.l1 x_ target (kk4 + 1) i2 j3 = (if i2 < j3 then (if (0 : Int) ≤ (w64 (Int.fdiv (IntKind.u64.wrap (w64 (i2 + j3))) (2 ^ (min (Int.toNat 1) (IntKind.bits .u64))))) ∧ (w64 (Int.fdiv (IntKind.u64.wrap (w64 (i2 + j3))) (2 ^ (min (Int.toNat 1) (IntKind.bits .u64))))) < (x_.length : Int) then ((quarantine_place1 (⟨(gd x_ (w64 (Int.fdiv (IntKind.u64.wrap (w64 (i2 + j3))) (2 ^ (min (Int.toNat 1) (IntKind.bits .u64)))))).page, (gd x_ (w64 (Int.fdiv (IntKind.u64.wrap (w64 (i2 + j3))) (2 ^ (min (Int.toNat 1) (IntKind.bits .u64)))))).address⟩ : Place) target).bind fun (x7 : Int) => (if x7 < 0 then BinarySearchFuncP.l1 x_ target kk4 (w64 ((w64 (Int.fdiv (IntKind.u64.wrap (w64 (i2 + j3))) (2 ^ (min (Int.toNat 1) (IntKind.bits .u64))))) + 1)) j3 else BinarySearchFuncP.l1 x_ target kk4 i2 (w64 (Int.fdiv (IntKind.u64.wrap (w64 (i2 + j3))) (2 ^ (min (Int.toNat 1) (IntKind.bits .u64))))))) else none) else some i2) := rfl
def BinarySearchFuncP (x_ : (List Place)) (target : Int) : Option (Int × Bool) := ((BinarySearchFuncP.l1 x_ target FU 0 (x_.length : Int)).bind fun (s11 : Int) => (if s11 < (x_.length : Int) then (if (0 : Int) ≤ s11 ∧ s11 < (x_.length : Int) then ((quarantine_place1 (gd x_ s11) target).bind fun (x14 : Int) => some (s11, (decide (x14 = 0)))) else none) else some (s11, false)))
theorem BinarySearchFuncP.eq (x_ : (List Place)) (target : Int) : BinarySearchFuncP x_ target = ((BinarySearchFuncP.l1 x_ target FU 0 (x_.length : Int)).bind fun (s11 : Int) => (if s11 < (x_.length : Int) then (if (0 : Int) ≤ s11 ∧ s11 < (x_.length : Int) then ((quarantine_place1 (gd x_ s11) target).bind fun (x14 : Int) => some (s11, (decide (x14 = 0)))) else none) else some (s11, false))) := rfl
theorem BinarySearchFuncP_ok {h : Heap} {x_ : (List Place)} {target : Int}  {r : (Int × Bool)} (hm : BinarySearchFuncP x_ target = some r) : FnOK Try.prog 159 [.o (.c (.L 2 (x_.map Place.cs))), VI (target), .o (.c (.fn 160 []))] h (fun v h' => v = .tup [.c (I (r.1)), .c (Bo (r.2))] ∧ h' = h) := by
  refine FnOK.fin ?_
  refine FnOK.bodyC (N := 49) Try.func159 rfl rfl rfl (fun hC => ?_)
  replace hm := Ev.of hm
  rw [BinarySearchFuncP.eq] at hm
  show CdOK _ _ _ (look _ [(0, .o (.c (.L 2 (x_.map Place.cs)))), (1, VI (target)), (2, .o (.c (.fn 160 [])))]) (h ++ ([] : Heap)) _
  refine CdOK.seq ?_
  refine CdOK.region ?_
  refine RgOK.s (v := VI (0)) rfl rfl rfl (e_as rfl) ?_
  refine RgOK.s (v := VB (false)) rfl rfl rfl (e_as rfl) ?_
  refine RgOK.nil ?_
  show CdOK _ _ _ _ _ _
  refine CdOK.seq ?_
  refine CdOK.region ?_
  refine RgOK.s (v := .o (.c (.L 2 (x_.map Place.cs)))) rfl rfl rfl (e_mv (ev_t rfl)) ?_
  refine RgOK.s (v := VI ((x_.length : Int))) rfl rfl rfl (e_lenM (ev_t rfl) is26) ?_
  refine RgOK.s (v := VI ((x_.length : Int))) rfl rfl rfl (e_as (ev_t rfl)) ?_
  refine RgOK.nil ?_
  show CdOK _ _ _ _ _ _
  refine CdOK.seq ?_
  refine CdOK.region ?_
  refine RgOK.s (v := VI ((x_.length : Int))) rfl rfl rfl (e_mv (ev_t rfl)) ?_
  refine RgOK.s (v := VI (0)) rfl rfl rfl (e_as rfl) ?_
  refine RgOK.s (v := VI ((x_.length : Int))) rfl rfl rfl (e_as (ev_t rfl)) ?_
  refine RgOK.nil ?_
  show CdOK _ _ _ _ _ _
  replace hm := hm.bnd
  refine CdOK.joinE (σ := Int) (fun s => s) hm (fun s => [(0, .o (.c (.L 2 (x_.map Place.cs)))), (1, VI (target)), (2, .o (.c (.fn 160 []))), (8, VI ((x_.length : Int))), (9, VI (s))]) (fun s => h ++ ([] : Heap)) ?_ ?_
  · intro hm
    refine CdOK.block ?_
    refine CdOK.loopE (σ := (Int × Int)) (fun k s => Ev (BinarySearchFuncP.l1 x_ target k s.1 s.2) _) (fun s => [(0, .o (.c (.L 2 (x_.map Place.cs)))), (1, VI (target)), (2, .o (.c (.fn 160 []))), (8, VI ((x_.length : Int))), (9, VI (s.1)), (10, VI (s.2))]) (fun s => h ++ ([] : Heap)) FU (0, (x_.length : Int)) hm (.cons rfl (.cons rfl (.cons rfl (.cons rfl (.cons rfl (.cons rfl .nil)))))) rfl ?_
    rintro kk4 ⟨i2, j3⟩ T0 hm
    replace hm : Ev (BinarySearchFuncP.l1 x_ target kk4 i2 j3) _ := hm
    cases kk4 with
    | zero => exact (Ev.non hm).elim
    | succ kk4 =>
    rw [BinarySearchFuncP.l1_s] at hm
    show CdOK _ _ _ (look T0 [(0, .o (.c (.L 2 (x_.map Place.cs)))), (1, VI (target)), (2, .o (.c (.fn 160 []))), (8, VI ((x_.length : Int))), (9, VI (i2)), (10, VI (j3))]) (h ++ ([] : Heap)) _
    refine CdOK.seq ?_
    refine CdOK.seq ?_
    refine CdOK.region ?_
    refine RgOK.s (v := VI (i2)) rfl rfl rfl (e_mv (ev_t rfl)) ?_
    refine RgOK.s (v := VI (j3)) rfl rfl rfl (e_mv (ev_t rfl)) ?_
    refine RgOK.s (v := VB (decide (i2 < j3))) rfl rfl rfl (e_bin (ev_t rfl) (ev_t rfl) rfl rfl) ?_
    refine RgOK.nil ?_
    show CdOK _ _ _ _ _ _
    refine CdOK.condD (ev_t rfl) ?_ ?_
    · intro c5; replace hm := hm.ifp c5
      refine CdOK.skip ?_
      show CdOK _ _ _ _ _ _
      refine CdOK.block ?_
      refine CdOK.seq ?_
      refine CdOK.region ?_
      refine RgOK.s (v := VI (i2)) rfl rfl rfl (e_mv (ev_t rfl)) ?_
      refine RgOK.s (v := VI (j3)) rfl rfl rfl (e_mv (ev_t rfl)) ?_
      refine RgOK.s (v := VI ((w64 (i2 + j3)))) rfl rfl rfl (e_bin (ev_t rfl) (ev_t rfl) rfl rfl) ?_
      refine RgOK.s (v := .o (.c (.v (.int .u64 ((IntKind.u64.wrap (w64 (i2 + j3)))))))) rfl rfl rfl (e_cvw cv3_175 (ev_t rfl)) ?_
      refine RgOK.s (v := .o (.c (.v (.int .u64 ((Int.fdiv (IntKind.u64.wrap (w64 (i2 + j3))) (2 ^ (min (Int.toNat 1) (IntKind.bits .u64))))))))) rfl rfl rfl (e_bin (ev_t rfl) rfl rfl rfl) ?_
      refine RgOK.s (v := VI ((w64 (Int.fdiv (IntKind.u64.wrap (w64 (i2 + j3))) (2 ^ (min (Int.toNat 1) (IntKind.bits .u64))))))) rfl rfl rfl (e_cvw cv175_3 (ev_t rfl)) ?_
      refine RgOK.s (v := VI ((w64 (Int.fdiv (IntKind.u64.wrap (w64 (i2 + j3))) (2 ^ (min (Int.toNat 1) (IntKind.bits .u64))))))) rfl rfl rfl (e_as (ev_t rfl)) ?_
      refine RgOK.nil ?_
      show CdOK _ _ _ _ _ _
      refine CdOK.seq ?_
      refine CdOK.region ?_
      refine RgOK.s (v := .o (.c (.fn 160 []))) rfl rfl rfl (e_mv (ev_t rfl)) ?_
      refine RgOK.s (v := .o (.c (.L 2 (x_.map Place.cs)))) rfl rfl rfl (e_mv (ev_t rfl)) ?_
      refine RgOK.s (v := VI ((w64 (Int.fdiv (IntKind.u64.wrap (w64 (i2 + j3))) (2 ^ (min (Int.toNat 1) (IntKind.bits .u64))))))) rfl rfl rfl (e_mv (ev_t rfl)) ?_
      obtain ⟨c6, hm⟩ := hm.ifs
      refine RgOK.s (v := .o (.c (.rp [I ((gd x_ (w64 (Int.fdiv (IntKind.u64.wrap (w64 (i2 + j3))) (2 ^ (min (Int.toNat 1) (IntKind.bits .u64)))))).page), I ((gd x_ (w64 (Int.fdiv (IntKind.u64.wrap (w64 (i2 + j3))) (2 ^ (min (Int.toNat 1) (IntKind.bits .u64)))))).address)]))) rfl rfl rfl (e_ixM (f := Place.cs) (l := x_) (i := (w64 (Int.fdiv (IntKind.u64.wrap (w64 (i2 + j3))) (2 ^ (min (Int.toNat 1) (IntKind.bits .u64)))))) (ev_t rfl) (ev_t rfl) el26 c6) ?_
      refine RgOK.s (v := .o (.agg [I ((gd x_ (w64 (Int.fdiv (IntKind.u64.wrap (w64 (i2 + j3))) (2 ^ (min (Int.toNat 1) (IntKind.bits .u64)))))).page), I ((gd x_ (w64 (Int.fdiv (IntKind.u64.wrap (w64 (i2 + j3))) (2 ^ (min (Int.toNat 1) (IntKind.bits .u64)))))).address)])) rfl rfl rfl (e_ldRA (ev_t rfl) ty117 rfl rfl) ?_
      refine RgOK.s (v := VI (target)) rfl rfl rfl (e_mv (ev_t rfl)) ?_
      obtain ⟨x7, e7, hm⟩ := hm.call
      refine RgOK.cl rfl rfl rfl rfl pl160 (R2.wk _) (quarantine_place1_ok   e7) ?_
      rintro _ _ ⟨rfl, rfl⟩
      refine RgOK.s (v := VB (decide (x7 < 0))) rfl rfl rfl (e_bin (ev_t rfl) rfl rfl rfl) ?_
      refine RgOK.nil ?_
      show CdOK _ _ _ _ _ _
      refine CdOK.condD (ev_t rfl) ?_ ?_
      · intro c8; replace hm := hm.ifp c8
        refine CdOK.region ?_
        refine RgOK.s (v := VI ((w64 (Int.fdiv (IntKind.u64.wrap (w64 (i2 + j3))) (2 ^ (min (Int.toNat 1) (IntKind.bits .u64))))))) rfl rfl rfl (e_mv (ev_t rfl)) ?_
        refine RgOK.s (v := VI ((w64 ((w64 (Int.fdiv (IntKind.u64.wrap (w64 (i2 + j3))) (2 ^ (min (Int.toNat 1) (IntKind.bits .u64))))) + 1)))) rfl rfl rfl (e_bin (ev_t rfl) rfl rfl rfl) ?_
        refine RgOK.s (v := VI ((w64 ((w64 (Int.fdiv (IntKind.u64.wrap (w64 (i2 + j3))) (2 ^ (min (Int.toNat 1) (IntKind.bits .u64))))) + 1)))) rfl rfl rfl (e_as (ev_t rfl)) ?_
        refine RgOK.nil ?_
        refine Told.id ?_
        exact ⟨_, ((w64 ((w64 (Int.fdiv (IntKind.u64.wrap (w64 (i2 + j3))) (2 ^ (min (Int.toNat 1) (IntKind.bits .u64))))) + 1)), j3), Nat.lt_succ_self _, hm, (.cons rfl (.cons rfl (.cons rfl (.cons rfl (.cons rfl (.cons rfl .nil)))))), rfl⟩
      · intro c9; replace hm := hm.ifn c9
        refine CdOK.region ?_
        refine RgOK.s (v := VI ((w64 (Int.fdiv (IntKind.u64.wrap (w64 (i2 + j3))) (2 ^ (min (Int.toNat 1) (IntKind.bits .u64))))))) rfl rfl rfl (e_mv (ev_t rfl)) ?_
        refine RgOK.s (v := VI ((w64 (Int.fdiv (IntKind.u64.wrap (w64 (i2 + j3))) (2 ^ (min (Int.toNat 1) (IntKind.bits .u64))))))) rfl rfl rfl (e_as (ev_t rfl)) ?_
        refine RgOK.nil ?_
        refine Told.id ?_
        exact ⟨_, (i2, (w64 (Int.fdiv (IntKind.u64.wrap (w64 (i2 + j3))) (2 ^ (min (Int.toNat 1) (IntKind.bits .u64)))))), Nat.lt_succ_self _, hm, (.cons rfl (.cons rfl (.cons rfl (.cons rfl (.cons rfl (.cons rfl .nil)))))), rfl⟩
    · intro c10; replace hm := hm.ifn c10
      refine CdOK.exit ?_
      refine Told.id ?_
      exact ⟨i2, hm.ret, (.cons rfl (.cons rfl (.cons rfl (.cons rfl (.cons rfl .nil))))), rfl⟩
  · rintro i1 T0 hm
    show CdOK _ _ _ (look T0 [(0, .o (.c (.L 2 (x_.map Place.cs)))), (1, VI (target)), (2, .o (.c (.fn 160 []))), (8, VI ((x_.length : Int))), (9, VI (i1))]) (h ++ ([] : Heap)) _
    refine CdOK.seq ?_
    refine CdOK.region ?_
    refine RgOK.s (v := VI (i1)) rfl rfl rfl (e_mv (ev_t rfl)) ?_
    refine RgOK.s (v := VI (i1)) rfl rfl rfl (e_mv (ev_t rfl)) ?_
    refine RgOK.s (v := VI ((x_.length : Int))) rfl rfl rfl (e_mv (ev_t rfl)) ?_
    refine RgOK.sd rfl rfl rfl (e_bin (ev_t rfl) (ev_t rfl) rfl rfl) ?_ ?_
    · intro c12; replace hm := hm.ifp c12
      refine RgOK.s (v := VB (true)) rfl rfl rfl (e_mv (ev_t rfl)) ?_
      refine RgOK.s (v := .o (.c (.fn 160 []))) rfl rfl rfl (e_mv (ev_t rfl)) ?_
      refine RgOK.s (v := .o (.c (.L 2 (x_.map Place.cs)))) rfl rfl rfl (e_mv (ev_t rfl)) ?_
      refine RgOK.s (v := VI (i1)) rfl rfl rfl (e_mv (ev_t rfl)) ?_
      obtain ⟨c13, hm⟩ := hm.ifs
      refine RgOK.s (v := .o (.c (.rp [I ((gd x_ i1).page), I ((gd x_ i1).address)]))) rfl rfl rfl (e_ixM (f := Place.cs) (l := x_) (i := i1) (ev_t rfl) (ev_t rfl) el26 c13) ?_
      refine RgOK.s (v := .o (.agg [I ((gd x_ i1).page), I ((gd x_ i1).address)])) rfl rfl rfl (e_ldRA (ev_t rfl) ty117 rfl rfl) ?_
      refine RgOK.s (v := VI (target)) rfl rfl rfl (e_mv (ev_t rfl)) ?_
      obtain ⟨x14, e14, hm⟩ := hm.call
      refine RgOK.cl rfl rfl rfl rfl pl160 (R2.wk _) (quarantine_place1_ok   e14) ?_
      rintro _ _ ⟨rfl, rfl⟩
      refine RgOK.s (v := VB (decide (x14 = 0))) rfl rfl rfl (e_eqK (ev_t rfl) rfl) ?_
      refine RgOK.s (v := VB (decide (x14 = 0))) rfl rfl rfl (e_pick (t := true) (ev_t rfl) (ev_t rfl)) ?_
      refine RgOK.s (v := VI (i1)) rfl rfl rfl (e_as (ev_t rfl)) ?_
      refine RgOK.s (v := VB (decide (x14 = 0))) rfl rfl rfl (e_as (ev_t rfl)) ?_
      refine RgOK.nil ?_
      show CdOK _ _ _ _ _ _
      refine CdOK.ret ?_
      refine ⟨.inr rfl, _, rfl, h, [], _, rfl, rfl, hC, ((renFlV rfl) : RenV _ _ _ _ (.tup [.c (I (i1)), .c (Bo (decide (x14 = 0)))])), ?_⟩
      have hr := hm.ret
      subst hr
      exact ⟨rfl, rfl⟩
    · intro c15; replace hm := hm.ifn c15
      refine RgOK.s (v := VB (false)) rfl rfl rfl (e_mv (ev_t rfl)) ?_
      refine RgOK.sk rfl rfl rfl ?_
      refine RgOK.sk rfl rfl rfl ?_
      refine RgOK.sk rfl rfl rfl ?_
      refine RgOK.sk rfl rfl rfl ?_
      refine RgOK.sk rfl rfl rfl ?_
      refine RgOK.sk rfl rfl rfl ?_
      refine RgOK.sk rfl rfl rfl ?_
      refine RgOK.sk rfl rfl rfl ?_
      refine RgOK.s (v := VB (false)) rfl rfl rfl (e_pick (t := false) (ev_t rfl) rfl) ?_
      refine RgOK.s (v := VI (i1)) rfl rfl rfl (e_as (ev_t rfl)) ?_
      refine RgOK.s (v := VB (false)) rfl rfl rfl (e_as (ev_t rfl)) ?_
      refine RgOK.nil ?_
      show CdOK _ _ _ _ _ _
      refine CdOK.ret ?_
      refine ⟨.inr rfl, _, rfl, h, [], _, rfl, rfl, hC, ((renFlV rfl) : RenV _ _ _ _ (.tup [.c (I (i1)), .c (Bo false)])), ?_⟩
      have hr := hm.ret
      subst hr
      exact ⟨rfl, rfl⟩
/- pagemend/quarantine.place -/
def quarantine_place (r_ : Remap) (page : Int) : Option (Int × Bool) := ((BinarySearchFuncP r_.places page).bind fun (x1 : (Int × Bool)) => some (x1.1, x1.2))
theorem quarantine_place.eq (r_ : Remap) (page : Int) : quarantine_place r_ page = ((BinarySearchFuncP r_.places page).bind fun (x1 : (Int × Bool)) => some (x1.1, x1.2)) := rfl
theorem quarantine_place_ok {h : Heap} {r_ : Remap} {page : Int}  {r : (Int × Bool)} (hm : quarantine_place r_ page = some r) : FnOK Try.prog 88 [.o (.agg [I (r_.pages), I (r_.spares), .L 2 (r_.places.map Place.cs), .L 1 (r_.bad.map cI)]), VI (page)] h (fun v h' => v = .tup [.c (I (r.1)), .c (Bo (r.2))] ∧ h' = h) := by
  refine FnOK.fin ?_
  refine FnOK.bodyC (N := 12) Try.func88 rfl rfl rfl (fun hC => ?_)
  replace hm := Ev.of hm
  rw [quarantine_place.eq] at hm
  show CdOK _ _ _ (look _ [(0, .o (.agg [I (r_.pages), I (r_.spares), .L 2 (r_.places.map Place.cs), .L 1 (r_.bad.map cI)])), (1, VI (page))]) (h ++ ([] : Heap)) _
  refine CdOK.seq ?_
  refine CdOK.region ?_
  refine RgOK.s (v := .o (.c (.ptr (h.length + 0) 0))) rfl rfl rfl (e_boxN (L' := [⟨[I (r_.pages), I (r_.spares), .L 2 (r_.places.map Place.cs), .L 1 (r_.bad.map cI)], true, true⟩]) rfl (ev_t rfl) rfl rfl) ?_
  refine RgOK.s (v := VI (0)) rfl rfl rfl (e_as rfl) ?_
  refine RgOK.s (v := VB (false)) rfl rfl rfl (e_as rfl) ?_
  refine RgOK.nil ?_
  show CdOK _ _ _ _ _ _
  refine CdOK.seq ?_
  refine CdOK.region ?_
  refine RgOK.s (v := .o (.c (.ptr (h.length + 0) 2))) rfl rfl rfl (e_fa' fa29_2 (ev_t rfl)) ?_
  refine RgOK.s (v := .o (.c (.L 2 (r_.places.map Place.cs)))) rfl rfl rfl (e_ldb1 (ev_t rfl) ty26 (bx rfl rfl) rfl) ?_
  refine RgOK.s (v := VI (page)) rfl rfl rfl (e_mv (ev_t rfl)) ?_
  obtain ⟨x1, e1, hm⟩ := hm.call
  refine RgOK.cl rfl rfl rfl rfl pl159 (R2.wk _) (BinarySearchFuncP_ok   e1) ?_
  rintro _ _ ⟨rfl, rfl⟩
  refine RgOK.s (v := VI (x1.1)) rfl rfl rfl (e_ext (ev_t rfl) rfl) ?_
  refine RgOK.s (v := VB (x1.2)) rfl rfl rfl (e_ext (ev_t rfl) rfl) ?_
  refine RgOK.s (v := VI (x1.1)) rfl rfl rfl (e_as (ev_t rfl)) ?_
  refine RgOK.s (v := VB (x1.2)) rfl rfl rfl (e_as (ev_t rfl)) ?_
  refine RgOK.nil ?_
  show CdOK _ _ _ _ _ _
  refine CdOK.ret ?_
  refine ⟨.inr rfl, _, rfl, h, [⟨[I (r_.pages), I (r_.spares), .L 2 (r_.places.map Place.cs), .L 1 (r_.bad.map cI)], true, true⟩], _, rfl, rfl, hC, ((renFlV rfl) : RenV _ _ _ _ (.tup [.c (I (x1.1)), .c (Bo (x1.2))])), ?_⟩
  have hr := hm.ret
  subst hr
  exact ⟨rfl, rfl⟩
/- pagemend/quarantine.Where -/
def quarantine_Where (r_ : Remap) (page : Int) : Option (Int × Int) := ((quarantine_Valid r_).bind fun (x1 : Bool) => (if (!x1) = true then some (0, 48) else (if page < 0 then some (0, 1) else (if r_.pages ≤ page then some (0, 1) else ((quarantine_place r_ page).bind fun (x8 : (Int × Bool)) => (if x8.2 = true then (if (0 : Int) ≤ x8.1 ∧ x8.1 < (r_.places.length : Int) then some ((gd r_.places x8.1).address, 0) else none) else some (page, 0)))))))
theorem quarantine_Where.eq (r_ : Remap) (page : Int) : quarantine_Where r_ page = ((quarantine_Valid r_).bind fun (x1 : Bool) => (if (!x1) = true then some (0, 48) else (if page < 0 then some (0, 1) else (if r_.pages ≤ page then some (0, 1) else ((quarantine_place r_ page).bind fun (x8 : (Int × Bool)) => (if x8.2 = true then (if (0 : Int) ≤ x8.1 ∧ x8.1 < (r_.places.length : Int) then some ((gd r_.places x8.1).address, 0) else none) else some (page, 0))))))) := rfl
theorem quarantine_Where_ok {h : Heap} {r_ : Remap} {page : Int}  {r : (Int × Int)} (hm : quarantine_Where r_ page = some r) : FnOK Try.prog 26 [.o (.agg [I (r_.pages), I (r_.spares), .L 2 (r_.places.map Place.cs), .L 1 (r_.bad.map cI)]), VI (page)] h (fun v h' => v = .tup [.c (I (r.1)), .c (I (r.2))] ∧ h' = h) := by
  refine FnOK.fin ?_
  refine FnOK.bodyC (N := 35) Try.func26 rfl rfl rfl (fun hC => ?_)
  replace hm := Ev.of hm
  rw [quarantine_Where.eq] at hm
  show CdOK _ _ _ (look _ [(0, .o (.agg [I (r_.pages), I (r_.spares), .L 2 (r_.places.map Place.cs), .L 1 (r_.bad.map cI)])), (1, VI (page))]) (h ++ ([] : Heap)) _
  refine CdOK.seq ?_
  refine CdOK.region ?_
  refine RgOK.s (v := .o (.c (.ptr (h.length + 0) 0))) rfl rfl rfl (e_boxN (L' := [⟨[I (r_.pages), I (r_.spares), .L 2 (r_.places.map Place.cs), .L 1 (r_.bad.map cI)], true, true⟩]) rfl (ev_t rfl) rfl rfl) ?_
  refine RgOK.s (v := VI (0)) rfl rfl rfl (e_as rfl) ?_
  refine RgOK.s (v := VI (0)) rfl rfl rfl (e_as rfl) ?_
  refine RgOK.nil ?_
  show CdOK _ _ _ _ _ _
  refine CdOK.seq ?_
  refine CdOK.block ?_
  refine CdOK.seq ?_
  refine CdOK.region ?_
  refine RgOK.s (v := .o (.agg [I (r_.pages), I (r_.spares), .L 2 (r_.places.map Place.cs), .L 1 (r_.bad.map cI)])) rfl rfl rfl (e_ldbA (ev_t rfl) ty29 (bx rfl rfl) rfl rfl) ?_
  obtain ⟨x1, e1, hm⟩ := hm.call
  refine RgOK.cl rfl rfl rfl rfl pl22 (R2.wk _) (quarantine_Valid_ok   e1) ?_
  rintro _ _ ⟨rfl, rfl⟩
  refine RgOK.s (v := VB ((!x1))) rfl rfl rfl (e_un (ev_t rfl) rfl) ?_
  refine RgOK.s (v := VB ((!x1))) rfl rfl rfl (e_as (ev_t rfl)) ?_
  refine RgOK.nil ?_
  show CdOK _ _ _ _ _ _
  refine CdOK.condB (ev_t rfl) ?_ ?_
  · intro c2; replace hm := hm.ifp c2
    refine CdOK.seq ?_
    refine CdOK.region ?_
    refine RgOK.s (v := VI (0)) rfl rfl rfl (e_as rfl) ?_
    refine RgOK.s (v := VI (48)) rfl rfl rfl (e_as rfl) ?_
    refine RgOK.nil ?_
    show CdOK _ _ _ _ _ _
    refine CdOK.ret ?_
    refine ⟨.inr rfl, _, rfl, h, [⟨[I (r_.pages), I (r_.spares), .L 2 (r_.places.map Place.cs), .L 1 (r_.bad.map cI)], true, true⟩], _, rfl, rfl, hC, ((renFlV rfl) : RenV _ _ _ _ (.tup [.c (I (0)), .c (I (48))])), ?_⟩
    have hr := hm.ret
    subst hr
    exact ⟨rfl, rfl⟩
  · intro c3; replace hm := hm.ifn c3
    refine CdOK.seq ?_
    refine CdOK.region ?_
    refine RgOK.s (v := VI (page)) rfl rfl rfl (e_mv (ev_t rfl)) ?_
    refine RgOK.sd rfl rfl rfl (e_bin (ev_t rfl) rfl rfl rfl) ?_ ?_
    · intro c4; replace hm := hm.ifp c4
      refine RgOK.s (v := VB (true)) rfl rfl rfl (e_mv (ev_t rfl)) ?_
      refine RgOK.sk rfl rfl rfl ?_
      refine RgOK.sk rfl rfl rfl ?_
      refine RgOK.sk rfl rfl rfl ?_
      refine RgOK.sk rfl rfl rfl ?_
      refine RgOK.s (v := VB (true)) rfl rfl rfl (e_pick (t := true) (ev_t rfl) rfl) ?_
      refine RgOK.s (v := VB (true)) rfl rfl rfl (e_as (ev_t rfl)) ?_
      refine RgOK.nil ?_
      show CdOK _ _ _ _ _ _
      refine CdOK.cond_true rfl ?_
      refine CdOK.seq ?_
      refine CdOK.region ?_
      refine RgOK.s (v := VI (0)) rfl rfl rfl (e_as rfl) ?_
      refine RgOK.s (v := VI (1)) rfl rfl rfl (e_as rfl) ?_
      refine RgOK.nil ?_
      show CdOK _ _ _ _ _ _
      refine CdOK.ret ?_
      refine ⟨.inr rfl, _, rfl, h, [⟨[I (r_.pages), I (r_.spares), .L 2 (r_.places.map Place.cs), .L 1 (r_.bad.map cI)], true, true⟩], _, rfl, rfl, hC, ((renFlV rfl) : RenV _ _ _ _ (.tup [.c (I (0)), .c (I (1))])), ?_⟩
      have hr := hm.ret
      subst hr
      exact ⟨rfl, rfl⟩
    · intro c5; replace hm := hm.ifn c5
      refine RgOK.s (v := VB (false)) rfl rfl rfl (e_mv (ev_t rfl)) ?_
      refine RgOK.s (v := VI (page)) rfl rfl rfl (e_mv (ev_t rfl)) ?_
      refine RgOK.s (v := .o (.c (.ptr (h.length + 0) 0))) rfl rfl rfl (e_fa' fa29_0 (ev_t rfl)) ?_
      refine RgOK.s (v := VI (r_.pages)) rfl rfl rfl (e_ldb1 (ev_t rfl) ty3 (bx rfl rfl) rfl) ?_
      refine RgOK.s (v := VB (decide (r_.pages ≤ page))) rfl rfl rfl (e_bin (ev_t rfl) (ev_t rfl) rfl rfl) ?_
      refine RgOK.s (v := VB (decide (r_.pages ≤ page))) rfl rfl rfl (e_pick (t := false) (ev_t rfl) (ev_t rfl)) ?_
      refine RgOK.s (v := VB (decide (r_.pages ≤ page))) rfl rfl rfl (e_as (ev_t rfl)) ?_
      refine RgOK.nil ?_
      show CdOK _ _ _ _ _ _
      refine CdOK.condD (ev_t rfl) ?_ ?_
      · intro c6; replace hm := hm.ifp c6
        refine CdOK.seq ?_
        refine CdOK.region ?_
        refine RgOK.s (v := VI (0)) rfl rfl rfl (e_as rfl) ?_
        refine RgOK.s (v := VI (1)) rfl rfl rfl (e_as rfl) ?_
        refine RgOK.nil ?_
        show CdOK _ _ _ _ _ _
        refine CdOK.ret ?_
        refine ⟨.inr rfl, _, rfl, h, [⟨[I (r_.pages), I (r_.spares), .L 2 (r_.places.map Place.cs), .L 1 (r_.bad.map cI)], true, true⟩], _, rfl, rfl, hC, ((renFlV rfl) : RenV _ _ _ _ (.tup [.c (I (0)), .c (I (1))])), ?_⟩
        have hr := hm.ret
        subst hr
        exact ⟨rfl, rfl⟩
      · intro c7; replace hm := hm.ifn c7
        refine CdOK.skip ?_
        show CdOK _ _ _ _ _ _
        refine CdOK.seq ?_
        refine CdOK.seq ?_
        refine CdOK.region ?_
        refine RgOK.s (v := .o (.agg [I (r_.pages), I (r_.spares), .L 2 (r_.places.map Place.cs), .L 1 (r_.bad.map cI)])) rfl rfl rfl (e_ldbA (ev_t rfl) ty29 (bx rfl rfl) rfl rfl) ?_
        refine RgOK.s (v := VI (page)) rfl rfl rfl (e_mv (ev_t rfl)) ?_
        obtain ⟨x8, e8, hm⟩ := hm.call
        refine RgOK.cl rfl rfl rfl rfl pl88 (R2.wk _) (quarantine_place_ok   e8) ?_
        rintro _ _ ⟨rfl, rfl⟩
        refine RgOK.s (v := .tup [.c (I (x8.1)), .c (Bo (x8.2))]) rfl rfl rfl (e_mv (ev_t rfl)) ?_
        refine RgOK.s (v := VI (x8.1)) rfl rfl rfl (e_ext (ev_t rfl) rfl) ?_
        refine RgOK.s (v := VB (x8.2)) rfl rfl rfl (e_ext (ev_t rfl) rfl) ?_
        refine RgOK.s (v := VI (x8.1)) rfl rfl rfl (e_as (ev_t rfl)) ?_
        refine RgOK.s (v := VB (x8.2)) rfl rfl rfl (e_as (ev_t rfl)) ?_
        refine RgOK.nil ?_
        show CdOK _ _ _ _ _ _
        refine CdOK.seq ?_
        refine CdOK.region ?_
        refine RgOK.s (v := VB (x8.2)) rfl rfl rfl (e_mv (ev_t rfl)) ?_
        refine RgOK.nil ?_
        show CdOK _ _ _ _ _ _
        refine CdOK.condB (ev_t rfl) ?_ ?_
        · intro c9; replace hm := hm.ifp c9
          refine CdOK.seq ?_
          refine CdOK.region ?_
          refine RgOK.s (v := .o (.c (.ptr (h.length + 0) 2))) rfl rfl rfl (e_fa' fa29_2 (ev_t rfl)) ?_
          refine RgOK.s (v := .o (.c (.L 2 (r_.places.map Place.cs)))) rfl rfl rfl (e_ldb1 (ev_t rfl) ty26 (bx rfl rfl) rfl) ?_
          refine RgOK.s (v := VI (x8.1)) rfl rfl rfl (e_mv (ev_t rfl)) ?_
          obtain ⟨c10, hm⟩ := hm.ifs
          refine RgOK.s (v := .o (.c (.rp [I ((gd r_.places x8.1).page), I ((gd r_.places x8.1).address)]))) rfl rfl rfl (e_ixM (f := Place.cs) (l := r_.places) (i := x8.1) (ev_t rfl) (ev_t rfl) el26 c10) ?_
          refine RgOK.s (v := .o (.c (.rp [I ((gd r_.places x8.1).address)]))) rfl rfl rfl (e_faR fa117_1 (ev_t rfl) rfl) ?_
          refine RgOK.s (v := VI ((gd r_.places x8.1).address)) rfl rfl rfl (e_ldR1 (ev_t rfl) ty3 rfl) ?_
          refine RgOK.s (v := VI ((gd r_.places x8.1).address)) rfl rfl rfl (e_as (ev_t rfl)) ?_
          refine RgOK.s (v := VI (0)) rfl rfl rfl (e_as rfl) ?_
          refine RgOK.nil ?_
          show CdOK _ _ _ _ _ _
          refine CdOK.ret ?_
          refine ⟨.inr rfl, _, rfl, h, [⟨[I (r_.pages), I (r_.spares), .L 2 (r_.places.map Place.cs), .L 1 (r_.bad.map cI)], true, true⟩], _, rfl, rfl, hC, ((renFlV rfl) : RenV _ _ _ _ (.tup [.c (I ((gd r_.places x8.1).address)), .c (I (0))])), ?_⟩
          have hr := hm.ret
          subst hr
          exact ⟨rfl, rfl⟩
        · intro c11; replace hm := hm.ifn c11
          refine CdOK.skip ?_
          show CdOK _ _ _ _ _ _
          refine CdOK.seq ?_
          refine CdOK.region ?_
          refine RgOK.s (v := VI (page)) rfl rfl rfl (e_mv (ev_t rfl)) ?_
          refine RgOK.s (v := VI (page)) rfl rfl rfl (e_as (ev_t rfl)) ?_
          refine RgOK.s (v := VI (0)) rfl rfl rfl (e_as rfl) ?_
          refine RgOK.nil ?_
          show CdOK _ _ _ _ _ _
          refine CdOK.ret ?_
          refine ⟨.inr rfl, _, rfl, h, [⟨[I (r_.pages), I (r_.spares), .L 2 (r_.places.map Place.cs), .L 1 (r_.bad.map cI)], true, true⟩], _, rfl, rfl, hC, ((renFlV rfl) : RenV _ _ _ _ (.tup [.c (I (page)), .c (I (0))])), ?_⟩
          have hr := hm.ret
          subst hr
          exact ⟨rfl, rfl⟩
/- pagemend/quarantine.Owner$1 -/
def quarantine_Owner1 (p_ : Place) (a1 : Int) : Option Bool := some (decide (p_.address = a1))
theorem quarantine_Owner1.eq (p_ : Place) (a1 : Int) : quarantine_Owner1 p_ a1 = some (decide (p_.address = a1)) := rfl
theorem quarantine_Owner1_ok {h : Heap} {p_ : Place} {a1 : Int} {b_a1 : Nat} (hb_a1 : h[b_a1]? = some ⟨[I (a1)], true, true⟩) {r : Bool} (hm : quarantine_Owner1 p_ a1 = some r) : FnOK Try.prog 90 [.o (.agg [I (p_.page), I (p_.address)]), .o (.c (.ptr b_a1 0))] h (fun v h' => v = VB (r) ∧ h' = h) := by
  refine FnOK.fin ?_
  refine FnOK.bodyC (N := 8) Try.func90 rfl rfl rfl (fun hC => ?_)
  have hl_a1 := lt_of_get hb_a1
  replace hm := Ev.of hm
  rw [quarantine_Owner1.eq] at hm
  show CdOK _ _ _ (look _ [(0, .o (.agg [I (p_.page), I (p_.address)])), (1, .o (.c (.ptr b_a1 0)))]) (h ++ ([] : Heap)) _
  refine CdOK.seq ?_
  refine CdOK.region ?_
  refine RgOK.s (v := .o (.c (.ptr (h.length + 0) 0))) rfl rfl rfl (e_boxN (L' := [⟨[I (p_.page), I (p_.address)], true, true⟩]) rfl (ev_t rfl) rfl rfl) ?_
  refine RgOK.s (v := VB (false)) rfl rfl rfl (e_as rfl) ?_
  refine RgOK.nil ?_
  show CdOK _ _ _ _ _ _
  refine CdOK.seq ?_
  refine CdOK.region ?_
  refine RgOK.s (v := .o (.c (.ptr (h.length + 0) 1))) rfl rfl rfl (e_fa' fa117_1 (ev_t rfl)) ?_
  refine RgOK.s (v := VI (p_.address)) rfl rfl rfl (e_ldb1 (ev_t rfl) ty3 (bx rfl rfl) rfl) ?_
  refine RgOK.s (v := VI (a1)) rfl rfl rfl (e_ldb1 (ev_t rfl) ty3 (pb hb_a1) rfl) ?_
  refine RgOK.s (v := VB (decide (p_.address = a1))) rfl rfl rfl (e_eqK (ev_t rfl) (ev_t rfl)) ?_
  refine RgOK.s (v := VB (decide (p_.address = a1))) rfl rfl rfl (e_as (ev_t rfl)) ?_
  refine RgOK.nil ?_
  show CdOK _ _ _ _ _ _
  refine CdOK.ret ?_
  refine ⟨.inr rfl, _, rfl, h, [⟨[I (p_.page), I (p_.address)], true, true⟩], _, rfl, rfl, hC, ((renFlV rfl) : RenV _ _ _ _ (VB (decide (p_.address = a1)))), ?_⟩
  have hr := hm.ret
  subst hr
  exact ⟨rfl, rfl⟩
/- slices.IndexFunc[[]pagemend/api.Place,pagemend/api.Place] -/
def IndexFuncP.l1 (s_ : (List Place)) (f_0 : Int) : Nat → Int → Option (Sum Unit Int)
  | 0, _ => none
  | kk2 + 1, t81 => (if t81 < (s_.length : Int) then (if (0 : Int) ≤ t81 ∧ t81 < (s_.length : Int) then ((quarantine_Owner1 (gd s_ t81) f_0).bind fun (x5 : Bool) => (if x5 = true then some (Sum.inr t81) else IndexFuncP.l1 s_ f_0 kk2 (w64 (t81 + 1)))) else none) else some (Sum.inl ()))
theorem IndexFuncP.l1_s (s_ : (List Place)) (f_0 : Int) (kk2 : Nat) (t81 : Int) : IndexFuncP.l1 s_ f_0 (kk2 + 1) t81 = (if t81 < (s_.length : Int) then (if (0 : Int) ≤ t81 ∧ t81 < (s_.length : Int) then ((quarantine_Owner1 (gd s_ t81) f_0).bind fun (x5 : Bool) => (if x5 = true then some (Sum.inr t81) else IndexFuncP.l1 s_ f_0 kk2 (w64 (t81 + 1)))) else none) else some (Sum.inl ())) := rfl
def IndexFuncP (s_ : (List Place)) (f_0 : Int) : Option Int := ((IndexFuncP.l1 s_ f_0 FU 0).bind fun (z : Sum Unit Int) => match z with | .inl (s9 : Unit) => some (-1) | .inr r => some r)
theorem IndexFuncP.eq (s_ : (List Place)) (f_0 : Int) : IndexFuncP s_ f_0 = ((IndexFuncP.l1 s_ f_0 FU 0).bind fun (z : Sum Unit Int) => match z with | .inl (s9 : Unit) => some (-1) | .inr r => some r) := rfl
theorem IndexFuncP_ok {h : Heap} {s_ : (List Place)} {f_0 : Int} {b_f_0 : Nat} (hb_f_0 : h[b_f_0]? = some ⟨[I (f_0)], true, true⟩) {r : Int} (hm : IndexFuncP s_ f_0 = some r) : FnOK Try.prog 89 [.o (.c (.L 2 (s_.map Place.cs))), .o (.c (.fn 90 [(b_f_0, 0)]))] h (fun v h' => v = VI (r) ∧ h' = h) := by
  refine FnOK.fin ?_
  refine FnOK.bodyC (N := 19) Try.func89 rfl rfl rfl (fun hC => ?_)
  have hl_f_0 := lt_of_get hb_f_0
  replace hm := Ev.of hm
  rw [IndexFuncP.eq] at hm
  show CdOK _ _ _ (look _ [(0, .o (.c (.L 2 (s_.map Place.cs)))), (1, .o (.c (.fn 90 [(b_f_0, 0)])))]) (h ++ ([] : Heap)) _
  refine CdOK.seq ?_
  refine CdOK.region ?_
  refine RgOK.s (v := VI (0)) rfl rfl rfl (e_as rfl) ?_
  refine RgOK.nil ?_
  show CdOK _ _ _ _ _ _
  refine CdOK.seq ?_
  refine CdOK.seq ?_
  refine CdOK.region ?_
  refine RgOK.s (v := .o (.c (.L 2 (s_.map Place.cs)))) rfl rfl rfl (e_mv (ev_t rfl)) ?_
  refine RgOK.s (v := VI ((s_.length : Int))) rfl rfl rfl (e_lenM (ev_t rfl) is26) ?_
  refine RgOK.s (v := VI (0)) rfl rfl rfl (e_mv rfl) ?_
  refine RgOK.nil ?_
  show CdOK _ _ _ _ _ _
  replace hm := hm.bnd
  refine CdOK.joinT (σ := Unit) (fun s => Sum.inl ()) hm (fun s => []) (fun s => h ++ ([] : Heap)) ?_ ?_
  · intro hm
    refine CdOK.block ?_
    refine CdOK.loopE (σ := Int) (fun k s => Ev (IndexFuncP.l1 s_ f_0 k s) _) (fun s => [(0, .o (.c (.L 2 (s_.map Place.cs)))), (1, .o (.c (.fn 90 [(b_f_0, 0)]))), (7, VI ((s_.length : Int))), (8, VI (s))]) (fun s => h ++ ([] : Heap)) FU 0 hm (.cons rfl (.cons rfl (.cons rfl (.cons rfl .nil)))) rfl ?_
    rintro kk2 t81 T0 hm
    replace hm : Ev (IndexFuncP.l1 s_ f_0 kk2 t81) _ := hm
    cases kk2 with
    | zero => exact (Ev.non hm).elim
    | succ kk2 =>
    rw [IndexFuncP.l1_s] at hm
    show CdOK _ _ _ (look T0 [(0, .o (.c (.L 2 (s_.map Place.cs)))), (1, .o (.c (.fn 90 [(b_f_0, 0)]))), (7, VI ((s_.length : Int))), (8, VI (t81))]) (h ++ ([] : Heap)) _
    refine CdOK.seq ?_
    refine CdOK.region ?_
    refine RgOK.s (v := VB (decide (t81 < (s_.length : Int)))) rfl rfl rfl (e_bin (ev_t rfl) (ev_t rfl) rfl rfl) ?_
    refine RgOK.nil ?_
    show CdOK _ _ _ _ _ _
    refine CdOK.seq ?_
    refine CdOK.condD (ev_t rfl) ?_ ?_
    · intro c3; replace hm := hm.ifp c3
      refine CdOK.skip ?_
      show CdOK _ _ _ _ _ _
      refine CdOK.seq ?_
      refine CdOK.block ?_
      refine CdOK.seq ?_
      refine CdOK.region ?_
      refine RgOK.s (v := VI (t81)) rfl rfl rfl (e_mv (ev_t rfl)) ?_
      refine RgOK.s (v := VI (t81)) rfl rfl rfl (e_as (ev_t rfl)) ?_
      refine RgOK.nil ?_
      show CdOK _ _ _ _ _ _
      refine CdOK.seq ?_
      refine CdOK.region ?_
      refine RgOK.s (v := .o (.c (.fn 90 [(b_f_0, 0)]))) rfl rfl rfl (e_mv (ev_t rfl)) ?_
      refine RgOK.s (v := .o (.c (.L 2 (s_.map Place.cs)))) rfl rfl rfl (e_mv (ev_t rfl)) ?_
      refine RgOK.s (v := VI (t81)) rfl rfl rfl (e_mv (ev_t rfl)) ?_
      obtain ⟨c4, hm⟩ := hm.ifs
      refine RgOK.s (v := .o (.c (.rp [I ((gd s_ t81).page), I ((gd s_ t81).address)]))) rfl rfl rfl (e_ixM (f := Place.cs) (l := s_) (i := t81) (ev_t rfl) (ev_t rfl) el26 c4) ?_
      refine RgOK.s (v := .o (.agg [I ((gd s_ t81).page), I ((gd s_ t81).address)])) rfl rfl rfl (e_ldRA (ev_t rfl) ty117 rfl rfl) ?_
      obtain ⟨x5, e5, hm⟩ := hm.call
      refine RgOK.cl rfl rfl rfl rfl pl90 (R2.wk _) (quarantine_Owner1_ok (b_a1 := b_f_0) (pb hb_f_0) e5) ?_
      rintro _ _ ⟨rfl, rfl⟩
      refine RgOK.nil ?_
      show CdOK _ _ _ _ _ _
      refine CdOK.condB (ev_t rfl) ?_ ?_
      · intro c6; replace hm := hm.ifp c6
        refine CdOK.seq ?_
        refine CdOK.region ?_
        refine RgOK.s (v := VI (t81)) rfl rfl rfl (e_mv (ev_t rfl)) ?_
        refine RgOK.s (v := VI (t81)) rfl rfl rfl (e_as (ev_t rfl)) ?_
        refine RgOK.nil ?_
        show CdOK _ _ _ _ _ _
        refine CdOK.ret ?_
        refine ⟨.inr rfl, _, rfl, h, [], _, rfl, rfl, hC, ((renFlV rfl) : RenV _ _ _ _ (VI (t81))), ?_⟩
        have hr := hm.ret
        replace hr := Ev.ret hr
        subst hr
        exact ⟨rfl, rfl⟩
      · intro c7; replace hm := hm.ifn c7
        refine CdOK.skip ?_
        show CdOK _ _ _ _ _ _
        refine CdOK.region ?_
        refine RgOK.s (v := VI ((w64 (t81 + 1)))) rfl rfl rfl (e_bin (ev_t rfl) rfl rfl rfl) ?_
        refine RgOK.s (v := VI ((w64 (t81 + 1)))) rfl rfl rfl (e_mv (ev_t rfl)) ?_
        refine RgOK.nil ?_
        refine Told.id ?_
        exact ⟨_, (w64 (t81 + 1)), Nat.lt_succ_self _, hm, (.cons rfl (.cons rfl (.cons rfl (.cons rfl .nil)))), rfl⟩
    · intro c8; replace hm := hm.ifn c8
      refine CdOK.exit ?_
      refine Told.id ?_
      exact ⟨(), hm.ret, .nil, rfl⟩
  · intro _ T0 hm
    show CdOK _ _ _ _ _ _
    refine CdOK.seq ?_
    refine CdOK.region ?_
    refine RgOK.s (v := VI ((-1))) rfl rfl rfl (e_as rfl) ?_
    refine RgOK.nil ?_
    show CdOK _ _ _ _ _ _
    refine CdOK.ret ?_
    refine ⟨.inr rfl, _, rfl, h, [], _, rfl, rfl, hC, ((renFlV rfl) : RenV _ _ _ _ (VI ((-1)))), ?_⟩
    have hr := hm.ret
    subst hr
    exact ⟨rfl, rfl⟩
/- pagemend/quarantine.Owner -/
def quarantine_Owner (r_ : Remap) (address : Int) : Option (Int × Bool) := ((quarantine_Valid r_).bind fun (x1 : Bool) => (if x1 = true then (if address < 0 then some (0, false) else ((quarantine_bad r_ address).bind fun (x4 : Bool) => (if x4 = true then some (0, false) else (if address < r_.pages then some (address, true) else ((IndexFuncP r_.places address).bind fun (x9 : Int) => (if x9 < 0 then some (0, false) else (if (0 : Int) ≤ x9 ∧ x9 < (r_.places.length : Int) then some ((gd r_.places x9).page, true) else none))))))) else some (0, false)))
theorem quarantine_Owner.eq (r_ : Remap) (address : Int) : quarantine_Owner r_ address = ((quarantine_Valid r_).bind fun (x1 : Bool) => (if x1 = true then (if address < 0 then some (0, false) else ((quarantine_bad r_ address).bind fun (x4 : Bool) => (if x4 = true then some (0, false) else (if address < r_.pages then some (address, true) else ((IndexFuncP r_.places address).bind fun (x9 : Int) => (if x9 < 0 then some (0, false) else (if (0 : Int) ≤ x9 ∧ x9 < (r_.places.length : Int) then some ((gd r_.places x9).page, true) else none))))))) else some (0, false))) := rfl
theorem quarantine_Owner_ok {h : Heap} {r_ : Remap} {address : Int}  {r : (Int × Bool)} (hm : quarantine_Owner r_ address = some r) : FnOK Try.prog 28 [.o (.agg [I (r_.pages), I (r_.spares), .L 2 (r_.places.map Place.cs), .L 1 (r_.bad.map cI)]), VI (address)] h (fun v h' => v = .tup [.c (I (r.1)), .c (Bo (r.2))] ∧ h' = h) := by
  refine FnOK.fin ?_
  refine FnOK.bodyC (N := 36) Try.func28 rfl rfl rfl (fun hC => ?_)
  replace hm := Ev.of hm
  rw [quarantine_Owner.eq] at hm
  show CdOK _ _ _ (look _ [(0, .o (.agg [I (r_.pages), I (r_.spares), .L 2 (r_.places.map Place.cs), .L 1 (r_.bad.map cI)])), (1, VI (address))]) (h ++ ([] : Heap)) _
  refine CdOK.seq ?_
  refine CdOK.region ?_
  refine RgOK.s (v := .o (.c (.ptr (h.length + 0) 0))) rfl rfl rfl (e_boxN (L' := [⟨[I (r_.pages), I (r_.spares), .L 2 (r_.places.map Place.cs), .L 1 (r_.bad.map cI)], true, true⟩]) rfl (ev_t rfl) rfl rfl) ?_
  refine RgOK.s (v := .o (.c (.ptr (h.length + 1) 0))) rfl rfl rfl (e_boxN (L' := [⟨[I (r_.pages), I (r_.spares), .L 2 (r_.places.map Place.cs), .L 1 (r_.bad.map cI)], true, true⟩, ⟨[I (address)], true, true⟩]) rfl (ev_t rfl) rfl rfl) ?_
  refine RgOK.s (v := VI (0)) rfl rfl rfl (e_as rfl) ?_
  refine RgOK.s (v := VB (false)) rfl rfl rfl (e_as rfl) ?_
  refine RgOK.nil ?_
  show CdOK _ _ _ _ _ _
  refine CdOK.seq ?_
  refine CdOK.seq ?_
  refine CdOK.region ?_
  refine RgOK.s (v := .o (.agg [I (r_.pages), I (r_.spares), .L 2 (r_.places.map Place.cs), .L 1 (r_.bad.map cI)])) rfl rfl rfl (e_ldbA (ev_t rfl) ty29 (bx rfl rfl) rfl rfl) ?_
  obtain ⟨x1, e1, hm⟩ := hm.call
  cases x1 with
  | true =>
    replace hm := hm.ifp rfl
    refine RgOK.cl rfl rfl rfl rfl pl22 (R2.wk _) (quarantine_Valid_ok   e1) ?_
    rintro _ _ ⟨rfl, rfl⟩
    refine RgOK.s (v := VB (false)) rfl rfl rfl (e_un (ev_t rfl) rfl) ?_
    refine RgOK.s (v := VB (false)) rfl rfl rfl (e_mv (ev_t rfl)) ?_
    refine RgOK.s (v := VI (address)) rfl rfl rfl (e_ldb1 (ev_t rfl) ty3 (bx rfl rfl) rfl) ?_
    refine RgOK.sd rfl rfl rfl (e_bin (ev_t rfl) rfl rfl rfl) ?_ ?_
    · intro c2; replace hm := hm.ifp c2
      refine RgOK.s (v := VB (true)) rfl rfl rfl (e_pick (t := false) (ev_t rfl) (ev_t rfl)) ?_
      refine RgOK.s (v := VB (true)) rfl rfl rfl (e_mv (ev_t rfl)) ?_
      refine RgOK.sk rfl rfl rfl ?_
      refine RgOK.sk rfl rfl rfl ?_
      refine RgOK.sk rfl rfl rfl ?_
      refine RgOK.s (v := VB (true)) rfl rfl rfl (e_pick (t := true) (ev_t rfl) rfl) ?_
      refine RgOK.nil ?_
      show CdOK _ _ _ _ _ _
      refine CdOK.cond_true rfl ?_
      refine CdOK.seq ?_
      refine CdOK.region ?_
      refine RgOK.s (v := VI (0)) rfl rfl rfl (e_as rfl) ?_
      refine RgOK.s (v := VB (false)) rfl rfl rfl (e_as rfl) ?_
      refine RgOK.nil ?_
      show CdOK _ _ _ _ _ _
      refine CdOK.ret ?_
      refine ⟨.inr rfl, _, rfl, h, [⟨[I (r_.pages), I (r_.spares), .L 2 (r_.places.map Place.cs), .L 1 (r_.bad.map cI)], true, true⟩, ⟨[I (address)], true, true⟩], _, rfl, rfl, hC, ((renFlV rfl) : RenV _ _ _ _ (.tup [.c (I (0)), .c (Bo false)])), ?_⟩
      have hr := hm.ret
      subst hr
      exact ⟨rfl, rfl⟩
    · intro c3; replace hm := hm.ifn c3
      refine RgOK.s (v := VB (false)) rfl rfl rfl (e_pick (t := false) (ev_t rfl) (ev_t rfl)) ?_
      refine RgOK.s (v := VB (false)) rfl rfl rfl (e_mv (ev_t rfl)) ?_
      refine RgOK.s (v := .o (.agg [I (r_.pages), I (r_.spares), .L 2 (r_.places.map Place.cs), .L 1 (r_.bad.map cI)])) rfl rfl rfl (e_ldbA (ev_t rfl) ty29 (bx rfl rfl) rfl rfl) ?_
      refine RgOK.s (v := VI (address)) rfl rfl rfl (e_ldb1 (ev_t rfl) ty3 (bx rfl rfl) rfl) ?_
      obtain ⟨x4, e4, hm⟩ := hm.call
      refine RgOK.cl rfl rfl rfl rfl pl84 (R2.wk _) (quarantine_bad_ok   e4) ?_
      rintro _ _ ⟨rfl, rfl⟩
      refine RgOK.s (v := VB (x4)) rfl rfl rfl (e_pick (t := false) (ev_t rfl) (ev_t rfl)) ?_
      refine RgOK.nil ?_
      show CdOK _ _ _ _ _ _
      refine CdOK.condB (ev_t rfl) ?_ ?_
      · intro c5; replace hm := hm.ifp c5
        refine CdOK.seq ?_
        refine CdOK.region ?_
        refine RgOK.s (v := VI (0)) rfl rfl rfl (e_as rfl) ?_
        refine RgOK.s (v := VB (false)) rfl rfl rfl (e_as rfl) ?_
        refine RgOK.nil ?_
        show CdOK _ _ _ _ _ _
        refine CdOK.ret ?_
        refine ⟨.inr rfl, _, rfl, h, [⟨[I (r_.pages), I (r_.spares), .L 2 (r_.places.map Place.cs), .L 1 (r_.bad.map cI)], true, true⟩, ⟨[I (address)], true, true⟩], _, rfl, rfl, hC, ((renFlV rfl) : RenV _ _ _ _ (.tup [.c (I (0)), .c (Bo false)])), ?_⟩
        have hr := hm.ret
        subst hr
        exact ⟨rfl, rfl⟩
      · intro c6; replace hm := hm.ifn c6
        refine CdOK.skip ?_
        show CdOK _ _ _ _ _ _
        refine CdOK.seq ?_
        refine CdOK.seq ?_
        refine CdOK.region ?_
        refine RgOK.s (v := VI (address)) rfl rfl rfl (e_ldb1 (ev_t rfl) ty3 (bx rfl rfl) rfl) ?_
        refine RgOK.s (v := .o (.c (.ptr (h.length + 0) 0))) rfl rfl rfl (e_fa' fa29_0 (ev_t rfl)) ?_
        refine RgOK.s (v := VI (r_.pages)) rfl rfl rfl (e_ldb1 (ev_t rfl) ty3 (bx rfl rfl) rfl) ?_
        refine RgOK.s (v := VB (decide (address < r_.pages))) rfl rfl rfl (e_bin (ev_t rfl) (ev_t rfl) rfl rfl) ?_
        refine RgOK.nil ?_
        show CdOK _ _ _ _ _ _
        refine CdOK.condD (ev_t rfl) ?_ ?_
        · intro c7; replace hm := hm.ifp c7
          refine CdOK.seq ?_
          refine CdOK.region ?_
          refine RgOK.s (v := VI (address)) rfl rfl rfl (e_ldb1 (ev_t rfl) ty3 (bx rfl rfl) rfl) ?_
          refine RgOK.s (v := VI (address)) rfl rfl rfl (e_as (ev_t rfl)) ?_
          refine RgOK.s (v := VB (true)) rfl rfl rfl (e_as rfl) ?_
          refine RgOK.nil ?_
          show CdOK _ _ _ _ _ _
          refine CdOK.ret ?_
          refine ⟨.inr rfl, _, rfl, h, [⟨[I (r_.pages), I (r_.spares), .L 2 (r_.places.map Place.cs), .L 1 (r_.bad.map cI)], true, true⟩, ⟨[I (address)], true, true⟩], _, rfl, rfl, hC, ((renFlV rfl) : RenV _ _ _ _ (.tup [.c (I (address)), .c (Bo true)])), ?_⟩
          have hr := hm.ret
          subst hr
          exact ⟨rfl, rfl⟩
        · intro c8; replace hm := hm.ifn c8
          refine CdOK.skip ?_
          show CdOK _ _ _ _ _ _
          refine CdOK.seq ?_
          refine CdOK.region ?_
          refine RgOK.s (v := .o (.c (.ptr (h.length + 0) 2))) rfl rfl rfl (e_fa' fa29_2 (ev_t rfl)) ?_
          refine RgOK.s (v := .o (.c (.L 2 (r_.places.map Place.cs)))) rfl rfl rfl (e_ldb1 (ev_t rfl) ty26 (bx rfl rfl) rfl) ?_
          refine RgOK.s (v := .o (.c (.fn 90 [((h.length + 1), 0)]))) rfl rfl rfl (e_mkf rfl rfl) ?_
          obtain ⟨x9, e9, hm⟩ := hm.call
          refine RgOK.cl rfl rfl rfl rfl pl89 (R2.wk _) (IndexFuncP_ok (b_f_0 := (h.length + 1)) (bx rfl rfl) e9) ?_
          rintro _ _ ⟨rfl, rfl⟩
          refine RgOK.s (v := VI (x9)) rfl rfl rfl (e_as (ev_t rfl)) ?_
          refine RgOK.nil ?_
          show CdOK _ _ _ _ _ _
          refine CdOK.seq ?_
          refine CdOK.seq ?_
          refine CdOK.region ?_
          refine RgOK.s (v := VI (x9)) rfl rfl rfl (e_mv (ev_t rfl)) ?_
          refine RgOK.s (v := VB (decide (x9 < 0))) rfl rfl rfl (e_bin (ev_t rfl) rfl rfl rfl) ?_
          refine RgOK.nil ?_
          show CdOK _ _ _ _ _ _
          refine CdOK.condD (ev_t rfl) ?_ ?_
          · intro c10; replace hm := hm.ifp c10
            refine CdOK.seq ?_
            refine CdOK.region ?_
            refine RgOK.s (v := VI (0)) rfl rfl rfl (e_as rfl) ?_
            refine RgOK.s (v := VB (false)) rfl rfl rfl (e_as rfl) ?_
            refine RgOK.nil ?_
            show CdOK _ _ _ _ _ _
            refine CdOK.ret ?_
            refine ⟨.inr rfl, _, rfl, h, [⟨[I (r_.pages), I (r_.spares), .L 2 (r_.places.map Place.cs), .L 1 (r_.bad.map cI)], true, true⟩, ⟨[I (address)], true, true⟩], _, rfl, rfl, hC, ((renFlV rfl) : RenV _ _ _ _ (.tup [.c (I (0)), .c (Bo false)])), ?_⟩
            have hr := hm.ret
            subst hr
            exact ⟨rfl, rfl⟩
          · intro c11; replace hm := hm.ifn c11
            refine CdOK.skip ?_
            show CdOK _ _ _ _ _ _
            refine CdOK.seq ?_
            refine CdOK.region ?_
            refine RgOK.s (v := .o (.c (.ptr (h.length + 0) 2))) rfl rfl rfl (e_fa' fa29_2 (ev_t rfl)) ?_
            refine RgOK.s (v := .o (.c (.L 2 (r_.places.map Place.cs)))) rfl rfl rfl (e_ldb1 (ev_t rfl) ty26 (bx rfl rfl) rfl) ?_
            refine RgOK.s (v := VI (x9)) rfl rfl rfl (e_mv (ev_t rfl)) ?_
            obtain ⟨c12, hm⟩ := hm.ifs
            refine RgOK.s (v := .o (.c (.rp [I ((gd r_.places x9).page), I ((gd r_.places x9).address)]))) rfl rfl rfl (e_ixM (f := Place.cs) (l := r_.places) (i := x9) (ev_t rfl) (ev_t rfl) el26 c12) ?_
            refine RgOK.s (v := .o (.c (.rp [I ((gd r_.places x9).page), I ((gd r_.places x9).address)]))) rfl rfl rfl (e_faR fa117_0 (ev_t rfl) rfl) ?_
            refine RgOK.s (v := VI ((gd r_.places x9).page)) rfl rfl rfl (e_ldR1 (ev_t rfl) ty3 rfl) ?_
            refine RgOK.s (v := VI ((gd r_.places x9).page)) rfl rfl rfl (e_as (ev_t rfl)) ?_
            refine RgOK.s (v := VB (true)) rfl rfl rfl (e_as rfl) ?_
            refine RgOK.nil ?_
            show CdOK _ _ _ _ _ _
            refine CdOK.ret ?_
            refine ⟨.inr rfl, _, rfl, h, [⟨[I (r_.pages), I (r_.spares), .L 2 (r_.places.map Place.cs), .L 1 (r_.bad.map cI)], true, true⟩, ⟨[I (address)], true, true⟩], _, rfl, rfl, hC, ((renFlV rfl) : RenV _ _ _ _ (.tup [.c (I ((gd r_.places x9).page)), .c (Bo true)])), ?_⟩
            have hr := hm.ret
            subst hr
            exact ⟨rfl, rfl⟩
  | false =>
    replace hm := hm.ifn Bool.false_ne_true
    refine RgOK.cl rfl rfl rfl rfl pl22 (R2.wk _) (quarantine_Valid_ok   e1) ?_
    rintro _ _ ⟨rfl, rfl⟩
    refine RgOK.s (v := VB (true)) rfl rfl rfl (e_un (ev_t rfl) rfl) ?_
    refine RgOK.s (v := VB (true)) rfl rfl rfl (e_mv (ev_t rfl)) ?_
    refine RgOK.sk rfl rfl rfl ?_
    refine RgOK.sk rfl rfl rfl ?_
    refine RgOK.s (v := VB (true)) rfl rfl rfl (e_pick (t := true) (ev_t rfl) rfl) ?_
    refine RgOK.s (v := VB (true)) rfl rfl rfl (e_mv (ev_t rfl)) ?_
    refine RgOK.sk rfl rfl rfl ?_
    refine RgOK.sk rfl rfl rfl ?_
    refine RgOK.sk rfl rfl rfl ?_
    refine RgOK.s (v := VB (true)) rfl rfl rfl (e_pick (t := true) (ev_t rfl) rfl) ?_
    refine RgOK.nil ?_
    show CdOK _ _ _ _ _ _
    refine CdOK.cond_true rfl ?_
    refine CdOK.seq ?_
    refine CdOK.region ?_
    refine RgOK.s (v := VI (0)) rfl rfl rfl (e_as rfl) ?_
    refine RgOK.s (v := VB (false)) rfl rfl rfl (e_as rfl) ?_
    refine RgOK.nil ?_
    show CdOK _ _ _ _ _ _
    refine CdOK.ret ?_
    refine ⟨.inr rfl, _, rfl, h, [⟨[I (r_.pages), I (r_.spares), .L 2 (r_.places.map Place.cs), .L 1 (r_.bad.map cI)], true, true⟩, ⟨[I (address)], true, true⟩], _, rfl, rfl, hC, ((renFlV rfl) : RenV _ _ _ _ (.tup [.c (I (0)), .c (Bo false)])), ?_⟩
    have hr := hm.ret
    subst hr
    exact ⟨rfl, rfl⟩
/- pagemend/quarantine.free -/
def quarantine_free.l1 (r_ : Remap) : Nat → Int → (List Bool) → Option (List Bool)
  | 0, _, _ => none
  | kk4 + 1, t112, bx3 => (if t112 < (r_.places.length : Int) then (if (0 : Int) ≤ t112 ∧ t112 < (r_.places.length : Int) then (if (0 : Int) ≤ ((gd r_.places t112).address) ∧ ((gd r_.places t112).address) < (64 : Int) then (if (0 : Int) ≤ ((gd r_.places t112).address) ∧ ((gd r_.places t112).address) < (bx3.length : Int) then quarantine_free.l1 r_ kk4 (w64 (t112 + 1)) (bx3.set (Int.toNat ((gd r_.places t112).address)) true) else none) else none) else none) else some bx3)
theorem quarantine_free.l1_s (r_ : Remap) (kk4 : Nat) (t112 : Int) (bx3 : (List Bool)) : quarantine_free.l1 r_ (kk4 + 1) t112 bx3 = (if t112 < (r_.places.length : Int) then (if (0 : Int) ≤ t112 ∧ t112 < (r_.places.length : Int) then (if (0 : Int) ≤ ((gd r_.places t112).address) ∧ ((gd r_.places t112).address) < (64 : Int) then (if (0 : Int) ≤ ((gd r_.places t112).address) ∧ ((gd r_.places t112).address) < (bx3.length : Int) then quarantine_free.l1 r_ kk4 (w64 (t112 + 1)) (bx3.set (Int.toNat ((gd r_.places t112).address)) true) else none) else none) else none) else some bx3) := rfl
def quarantine_free.l2 (r_ : Remap) (bx1 : (List Bool)) : Nat → (List Int) → Int → Option (List Int)
  | 0, _, _ => none
  | kk14 + 1, out12, x13 => (if x13 < (w64 (r_.pages + r_.spares)) then (if (0 : Int) ≤ x13 ∧ x13 < (64 : Int) then (if (0 : Int) ≤ x13 ∧ x13 < (bx1.length : Int) then (if (gd bx1 x13) = true then quarantine_free.l2 r_ bx1 kk14 out12 (w64 (x13 + 1)) else ((quarantine_bad r_ x13).bind fun (x20 : Bool) => (if (!x20) = true then (if (out12).length + ([x13] : List Int).length ≤ 17592186044416 then quarantine_free.l2 r_ bx1 kk14 (out12 ++ ([x13] : List Int)) (w64 (x13 + 1)) else none) else quarantine_free.l2 r_ bx1 kk14 out12 (w64 (x13 + 1))))) else none) else none) else some out12)
theorem quarantine_free.l2_s (r_ : Remap) (bx1 : (List Bool)) (kk14 : Nat) (out12 : (List Int)) (x13 : Int) : quarantine_free.l2 r_ bx1 (kk14 + 1) out12 x13 = (if x13 < (w64 (r_.pages + r_.spares)) then (if (0 : Int) ≤ x13 ∧ x13 < (64 : Int) then (if (0 : Int) ≤ x13 ∧ x13 < (bx1.length : Int) then (if (gd bx1 x13) = true then quarantine_free.l2 r_ bx1 kk14 out12 (w64 (x13 + 1)) else ((quarantine_bad r_ x13).bind fun (x20 : Bool) => (if (!x20) = true then (if (out12).length + ([x13] : List Int).length ≤ 17592186044416 then quarantine_free.l2 r_ bx1 kk14 (out12 ++ ([x13] : List Int)) (w64 (x13 + 1)) else none) else quarantine_free.l2 r_ bx1 kk14 out12 (w64 (x13 + 1))))) else none) else none) else some out12) := rfl
def quarantine_free (r_ : Remap) : Option (List Int) := ((quarantine_free.l1 r_ FU 0 (List.replicate 64 false)).bind fun (s10 : (List Bool)) => ((quarantine_free.l2 r_ s10 FU ([] : List Int) r_.pages).bind fun (s25 : (List Int)) => some s25))
theorem quarantine_free.eq (r_ : Remap) : quarantine_free r_ = ((quarantine_free.l1 r_ FU 0 (List.replicate 64 false)).bind fun (s10 : (List Bool)) => ((quarantine_free.l2 r_ s10 FU ([] : List Int) r_.pages).bind fun (s25 : (List Int)) => some s25)) := rfl
theorem quarantine_free_ok {h : Heap} {r_ : Remap}  {r : (List Int)} (hm : quarantine_free r_ = some r) : FnOK Try.prog 86 [.o (.agg [I (r_.pages), I (r_.spares), .L 2 (r_.places.map Place.cs), .L 1 (r_.bad.map cI)])] h (fun v h' => v = .o (.c (.L 1 (r.map cI))) ∧ h' = h) := by
  refine FnOK.fin ?_
  refine FnOK.bodyC (N := 45) Try.func86 rfl rfl rfl (fun hC => ?_)
  replace hm := Ev.of hm
  rw [quarantine_free.eq] at hm
  show CdOK _ _ _ (look _ [(0, .o (.agg [I (r_.pages), I (r_.spares), .L 2 (r_.places.map Place.cs), .L 1 (r_.bad.map cI)]))]) (h ++ ([] : Heap)) _
  refine CdOK.seq ?_
  refine CdOK.region ?_
  refine RgOK.s (v := .o (.c (.ptr (h.length + 0) 0))) rfl rfl rfl (e_boxN (L' := [⟨[I (r_.pages), I (r_.spares), .L 2 (r_.places.map Place.cs), .L 1 (r_.bad.map cI)], true, true⟩]) rfl (ev_t rfl) rfl rfl) ?_
  refine RgOK.s (v := .o (.c (.v (.slice none 0 0)))) rfl rfl rfl (e_as rfl) ?_
  refine RgOK.nil ?_
  show CdOK _ _ _ _ _ _
  refine CdOK.seq ?_
  refine CdOK.region ?_
  refine RgOK.s (v := .o (.c (.ptr (h.length + 1) 0))) rfl rfl rfl (e_allocN (L' := [⟨[I (r_.pages), I (r_.spares), .L 2 (r_.places.map Place.cs), .L 1 (r_.bad.map cI)], true, true⟩, ⟨((List.replicate 64 false).map cB).flatten, true, true⟩]) rfl zo118 rfl rfl) ?_
  refine RgOK.nil ?_
  show CdOK _ _ _ _ _ _
  refine CdOK.seq ?_
  refine CdOK.seq ?_
  refine CdOK.region ?_
  refine RgOK.s (v := .o (.c (.ptr (h.length + 0) 2))) rfl rfl rfl (e_fa' fa29_2 (ev_t rfl)) ?_
  refine RgOK.s (v := .o (.c (.L 2 (r_.places.map Place.cs)))) rfl rfl rfl (e_ldb1 (ev_t rfl) ty26 (bx rfl rfl) rfl) ?_
  refine RgOK.s (v := VI ((r_.places.length : Int))) rfl rfl rfl (e_lenM (ev_t rfl) is26) ?_
  refine RgOK.s (v := VI (0)) rfl rfl rfl (e_mv rfl) ?_
  refine RgOK.nil ?_
  show CdOK _ _ _ _ _ _
  replace hm := hm.bnd
  refine CdOK.joinT (σ := (List Bool)) (fun s => s) hm (fun s => [(1, .o (.c (.ptr (h.length + 0) 0))), (3, .o (.c (.ptr (h.length + 1) 0)))]) (fun s => h ++ ([⟨[I (r_.pages), I (r_.spares), .L 2 (r_.places.map Place.cs), .L 1 (r_.bad.map cI)], true, true⟩, ⟨(s.map cB).flatten, true, true⟩] : Heap)) ?_ ?_
  · intro hm
    refine CdOK.block ?_
    refine CdOK.loopE (σ := (Int × (List Bool))) (fun k s => Ev (quarantine_free.l1 r_ k s.1 s.2) _) (fun s => [(1, .o (.c (.ptr (h.length + 0) 0))), (3, .o (.c (.ptr (h.length + 1) 0))), (9, .o (.c (.L 2 (r_.places.map Place.cs)))), (10, VI ((r_.places.length : Int))), (11, VI (s.1))]) (fun s => h ++ ([⟨[I (r_.pages), I (r_.spares), .L 2 (r_.places.map Place.cs), .L 1 (r_.bad.map cI)], true, true⟩, ⟨(s.2.map cB).flatten, true, true⟩] : Heap)) FU (0, (List.replicate 64 false)) hm (.cons rfl (.cons rfl (.cons rfl (.cons rfl (.cons rfl .nil))))) rfl ?_
    rintro kk4 ⟨t112, bx3⟩ T0 hm
    replace hm : Ev (quarantine_free.l1 r_ kk4 t112 bx3) _ := hm
    cases kk4 with
    | zero => exact (Ev.non hm).elim
    | succ kk4 =>
    rw [quarantine_free.l1_s] at hm
    show CdOK _ _ _ (look T0 [(1, .o (.c (.ptr (h.length + 0) 0))), (3, .o (.c (.ptr (h.length + 1) 0))), (9, .o (.c (.L 2 (r_.places.map Place.cs)))), (10, VI ((r_.places.length : Int))), (11, VI (t112))]) (h ++ ([⟨[I (r_.pages), I (r_.spares), .L 2 (r_.places.map Place.cs), .L 1 (r_.bad.map cI)], true, true⟩, ⟨(bx3.map cB).flatten, true, true⟩] : Heap)) _
    refine CdOK.seq ?_
    refine CdOK.region ?_
    refine RgOK.s (v := VB (decide (t112 < (r_.places.length : Int)))) rfl rfl rfl (e_bin (ev_t rfl) (ev_t rfl) rfl rfl) ?_
    refine RgOK.nil ?_
    show CdOK _ _ _ _ _ _
    refine CdOK.seq ?_
    refine CdOK.condD (ev_t rfl) ?_ ?_
    · intro c5; replace hm := hm.ifp c5
      refine CdOK.skip ?_
      show CdOK _ _ _ _ _ _
      refine CdOK.seq ?_
      refine CdOK.block ?_
      refine CdOK.seq ?_
      refine CdOK.region ?_
      obtain ⟨c6, hm⟩ := hm.ifs
      refine RgOK.s (v := .o (.c (.rp [I ((gd r_.places t112).page), I ((gd r_.places t112).address)]))) rfl rfl rfl (e_ixM (f := Place.cs) (l := r_.places) (i := t112) (ev_t rfl) (ev_t rfl) el26 c6) ?_
      refine RgOK.s (v := .o (.agg [I ((gd r_.places t112).page), I ((gd r_.places t112).address)])) rfl rfl rfl (e_ldRA (ev_t rfl) ty117 rfl rfl) ?_
      refine RgOK.s (v := .o (.c (.ptr (h.length + 2) 0))) rfl rfl rfl (e_allocN (L' := [⟨[I (r_.pages), I (r_.spares), .L 2 (r_.places.map Place.cs), .L 1 (r_.bad.map cI)], true, true⟩, ⟨(bx3.map cB).flatten, true, true⟩, ⟨[I (0), I (0)], true, true⟩]) rfl zo117 rfl rfl) ?_
      refine RgOK.s0 rfl rfl (e_stN (L' := [⟨[I (r_.pages), I (r_.spares), .L 2 (r_.places.map Place.cs), .L 1 (r_.bad.map cI)], true, true⟩, ⟨(bx3.map cB).flatten, true, true⟩, ⟨[I ((gd r_.places t112).page), I ((gd r_.places t112).address)], true, true⟩]) rfl (ev_t rfl) (ev_t rfl) ty117 rfl rfl rfl rfl rfl) ?_
      refine RgOK.nil ?_
      show CdOK _ _ _ _ _ _
      refine CdOK.region ?_
      refine RgOK.s (v := .o (.c (.ptr (h.length + 2) 1))) rfl rfl rfl (e_fa' fa117_1 (ev_t rfl)) ?_
      refine RgOK.s (v := VI ((gd r_.places t112).address)) rfl rfl rfl (e_ldb1 (ev_t rfl) ty3 (bx rfl rfl) rfl) ?_
      obtain ⟨c7, hm⟩ := hm.ifs
      refine RgOK.s (v := .o (.c (.ptr (h.length + 1) (0 + (Int.toNat ((gd r_.places t112).address)) * 1)))) rfl rfl rfl (e_ixa (ev_t rfl) (ev_t rfl) ar118 c7) ?_
      obtain ⟨c8, hm⟩ := hm.ifs
      refine RgOK.s0 rfl rfl (e_stx (f := cB) (l := bx3) (i := (gd r_.places t112).address) (x := true) (L' := [⟨[I (r_.pages), I (r_.spares), .L 2 (r_.places.map Place.cs), .L 1 (r_.bad.map cI)], true, true⟩, ⟨((bx3.set (Int.toNat ((gd r_.places t112).address)) true).map cB).flatten, true, true⟩, ⟨[I ((gd r_.places t112).page), I ((gd r_.places t112).address)], true, true⟩]) rfl (ev_t rfl) rfl ty4 rfl (by intro x; rfl) rfl c8 rfl) ?_
      refine RgOK.nil ?_
      show CdOK _ _ _ _ _ _
      refine CdOK.region ?_
      refine RgOK.s (v := VI ((w64 (t112 + 1)))) rfl rfl rfl (e_bin (ev_t rfl) rfl rfl rfl) ?_
      refine RgOK.s (v := VI ((w64 (t112 + 1)))) rfl rfl rfl (e_mv (ev_t rfl)) ?_
      refine RgOK.nil ?_
      refine Told.re (σ := [0, 1]) (X := [(1, .o (.c (.ptr (h.length + 0) 0))), (3, .o (.c (.ptr (h.length + 1) 0))), (9, .o (.c (.L 2 (r_.places.map Place.cs)))), (10, VI ((r_.places.length : Int))), (11, VI ((w64 (t112 + 1))))]) (L' := [⟨[I (r_.pages), I (r_.spares), .L 2 (r_.places.map Place.cs), .L 1 (r_.bad.map cI)], true, true⟩, ⟨((bx3.set (Int.toNat ((gd r_.places t112).address)) true).map cB).flatten, true, true⟩]) rfl rfl hC (by decide) (.obj 0 rfl (renFl rfl) (.obj 1 rfl (renFl (flat_all (f := cB) (l := (bx3.set (Int.toNat ((gd r_.places t112).address)) true)) (by intro x; rfl))) .nil)) (.cons (.o (.c (.ptr 0 0 _ rfl))) (.cons (.o (.c (.ptr 1 1 _ rfl))) (.cons (renFlV rfl) (.cons (renFlV rfl) (.cons (renFlV rfl) .nil))))) ?_
      exact ⟨_, ((w64 (t112 + 1)), (bx3.set (Int.toNat ((gd r_.places t112).address)) true)), Nat.lt_succ_self _, hm, (.cons rfl (.cons rfl (.cons rfl (.cons rfl (.cons rfl .nil))))), rfl⟩
    · intro c9; replace hm := hm.ifn c9
      refine CdOK.exit ?_
      refine Told.id ?_
      exact ⟨bx3, hm.ret, (.cons rfl (.cons rfl .nil)), rfl⟩
  · rintro bx1 T0 hm
    show CdOK _ _ _ _ _ _
    refine CdOK.seq ?_
    refine CdOK.region ?_
    refine RgOK.s (v := .o (.c (.v (.slice none 0 0)))) rfl rfl rfl (e_as rfl) ?_
    refine RgOK.nil ?_
    show CdOK _ _ _ _ _ _
    refine CdOK.seq ?_
    refine CdOK.seq ?_
    refine CdOK.region ?_
    refine RgOK.s (v := .o (.c (.ptr (h.length + 0) 0))) rfl rfl rfl (e_fa' fa29_0 (ev_t rfl)) ?_
    refine RgOK.s (v := VI (r_.pages)) rfl rfl rfl (e_ldb1 (ev_t rfl) ty3 (bx rfl rfl) rfl) ?_
    refine RgOK.s (v := VI (r_.pages)) rfl rfl rfl (e_as (ev_t rfl)) ?_
    refine RgOK.nil ?_
    show CdOK _ _ _ _ _ _
    replace hm := hm.bnd
    refine CdOK.joinT (σ := ((List Int) × Bool)) (fun s => s.1) hm (fun s => [(6, .o (.c (.g (h.length + 0) ((s.1).length) 1 s.2)))]) (fun s => h ++ ([⟨(s.1.map cI).flatten, true, s.2⟩] : Heap)) ?_ ?_
    · intro hm
      refine CdOK.block ?_
      refine CdOK.re (σ := [0, 1, 1002]) (X := [(1, .o (.c (.ptr (h.length + 0) 0))), (3, .o (.c (.ptr (h.length + 1) 0))), (6, .o (.c (.g (h.length + 2) ((([] : List Int)).length) 1 false))), (7, VI (r_.pages))]) (L' := [⟨[I (r_.pages), I (r_.spares), .L 2 (r_.places.map Place.cs), .L 1 (r_.bad.map cI)], true, true⟩, ⟨(bx1.map cB).flatten, true, true⟩, ⟨(([] : List Int).map cI).flatten, true, false⟩]) rfl rfl hC (by decide) (.obj 0 rfl (renFl rfl) (.obj 1 rfl (renFl (flat_all (f := cB) (l := bx1) (by intro x; rfl))) (.dead 1002 _ rfl .nil))) (.cons (.o (.c (.ptr 0 0 _ rfl))) (.cons (.o (.c (.ptr 1 1 _ rfl))) (.cons (.o (.c (.nilg _ _))) (.cons (renFlV rfl) .nil)))) ?_
      refine CdOK.loopE (σ := ((List Int) × Int × Bool)) (fun k s => Ev (quarantine_free.l2 r_ bx1 k s.1 s.2.1) _) (fun s => [(1, .o (.c (.ptr (h.length + 0) 0))), (3, .o (.c (.ptr (h.length + 1) 0))), (6, .o (.c (.g (h.length + 2) ((s.1).length) 1 s.2.2))), (7, VI (s.2.1))]) (fun s => h ++ ([⟨[I (r_.pages), I (r_.spares), .L 2 (r_.places.map Place.cs), .L 1 (r_.bad.map cI)], true, true⟩, ⟨(bx1.map cB).flatten, true, true⟩, ⟨(s.1.map cI).flatten, true, s.2.2⟩] : Heap)) FU (([] : List Int), r_.pages, false) hm (.cons rfl (.cons rfl (.cons rfl (.cons rfl .nil)))) rfl ?_
      rintro kk14 ⟨out12, x13, out12v⟩ T0 hm
      replace hm : Ev (quarantine_free.l2 r_ bx1 kk14 out12 x13) _ := hm
      cases kk14 with
      | zero => exact (Ev.non hm).elim
      | succ kk14 =>
      rw [quarantine_free.l2_s] at hm
      show CdOK _ _ _ (look T0 [(1, .o (.c (.ptr (h.length + 0) 0))), (3, .o (.c (.ptr (h.length + 1) 0))), (6, .o (.c (.g (h.length + 2) ((out12).length) 1 out12v))), (7, VI (x13))]) (h ++ ([⟨[I (r_.pages), I (r_.spares), .L 2 (r_.places.map Place.cs), .L 1 (r_.bad.map cI)], true, true⟩, ⟨(bx1.map cB).flatten, true, true⟩, ⟨(out12.map cI).flatten, true, out12v⟩] : Heap)) _
      refine CdOK.seq ?_
      refine CdOK.seq ?_
      refine CdOK.region ?_
      refine RgOK.s (v := VI (x13)) rfl rfl rfl (e_mv (ev_t rfl)) ?_
      refine RgOK.s (v := .o (.c (.ptr (h.length + 0) 0))) rfl rfl rfl (e_fa' fa29_0 (ev_t rfl)) ?_
      refine RgOK.s (v := VI (r_.pages)) rfl rfl rfl (e_ldb1 (ev_t rfl) ty3 (bx rfl rfl) rfl) ?_
      refine RgOK.s (v := .o (.c (.ptr (h.length + 0) 1))) rfl rfl rfl (e_fa' fa29_1 (ev_t rfl)) ?_
      refine RgOK.s (v := VI (r_.spares)) rfl rfl rfl (e_ldb1 (ev_t rfl) ty3 (bx rfl rfl) rfl) ?_
      refine RgOK.s (v := VI ((w64 (r_.pages + r_.spares)))) rfl rfl rfl (e_bin (ev_t rfl) (ev_t rfl) rfl rfl) ?_
      refine RgOK.s (v := VB (decide (x13 < (w64 (r_.pages + r_.spares))))) rfl rfl rfl (e_bin (ev_t rfl) (ev_t rfl) rfl rfl) ?_
      refine RgOK.nil ?_
      show CdOK _ _ _ _ _ _
      refine CdOK.condD (ev_t rfl) ?_ ?_
      · intro c15; replace hm := hm.ifp c15
        refine CdOK.skip ?_
        show CdOK _ _ _ _ _ _
        refine CdOK.seq ?_
        refine CdOK.block ?_
        refine CdOK.seq ?_
        refine CdOK.region ?_
        refine RgOK.s (v := VI (x13)) rfl rfl rfl (e_mv (ev_t rfl)) ?_
        obtain ⟨c16, hm⟩ := hm.ifs
        refine RgOK.s (v := .o (.c (.ptr (h.length + 1) (0 + (Int.toNat x13) * 1)))) rfl rfl rfl (e_ixa (ev_t rfl) (ev_t rfl) ar118 c16) ?_
        obtain ⟨c17, hm⟩ := hm.ifs
        refine RgOK.sb rfl rfl rfl (e_ldx (f := cB) (l := bx1) (i := x13) (ev_t rfl) ty4 (bx rfl rfl) (by intro x; rfl) c17 rfl) ?_ ?_
        · intro c18; replace hm := hm.ifp c18
          refine RgOK.s (v := VB (false)) rfl rfl rfl (e_un (ev_t rfl) rfl) ?_
          refine RgOK.s (v := VB (false)) rfl rfl rfl (e_mv (ev_t rfl)) ?_
          refine RgOK.sk rfl rfl rfl ?_
          refine RgOK.sk rfl rfl rfl ?_
          refine RgOK.sk rfl rfl rfl ?_
          refine RgOK.sk rfl rfl rfl ?_
          refine RgOK.s (v := VB (false)) rfl rfl rfl (e_pick (t := false) (ev_t rfl) rfl) ?_
          refine RgOK.nil ?_
          show CdOK _ _ _ _ _ _
          refine CdOK.cond_false rfl ?_
          refine CdOK.skip ?_
          show CdOK _ _ _ _ _ _
          refine CdOK.region ?_
          refine RgOK.s (v := VI (x13)) rfl rfl rfl (e_mv (ev_t rfl)) ?_
          refine RgOK.s (v := VI ((w64 (x13 + 1)))) rfl rfl rfl (e_bin (ev_t rfl) rfl rfl rfl) ?_
          refine RgOK.s (v := VI ((w64 (x13 + 1)))) rfl rfl rfl (e_as (ev_t rfl)) ?_
          refine RgOK.nil ?_
          refine Told.id ?_
          exact ⟨_, (out12, (w64 (x13 + 1)), out12v), Nat.lt_succ_self _, hm, (.cons rfl (.cons rfl (.cons rfl (.cons rfl .nil)))), rfl⟩
        · intro c19; replace hm := hm.ifn (by rw [c19]; exact Bool.false_ne_true)
          refine RgOK.s (v := VB (true)) rfl rfl rfl (e_un (ev_t rfl) rfl) ?_
          refine RgOK.s (v := VB (true)) rfl rfl rfl (e_mv (ev_t rfl)) ?_
          refine RgOK.s (v := .o (.agg [I (r_.pages), I (r_.spares), .L 2 (r_.places.map Place.cs), .L 1 (r_.bad.map cI)])) rfl rfl rfl (e_ldbA (ev_t rfl) ty29 (bx rfl rfl) rfl rfl) ?_
          refine RgOK.s (v := VI (x13)) rfl rfl rfl (e_mv (ev_t rfl)) ?_
          obtain ⟨x20, e20, hm⟩ := hm.call
          refine RgOK.cl rfl rfl rfl rfl pl84 (R2.wk _) (quarantine_bad_ok   e20) ?_
          rintro _ _ ⟨rfl, rfl⟩
          refine RgOK.s (v := VB ((!x20))) rfl rfl rfl (e_un (ev_t rfl) rfl) ?_
          refine RgOK.s (v := VB ((!x20))) rfl rfl rfl (e_pick (t := true) (ev_t rfl) (ev_t rfl)) ?_
          refine RgOK.nil ?_
          show CdOK _ _ _ _ _ _
          refine CdOK.condB (ev_t rfl) ?_ ?_
          · intro c21; replace hm := hm.ifp c21
            refine CdOK.region ?_
            refine RgOK.s (v := .o (.c (.g (h.length + 2) ((out12).length) 1 out12v))) rfl rfl rfl (e_mv (ev_t rfl)) ?_
            refine RgOK.s (v := VI (x13)) rfl rfl rfl (e_mv (ev_t rfl)) ?_
            refine RgOK.s (v := .o (.c (.LC 1 (([x13] : List Int).map cI)))) rfl rfl rfl (e_lit (cs := [I (x13)]) (xs := ([x13]).map cI) slt27 rfl rfl rfl rfl rfl) ?_
            obtain ⟨c22, hm⟩ := hm.ifs
            refine RgOK.s (v := .o (.c (.g (h.length + 3) (((out12 ++ ([x13] : List Int))).length) 1 (out12v || decide (0 < ([x13] : List Int).length))))) rfl rfl rfl (e_apG (k := 1) (q := 17592186044416) (m := ([x13] : List Int).length) (j := 2) (f := cI) (xs := out12) (ys := ([x13] : List Int)) (L' := [⟨[I (r_.pages), I (r_.spares), .L 2 (r_.places.map Place.cs), .L 1 (r_.bad.map cI)], true, true⟩, ⟨(bx1.map cB).flatten, true, true⟩, ⟨(out12.map cI).flatten, true, false⟩, ⟨((out12 ++ ([x13] : List Int)).map cI).flatten, true, (out12v || decide (0 < ([x13] : List Int).length))⟩]) slt27 rfl (ev_t rfl) (ev_t rfl) (bx rfl rfl) (by intro x; rfl) src_LC rfl c22 rfl (by first | rfl | simp) rfl rfl) ?_
            refine RgOK.s (v := .o (.c (.g (h.length + 3) (((out12 ++ ([x13] : List Int))).length) 1 (out12v || decide (0 < ([x13] : List Int).length))))) rfl rfl rfl (e_as (ev_t rfl)) ?_
            refine RgOK.nil ?_
            show CdOK _ _ _ _ _ _
            refine CdOK.region ?_
            refine RgOK.s (v := VI (x13)) rfl rfl rfl (e_mv (ev_t rfl)) ?_
            refine RgOK.s (v := VI ((w64 (x13 + 1)))) rfl rfl rfl (e_bin (ev_t rfl) rfl rfl rfl) ?_
            refine RgOK.s (v := VI ((w64 (x13 + 1)))) rfl rfl rfl (e_as (ev_t rfl)) ?_
            refine RgOK.nil ?_
            refine Told.re (σ := [0, 1, 3]) (X := [(1, .o (.c (.ptr (h.length + 0) 0))), (3, .o (.c (.ptr (h.length + 1) 0))), (6, .o (.c (.g (h.length + 2) (((out12 ++ ([x13] : List Int))).length) 1 (out12v || decide (0 < ([x13] : List Int).length))))), (7, VI ((w64 (x13 + 1))))]) (L' := [⟨[I (r_.pages), I (r_.spares), .L 2 (r_.places.map Place.cs), .L 1 (r_.bad.map cI)], true, true⟩, ⟨(bx1.map cB).flatten, true, true⟩, ⟨((out12 ++ ([x13] : List Int)).map cI).flatten, true, (out12v || decide (0 < ([x13] : List Int).length))⟩]) rfl rfl hC (by decide) (.obj 0 rfl (renFl rfl) (.obj 1 rfl (renFl (flat_all (f := cB) (l := bx1) (by intro x; rfl))) (.obj 3 rfl (renFl (flat_all (f := cI) (l := (out12 ++ ([x13] : List Int))) (by intro x; rfl))) .nil))) (.cons (.o (.c (.ptr 0 0 _ rfl))) (.cons (.o (.c (.ptr 1 1 _ rfl))) (.cons (.o (.c (.gg 3 2 _ _ _ _ _ rfl (by first | rfl | simp) rfl))) (.cons (renFlV rfl) .nil)))) ?_
            exact ⟨_, ((out12 ++ ([x13] : List Int)), (w64 (x13 + 1)), (out12v || decide (0 < ([x13] : List Int).length))), Nat.lt_succ_self _, hm, (.cons rfl (.cons rfl (.cons rfl (.cons rfl .nil)))), rfl⟩
          · intro c23; replace hm := hm.ifn c23
            refine CdOK.skip ?_
            show CdOK _ _ _ _ _ _
            refine CdOK.region ?_
            refine RgOK.s (v := VI (x13)) rfl rfl rfl (e_mv (ev_t rfl)) ?_
            refine RgOK.s (v := VI ((w64 (x13 + 1)))) rfl rfl rfl (e_bin (ev_t rfl) rfl rfl rfl) ?_
            refine RgOK.s (v := VI ((w64 (x13 + 1)))) rfl rfl rfl (e_as (ev_t rfl)) ?_
            refine RgOK.nil ?_
            refine Told.id ?_
            exact ⟨_, (out12, (w64 (x13 + 1)), out12v), Nat.lt_succ_self _, hm, (.cons rfl (.cons rfl (.cons rfl (.cons rfl .nil)))), rfl⟩
      · intro c24; replace hm := hm.ifn c24
        refine CdOK.exit ?_
        refine Told.re (σ := [2]) (X := [(6, .o (.c (.g (h.length + 0) ((out12).length) 1 out12v)))]) (L' := [⟨(out12.map cI).flatten, true, out12v⟩]) rfl rfl hC (by decide) (.obj 2 rfl (renFl (flat_all (f := cI) (l := out12) (by intro x; rfl))) .nil) (.cons (.o (.c (.gg 2 0 _ _ _ _ _ rfl (by first | rfl | simp) rfl))) .nil) ?_
        exact ⟨(out12, out12v), hm.ret, (.cons rfl .nil), rfl⟩
    · rintro ⟨out11, out11v⟩ T0 hm
      show CdOK _ _ _ _ _ _
      refine CdOK.seq ?_
      refine CdOK.region ?_
      refine RgOK.s (v := .o (.c (.g (h.length + 0) ((out11).length) 1 out11v))) rfl rfl rfl (e_mv (ev_t rfl)) ?_
      refine RgOK.s (v := .o (.c (.g (h.length + 0) ((out11).length) 1 out11v))) rfl rfl rfl (e_as (ev_t rfl)) ?_
      refine RgOK.nil ?_
      show CdOK _ _ _ _ _ _
      refine CdOK.ret ?_
      refine ⟨.inr rfl, _, rfl, h, [⟨(out11.map cI).flatten, true, out11v⟩], _, rfl, rfl, hC, ((.o (.c (.fzg 0 _ 1 _ (out11.map cI) rfl (by decide) (by first | exact List.length_map .. | simp) (lens_all (by intro x; rfl)) (vl_all (by intro x; rfl))))) : RenV _ _ _ _ (.o (.c (.L 1 (out11.map cI))))), ?_⟩
      have hr := hm.ret
      subst hr
      exact ⟨rfl, rfl⟩
/- pagemend/quarantine.Left -/
def quarantine_Left (r_ : Remap) : Option Int := ((quarantine_Valid r_).bind fun (x1 : Bool) => (if (!x1) = true then some 0 else ((quarantine_free r_).bind fun (x4 : (List Int)) => some (x4.length : Int))))
theorem quarantine_Left.eq (r_ : Remap) : quarantine_Left r_ = ((quarantine_Valid r_).bind fun (x1 : Bool) => (if (!x1) = true then some 0 else ((quarantine_free r_).bind fun (x4 : (List Int)) => some (x4.length : Int)))) := rfl
theorem quarantine_Left_ok {h : Heap} {r_ : Remap}  {r : Int} (hm : quarantine_Left r_ = some r) : FnOK Try.prog 24 [.o (.agg [I (r_.pages), I (r_.spares), .L 2 (r_.places.map Place.cs), .L 1 (r_.bad.map cI)])] h (fun v h' => v = VI (r) ∧ h' = h) := by
  refine FnOK.fin ?_
  refine FnOK.bodyC (N := 9) Try.func24 rfl rfl rfl (fun hC => ?_)
  replace hm := Ev.of hm
  rw [quarantine_Left.eq] at hm
  show CdOK _ _ _ (look _ [(0, .o (.agg [I (r_.pages), I (r_.spares), .L 2 (r_.places.map Place.cs), .L 1 (r_.bad.map cI)]))]) (h ++ ([] : Heap)) _
  refine CdOK.seq ?_
  refine CdOK.region ?_
  refine RgOK.s (v := .o (.c (.ptr (h.length + 0) 0))) rfl rfl rfl (e_boxN (L' := [⟨[I (r_.pages), I (r_.spares), .L 2 (r_.places.map Place.cs), .L 1 (r_.bad.map cI)], true, true⟩]) rfl (ev_t rfl) rfl rfl) ?_
  refine RgOK.s (v := VI (0)) rfl rfl rfl (e_as rfl) ?_
  refine RgOK.nil ?_
  show CdOK _ _ _ _ _ _
  refine CdOK.seq ?_
  refine CdOK.seq ?_
  refine CdOK.region ?_
  refine RgOK.s (v := .o (.agg [I (r_.pages), I (r_.spares), .L 2 (r_.places.map Place.cs), .L 1 (r_.bad.map cI)])) rfl rfl rfl (e_ldbA (ev_t rfl) ty29 (bx rfl rfl) rfl rfl) ?_
  obtain ⟨x1, e1, hm⟩ := hm.call
  refine RgOK.cl rfl rfl rfl rfl pl22 (R2.wk _) (quarantine_Valid_ok   e1) ?_
  rintro _ _ ⟨rfl, rfl⟩
  refine RgOK.s (v := VB ((!x1))) rfl rfl rfl (e_un (ev_t rfl) rfl) ?_
  refine RgOK.nil ?_
  show CdOK _ _ _ _ _ _
  refine CdOK.condB (ev_t rfl) ?_ ?_
  · intro c2; replace hm := hm.ifp c2
    refine CdOK.seq ?_
    refine CdOK.region ?_
    refine RgOK.s (v := VI (0)) rfl rfl rfl (e_as rfl) ?_
    refine RgOK.nil ?_
    show CdOK _ _ _ _ _ _
    refine CdOK.ret ?_
    refine ⟨.inr rfl, _, rfl, h, [⟨[I (r_.pages), I (r_.spares), .L 2 (r_.places.map Place.cs), .L 1 (r_.bad.map cI)], true, true⟩], _, rfl, rfl, hC, ((renFlV rfl) : RenV _ _ _ _ (VI (0))), ?_⟩
    have hr := hm.ret
    subst hr
    exact ⟨rfl, rfl⟩
  · intro c3; replace hm := hm.ifn c3
    refine CdOK.skip ?_
    show CdOK _ _ _ _ _ _
    refine CdOK.seq ?_
    refine CdOK.region ?_
    refine RgOK.s (v := .o (.agg [I (r_.pages), I (r_.spares), .L 2 (r_.places.map Place.cs), .L 1 (r_.bad.map cI)])) rfl rfl rfl (e_ldbA (ev_t rfl) ty29 (bx rfl rfl) rfl rfl) ?_
    obtain ⟨x4, e4, hm⟩ := hm.call
    refine RgOK.cl rfl rfl rfl rfl pl86 (R2.wk _) (quarantine_free_ok   e4) ?_
    rintro _ _ ⟨rfl, rfl⟩
    refine RgOK.s (v := VI ((x4.length : Int))) rfl rfl rfl (e_lenM (ev_t rfl) is27) ?_
    refine RgOK.s (v := VI ((x4.length : Int))) rfl rfl rfl (e_as (ev_t rfl)) ?_
    refine RgOK.nil ?_
    show CdOK _ _ _ _ _ _
    refine CdOK.ret ?_
    refine ⟨.inr rfl, _, rfl, h, [⟨[I (r_.pages), I (r_.spares), .L 2 (r_.places.map Place.cs), .L 1 (r_.bad.map cI)], true, true⟩], _, rfl, rfl, hC, ((renFlV rfl) : RenV _ _ _ _ (VI ((x4.length : Int)))), ?_⟩
    have hr := hm.ret
    subst hr
    exact ⟨rfl, rfl⟩
/- pagemend/quarantine.New -/
def quarantine_New (pages : Int) (spares : Int) : Option (Remap × Int) := ((quarantine_Valid (⟨pages, spares, ([] : List Place), ([] : List Int)⟩ : Remap)).bind fun (x1 : Bool) => (if (!x1) = true then some ((⟨0, 0, ([] : List Place), ([] : List Int)⟩ : Remap), 1) else some ((⟨pages, spares, ([] : List Place), ([] : List Int)⟩ : Remap), 0)))
theorem quarantine_New.eq (pages : Int) (spares : Int) : quarantine_New pages spares = ((quarantine_Valid (⟨pages, spares, ([] : List Place), ([] : List Int)⟩ : Remap)).bind fun (x1 : Bool) => (if (!x1) = true then some ((⟨0, 0, ([] : List Place), ([] : List Int)⟩ : Remap), 1) else some ((⟨pages, spares, ([] : List Place), ([] : List Int)⟩ : Remap), 0))) := rfl
theorem quarantine_New_ok {h : Heap} {pages : Int} {spares : Int}  {r : (Remap × Int)} (hm : quarantine_New pages spares = some r) : FnOK Try.prog 18 [VI (pages), VI (spares)] h (fun v h' => v = .tup [.agg [I (r.1.pages), I (r.1.spares), .L 2 (r.1.places.map Place.cs), .L 1 (r.1.bad.map cI)], .c (I (r.2))] ∧ h' = h) := by
  refine FnOK.fin ?_
  refine FnOK.bodyC (N := 15) Try.func18 rfl rfl rfl (fun hC => ?_)
  replace hm := Ev.of hm
  rw [quarantine_New.eq] at hm
  show CdOK _ _ _ (look _ [(0, VI (pages)), (1, VI (spares))]) (h ++ ([] : Heap)) _
  refine CdOK.seq ?_
  refine CdOK.region ?_
  refine RgOK.s (v := .o (.c (.ptr (h.length + 0) 0))) rfl rfl rfl (e_allocN (L' := [⟨[I (0), I (0), .v (.slice none 0 0), .v (.slice none 0 0)], true, true⟩]) rfl zo29 rfl rfl) ?_
  refine RgOK.s (v := VI (0)) rfl rfl rfl (e_as rfl) ?_
  refine RgOK.nil ?_
  show CdOK _ _ _ _ _ _
  refine CdOK.seq ?_
  refine CdOK.region ?_
  refine RgOK.s (v := VI (pages)) rfl rfl rfl (e_mv (ev_t rfl)) ?_
  refine RgOK.s (v := VI (spares)) rfl rfl rfl (e_mv (ev_t rfl)) ?_
  refine RgOK.s (v := .o (.agg [I (pages), I (spares), .v (.slice none 0 0), .v (.slice none 0 0)])) rfl rfl rfl (e_bld (cs := [I (pages), I (spares), .v (.slice none 0 0), .v (.slice none 0 0)]) zo29 bl29 rfl rfl) ?_
  refine RgOK.s (v := .o (.c (.ptr (h.length + 1) 0))) rfl rfl rfl (e_allocN (L' := [⟨[I (0), I (0), .v (.slice none 0 0), .v (.slice none 0 0)], true, true⟩, ⟨[I (0), I (0), .v (.slice none 0 0), .v (.slice none 0 0)], true, true⟩]) rfl zo29 rfl rfl) ?_
  refine RgOK.s0 rfl rfl (e_stN (L' := [⟨[I (0), I (0), .v (.slice none 0 0), .v (.slice none 0 0)], true, true⟩, ⟨[I (pages), I (spares), .v (.slice none 0 0), .v (.slice none 0 0)], true, true⟩]) rfl (ev_t rfl) (ev_t rfl) ty29 rfl rfl rfl rfl rfl) ?_
  refine RgOK.nil ?_
  show CdOK _ _ _ _ _ _
  refine CdOK.seq ?_
  refine CdOK.seq ?_
  refine CdOK.region ?_
  refine RgOK.s (v := .o (.agg [I (pages), I (spares), .v (.slice none 0 0), .v (.slice none 0 0)])) rfl rfl rfl (e_ldbA (ev_t rfl) ty29 (bx rfl rfl) rfl rfl) ?_
  obtain ⟨x1, e1, hm⟩ := hm.call
  refine RgOK.cl rfl rfl rfl rfl pl22 (R2.of (.agg (R2.of (.refl _) (R2.of (.refl _) (R2.of (.nlL _) (R2.of (.nlL _) (R2.nil _)))))) (R2.nil _)) (quarantine_Valid_ok   e1) ?_
  rintro _ _ ⟨rfl, rfl⟩
  refine RgOK.s (v := VB ((!x1))) rfl rfl rfl (e_un (ev_t rfl) rfl) ?_
  refine RgOK.nil ?_
  show CdOK _ _ _ _ _ _
  refine CdOK.condB (ev_t rfl) ?_ ?_
  · intro c2; replace hm := hm.ifp c2
    refine CdOK.seq ?_
    refine CdOK.region ?_
    refine RgOK.s (v := .o (.agg [I (0), I (0), .v (.slice none 0 0), .v (.slice none 0 0)])) rfl rfl rfl (e_bld (cs := [I (0), I (0), .v (.slice none 0 0), .v (.slice none 0 0)]) zo29 bl29 rfl rfl) ?_
    refine RgOK.s0 rfl rfl (e_stN (L' := [⟨[I (0), I (0), .v (.slice none 0 0), .v (.slice none 0 0)], true, true⟩, ⟨[I (pages), I (spares), .v (.slice none 0 0), .v (.slice none 0 0)], true, true⟩]) rfl (ev_t rfl) (ev_t rfl) ty29 rfl rfl rfl rfl rfl) ?_
    refine RgOK.s (v := VI (1)) rfl rfl rfl (e_as rfl) ?_
    refine RgOK.nil ?_
    show CdOK _ _ _ _ _ _
    refine CdOK.ret ?_
    refine ⟨.inr rfl, _, (resA_c (look_find rfl) (eLoad_A ty29 (bx rfl rfl) rfl rfl rfl) (resA_t (look_find rfl) resA_n)), h, [⟨[I (0), I (0), .v (.slice none 0 0), .v (.slice none 0 0)], true, true⟩, ⟨[I (pages), I (spares), .v (.slice none 0 0), .v (.slice none 0 0)], true, true⟩], _, rfl, rfl, hC, ((.tup (R2.of (.agg (R2.of (.fl _ rfl) (R2.of (.fl _ rfl) (R2.of (.wk (.fl _ rfl) (.nlL _)) (R2.of (.wk (.fl _ rfl) (.nlL _)) (R2.nil _)))))) (R2.of (.c (.fl _ rfl)) (R2.nil _)))) : RenV _ _ _ _ (.tup [.agg [I (0), I (0), .L 2 (([] : List Place).map Place.cs), .L 1 (([] : List Int).map cI)], .c (I (1))])), ?_⟩
    have hr := hm.ret
    subst hr
    exact ⟨rfl, rfl⟩
  · intro c3; replace hm := hm.ifn c3
    refine CdOK.skip ?_
    show CdOK _ _ _ _ _ _
    refine CdOK.seq ?_
    refine CdOK.region ?_
    refine RgOK.s (v := .o (.agg [I (pages), I (spares), .v (.slice none 0 0), .v (.slice none 0 0)])) rfl rfl rfl (e_ldbA (ev_t rfl) ty29 (bx rfl rfl) rfl rfl) ?_
    refine RgOK.s0 rfl rfl (e_stN (L' := [⟨[I (pages), I (spares), .v (.slice none 0 0), .v (.slice none 0 0)], true, true⟩, ⟨[I (pages), I (spares), .v (.slice none 0 0), .v (.slice none 0 0)], true, true⟩]) rfl (ev_t rfl) (ev_t rfl) ty29 rfl rfl rfl rfl rfl) ?_
    refine RgOK.s (v := VI (0)) rfl rfl rfl (e_as rfl) ?_
    refine RgOK.nil ?_
    show CdOK _ _ _ _ _ _
    refine CdOK.ret ?_
    refine ⟨.inr rfl, _, (resA_c (look_find rfl) (eLoad_A ty29 (bx rfl rfl) rfl rfl rfl) (resA_t (look_find rfl) resA_n)), h, [⟨[I (pages), I (spares), .v (.slice none 0 0), .v (.slice none 0 0)], true, true⟩, ⟨[I (pages), I (spares), .v (.slice none 0 0), .v (.slice none 0 0)], true, true⟩], _, rfl, rfl, hC, ((.tup (R2.of (.agg (R2.of (.fl _ rfl) (R2.of (.fl _ rfl) (R2.of (.wk (.fl _ rfl) (.nlL _)) (R2.of (.wk (.fl _ rfl) (.nlL _)) (R2.nil _)))))) (R2.of (.c (.fl _ rfl)) (R2.nil _)))) : RenV _ _ _ _ (.tup [.agg [I (pages), I (spares), .L 2 (([] : List Place).map Place.cs), .L 1 (([] : List Int).map cI)], .c (I (0))])), ?_⟩
    have hr := hm.ret
    subst hr
    exact ⟨rfl, rfl⟩
/- pagemend/quarantine.Mark -/
def quarantine_Mark (r_ : Remap) (address : Int) : Option (Remap × Int × Int) := ((quarantine_Valid r_).bind fun (x1 : Bool) => (if (!x1) = true then some ((⟨0, 0, ([] : List Place), ([] : List Int)⟩ : Remap), 0, 48) else (if address < 0 then some ((⟨0, 0, ([] : List Place), ([] : List Int)⟩ : Remap), 0, 1) else (if (w64 (r_.pages + r_.spares)) ≤ address then some ((⟨0, 0, ([] : List Place), ([] : List Int)⟩ : Remap), 0, 1) else ((quarantine_bad r_ address).bind fun (x8 : Bool) => (if x8 = true then some (r_, (-1), 0) else ((quarantine_Owner r_ address).bind fun (x11 : (Int × Bool)) => ((BinarySearch r_.bad address).bind fun (x12 : (Int × Bool)) => (if r_.bad.length ≤ 17592186044416 then (if ((0 : Int) ≤ x12.1 ∧ x12.1 ≤ (r_.bad.length : Int)) ∧ r_.bad.length ≤ 1000000 then (if (!x11.2) = true then some ((⟨r_.pages, r_.spares, r_.places, (insL r_.bad (Int.toNat x12.1) address)⟩ : Remap), (-1), 0) else ((quarantine_free r_).bind fun (x18 : (List Int)) => (if (x18.length : Int) = 0 then some ((⟨0, 0, ([] : List Place), ([] : List Int)⟩ : Remap), 0, 47) else ((quarantine_place r_ x11.1).bind fun (x21 : (Int × Bool)) => (if r_.places.length ≤ 8796093022208 then (((if (!x21.2) = true then (if ((0 : Int) ≤ x21.1 ∧ x21.1 ≤ (r_.places.length : Int)) ∧ r_.places.length ≤ 1000000 then some (⟨r_.pages, r_.spares, (insL r_.places (Int.toNat x21.1) (⟨0, 0⟩ : Place)), (insL r_.bad (Int.toNat x12.1) address)⟩ : Remap) else none) else some (⟨r_.pages, r_.spares, r_.places, (insL r_.bad (Int.toNat x12.1) address)⟩ : Remap))).bind fun (s28 : Remap) => (if 0 < s28.places.length then (if (0 : Int) ≤ 0 ∧ 0 < (x18.length : Int) then (if (0 : Int) ≤ x21.1 ∧ x21.1 < (s28.places.length : Int) then (if (0 : Int) ≤ x21.1 ∧ x21.1 < (s28.places.length : Int) then some ((⟨s28.pages, s28.spares, (s28.places.set (Int.toNat x21.1) (⟨x11.1, (gd x18 0)⟩ : Place)), s28.bad⟩ : Remap), x11.1, 0) else none) else none) else none) else none)) else none))))) else none) else none)))))))))
theorem quarantine_Mark.eq (r_ : Remap) (address : Int) : quarantine_Mark r_ address = ((quarantine_Valid r_).bind fun (x1 : Bool) => (if (!x1) = true then some ((⟨0, 0, ([] : List Place), ([] : List Int)⟩ : Remap), 0, 48) else (if address < 0 then some ((⟨0, 0, ([] : List Place), ([] : List Int)⟩ : Remap), 0, 1) else (if (w64 (r_.pages + r_.spares)) ≤ address then some ((⟨0, 0, ([] : List Place), ([] : List Int)⟩ : Remap), 0, 1) else ((quarantine_bad r_ address).bind fun (x8 : Bool) => (if x8 = true then some (r_, (-1), 0) else ((quarantine_Owner r_ address).bind fun (x11 : (Int × Bool)) => ((BinarySearch r_.bad address).bind fun (x12 : (Int × Bool)) => (if r_.bad.length ≤ 17592186044416 then (if ((0 : Int) ≤ x12.1 ∧ x12.1 ≤ (r_.bad.length : Int)) ∧ r_.bad.length ≤ 1000000 then (if (!x11.2) = true then some ((⟨r_.pages, r_.spares, r_.places, (insL r_.bad (Int.toNat x12.1) address)⟩ : Remap), (-1), 0) else ((quarantine_free r_).bind fun (x18 : (List Int)) => (if (x18.length : Int) = 0 then some ((⟨0, 0, ([] : List Place), ([] : List Int)⟩ : Remap), 0, 47) else ((quarantine_place r_ x11.1).bind fun (x21 : (Int × Bool)) => (if r_.places.length ≤ 8796093022208 then (((if (!x21.2) = true then (if ((0 : Int) ≤ x21.1 ∧ x21.1 ≤ (r_.places.length : Int)) ∧ r_.places.length ≤ 1000000 then some (⟨r_.pages, r_.spares, (insL r_.places (Int.toNat x21.1) (⟨0, 0⟩ : Place)), (insL r_.bad (Int.toNat x12.1) address)⟩ : Remap) else none) else some (⟨r_.pages, r_.spares, r_.places, (insL r_.bad (Int.toNat x12.1) address)⟩ : Remap))).bind fun (s28 : Remap) => (if 0 < s28.places.length then (if (0 : Int) ≤ 0 ∧ 0 < (x18.length : Int) then (if (0 : Int) ≤ x21.1 ∧ x21.1 < (s28.places.length : Int) then (if (0 : Int) ≤ x21.1 ∧ x21.1 < (s28.places.length : Int) then some ((⟨s28.pages, s28.spares, (s28.places.set (Int.toNat x21.1) (⟨x11.1, (gd x18 0)⟩ : Place)), s28.bad⟩ : Remap), x11.1, 0) else none) else none) else none) else none)) else none))))) else none) else none))))))))) := rfl
theorem quarantine_Mark_ok {h : Heap} {r_ : Remap} {address : Int}  {r : (Remap × Int × Int)} (hm : quarantine_Mark r_ address = some r) : FnOK Try.prog 30 [.o (.agg [I (r_.pages), I (r_.spares), .L 2 (r_.places.map Place.cs), .L 1 (r_.bad.map cI)]), VI (address)] h (fun v h' => v = .tup [.agg [I (r.1.pages), I (r.1.spares), .L 2 (r.1.places.map Place.cs), .L 1 (r.1.bad.map cI)], .c (I (r.2.1)), .c (I (r.2.2))] ∧ h' = h) := by
  refine FnOK.fin ?_
  refine FnOK.bodyC (N := 99) Try.func30 rfl rfl rfl (fun hC => ?_)
  replace hm := Ev.of hm
  rw [quarantine_Mark.eq] at hm
  show CdOK _ _ _ (look _ [(0, .o (.agg [I (r_.pages), I (r_.spares), .L 2 (r_.places.map Place.cs), .L 1 (r_.bad.map cI)])), (1, VI (address))]) (h ++ ([] : Heap)) _
  refine CdOK.seq ?_
  refine CdOK.region ?_
  refine RgOK.s (v := .o (.c (.ptr (h.length + 0) 0))) rfl rfl rfl (e_boxN (L' := [⟨[I (r_.pages), I (r_.spares), .L 2 (r_.places.map Place.cs), .L 1 (r_.bad.map cI)], true, true⟩]) rfl (ev_t rfl) rfl rfl) ?_
  refine RgOK.s (v := .o (.c (.ptr (h.length + 1) 0))) rfl rfl rfl (e_allocN (L' := [⟨[I (r_.pages), I (r_.spares), .L 2 (r_.places.map Place.cs), .L 1 (r_.bad.map cI)], true, true⟩, ⟨[I (0), I (0), .v (.slice none 0 0), .v (.slice none 0 0)], true, true⟩]) rfl zo29 rfl rfl) ?_
  refine RgOK.s (v := VI (0)) rfl rfl rfl (e_as rfl) ?_
  refine RgOK.s (v := VI (0)) rfl rfl rfl (e_as rfl) ?_
  refine RgOK.nil ?_
  show CdOK _ _ _ _ _ _
  refine CdOK.seq ?_
  refine CdOK.block ?_
  refine CdOK.seq ?_
  refine CdOK.region ?_
  refine RgOK.s (v := .o (.agg [I (r_.pages), I (r_.spares), .L 2 (r_.places.map Place.cs), .L 1 (r_.bad.map cI)])) rfl rfl rfl (e_ldbA (ev_t rfl) ty29 (bx rfl rfl) rfl rfl) ?_
  obtain ⟨x1, e1, hm⟩ := hm.call
  refine RgOK.cl rfl rfl rfl rfl pl22 (R2.wk _) (quarantine_Valid_ok   e1) ?_
  rintro _ _ ⟨rfl, rfl⟩
  refine RgOK.s (v := VB ((!x1))) rfl rfl rfl (e_un (ev_t rfl) rfl) ?_
  refine RgOK.s (v := VB ((!x1))) rfl rfl rfl (e_as (ev_t rfl)) ?_
  refine RgOK.nil ?_
  show CdOK _ _ _ _ _ _
  refine CdOK.condB (ev_t rfl) ?_ ?_
  · intro c2; replace hm := hm.ifp c2
    refine CdOK.seq ?_
    refine CdOK.region ?_
    refine RgOK.s (v := .o (.agg [I (0), I (0), .v (.slice none 0 0), .v (.slice none 0 0)])) rfl rfl rfl (e_bld (cs := [I (0), I (0), .v (.slice none 0 0), .v (.slice none 0 0)]) zo29 bl29 rfl rfl) ?_
    refine RgOK.s0 rfl rfl (e_stN (L' := [⟨[I (r_.pages), I (r_.spares), .L 2 (r_.places.map Place.cs), .L 1 (r_.bad.map cI)], true, true⟩, ⟨[I (0), I (0), .v (.slice none 0 0), .v (.slice none 0 0)], true, true⟩]) rfl (ev_t rfl) (ev_t rfl) ty29 rfl rfl rfl rfl rfl) ?_
    refine RgOK.s (v := VI (0)) rfl rfl rfl (e_as rfl) ?_
    refine RgOK.s (v := VI (48)) rfl rfl rfl (e_as rfl) ?_
    refine RgOK.nil ?_
    show CdOK _ _ _ _ _ _
    refine CdOK.ret ?_
    refine ⟨.inr rfl, _, (resA_c (look_find rfl) (eLoad_A ty29 (bx rfl rfl) rfl rfl rfl) (resA_t (look_find rfl) (resA_t (look_find rfl) resA_n))), h, [⟨[I (r_.pages), I (r_.spares), .L 2 (r_.places.map Place.cs), .L 1 (r_.bad.map cI)], true, true⟩, ⟨[I (0), I (0), .v (.slice none 0 0), .v (.slice none 0 0)], true, true⟩], _, rfl, rfl, hC, ((.tup (R2.of (.agg (R2.of (.fl _ rfl) (R2.of (.fl _ rfl) (R2.of (.wk (.fl _ rfl) (.nlL _)) (R2.of (.wk (.fl _ rfl) (.nlL _)) (R2.nil _)))))) (R2.of (.c (.fl _ rfl)) (R2.of (.c (.fl _ rfl)) (R2.nil _))))) : RenV _ _ _ _ (.tup [.agg [I (0), I (0), .L 2 (([] : List Place).map Place.cs), .L 1 (([] : List Int).map cI)], .c (I (0)), .c (I (48))])), ?_⟩
    have hr := hm.ret
    subst hr
    exact ⟨rfl, rfl⟩
  · intro c3; replace hm := hm.ifn c3
    refine CdOK.seq ?_
    refine CdOK.region ?_
    refine RgOK.s (v := VI (address)) rfl rfl rfl (e_mv (ev_t rfl)) ?_
    refine RgOK.sd rfl rfl rfl (e_bin (ev_t rfl) rfl rfl rfl) ?_ ?_
    · intro c4; replace hm := hm.ifp c4
      refine RgOK.s (v := VB (true)) rfl rfl rfl (e_mv (ev_t rfl)) ?_
      refine RgOK.sk rfl rfl rfl ?_
      refine RgOK.sk rfl rfl rfl ?_
      refine RgOK.sk rfl rfl rfl ?_
      refine RgOK.sk rfl rfl rfl ?_
      refine RgOK.sk rfl rfl rfl ?_
      refine RgOK.sk rfl rfl rfl ?_
      refine RgOK.sk rfl rfl rfl ?_
      refine RgOK.s (v := VB (true)) rfl rfl rfl (e_pick (t := true) (ev_t rfl) rfl) ?_
      refine RgOK.s (v := VB (true)) rfl rfl rfl (e_as (ev_t rfl)) ?_
      refine RgOK.nil ?_
      show CdOK _ _ _ _ _ _
      refine CdOK.cond_true rfl ?_
      refine CdOK.seq ?_
      refine CdOK.region ?_
      refine RgOK.s (v := .o (.agg [I (0), I (0), .v (.slice none 0 0), .v (.slice none 0 0)])) rfl rfl rfl (e_bld (cs := [I (0), I (0), .v (.slice none 0 0), .v (.slice none 0 0)]) zo29 bl29 rfl rfl) ?_
      refine RgOK.s0 rfl rfl (e_stN (L' := [⟨[I (r_.pages), I (r_.spares), .L 2 (r_.places.map Place.cs), .L 1 (r_.bad.map cI)], true, true⟩, ⟨[I (0), I (0), .v (.slice none 0 0), .v (.slice none 0 0)], true, true⟩]) rfl (ev_t rfl) (ev_t rfl) ty29 rfl rfl rfl rfl rfl) ?_
      refine RgOK.s (v := VI (0)) rfl rfl rfl (e_as rfl) ?_
      refine RgOK.s (v := VI (1)) rfl rfl rfl (e_as rfl) ?_
      refine RgOK.nil ?_
      show CdOK _ _ _ _ _ _
      refine CdOK.ret ?_
      refine ⟨.inr rfl, _, (resA_c (look_find rfl) (eLoad_A ty29 (bx rfl rfl) rfl rfl rfl) (resA_t (look_find rfl) (resA_t (look_find rfl) resA_n))), h, [⟨[I (r_.pages), I (r_.spares), .L 2 (r_.places.map Place.cs), .L 1 (r_.bad.map cI)], true, true⟩, ⟨[I (0), I (0), .v (.slice none 0 0), .v (.slice none 0 0)], true, true⟩], _, rfl, rfl, hC, ((.tup (R2.of (.agg (R2.of (.fl _ rfl) (R2.of (.fl _ rfl) (R2.of (.wk (.fl _ rfl) (.nlL _)) (R2.of (.wk (.fl _ rfl) (.nlL _)) (R2.nil _)))))) (R2.of (.c (.fl _ rfl)) (R2.of (.c (.fl _ rfl)) (R2.nil _))))) : RenV _ _ _ _ (.tup [.agg [I (0), I (0), .L 2 (([] : List Place).map Place.cs), .L 1 (([] : List Int).map cI)], .c (I (0)), .c (I (1))])), ?_⟩
      have hr := hm.ret
      subst hr
      exact ⟨rfl, rfl⟩
    · intro c5; replace hm := hm.ifn c5
      refine RgOK.s (v := VB (false)) rfl rfl rfl (e_mv (ev_t rfl)) ?_
      refine RgOK.s (v := VI (address)) rfl rfl rfl (e_mv (ev_t rfl)) ?_
      refine RgOK.s (v := .o (.c (.ptr (h.length + 0) 0))) rfl rfl rfl (e_fa' fa29_0 (ev_t rfl)) ?_
      refine RgOK.s (v := VI (r_.pages)) rfl rfl rfl (e_ldb1 (ev_t rfl) ty3 (bx rfl rfl) rfl) ?_
      refine RgOK.s (v := .o (.c (.ptr (h.length + 0) 1))) rfl rfl rfl (e_fa' fa29_1 (ev_t rfl)) ?_
      refine RgOK.s (v := VI (r_.spares)) rfl rfl rfl (e_ldb1 (ev_t rfl) ty3 (bx rfl rfl) rfl) ?_
      refine RgOK.s (v := VI ((w64 (r_.pages + r_.spares)))) rfl rfl rfl (e_bin (ev_t rfl) (ev_t rfl) rfl rfl) ?_
      refine RgOK.s (v := VB (decide ((w64 (r_.pages + r_.spares)) ≤ address))) rfl rfl rfl (e_bin (ev_t rfl) (ev_t rfl) rfl rfl) ?_
      refine RgOK.s (v := VB (decide ((w64 (r_.pages + r_.spares)) ≤ address))) rfl rfl rfl (e_pick (t := false) (ev_t rfl) (ev_t rfl)) ?_
      refine RgOK.s (v := VB (decide ((w64 (r_.pages + r_.spares)) ≤ address))) rfl rfl rfl (e_as (ev_t rfl)) ?_
      refine RgOK.nil ?_
      show CdOK _ _ _ _ _ _
      refine CdOK.condD (ev_t rfl) ?_ ?_
      · intro c6; replace hm := hm.ifp c6
        refine CdOK.seq ?_
        refine CdOK.region ?_
        refine RgOK.s (v := .o (.agg [I (0), I (0), .v (.slice none 0 0), .v (.slice none 0 0)])) rfl rfl rfl (e_bld (cs := [I (0), I (0), .v (.slice none 0 0), .v (.slice none 0 0)]) zo29 bl29 rfl rfl) ?_
        refine RgOK.s0 rfl rfl (e_stN (L' := [⟨[I (r_.pages), I (r_.spares), .L 2 (r_.places.map Place.cs), .L 1 (r_.bad.map cI)], true, true⟩, ⟨[I (0), I (0), .v (.slice none 0 0), .v (.slice none 0 0)], true, true⟩]) rfl (ev_t rfl) (ev_t rfl) ty29 rfl rfl rfl rfl rfl) ?_
        refine RgOK.s (v := VI (0)) rfl rfl rfl (e_as rfl) ?_
        refine RgOK.s (v := VI (1)) rfl rfl rfl (e_as rfl) ?_
        refine RgOK.nil ?_
        show CdOK _ _ _ _ _ _
        refine CdOK.ret ?_
        refine ⟨.inr rfl, _, (resA_c (look_find rfl) (eLoad_A ty29 (bx rfl rfl) rfl rfl rfl) (resA_t (look_find rfl) (resA_t (look_find rfl) resA_n))), h, [⟨[I (r_.pages), I (r_.spares), .L 2 (r_.places.map Place.cs), .L 1 (r_.bad.map cI)], true, true⟩, ⟨[I (0), I (0), .v (.slice none 0 0), .v (.slice none 0 0)], true, true⟩], _, rfl, rfl, hC, ((.tup (R2.of (.agg (R2.of (.fl _ rfl) (R2.of (.fl _ rfl) (R2.of (.wk (.fl _ rfl) (.nlL _)) (R2.of (.wk (.fl _ rfl) (.nlL _)) (R2.nil _)))))) (R2.of (.c (.fl _ rfl)) (R2.of (.c (.fl _ rfl)) (R2.nil _))))) : RenV _ _ _ _ (.tup [.agg [I (0), I (0), .L 2 (([] : List Place).map Place.cs), .L 1 (([] : List Int).map cI)], .c (I (0)), .c (I (1))])), ?_⟩
        have hr := hm.ret
        subst hr
        exact ⟨rfl, rfl⟩
      · intro c7; replace hm := hm.ifn c7
        refine CdOK.seq ?_
        refine CdOK.region ?_
        refine RgOK.s (v := .o (.agg [I (r_.pages), I (r_.spares), .L 2 (r_.places.map Place.cs), .L 1 (r_.bad.map cI)])) rfl rfl rfl (e_ldbA (ev_t rfl) ty29 (bx rfl rfl) rfl rfl) ?_
        refine RgOK.s (v := VI (address)) rfl rfl rfl (e_mv (ev_t rfl)) ?_
        obtain ⟨x8, e8, hm⟩ := hm.call
        refine RgOK.cl rfl rfl rfl rfl pl84 (R2.wk _) (quarantine_bad_ok   e8) ?_
        rintro _ _ ⟨rfl, rfl⟩
        refine RgOK.s (v := VB (x8)) rfl rfl rfl (e_as (ev_t rfl)) ?_
        refine RgOK.nil ?_
        show CdOK _ _ _ _ _ _
        refine CdOK.condB (ev_t rfl) ?_ ?_
        · intro c9; replace hm := hm.ifp c9
          refine CdOK.seq ?_
          refine CdOK.region ?_
          refine RgOK.s (v := .o (.agg [I (r_.pages), I (r_.spares), .L 2 (r_.places.map Place.cs), .L 1 (r_.bad.map cI)])) rfl rfl rfl (e_ldbA (ev_t rfl) ty29 (bx rfl rfl) rfl rfl) ?_
          refine RgOK.s0 rfl rfl (e_stN (L' := [⟨[I (r_.pages), I (r_.spares), .L 2 (r_.places.map Place.cs), .L 1 (r_.bad.map cI)], true, true⟩, ⟨[I (r_.pages), I (r_.spares), .L 2 (r_.places.map Place.cs), .L 1 (r_.bad.map cI)], true, true⟩]) rfl (ev_t rfl) (ev_t rfl) ty29 rfl rfl rfl rfl rfl) ?_
          refine RgOK.s (v := VI ((-1))) rfl rfl rfl (e_as rfl) ?_
          refine RgOK.s (v := VI (0)) rfl rfl rfl (e_as rfl) ?_
          refine RgOK.nil ?_
          show CdOK _ _ _ _ _ _
          refine CdOK.ret ?_
          refine ⟨.inr rfl, _, (resA_c (look_find rfl) (eLoad_A ty29 (bx rfl rfl) rfl rfl rfl) (resA_t (look_find rfl) (resA_t (look_find rfl) resA_n))), h, [⟨[I (r_.pages), I (r_.spares), .L 2 (r_.places.map Place.cs), .L 1 (r_.bad.map cI)], true, true⟩, ⟨[I (r_.pages), I (r_.spares), .L 2 (r_.places.map Place.cs), .L 1 (r_.bad.map cI)], true, true⟩], _, rfl, rfl, hC, ((renFlV rfl) : RenV _ _ _ _ (.tup [.agg [I (r_.pages), I (r_.spares), .L 2 (r_.places.map Place.cs), .L 1 (r_.bad.map cI)], .c (I ((-1))), .c (I (0))])), ?_⟩
          have hr := hm.ret
          subst hr
          exact ⟨rfl, rfl⟩
        · intro c10; replace hm := hm.ifn c10
          refine CdOK.skip ?_
          show CdOK _ _ _ _ _ _
          refine CdOK.seq ?_
          refine CdOK.region ?_
          refine RgOK.s (v := .o (.agg [I (r_.pages), I (r_.spares), .L 2 (r_.places.map Place.cs), .L 1 (r_.bad.map cI)])) rfl rfl rfl (e_ldbA (ev_t rfl) ty29 (bx rfl rfl) rfl rfl) ?_
          refine RgOK.s (v := VI (address)) rfl rfl rfl (e_mv (ev_t rfl)) ?_
          obtain ⟨x11, e11, hm⟩ := hm.call
          refine RgOK.cl rfl rfl rfl rfl pl28 (R2.wk _) (quarantine_Owner_ok   e11) ?_
          rintro _ _ ⟨rfl, rfl⟩
          refine RgOK.s (v := .tup [.c (I (x11.1)), .c (Bo (x11.2))]) rfl rfl rfl (e_mv (ev_t rfl)) ?_
          refine RgOK.s (v := VI (x11.1)) rfl rfl rfl (e_ext (ev_t rfl) rfl) ?_
          refine RgOK.s (v := VB (x11.2)) rfl rfl rfl (e_ext (ev_t rfl) rfl) ?_
          refine RgOK.s (v := VI (x11.1)) rfl rfl rfl (e_as (ev_t rfl)) ?_
          refine RgOK.s (v := VB (x11.2)) rfl rfl rfl (e_as (ev_t rfl)) ?_
          refine RgOK.nil ?_
          show CdOK _ _ _ _ _ _
          refine CdOK.seq ?_
          refine CdOK.region ?_
          refine RgOK.s (v := .o (.agg [I (r_.pages), I (r_.spares), .L 2 (r_.places.map Place.cs), .L 1 (r_.bad.map cI)])) rfl rfl rfl (e_ldbA (ev_t rfl) ty29 (bx rfl rfl) rfl rfl) ?_
          refine RgOK.s (v := .o (.c (.ptr (h.length + 2) 0))) rfl rfl rfl (e_allocN (L' := [⟨[I (r_.pages), I (r_.spares), .L 2 (r_.places.map Place.cs), .L 1 (r_.bad.map cI)], true, true⟩, ⟨[I (0), I (0), .v (.slice none 0 0), .v (.slice none 0 0)], true, true⟩, ⟨[I (0), I (0), .v (.slice none 0 0), .v (.slice none 0 0)], true, true⟩]) rfl zo29 rfl rfl) ?_
          refine RgOK.s0 rfl rfl (e_stN (L' := [⟨[I (r_.pages), I (r_.spares), .L 2 (r_.places.map Place.cs), .L 1 (r_.bad.map cI)], true, true⟩, ⟨[I (0), I (0), .v (.slice none 0 0), .v (.slice none 0 0)], true, true⟩, ⟨[I (r_.pages), I (r_.spares), .L 2 (r_.places.map Place.cs), .L 1 (r_.bad.map cI)], true, true⟩]) rfl (ev_t rfl) (ev_t rfl) ty29 rfl rfl rfl rfl rfl) ?_
          refine RgOK.nil ?_
          show CdOK _ _ _ _ _ _
          refine CdOK.seq ?_
          refine CdOK.region ?_
          refine RgOK.s (v := .o (.c (.ptr (h.length + 0) 3))) rfl rfl rfl (e_fa' fa29_3 (ev_t rfl)) ?_
          refine RgOK.s (v := .o (.c (.L 1 (r_.bad.map cI)))) rfl rfl rfl (e_ldb1 (ev_t rfl) ty27 (bx rfl rfl) rfl) ?_
          refine RgOK.s (v := VI (address)) rfl rfl rfl (e_mv (ev_t rfl)) ?_
          obtain ⟨x12, e12, hm⟩ := hm.call
          refine RgOK.cl rfl rfl rfl rfl pl91 (R2.wk _) (BinarySearch_ok   e12) ?_
          rintro _ _ ⟨rfl, rfl⟩
          refine RgOK.s (v := .tup [.c (I (x12.1)), .c (Bo (x12.2))]) rfl rfl rfl (e_mv (ev_t rfl)) ?_
          refine RgOK.s (v := VI (x12.1)) rfl rfl rfl (e_ext (ev_t rfl) rfl) ?_
          refine RgOK.s (v := VB (x12.2)) rfl rfl rfl (e_ext (ev_t rfl) rfl) ?_
          refine RgOK.s (v := VI (x12.1)) rfl rfl rfl (e_as (ev_t rfl)) ?_
          refine RgOK.s (v := VB (x12.2)) rfl rfl rfl (e_as (ev_t rfl)) ?_
          refine RgOK.nil ?_
          show CdOK _ _ _ _ _ _
          refine CdOK.seq ?_
          refine CdOK.region ?_
          refine RgOK.s (v := .o (.c (.ptr (h.length + 0) 3))) rfl rfl rfl (e_fa' fa29_3 (ev_t rfl)) ?_
          refine RgOK.s (v := .o (.c (.L 1 (r_.bad.map cI)))) rfl rfl rfl (e_ldb1 (ev_t rfl) ty27 (bx rfl rfl) rfl) ?_
          obtain ⟨c14, hm⟩ := hm.ifs
          refine RgOK.cl rfl rfl rfl rfl pl93 (R2.wk _) (cloneI_ok (A := (h.length + 3)) (l := r_.bad) (lenN rfl rfl) c14) ?_
          rintro _ _ ⟨lv13, rfl, rfl⟩
          rw [show (h ++ ([⟨[I (r_.pages), I (r_.spares), .L 2 (r_.places.map Place.cs), .L 1 (r_.bad.map cI)], true, true⟩, ⟨[I (0), I (0), .v (.slice none 0 0), .v (.slice none 0 0)], true, true⟩, ⟨[I (r_.pages), I (r_.spares), .L 2 (r_.places.map Place.cs), .L 1 (r_.bad.map cI)], true, true⟩] : Heap)) ++ [⟨(r_.bad.map cI).flatten, true, lv13⟩] = h ++ ([⟨[I (r_.pages), I (r_.spares), .L 2 (r_.places.map Place.cs), .L 1 (r_.bad.map cI)], true, true⟩, ⟨[I (0), I (0), .v (.slice none 0 0), .v (.slice none 0 0)], true, true⟩, ⟨[I (r_.pages), I (r_.spares), .L 2 (r_.places.map Place.cs), .L 1 (r_.bad.map cI)], true, true⟩, ⟨(r_.bad.map cI).flatten, true, lv13⟩] : Heap) from apnd rfl]
          refine RgOK.s (v := VI (x12.1)) rfl rfl rfl (e_mv (ev_t rfl)) ?_
          refine RgOK.s (v := VI (address)) rfl rfl rfl (e_mv (ev_t rfl)) ?_
          refine RgOK.s (v := .o (.c (.LC 1 (([address] : List Int).map cI)))) rfl rfl rfl (e_lit (cs := [I (address)]) (xs := ([address]).map cI) slt27 rfl rfl rfl rfl rfl) ?_
          obtain ⟨c15, hm⟩ := hm.ifs
          refine RgOK.cl rfl rfl rfl rfl pl92 (R2.wk _) (insI_ok (A := (h.length + 4)) (l := r_.bad) (x := address) (lenN rfl rfl) (bx rfl rfl) c15.1 c15.2) ?_
          rintro _ _ ⟨rfl, rfl⟩
          rw [show kill (h ++ ([⟨[I (r_.pages), I (r_.spares), .L 2 (r_.places.map Place.cs), .L 1 (r_.bad.map cI)], true, true⟩, ⟨[I (0), I (0), .v (.slice none 0 0), .v (.slice none 0 0)], true, true⟩, ⟨[I (r_.pages), I (r_.spares), .L 2 (r_.places.map Place.cs), .L 1 (r_.bad.map cI)], true, true⟩, ⟨(r_.bad.map cI).flatten, true, lv13⟩] : Heap)) (h.length + 3) ++ [⟨((insL r_.bad (Int.toNat x12.1) address).map cI).flatten, true, true⟩] = h ++ ([⟨[I (r_.pages), I (r_.spares), .L 2 (r_.places.map Place.cs), .L 1 (r_.bad.map cI)], true, true⟩, ⟨[I (0), I (0), .v (.slice none 0 0), .v (.slice none 0 0)], true, true⟩, ⟨[I (r_.pages), I (r_.spares), .L 2 (r_.places.map Place.cs), .L 1 (r_.bad.map cI)], true, true⟩, ⟨(r_.bad.map cI).flatten, true, false⟩, ⟨((insL r_.bad (Int.toNat x12.1) address).map cI).flatten, true, true⟩] : Heap) from apndK rfl rfl]
          refine RgOK.s (v := .o (.c (.ptr (h.length + 2) 3))) rfl rfl rfl (e_fa' fa29_3 (ev_t rfl)) ?_
          refine RgOK.s0 rfl rfl (e_stN (L' := [⟨[I (r_.pages), I (r_.spares), .L 2 (r_.places.map Place.cs), .L 1 (r_.bad.map cI)], true, true⟩, ⟨[I (0), I (0), .v (.slice none 0 0), .v (.slice none 0 0)], true, true⟩, ⟨[I (r_.pages), I (r_.spares), .L 2 (r_.places.map Place.cs), .g (h.length + 4) (((insL r_.bad (Int.toNat x12.1) address)).length) 1 true], true, true⟩, ⟨(r_.bad.map cI).flatten, true, false⟩, ⟨((insL r_.bad (Int.toNat x12.1) address).map cI).flatten, true, true⟩]) rfl (ev_t rfl) (ev_t rfl) ty27 rfl rfl rfl rfl rfl) ?_
          refine RgOK.nil ?_
          show CdOK _ _ _ _ _ _
          refine CdOK.seq ?_
          refine CdOK.seq ?_
          refine CdOK.region ?_
          refine RgOK.s (v := VB (x11.2)) rfl rfl rfl (e_mv (ev_t rfl)) ?_
          refine RgOK.s (v := VB ((!x11.2))) rfl rfl rfl (e_un (ev_t rfl) rfl) ?_
          refine RgOK.nil ?_
          show CdOK _ _ _ _ _ _
          refine CdOK.condB (ev_t rfl) ?_ ?_
          · intro c16; replace hm := hm.ifp c16
            refine CdOK.seq ?_
            refine CdOK.region ?_
            refine RgOK.s (v := .o (.agg [I (r_.pages), I (r_.spares), .L 2 (r_.places.map Place.cs), .g (h.length + 4) (((insL r_.bad (Int.toNat x12.1) address)).length) 1 true])) rfl rfl rfl (e_ldbA (ev_t rfl) ty29 (bx rfl rfl) rfl rfl) ?_
            refine RgOK.s0 rfl rfl (e_stN (L' := [⟨[I (r_.pages), I (r_.spares), .L 2 (r_.places.map Place.cs), .L 1 (r_.bad.map cI)], true, true⟩, ⟨[I (r_.pages), I (r_.spares), .L 2 (r_.places.map Place.cs), .g (h.length + 4) (((insL r_.bad (Int.toNat x12.1) address)).length) 1 true], true, true⟩, ⟨[I (r_.pages), I (r_.spares), .L 2 (r_.places.map Place.cs), .g (h.length + 4) (((insL r_.bad (Int.toNat x12.1) address)).length) 1 true], true, true⟩, ⟨(r_.bad.map cI).flatten, true, false⟩, ⟨((insL r_.bad (Int.toNat x12.1) address).map cI).flatten, true, true⟩]) rfl (ev_t rfl) (ev_t rfl) ty29 rfl rfl rfl rfl rfl) ?_
            refine RgOK.s (v := VI ((-1))) rfl rfl rfl (e_as rfl) ?_
            refine RgOK.s (v := VI (0)) rfl rfl rfl (e_as rfl) ?_
            refine RgOK.nil ?_
            show CdOK _ _ _ _ _ _
            refine CdOK.ret ?_
            refine ⟨.inr rfl, _, (resA_c (look_find rfl) (eLoad_A ty29 (bx rfl rfl) rfl rfl rfl) (resA_t (look_find rfl) (resA_t (look_find rfl) resA_n))), h, [⟨[I (r_.pages), I (r_.spares), .L 2 (r_.places.map Place.cs), .L 1 (r_.bad.map cI)], true, true⟩, ⟨[I (r_.pages), I (r_.spares), .L 2 (r_.places.map Place.cs), .g (h.length + 4) (((insL r_.bad (Int.toNat x12.1) address)).length) 1 true], true, true⟩, ⟨[I (r_.pages), I (r_.spares), .L 2 (r_.places.map Place.cs), .g (h.length + 4) (((insL r_.bad (Int.toNat x12.1) address)).length) 1 true], true, true⟩, ⟨(r_.bad.map cI).flatten, true, false⟩, ⟨((insL r_.bad (Int.toNat x12.1) address).map cI).flatten, true, true⟩], _, rfl, rfl, hC, ((.tup (R2.of (.agg (R2.of (.fl _ rfl) (R2.of (.fl _ rfl) (R2.of (.fl _ rfl) (R2.of (.fzg 4 _ 1 _ ((insL r_.bad (Int.toNat x12.1) address).map cI) rfl (by decide) (by first | exact List.length_map .. | simp) (lens_all (by intro x; rfl)) (vl_all (by intro x; rfl))) (R2.nil _)))))) (R2.of (.c (.fl _ rfl)) (R2.of (.c (.fl _ rfl)) (R2.nil _))))) : RenV _ _ _ _ (.tup [.agg [I (r_.pages), I (r_.spares), .L 2 (r_.places.map Place.cs), .L 1 ((insL r_.bad (Int.toNat x12.1) address).map cI)], .c (I ((-1))), .c (I (0))])), ?_⟩
            have hr := hm.ret
            subst hr
            exact ⟨rfl, rfl⟩
          · intro c17; replace hm := hm.ifn c17
            refine CdOK.skip ?_
            show CdOK _ _ _ _ _ _
            refine CdOK.seq ?_
            refine CdOK.region ?_
            refine RgOK.s (v := .o (.agg [I (r_.pages), I (r_.spares), .L 2 (r_.places.map Place.cs), .L 1 (r_.bad.map cI)])) rfl rfl rfl (e_ldbA (ev_t rfl) ty29 (bx rfl rfl) rfl rfl) ?_
            obtain ⟨x18, e18, hm⟩ := hm.call
            refine RgOK.cl rfl rfl rfl rfl pl86 (R2.wk _) (quarantine_free_ok   e18) ?_
            rintro _ _ ⟨rfl, rfl⟩
            refine RgOK.s (v := .o (.c (.L 1 (x18.map cI)))) rfl rfl rfl (e_as (ev_t rfl)) ?_
            refine RgOK.nil ?_
            show CdOK _ _ _ _ _ _
            refine CdOK.seq ?_
            refine CdOK.seq ?_
            refine CdOK.region ?_
            refine RgOK.s (v := .o (.c (.L 1 (x18.map cI)))) rfl rfl rfl (e_mv (ev_t rfl)) ?_
            refine RgOK.s (v := VI ((x18.length : Int))) rfl rfl rfl (e_lenM (ev_t rfl) is27) ?_
            refine RgOK.s (v := VB (decide ((x18.length : Int) = 0))) rfl rfl rfl (e_eqK (ev_t rfl) rfl) ?_
            refine RgOK.nil ?_
            show CdOK _ _ _ _ _ _
            refine CdOK.condD (ev_t rfl) ?_ ?_
            · intro c19; replace hm := hm.ifp c19
              refine CdOK.seq ?_
              refine CdOK.region ?_
              refine RgOK.s (v := .o (.agg [I (0), I (0), .v (.slice none 0 0), .v (.slice none 0 0)])) rfl rfl rfl (e_bld (cs := [I (0), I (0), .v (.slice none 0 0), .v (.slice none 0 0)]) zo29 bl29 rfl rfl) ?_
              refine RgOK.s0 rfl rfl (e_stN (L' := [⟨[I (r_.pages), I (r_.spares), .L 2 (r_.places.map Place.cs), .L 1 (r_.bad.map cI)], true, true⟩, ⟨[I (0), I (0), .v (.slice none 0 0), .v (.slice none 0 0)], true, true⟩, ⟨[I (r_.pages), I (r_.spares), .L 2 (r_.places.map Place.cs), .g (h.length + 4) (((insL r_.bad (Int.toNat x12.1) address)).length) 1 true], true, true⟩, ⟨(r_.bad.map cI).flatten, true, false⟩, ⟨((insL r_.bad (Int.toNat x12.1) address).map cI).flatten, true, true⟩]) rfl (ev_t rfl) (ev_t rfl) ty29 rfl rfl rfl rfl rfl) ?_
              refine RgOK.s (v := VI (0)) rfl rfl rfl (e_as rfl) ?_
              refine RgOK.s (v := VI (47)) rfl rfl rfl (e_as rfl) ?_
              refine RgOK.nil ?_
              show CdOK _ _ _ _ _ _
              refine CdOK.ret ?_
              refine ⟨.inr rfl, _, (resA_c (look_find rfl) (eLoad_A ty29 (bx rfl rfl) rfl rfl rfl) (resA_t (look_find rfl) (resA_t (look_find rfl) resA_n))), h, [⟨[I (r_.pages), I (r_.spares), .L 2 (r_.places.map Place.cs), .L 1 (r_.bad.map cI)], true, true⟩, ⟨[I (0), I (0), .v (.slice none 0 0), .v (.slice none 0 0)], true, true⟩, ⟨[I (r_.pages), I (r_.spares), .L 2 (r_.places.map Place.cs), .g (h.length + 4) (((insL r_.bad (Int.toNat x12.1) address)).length) 1 true], true, true⟩, ⟨(r_.bad.map cI).flatten, true, false⟩, ⟨((insL r_.bad (Int.toNat x12.1) address).map cI).flatten, true, true⟩], _, rfl, rfl, hC, ((.tup (R2.of (.agg (R2.of (.fl _ rfl) (R2.of (.fl _ rfl) (R2.of (.wk (.fl _ rfl) (.nlL _)) (R2.of (.wk (.fl _ rfl) (.nlL _)) (R2.nil _)))))) (R2.of (.c (.fl _ rfl)) (R2.of (.c (.fl _ rfl)) (R2.nil _))))) : RenV _ _ _ _ (.tup [.agg [I (0), I (0), .L 2 (([] : List Place).map Place.cs), .L 1 (([] : List Int).map cI)], .c (I (0)), .c (I (47))])), ?_⟩
              have hr := hm.ret
              subst hr
              exact ⟨rfl, rfl⟩
            · intro c20; replace hm := hm.ifn c20
              refine CdOK.skip ?_
              show CdOK _ _ _ _ _ _
              refine CdOK.seq ?_
              refine CdOK.region ?_
              refine RgOK.s (v := .o (.agg [I (r_.pages), I (r_.spares), .L 2 (r_.places.map Place.cs), .L 1 (r_.bad.map cI)])) rfl rfl rfl (e_ldbA (ev_t rfl) ty29 (bx rfl rfl) rfl rfl) ?_
              refine RgOK.s (v := VI (x11.1)) rfl rfl rfl (e_mv (ev_t rfl)) ?_
              obtain ⟨x21, e21, hm⟩ := hm.call
              refine RgOK.cl rfl rfl rfl rfl pl88 (R2.wk _) (quarantine_place_ok   e21) ?_
              rintro _ _ ⟨rfl, rfl⟩
              refine RgOK.s (v := .tup [.c (I (x21.1)), .c (Bo (x21.2))]) rfl rfl rfl (e_mv (ev_t rfl)) ?_
              refine RgOK.s (v := VI (x21.1)) rfl rfl rfl (e_ext (ev_t rfl) rfl) ?_
              refine RgOK.s (v := VB (x21.2)) rfl rfl rfl (e_ext (ev_t rfl) rfl) ?_
              refine RgOK.s (v := VI (x21.1)) rfl rfl rfl (e_as (ev_t rfl)) ?_
              refine RgOK.s (v := VB (x21.2)) rfl rfl rfl (e_as (ev_t rfl)) ?_
              refine RgOK.nil ?_
              show CdOK _ _ _ _ _ _
              refine CdOK.seq ?_
              refine CdOK.region ?_
              refine RgOK.s (v := .o (.c (.ptr (h.length + 0) 2))) rfl rfl rfl (e_fa' fa29_2 (ev_t rfl)) ?_
              refine RgOK.s (v := .o (.c (.L 2 (r_.places.map Place.cs)))) rfl rfl rfl (e_ldb1 (ev_t rfl) ty26 (bx rfl rfl) rfl) ?_
              obtain ⟨c23, hm⟩ := hm.ifs
              refine RgOK.cl rfl rfl rfl rfl pl94 (R2.wk _) (cloneP_ok (A := (h.length + 5)) (l := r_.places) (lenN rfl rfl) c23) ?_
              rintro _ _ ⟨lv22, rfl, rfl⟩
              rw [show (h ++ ([⟨[I (r_.pages), I (r_.spares), .L 2 (r_.places.map Place.cs), .L 1 (r_.bad.map cI)], true, true⟩, ⟨[I (0), I (0), .v (.slice none 0 0), .v (.slice none 0 0)], true, true⟩, ⟨[I (r_.pages), I (r_.spares), .L 2 (r_.places.map Place.cs), .g (h.length + 4) (((insL r_.bad (Int.toNat x12.1) address)).length) 1 true], true, true⟩, ⟨(r_.bad.map cI).flatten, true, false⟩, ⟨((insL r_.bad (Int.toNat x12.1) address).map cI).flatten, true, true⟩] : Heap)) ++ [⟨(r_.places.map Place.cs).flatten, true, lv22⟩] = h ++ ([⟨[I (r_.pages), I (r_.spares), .L 2 (r_.places.map Place.cs), .L 1 (r_.bad.map cI)], true, true⟩, ⟨[I (0), I (0), .v (.slice none 0 0), .v (.slice none 0 0)], true, true⟩, ⟨[I (r_.pages), I (r_.spares), .L 2 (r_.places.map Place.cs), .g (h.length + 4) (((insL r_.bad (Int.toNat x12.1) address)).length) 1 true], true, true⟩, ⟨(r_.bad.map cI).flatten, true, false⟩, ⟨((insL r_.bad (Int.toNat x12.1) address).map cI).flatten, true, true⟩, ⟨(r_.places.map Place.cs).flatten, true, lv22⟩] : Heap) from apnd rfl]
              refine RgOK.s (v := .o (.c (.ptr (h.length + 2) 2))) rfl rfl rfl (e_fa' fa29_2 (ev_t rfl)) ?_
              refine RgOK.s0 rfl rfl (e_stN (L' := [⟨[I (r_.pages), I (r_.spares), .L 2 (r_.places.map Place.cs), .L 1 (r_.bad.map cI)], true, true⟩, ⟨[I (0), I (0), .v (.slice none 0 0), .v (.slice none 0 0)], true, true⟩, ⟨[I (r_.pages), I (r_.spares), .g (h.length + 5) ((r_.places).length) 2 lv22, .g (h.length + 4) (((insL r_.bad (Int.toNat x12.1) address)).length) 1 true], true, true⟩, ⟨(r_.bad.map cI).flatten, true, false⟩, ⟨((insL r_.bad (Int.toNat x12.1) address).map cI).flatten, true, true⟩, ⟨(r_.places.map Place.cs).flatten, true, lv22⟩]) rfl (ev_t rfl) (ev_t rfl) ty26 rfl rfl rfl rfl rfl) ?_
              refine RgOK.nil ?_
              show CdOK _ _ _ _ _ _
              replace hm := hm.bnd
              refine CdOK.joinE (σ := (Remap × Bool)) (fun s => s.1) hm (fun s => [(4, .o (.c (.ptr (h.length + 0) 0))), (7, VI (x11.1)), (9, .o (.c (.ptr (h.length + 1) 0))), (12, .o (.c (.L 1 (x18.map cI)))), (13, VI (x21.1))]) (fun s => h ++ ([⟨[I (0), I (0), .v (.slice none 0 0), .v (.slice none 0 0)], true, true⟩, ⟨[I (s.1.pages), I (s.1.spares), .g (h.length + 2) ((s.1.places).length) 2 s.2, .L 1 (s.1.bad.map cI)], true, true⟩, ⟨(s.1.places.map Place.cs).flatten, true, s.2⟩] : Heap)) ?_ ?_
              · intro hm
                refine CdOK.seq ?_
                refine CdOK.region ?_
                refine RgOK.s (v := VB (x21.2)) rfl rfl rfl (e_mv (ev_t rfl)) ?_
                refine RgOK.s (v := VB ((!x21.2))) rfl rfl rfl (e_un (ev_t rfl) rfl) ?_
                refine RgOK.nil ?_
                show CdOK _ _ _ _ _ _
                refine CdOK.condB (ev_t rfl) ?_ ?_
                · intro c25; replace hm := hm.ifp c25
                  refine CdOK.region ?_
                  refine RgOK.s (v := .o (.c (.ptr (h.length + 2) 2))) rfl rfl rfl (e_fa' fa29_2 (ev_t rfl)) ?_
                  refine RgOK.s (v := .o (.c (.g (h.length + 5) ((r_.places).length) 2 lv22))) rfl rfl rfl (e_ldb1 (ev_t rfl) ty26 (bx rfl rfl) rfl) ?_
                  refine RgOK.s (v := VI (x21.1)) rfl rfl rfl (e_mv (ev_t rfl)) ?_
                  refine RgOK.s (v := .o (.agg [I (0), I (0)])) rfl rfl rfl (e_bld (cs := [I (0), I (0)]) zo117 bl117 rfl rfl) ?_
                  refine RgOK.s (v := .o (.c (.LC 2 (([(⟨0, 0⟩ : Place)] : List Place).map Place.cs)))) rfl rfl rfl (e_lit (cs := [I (0), I (0)]) (xs := ([(⟨0, 0⟩ : Place)]).map Place.cs) slt26 rfl rfl rfl rfl rfl) ?_
                  obtain ⟨c26, hm⟩ := hm.ifs
                  refine RgOK.cl rfl rfl rfl rfl pl95 (R2.wk _) (insP_ok (A := (h.length + 6)) (l := r_.places) (x := (⟨0, 0⟩ : Place)) (lenN rfl rfl) (bx rfl rfl) c26.1 c26.2) ?_
                  rintro _ _ ⟨rfl, rfl⟩
                  rw [show kill (h ++ ([⟨[I (r_.pages), I (r_.spares), .L 2 (r_.places.map Place.cs), .L 1 (r_.bad.map cI)], true, true⟩, ⟨[I (0), I (0), .v (.slice none 0 0), .v (.slice none 0 0)], true, true⟩, ⟨[I (r_.pages), I (r_.spares), .g (h.length + 5) ((r_.places).length) 2 lv22, .g (h.length + 4) (((insL r_.bad (Int.toNat x12.1) address)).length) 1 true], true, true⟩, ⟨(r_.bad.map cI).flatten, true, false⟩, ⟨((insL r_.bad (Int.toNat x12.1) address).map cI).flatten, true, true⟩, ⟨(r_.places.map Place.cs).flatten, true, lv22⟩] : Heap)) (h.length + 5) ++ [⟨((insL r_.places (Int.toNat x21.1) (⟨0, 0⟩ : Place)).map Place.cs).flatten, true, true⟩] = h ++ ([⟨[I (r_.pages), I (r_.spares), .L 2 (r_.places.map Place.cs), .L 1 (r_.bad.map cI)], true, true⟩, ⟨[I (0), I (0), .v (.slice none 0 0), .v (.slice none 0 0)], true, true⟩, ⟨[I (r_.pages), I (r_.spares), .g (h.length + 5) ((r_.places).length) 2 lv22, .g (h.length + 4) (((insL r_.bad (Int.toNat x12.1) address)).length) 1 true], true, true⟩, ⟨(r_.bad.map cI).flatten, true, false⟩, ⟨((insL r_.bad (Int.toNat x12.1) address).map cI).flatten, true, true⟩, ⟨(r_.places.map Place.cs).flatten, true, false⟩, ⟨((insL r_.places (Int.toNat x21.1) (⟨0, 0⟩ : Place)).map Place.cs).flatten, true, true⟩] : Heap) from apndK rfl rfl]
                  refine RgOK.s (v := .o (.c (.ptr (h.length + 2) 2))) rfl rfl rfl (e_fa' fa29_2 (ev_t rfl)) ?_
                  refine RgOK.s0 rfl rfl (e_stN (L' := [⟨[I (r_.pages), I (r_.spares), .L 2 (r_.places.map Place.cs), .L 1 (r_.bad.map cI)], true, true⟩, ⟨[I (0), I (0), .v (.slice none 0 0), .v (.slice none 0 0)], true, true⟩, ⟨[I (r_.pages), I (r_.spares), .g (h.length + 6) (((insL r_.places (Int.toNat x21.1) (⟨0, 0⟩ : Place))).length) 2 true, .g (h.length + 4) (((insL r_.bad (Int.toNat x12.1) address)).length) 1 true], true, true⟩, ⟨(r_.bad.map cI).flatten, true, false⟩, ⟨((insL r_.bad (Int.toNat x12.1) address).map cI).flatten, true, true⟩, ⟨(r_.places.map Place.cs).flatten, true, false⟩, ⟨((insL r_.places (Int.toNat x21.1) (⟨0, 0⟩ : Place)).map Place.cs).flatten, true, true⟩]) rfl (ev_t rfl) (ev_t rfl) ty26 rfl rfl rfl rfl rfl) ?_
                  refine RgOK.nil ?_
                  refine Told.re (σ := [1, 2, 6]) (X := [(4, .o (.c (.ptr (h.length + 0) 0))), (7, VI (x11.1)), (9, .o (.c (.ptr (h.length + 1) 0))), (12, .o (.c (.L 1 (x18.map cI)))), (13, VI (x21.1))]) (L' := [⟨[I (0), I (0), .v (.slice none 0 0), .v (.slice none 0 0)], true, true⟩, ⟨[I ((⟨r_.pages, r_.spares, (insL r_.places (Int.toNat x21.1) (⟨0, 0⟩ : Place)), (insL r_.bad (Int.toNat x12.1) address)⟩ : Remap).pages), I ((⟨r_.pages, r_.spares, (insL r_.places (Int.toNat x21.1) (⟨0, 0⟩ : Place)), (insL r_.bad (Int.toNat x12.1) address)⟩ : Remap).spares), .g (h.length + 2) (((⟨r_.pages, r_.spares, (insL r_.places (Int.toNat x21.1) (⟨0, 0⟩ : Place)), (insL r_.bad (Int.toNat x12.1) address)⟩ : Remap).places).length) 2 true, .L 1 ((⟨r_.pages, r_.spares, (insL r_.places (Int.toNat x21.1) (⟨0, 0⟩ : Place)), (insL r_.bad (Int.toNat x12.1) address)⟩ : Remap).bad.map cI)], true, true⟩, ⟨((⟨r_.pages, r_.spares, (insL r_.places (Int.toNat x21.1) (⟨0, 0⟩ : Place)), (insL r_.bad (Int.toNat x12.1) address)⟩ : Remap).places.map Place.cs).flatten, true, true⟩]) rfl rfl hC (by decide) (.obj 1 rfl (renFl rfl) (.obj 2 rfl (R2.of (.fl _ rfl) (R2.of (.fl _ rfl) (R2.of (.gg 6 2 _ _ _ _ _ rfl (by first | rfl | simp) rfl) (R2.of (.fzg 4 _ 1 _ ((insL r_.bad (Int.toNat x12.1) address).map cI) rfl (by decide) (by first | exact List.length_map .. | simp) (lens_all (by intro x; rfl)) (vl_all (by intro x; rfl))) (R2.nil _))))) (.obj 6 rfl (renFl (flat_all (f := Place.cs) (l := (insL r_.places (Int.toNat x21.1) (⟨0, 0⟩ : Place))) (by intro x; rfl))) .nil))) (.cons (.o (.c (.ptr 1 0 _ rfl))) (.cons (renFlV rfl) (.cons (.o (.c (.ptr 2 1 _ rfl))) (.cons (renFlV rfl) (.cons (renFlV rfl) .nil))))) ?_
                  exact ⟨((⟨r_.pages, r_.spares, (insL r_.places (Int.toNat x21.1) (⟨0, 0⟩ : Place)), (insL r_.bad (Int.toNat x12.1) address)⟩ : Remap), true), hm.ret, (.cons rfl (.cons rfl (.cons rfl (.cons rfl (.cons rfl .nil))))), rfl⟩
                · intro c27; replace hm := hm.ifn c27
                  refine CdOK.skip ?_
                  refine Told.re (σ := [1, 2, 5]) (X := [(4, .o (.c (.ptr (h.length + 0) 0))), (7, VI (x11.1)), (9, .o (.c (.ptr (h.length + 1) 0))), (12, .o (.c (.L 1 (x18.map cI)))), (13, VI (x21.1))]) (L' := [⟨[I (0), I (0), .v (.slice none 0 0), .v (.slice none 0 0)], true, true⟩, ⟨[I ((⟨r_.pages, r_.spares, r_.places, (insL r_.bad (Int.toNat x12.1) address)⟩ : Remap).pages), I ((⟨r_.pages, r_.spares, r_.places, (insL r_.bad (Int.toNat x12.1) address)⟩ : Remap).spares), .g (h.length + 2) (((⟨r_.pages, r_.spares, r_.places, (insL r_.bad (Int.toNat x12.1) address)⟩ : Remap).places).length) 2 lv22, .L 1 ((⟨r_.pages, r_.spares, r_.places, (insL r_.bad (Int.toNat x12.1) address)⟩ : Remap).bad.map cI)], true, true⟩, ⟨((⟨r_.pages, r_.spares, r_.places, (insL r_.bad (Int.toNat x12.1) address)⟩ : Remap).places.map Place.cs).flatten, true, lv22⟩]) rfl rfl hC (by decide) (.obj 1 rfl (renFl rfl) (.obj 2 rfl (R2.of (.fl _ rfl) (R2.of (.fl _ rfl) (R2.of (.gg 5 2 _ _ _ _ _ rfl (by first | rfl | simp) rfl) (R2.of (.fzg 4 _ 1 _ ((insL r_.bad (Int.toNat x12.1) address).map cI) rfl (by decide) (by first | exact List.length_map .. | simp) (lens_all (by intro x; rfl)) (vl_all (by intro x; rfl))) (R2.nil _))))) (.obj 5 rfl (renFl (flat_all (f := Place.cs) (l := r_.places) (by intro x; rfl))) .nil))) (.cons (.o (.c (.ptr 1 0 _ rfl))) (.cons (renFlV rfl) (.cons (.o (.c (.ptr 2 1 _ rfl))) (.cons (renFlV rfl) (.cons (renFlV rfl) .nil))))) ?_
                  exact ⟨((⟨r_.pages, r_.spares, r_.places, (insL r_.bad (Int.toNat x12.1) address)⟩ : Remap), lv22), hm.ret, (.cons rfl (.cons rfl (.cons rfl (.cons rfl (.cons rfl .nil))))), rfl⟩
              · rintro ⟨bx24, bx24v2⟩ T0 hm
                show CdOK _ _ _ (look T0 [(4, .o (.c (.ptr (h.length + 0) 0))), (7, VI (x11.1)), (9, .o (.c (.ptr (h.length + 1) 0))), (12, .o (.c (.L 1 (x18.map cI)))), (13, VI (x21.1))]) (h ++ ([⟨[I (0), I (0), .v (.slice none 0 0), .v (.slice none 0 0)], true, true⟩, ⟨[I (bx24.pages), I (bx24.spares), .g (h.length + 2) ((bx24.places).length) 2 bx24v2, .L 1 (bx24.bad.map cI)], true, true⟩, ⟨(bx24.places.map Place.cs).flatten, true, bx24v2⟩] : Heap)) _
                refine CdOK.seq ?_
                obtain ⟨c29, hm⟩ := hm.ifs
                refine CdOK.glB (b0 := (h.length + 1)) (cs := [I (bx24.pages), I (bx24.spares), .g (h.length + 2) ((bx24.places).length) 2 bx24v2, .L 1 (bx24.bad.map cI)]) (j := 2) (bx rfl rfl) rfl c29 (fun hlv => ?_)
                subst hlv
                skip
                refine CdOK.draw2 (ord := [0, 1, 2, 3, 4, 5, 6, 7, 8, 9]) (chain := [9]) fol (by decide +kernel) (by decide +kernel) ?_
                refine Dr2.s (v := .o (.c (.ptr (h.length + 1) 2))) rfl rfl rfl rfl rfl rfl (e_fa' fa29_2 (ev_t rfl)) ?_
                refine Dr2.f (v := .o (.c (.g (h.length + 2) ((bx24.places).length) 2 true))) rfl rfl rfl rfl rfl rfl (e_ldb1 (ev_t rfl) ty26 (bx rfl rfl) rfl) ?_
                refine Dr2.s (v := VI (x21.1)) rfl rfl rfl rfl rfl rfl (e_mv (ev_t rfl)) ?_
                refine Dr2.s (v := VI (x11.1)) rfl rfl rfl rfl rfl rfl (e_mv (ev_t rfl)) ?_
                refine Dr2.s (v := .o (.c (.L 1 (x18.map cI)))) rfl rfl rfl rfl rfl rfl (e_mv (ev_t rfl)) ?_
                obtain ⟨c30, hm⟩ := hm.ifs
                refine Dr2.s (v := .o (.c (.rp [I ((gd x18 0))]))) rfl rfl rfl rfl rfl rfl (e_ixM (f := cI) (l := x18) (i := 0) (ev_t rfl) rfl el27 c30) ?_
                refine Dr2.f (v := VI ((gd x18 0))) rfl rfl rfl rfl rfl rfl (e_ldR1 (ev_t rfl) ty3 rfl) ?_
                refine Dr2.s (v := .o (.agg [I (x11.1), I ((gd x18 0))])) rfl rfl rfl rfl rfl rfl (e_bld (cs := [I (x11.1), I ((gd x18 0))]) zo117 bl117 rfl rfl) ?_
                obtain ⟨c31, hm⟩ := hm.ifs
                refine Dr2.s (v := .o (.c (.ptr (h.length + 2) (0 + (Int.toNat x21.1) * 2)))) rfl rfl rfl rfl rfl rfl (e_ixg (ev_t rfl) (ev_t rfl) el26 c31) ?_
                obtain ⟨c32, hm⟩ := hm.ifs
                refine Dr2.c0 rfl rfl rfl rfl (e_stg (k := 2) (off := 0) (f := Place.cs) (l := bx24.places) (i := x21.1) (x := (⟨x11.1, (gd x18 0)⟩ : Place)) (L' := [⟨[I (0), I (0), .v (.slice none 0 0), .v (.slice none 0 0)], true, true⟩, ⟨[I (bx24.pages), I (bx24.spares), .g (h.length + 2) ((bx24.places).length) 2 true, .L 1 (bx24.bad.map cI)], true, true⟩, ⟨((bx24.places.set (Int.toNat x21.1) (⟨x11.1, (gd x18 0)⟩ : Place)).map Place.cs).flatten, true, true⟩]) rfl (ev_t rfl) (ev_t rfl) ty117 rfl (by intro x; rfl) rfl rfl c32 (by omega) rfl) (.m (by decide +kernel) (.m (by decide +kernel) .nil)) ?_
                refine Dr2.nil ?_
                show CdOK _ _ _ _ _ _
                refine CdOK.seq ?_
                refine CdOK.region ?_
                refine RgOK.s (v := .o (.agg [I (bx24.pages), I (bx24.spares), .g (h.length + 2) ((bx24.places).length) 2 true, .L 1 (bx24.bad.map cI)])) rfl rfl rfl (e_ldbA (ev_t rfl) ty29 (bx rfl rfl) rfl rfl) ?_
                refine RgOK.s (v := VI (x11.1)) rfl rfl rfl (e_mv (ev_t rfl)) ?_
                refine RgOK.s0 rfl rfl (e_stN (L' := [⟨[I (bx24.pages), I (bx24.spares), .g (h.length + 2) ((bx24.places).length) 2 true, .L 1 (bx24.bad.map cI)], true, true⟩, ⟨[I (bx24.pages), I (bx24.spares), .g (h.length + 2) ((bx24.places).length) 2 true, .L 1 (bx24.bad.map cI)], true, true⟩, ⟨((bx24.places.set (Int.toNat x21.1) (⟨x11.1, (gd x18 0)⟩ : Place)).map Place.cs).flatten, true, true⟩]) rfl (ev_t rfl) (ev_t rfl) ty29 rfl rfl rfl rfl rfl) ?_
                refine RgOK.s (v := VI (x11.1)) rfl rfl rfl (e_as (ev_t rfl)) ?_
                refine RgOK.s (v := VI (0)) rfl rfl rfl (e_as rfl) ?_
                refine RgOK.nil ?_
                show CdOK _ _ _ _ _ _
                refine CdOK.ret ?_
                refine ⟨.inr rfl, _, (resA_c (look_find rfl) (eLoad_A ty29 (bx rfl rfl) rfl rfl rfl) (resA_t (look_find rfl) (resA_t (look_find rfl) resA_n))), h, [⟨[I (bx24.pages), I (bx24.spares), .g (h.length + 2) ((bx24.places).length) 2 true, .L 1 (bx24.bad.map cI)], true, true⟩, ⟨[I (bx24.pages), I (bx24.spares), .g (h.length + 2) ((bx24.places).length) 2 true, .L 1 (bx24.bad.map cI)], true, true⟩, ⟨((bx24.places.set (Int.toNat x21.1) (⟨x11.1, (gd x18 0)⟩ : Place)).map Place.cs).flatten, true, true⟩], _, rfl, rfl, hC, ((.tup (R2.of (.agg (R2.of (.fl _ rfl) (R2.of (.fl _ rfl) (R2.of (.fzg 2 _ 2 _ ((bx24.places.set (Int.toNat x21.1) (⟨x11.1, (gd x18 0)⟩ : Place)).map Place.cs) rfl (by decide) (by first | exact List.length_map .. | simp) (lens_all (by intro x; rfl)) (vl_all (by intro x; rfl))) (R2.of (.fl _ rfl) (R2.nil _)))))) (R2.of (.c (.fl _ rfl)) (R2.of (.c (.fl _ rfl)) (R2.nil _))))) : RenV _ _ _ _ (.tup [.agg [I (bx24.pages), I (bx24.spares), .L 2 ((bx24.places.set (Int.toNat x21.1) (⟨x11.1, (gd x18 0)⟩ : Place)).map Place.cs), .L 1 (bx24.bad.map cI)], .c (I (x11.1)), .c (I (0))])), ?_⟩
                have hr := hm.ret
                subst hr
                exact ⟨rfl, rfl⟩
end Rv
