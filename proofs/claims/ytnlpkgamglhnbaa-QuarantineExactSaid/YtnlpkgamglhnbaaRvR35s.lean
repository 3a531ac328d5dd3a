/- Chapter 35: the statements' functions, as plain functions. -/
import Derived.Test.YtnlpkgamglhnbaaRvLaw35a
set_option linter.unusedVariables false
set_option linter.unusedSimpArgs false
namespace Rv
open Go Go.RowKit Go.Proofs
theorem eqs117_r (x y : Place) : (eqF [some (x.page == y.page), some (x.address == y.address)]) = some (decide (x = y)) := by
  have h := (show (eqF [some (x.page == y.page), some (x.address == y.address)]) = some _ from (eqF_cons (b := _) (eqF_cons (b := _) rfl)))
  rw [h]
  congr 1
  rw [Bool.eq_iff_iff]
  rcases x with ⟨a1, a2⟩
  rcases y with ⟨b1, b2⟩
  simp only [Bool.and_eq_true, beq_iff_eq, decide_eq_true_eq, Place.mk.injEq, and_true, and_assoc]
theorem eqs117_eql (x y : Place) : eEqAgg Try.prog .eql 117 [.int .i64 (x.page), .int .i64 (x.address)].toArray [.int .i64 (y.page), .int .i64 (y.address)].toArray = some (.bool (decide (x = y))) := by
  have h : eqS Try.prog Op.maxDepth 117 (.agg [.int .i64 (x.page), .int .i64 (x.address)].toArray) (.agg [.int .i64 (y.page), .int .i64 (y.address)].toArray) = (eqF [some (x.page == y.page), some (x.address == y.address)]) := by kernel_rfl
  unfold eEqAgg
  rw [if_neg (by decide +kernel), h, eqs117_r]
theorem eqs117_neq (x y : Place) : eEqAgg Try.prog .neq 117 [.int .i64 (x.page), .int .i64 (x.address)].toArray [.int .i64 (y.page), .int .i64 (y.address)].toArray = some (.bool (decide (¬ x = y))) := by
  have h : eqS Try.prog Op.maxDepth 117 (.agg [.int .i64 (x.page), .int .i64 (x.address)].toArray) (.agg [.int .i64 (y.page), .int .i64 (y.address)].toArray) = (eqF [some (x.page == y.page), some (x.address == y.address)]) := by kernel_rfl
  unfold eEqAgg
  rw [if_neg (by decide +kernel), h, eqs117_r]
  by_cases e : x = y <;> simp [e]
/- pagemend/pagemendref35.Same -/
def ref35_Same.l1 (a_ : Remap) (b_ : Remap) : Nat → Int → Option (Sum Unit Bool)
  | 0, _ => none
  | kk10 + 1, i9 => (if i9 < (a_.places.length : Int) then (if (0 : Int) ≤ i9 ∧ i9 < (a_.places.length : Int) then (if (0 : Int) ≤ i9 ∧ i9 < (b_.places.length : Int) then (if ¬ (gd a_.places i9) = (gd b_.places i9) then some (Sum.inr false) else ref35_Same.l1 a_ b_ kk10 (w64 (i9 + 1))) else none) else none) else some (Sum.inl ()))
theorem ref35_Same.l1_s (a_ : Remap) (b_ : Remap) (kk10 : Nat) (i9 : Int) : ref35_Same.l1 a_ b_ (kk10 + 1) i9 = (if i9 < (a_.places.length : Int) then (if (0 : Int) ≤ i9 ∧ i9 < (a_.places.length : Int) then (if (0 : Int) ≤ i9 ∧ i9 < (b_.places.length : Int) then (if ¬ (gd a_.places i9) = (gd b_.places i9) then some (Sum.inr false) else ref35_Same.l1 a_ b_ kk10 (w64 (i9 + 1))) else none) else none) else some (Sum.inl ())) := rfl
def ref35_Same.l2 (a_ : Remap) (b_ : Remap) : Nat → Int → Option (Sum Unit Bool)
  | 0, _ => none
  | kk19 + 1, i18 => (if i18 < (a_.bad.length : Int) then (if (0 : Int) ≤ i18 ∧ i18 < (a_.bad.length : Int) then (if (0 : Int) ≤ i18 ∧ i18 < (b_.bad.length : Int) then (if (gd a_.bad i18) ≠ (gd b_.bad i18) then some (Sum.inr false) else ref35_Same.l2 a_ b_ kk19 (w64 (i18 + 1))) else none) else none) else some (Sum.inl ()))
theorem ref35_Same.l2_s (a_ : Remap) (b_ : Remap) (kk19 : Nat) (i18 : Int) : ref35_Same.l2 a_ b_ (kk19 + 1) i18 = (if i18 < (a_.bad.length : Int) then (if (0 : Int) ≤ i18 ∧ i18 < (a_.bad.length : Int) then (if (0 : Int) ≤ i18 ∧ i18 < (b_.bad.length : Int) then (if (gd a_.bad i18) ≠ (gd b_.bad i18) then some (Sum.inr false) else ref35_Same.l2 a_ b_ kk19 (w64 (i18 + 1))) else none) else none) else some (Sum.inl ())) := rfl
def ref35_Same (a_ : Remap) (b_ : Remap) : Option Bool := (if a_.pages ≠ b_.pages then some false else (if a_.spares ≠ b_.spares then some false else (if (a_.places.length : Int) ≠ (b_.places.length : Int) then some false else (if (a_.bad.length : Int) ≠ (b_.bad.length : Int) then some false else ((ref35_Same.l1 a_ b_ FU 0).bind fun (z : Sum Unit Bool) => match z with | .inl (s17 : Unit) => ((ref35_Same.l2 a_ b_ FU 0).bind fun (z : Sum Unit Bool) => match z with | .inl (s26 : Unit) => some true | .inr r => some r) | .inr r => some r)))))
theorem ref35_Same.eq (a_ : Remap) (b_ : Remap) : ref35_Same a_ b_ = (if a_.pages ≠ b_.pages then some false else (if a_.spares ≠ b_.spares then some false else (if (a_.places.length : Int) ≠ (b_.places.length : Int) then some false else (if (a_.bad.length : Int) ≠ (b_.bad.length : Int) then some false else ((ref35_Same.l1 a_ b_ FU 0).bind fun (z : Sum Unit Bool) => match z with | .inl (s17 : Unit) => ((ref35_Same.l2 a_ b_ FU 0).bind fun (z : Sum Unit Bool) => match z with | .inl (s26 : Unit) => some true | .inr r => some r) | .inr r => some r))))) := rfl
theorem ref35_Same_ok {h : Heap} {a_ : Remap} {b_ : Remap}  {r : Bool} (hm : ref35_Same a_ b_ = some r) : FnOK Try.prog 20 [.o (.agg [I (a_.pages), I (a_.spares), .L 2 (a_.places.map Place.cs), .L 1 (a_.bad.map cI)]), .o (.agg [I (b_.pages), I (b_.spares), .L 2 (b_.places.map Place.cs), .L 1 (b_.bad.map cI)])] h (fun v h' => v = VB (r) ∧ h' = h) := by
  refine FnOK.fin ?_
  refine FnOK.bodyC (N := 73) Try.func20 rfl rfl rfl (fun hC => ?_)
  replace hm := Ev.of hm
  rw [ref35_Same.eq] at hm
  show CdOK _ _ _ (look _ [(0, .o (.agg [I (a_.pages), I (a_.spares), .L 2 (a_.places.map Place.cs), .L 1 (a_.bad.map cI)])), (1, .o (.agg [I (b_.pages), I (b_.spares), .L 2 (b_.places.map Place.cs), .L 1 (b_.bad.map cI)]))]) (h ++ ([] : Heap)) _
  refine CdOK.seq ?_
  refine CdOK.region ?_
  refine RgOK.s (v := .o (.c (.ptr (h.length + 0) 0))) rfl rfl rfl (e_boxN (L' := [⟨[I (a_.pages), I (a_.spares), .L 2 (a_.places.map Place.cs), .L 1 (a_.bad.map cI)], true, true⟩]) rfl (ev_t rfl) rfl rfl) ?_
  refine RgOK.s (v := .o (.c (.ptr (h.length + 1) 0))) rfl rfl rfl (e_boxN (L' := [⟨[I (a_.pages), I (a_.spares), .L 2 (a_.places.map Place.cs), .L 1 (a_.bad.map cI)], true, true⟩, ⟨[I (b_.pages), I (b_.spares), .L 2 (b_.places.map Place.cs), .L 1 (b_.bad.map cI)], true, true⟩]) rfl (ev_t rfl) rfl rfl) ?_
  refine RgOK.s (v := VB (false)) rfl rfl rfl (e_as rfl) ?_
  refine RgOK.nil ?_
  show CdOK _ _ _ _ _ _
  refine CdOK.seq ?_
  refine CdOK.seq ?_
  refine CdOK.region ?_
  refine RgOK.s (v := .o (.c (.ptr (h.length + 0) 0))) rfl rfl rfl (e_fa' fa29_0 (ev_t rfl)) ?_
  refine RgOK.s (v := VI (a_.pages)) rfl rfl rfl (e_ldb1 (ev_t rfl) ty3 (bx rfl rfl) rfl) ?_
  refine RgOK.s (v := .o (.c (.ptr (h.length + 1) 0))) rfl rfl rfl (e_fa' fa29_0 (ev_t rfl)) ?_
  refine RgOK.s (v := VI (b_.pages)) rfl rfl rfl (e_ldb1 (ev_t rfl) ty3 (bx rfl rfl) rfl) ?_
  refine RgOK.sd rfl rfl rfl (e_neK (ev_t rfl) (ev_t rfl)) ?_ ?_
  · intro c1; replace hm := hm.ifp c1
    refine RgOK.s (v := VB (true)) rfl rfl rfl (e_mv (ev_t rfl)) ?_
    refine RgOK.sk rfl rfl rfl ?_
    refine RgOK.sk rfl rfl rfl ?_
    refine RgOK.sk rfl rfl rfl ?_
    refine RgOK.sk rfl rfl rfl ?_
    refine RgOK.sk rfl rfl rfl ?_
    refine RgOK.s (v := VB (true)) rfl rfl rfl (e_pick (t := true) (ev_t rfl) rfl) ?_
    refine RgOK.s (v := VB (true)) rfl rfl rfl (e_mv (ev_t rfl)) ?_
    refine RgOK.sk rfl rfl rfl ?_
    refine RgOK.sk rfl rfl rfl ?_
    refine RgOK.sk rfl rfl rfl ?_
    refine RgOK.sk rfl rfl rfl ?_
    refine RgOK.sk rfl rfl rfl ?_
    refine RgOK.sk rfl rfl rfl ?_
    refine RgOK.sk rfl rfl rfl ?_
    refine RgOK.s (v := VB (true)) rfl rfl rfl (e_pick (t := true) (ev_t rfl) rfl) ?_
    refine RgOK.s (v := VB (true)) rfl rfl rfl (e_mv (ev_t rfl)) ?_
    refine RgOK.sk rfl rfl rfl ?_
    refine RgOK.sk rfl rfl rfl ?_
    refine RgOK.sk rfl rfl rfl ?_
    refine RgOK.sk rfl rfl rfl ?_
    refine RgOK.sk rfl rfl rfl ?_
    refine RgOK.sk rfl rfl rfl ?_
    refine RgOK.sk rfl rfl rfl ?_
    refine RgOK.s (v := VB (true)) rfl rfl rfl (e_pick (t := true) (ev_t rfl) rfl) ?_
    refine RgOK.nil ?_
    show CdOK _ _ _ _ _ _
    refine CdOK.cond_true rfl ?_
    refine CdOK.seq ?_
    refine CdOK.region ?_
    refine RgOK.s (v := VB (false)) rfl rfl rfl (e_as rfl) ?_
    refine RgOK.nil ?_
    show CdOK _ _ _ _ _ _
    refine CdOK.ret ?_
    refine ⟨.inr rfl, _, rfl, h, [⟨[I (a_.pages), I (a_.spares), .L 2 (a_.places.map Place.cs), .L 1 (a_.bad.map cI)], true, true⟩, ⟨[I (b_.pages), I (b_.spares), .L 2 (b_.places.map Place.cs), .L 1 (b_.bad.map cI)], true, true⟩], _, rfl, rfl, hC, ((renFlV rfl) : RenV _ _ _ _ (VB (false))), ?_⟩
    have hr := hm.ret
    subst hr
    exact ⟨rfl, rfl⟩
  · intro c2; replace hm := hm.ifn c2
    refine RgOK.s (v := VB (false)) rfl rfl rfl (e_mv (ev_t rfl)) ?_
    refine RgOK.s (v := .o (.c (.ptr (h.length + 0) 1))) rfl rfl rfl (e_fa' fa29_1 (ev_t rfl)) ?_
    refine RgOK.s (v := VI (a_.spares)) rfl rfl rfl (e_ldb1 (ev_t rfl) ty3 (bx rfl rfl) rfl) ?_
    refine RgOK.s (v := .o (.c (.ptr (h.length + 1) 1))) rfl rfl rfl (e_fa' fa29_1 (ev_t rfl)) ?_
    refine RgOK.s (v := VI (b_.spares)) rfl rfl rfl (e_ldb1 (ev_t rfl) ty3 (bx rfl rfl) rfl) ?_
    refine RgOK.sd rfl rfl rfl (e_neK (ev_t rfl) (ev_t rfl)) ?_ ?_
    · intro c3; replace hm := hm.ifp c3
      refine RgOK.s (v := VB (true)) rfl rfl rfl (e_pick (t := false) (ev_t rfl) (ev_t rfl)) ?_
      refine RgOK.s (v := VB (true)) rfl rfl rfl (e_mv (ev_t rfl)) ?_
      refine RgOK.sk rfl rfl rfl ?_
      refine RgOK.sk rfl rfl rfl ?_
      refine RgOK.sk rfl rfl rfl ?_
      refine RgOK.sk rfl rfl rfl ?_
      refine RgOK.sk rfl rfl rfl ?_
      refine RgOK.sk rfl rfl rfl ?_
      refine RgOK.sk rfl rfl rfl ?_
      refine RgOK.s (v := VB (true)) rfl rfl rfl (e_pick (t := true) (ev_t rfl) rfl) ?_
      refine RgOK.s (v := VB (true)) rfl rfl rfl (e_mv (ev_t rfl)) ?_
      refine RgOK.sk rfl rfl rfl ?_
      refine RgOK.sk rfl rfl rfl ?_
      refine RgOK.sk rfl rfl rfl ?_
      refine RgOK.sk rfl rfl rfl ?_
      refine RgOK.sk rfl rfl rfl ?_
      refine RgOK.sk rfl rfl rfl ?_
      refine RgOK.sk rfl rfl rfl ?_
      refine RgOK.s (v := VB (true)) rfl rfl rfl (e_pick (t := true) (ev_t rfl) rfl) ?_
      refine RgOK.nil ?_
      show CdOK _ _ _ _ _ _
      refine CdOK.cond_true rfl ?_
      refine CdOK.seq ?_
      refine CdOK.region ?_
      refine RgOK.s (v := VB (false)) rfl rfl rfl (e_as rfl) ?_
      refine RgOK.nil ?_
      show CdOK _ _ _ _ _ _
      refine CdOK.ret ?_
      refine ⟨.inr rfl, _, rfl, h, [⟨[I (a_.pages), I (a_.spares), .L 2 (a_.places.map Place.cs), .L 1 (a_.bad.map cI)], true, true⟩, ⟨[I (b_.pages), I (b_.spares), .L 2 (b_.places.map Place.cs), .L 1 (b_.bad.map cI)], true, true⟩], _, rfl, rfl, hC, ((renFlV rfl) : RenV _ _ _ _ (VB (false))), ?_⟩
      have hr := hm.ret
      subst hr
      exact ⟨rfl, rfl⟩
    · intro c4; replace hm := hm.ifn c4
      refine RgOK.s (v := VB (false)) rfl rfl rfl (e_pick (t := false) (ev_t rfl) (ev_t rfl)) ?_
      refine RgOK.s (v := VB (false)) rfl rfl rfl (e_mv (ev_t rfl)) ?_
      refine RgOK.s (v := .o (.c (.ptr (h.length + 0) 2))) rfl rfl rfl (e_fa' fa29_2 (ev_t rfl)) ?_
      refine RgOK.s (v := .o (.c (.L 2 (a_.places.map Place.cs)))) rfl rfl rfl (e_ldb1 (ev_t rfl) ty26 (bx rfl rfl) rfl) ?_
      refine RgOK.s (v := VI ((a_.places.length : Int))) rfl rfl rfl (e_lenM (ev_t rfl) is26) ?_
      refine RgOK.s (v := .o (.c (.ptr (h.length + 1) 2))) rfl rfl rfl (e_fa' fa29_2 (ev_t rfl)) ?_
      refine RgOK.s (v := .o (.c (.L 2 (b_.places.map Place.cs)))) rfl rfl rfl (e_ldb1 (ev_t rfl) ty26 (bx rfl rfl) rfl) ?_
      refine RgOK.s (v := VI ((b_.places.length : Int))) rfl rfl rfl (e_lenM (ev_t rfl) is26) ?_
      refine RgOK.sd rfl rfl rfl (e_neK (ev_t rfl) (ev_t rfl)) ?_ ?_
      · intro c5; replace hm := hm.ifp c5
        refine RgOK.s (v := VB (true)) rfl rfl rfl (e_pick (t := false) (ev_t rfl) (ev_t rfl)) ?_
        refine RgOK.s (v := VB (true)) rfl rfl rfl (e_mv (ev_t rfl)) ?_
        refine RgOK.sk rfl rfl rfl ?_
        refine RgOK.sk rfl rfl rfl ?_
        refine RgOK.sk rfl rfl rfl ?_
        refine RgOK.sk rfl rfl rfl ?_
        refine RgOK.sk rfl rfl rfl ?_
        refine RgOK.sk rfl rfl rfl ?_
        refine RgOK.sk rfl rfl rfl ?_
        refine RgOK.s (v := VB (true)) rfl rfl rfl (e_pick (t := true) (ev_t rfl) rfl) ?_
        refine RgOK.nil ?_
        show CdOK _ _ _ _ _ _
        refine CdOK.cond_true rfl ?_
        refine CdOK.seq ?_
        refine CdOK.region ?_
        refine RgOK.s (v := VB (false)) rfl rfl rfl (e_as rfl) ?_
        refine RgOK.nil ?_
        show CdOK _ _ _ _ _ _
        refine CdOK.ret ?_
        refine ⟨.inr rfl, _, rfl, h, [⟨[I (a_.pages), I (a_.spares), .L 2 (a_.places.map Place.cs), .L 1 (a_.bad.map cI)], true, true⟩, ⟨[I (b_.pages), I (b_.spares), .L 2 (b_.places.map Place.cs), .L 1 (b_.bad.map cI)], true, true⟩], _, rfl, rfl, hC, ((renFlV rfl) : RenV _ _ _ _ (VB (false))), ?_⟩
        have hr := hm.ret
        subst hr
        exact ⟨rfl, rfl⟩
      · intro c6; replace hm := hm.ifn c6
        refine RgOK.s (v := VB (false)) rfl rfl rfl (e_pick (t := false) (ev_t rfl) (ev_t rfl)) ?_
        refine RgOK.s (v := VB (false)) rfl rfl rfl (e_mv (ev_t rfl)) ?_
        refine RgOK.s (v := .o (.c (.ptr (h.length + 0) 3))) rfl rfl rfl (e_fa' fa29_3 (ev_t rfl)) ?_
        refine RgOK.s (v := .o (.c (.L 1 (a_.bad.map cI)))) rfl rfl rfl (e_ldb1 (ev_t rfl) ty27 (bx rfl rfl) rfl) ?_
        refine RgOK.s (v := VI ((a_.bad.length : Int))) rfl rfl rfl (e_lenM (ev_t rfl) is27) ?_
        refine RgOK.s (v := .o (.c (.ptr (h.length + 1) 3))) rfl rfl rfl (e_fa' fa29_3 (ev_t rfl)) ?_
        refine RgOK.s (v := .o (.c (.L 1 (b_.bad.map cI)))) rfl rfl rfl (e_ldb1 (ev_t rfl) ty27 (bx rfl rfl) rfl) ?_
        refine RgOK.s (v := VI ((b_.bad.length : Int))) rfl rfl rfl (e_lenM (ev_t rfl) is27) ?_
        refine RgOK.s (v := VB (decide ((a_.bad.length : Int) ≠ (b_.bad.length : Int)))) rfl rfl rfl (e_neK (ev_t rfl) (ev_t rfl)) ?_
        refine RgOK.s (v := VB (decide ((a_.bad.length : Int) ≠ (b_.bad.length : Int)))) rfl rfl rfl (e_pick (t := false) (ev_t rfl) (ev_t rfl)) ?_
        refine RgOK.nil ?_
        show CdOK _ _ _ _ _ _
        refine CdOK.condD (ev_t rfl) ?_ ?_
        · intro c7; replace hm := hm.ifp c7
          refine CdOK.seq ?_
          refine CdOK.region ?_
          refine RgOK.s (v := VB (false)) rfl rfl rfl (e_as rfl) ?_
          refine RgOK.nil ?_
          show CdOK _ _ _ _ _ _
          refine CdOK.ret ?_
          refine ⟨.inr rfl, _, rfl, h, [⟨[I (a_.pages), I (a_.spares), .L 2 (a_.places.map Place.cs), .L 1 (a_.bad.map cI)], true, true⟩, ⟨[I (b_.pages), I (b_.spares), .L 2 (b_.places.map Place.cs), .L 1 (b_.bad.map cI)], true, true⟩], _, rfl, rfl, hC, ((renFlV rfl) : RenV _ _ _ _ (VB (false))), ?_⟩
          have hr := hm.ret
          subst hr
          exact ⟨rfl, rfl⟩
        · intro c8; replace hm := hm.ifn c8
          refine CdOK.skip ?_
          show CdOK _ _ _ _ _ _
          refine CdOK.seq ?_
          refine CdOK.seq ?_
          refine CdOK.region ?_
          refine RgOK.s (v := VI (0)) rfl rfl rfl (e_as rfl) ?_
          refine RgOK.nil ?_
          show CdOK _ _ _ _ _ _
          replace hm := hm.bnd
          refine CdOK.joinT (σ := Unit) (fun s => Sum.inl ()) hm (fun s => [(2, .o (.c (.ptr (h.length + 0) 0))), (3, .o (.c (.ptr (h.length + 1) 0)))]) (fun s => h ++ ([⟨[I (a_.pages), I (a_.spares), .L 2 (a_.places.map Place.cs), .L 1 (a_.bad.map cI)], true, true⟩, ⟨[I (b_.pages), I (b_.spares), .L 2 (b_.places.map Place.cs), .L 1 (b_.bad.map cI)], true, true⟩] : Heap)) ?_ ?_
          · intro hm
            refine CdOK.block ?_
            refine CdOK.loopE (σ := Int) (fun k s => Ev (ref35_Same.l1 a_ b_ k s) _) (fun s => [(2, .o (.c (.ptr (h.length + 0) 0))), (3, .o (.c (.ptr (h.length + 1) 0))), (5, VI (s))]) (fun s => h ++ ([⟨[I (a_.pages), I (a_.spares), .L 2 (a_.places.map Place.cs), .L 1 (a_.bad.map cI)], true, true⟩, ⟨[I (b_.pages), I (b_.spares), .L 2 (b_.places.map Place.cs), .L 1 (b_.bad.map cI)], true, true⟩] : Heap)) FU 0 hm (.cons rfl (.cons rfl (.cons rfl .nil))) rfl ?_
            rintro kk10 i9 T0 hm
            replace hm : Ev (ref35_Same.l1 a_ b_ kk10 i9) _ := hm
            cases kk10 with
            | zero => exact (Ev.non hm).elim
            | succ kk10 =>
            rw [ref35_Same.l1_s] at hm
            show CdOK _ _ _ (look T0 [(2, .o (.c (.ptr (h.length + 0) 0))), (3, .o (.c (.ptr (h.length + 1) 0))), (5, VI (i9))]) (h ++ ([⟨[I (a_.pages), I (a_.spares), .L 2 (a_.places.map Place.cs), .L 1 (a_.bad.map cI)], true, true⟩, ⟨[I (b_.pages), I (b_.spares), .L 2 (b_.places.map Place.cs), .L 1 (b_.bad.map cI)], true, true⟩] : Heap)) _
            refine CdOK.seq ?_
            refine CdOK.seq ?_
            refine CdOK.region ?_
            refine RgOK.s (v := VI (i9)) rfl rfl rfl (e_mv (ev_t rfl)) ?_
            refine RgOK.s (v := .o (.c (.ptr (h.length + 0) 2))) rfl rfl rfl (e_fa' fa29_2 (ev_t rfl)) ?_
            refine RgOK.s (v := .o (.c (.L 2 (a_.places.map Place.cs)))) rfl rfl rfl (e_ldb1 (ev_t rfl) ty26 (bx rfl rfl) rfl) ?_
            refine RgOK.s (v := VI ((a_.places.length : Int))) rfl rfl rfl (e_lenM (ev_t rfl) is26) ?_
            refine RgOK.s (v := VB (decide (i9 < (a_.places.length : Int)))) rfl rfl rfl (e_bin (ev_t rfl) (ev_t rfl) rfl rfl) ?_
            refine RgOK.nil ?_
            show CdOK _ _ _ _ _ _
            refine CdOK.condD (ev_t rfl) ?_ ?_
            · intro c11; replace hm := hm.ifp c11
              refine CdOK.skip ?_
              show CdOK _ _ _ _ _ _
              refine CdOK.seq ?_
              refine CdOK.block ?_
              refine CdOK.seq ?_
              refine CdOK.draw fol (by decide +kernel) ?_
              refine DrOK.s (v := .o (.c (.ptr (h.length + 0) 2))) rfl rfl rfl (e_fa' fa29_2 (ev_t rfl)) ?_
              refine DrOK.s (v := .o (.c (.L 2 (a_.places.map Place.cs)))) rfl rfl rfl (e_ldb1 (ev_t rfl) ty26 (bx rfl rfl) rfl) ?_
              refine DrOK.s (v := VI (i9)) rfl rfl rfl (e_mv (ev_t rfl)) ?_
              obtain ⟨c12, hm⟩ := hm.ifs
              refine DrOK.s (v := .o (.c (.rp [I ((gd a_.places i9).page), I ((gd a_.places i9).address)]))) rfl rfl rfl (e_ixM (f := Place.cs) (l := a_.places) (i := i9) (ev_t rfl) (ev_t rfl) el26 c12) ?_
              refine DrOK.s (v := .o (.agg [I ((gd a_.places i9).page), I ((gd a_.places i9).address)])) rfl rfl rfl (e_ldRA (ev_t rfl) ty117 rfl rfl) ?_
              refine DrOK.s (v := .o (.c (.ptr (h.length + 1) 2))) rfl rfl rfl (e_fa' fa29_2 (ev_t rfl)) ?_
              refine DrOK.s (v := .o (.c (.L 2 (b_.places.map Place.cs)))) rfl rfl rfl (e_ldb1 (ev_t rfl) ty26 (bx rfl rfl) rfl) ?_
              refine DrOK.s (v := VI (i9)) rfl rfl rfl (e_mv (ev_t rfl)) ?_
              obtain ⟨c13, hm⟩ := hm.ifs
              refine DrOK.s (v := .o (.c (.rp [I ((gd b_.places i9).page), I ((gd b_.places i9).address)]))) rfl rfl rfl (e_ixM (f := Place.cs) (l := b_.places) (i := i9) (ev_t rfl) (ev_t rfl) el26 c13) ?_
              refine DrOK.s (v := .o (.agg [I ((gd b_.places i9).page), I ((gd b_.places i9).address)])) rfl rfl rfl (e_ldRA (ev_t rfl) ty117 rfl rfl) ?_
              refine DrOK.s (v := VB (decide (¬ (gd a_.places i9) = (gd b_.places i9)))) rfl rfl rfl (e_eqA (ev_t rfl) (ev_t rfl) rfl rfl (eqs117_neq (gd a_.places i9) (gd b_.places i9))) ?_
              refine DrOK.nil ?_
              show CdOK _ _ _ _ _ _
              refine CdOK.condD (ev_t rfl) ?_ ?_
              · intro c14; replace hm := hm.ifp c14
                refine CdOK.seq ?_
                refine CdOK.region ?_
                refine RgOK.s (v := VB (false)) rfl rfl rfl (e_as rfl) ?_
                refine RgOK.nil ?_
                show CdOK _ _ _ _ _ _
                refine CdOK.ret ?_
                refine ⟨.inr rfl, _, rfl, h, [⟨[I (a_.pages), I (a_.spares), .L 2 (a_.places.map Place.cs), .L 1 (a_.bad.map cI)], true, true⟩, ⟨[I (b_.pages), I (b_.spares), .L 2 (b_.places.map Place.cs), .L 1 (b_.bad.map cI)], true, true⟩], _, rfl, rfl, hC, ((renFlV rfl) : RenV _ _ _ _ (VB (false))), ?_⟩
                have hr := hm.ret
                replace hr := Ev.ret hr
                subst hr
                exact ⟨rfl, rfl⟩
              · intro c15; replace hm := hm.ifn c15
                refine CdOK.skip ?_
                show CdOK _ _ _ _ _ _
                refine CdOK.region ?_
                refine RgOK.s (v := VI (i9)) rfl rfl rfl (e_mv (ev_t rfl)) ?_
                refine RgOK.s (v := VI ((w64 (i9 + 1)))) rfl rfl rfl (e_bin (ev_t rfl) rfl rfl rfl) ?_
                refine RgOK.s (v := VI ((w64 (i9 + 1)))) rfl rfl rfl (e_as (ev_t rfl)) ?_
                refine RgOK.nil ?_
                refine Told.id ?_
                exact ⟨_, (w64 (i9 + 1)), Nat.lt_succ_self _, hm, (.cons rfl (.cons rfl (.cons rfl .nil))), rfl⟩
            · intro c16; replace hm := hm.ifn c16
              refine CdOK.exit ?_
              refine Told.id ?_
              exact ⟨(), hm.ret, (.cons rfl (.cons rfl .nil)), rfl⟩
          · intro _ T0 hm
            show CdOK _ _ _ _ _ _
            refine CdOK.seq ?_
            refine CdOK.seq ?_
            refine CdOK.region ?_
            refine RgOK.s (v := VI (0)) rfl rfl rfl (e_as rfl) ?_
            refine RgOK.nil ?_
            show CdOK _ _ _ _ _ _
            replace hm := hm.bnd
            refine CdOK.joinT (σ := Unit) (fun s => Sum.inl ()) hm (fun s => []) (fun s => h ++ ([] : Heap)) ?_ ?_
            · intro hm
              refine CdOK.block ?_
              refine CdOK.loopE (σ := Int) (fun k s => Ev (ref35_Same.l2 a_ b_ k s) _) (fun s => [(2, .o (.c (.ptr (h.length + 0) 0))), (3, .o (.c (.ptr (h.length + 1) 0))), (6, VI (s))]) (fun s => h ++ ([⟨[I (a_.pages), I (a_.spares), .L 2 (a_.places.map Place.cs), .L 1 (a_.bad.map cI)], true, true⟩, ⟨[I (b_.pages), I (b_.spares), .L 2 (b_.places.map Place.cs), .L 1 (b_.bad.map cI)], true, true⟩] : Heap)) FU 0 hm (.cons rfl (.cons rfl (.cons rfl .nil))) rfl ?_
              rintro kk19 i18 T0 hm
              replace hm : Ev (ref35_Same.l2 a_ b_ kk19 i18) _ := hm
              cases kk19 with
              | zero => exact (Ev.non hm).elim
              | succ kk19 =>
              rw [ref35_Same.l2_s] at hm
              show CdOK _ _ _ (look T0 [(2, .o (.c (.ptr (h.length + 0) 0))), (3, .o (.c (.ptr (h.length + 1) 0))), (6, VI (i18))]) (h ++ ([⟨[I (a_.pages), I (a_.spares), .L 2 (a_.places.map Place.cs), .L 1 (a_.bad.map cI)], true, true⟩, ⟨[I (b_.pages), I (b_.spares), .L 2 (b_.places.map Place.cs), .L 1 (b_.bad.map cI)], true, true⟩] : Heap)) _
              refine CdOK.seq ?_
              refine CdOK.seq ?_
              refine CdOK.region ?_
              refine RgOK.s (v := VI (i18)) rfl rfl rfl (e_mv (ev_t rfl)) ?_
              refine RgOK.s (v := .o (.c (.ptr (h.length + 0) 3))) rfl rfl rfl (e_fa' fa29_3 (ev_t rfl)) ?_
              refine RgOK.s (v := .o (.c (.L 1 (a_.bad.map cI)))) rfl rfl rfl (e_ldb1 (ev_t rfl) ty27 (bx rfl rfl) rfl) ?_
              refine RgOK.s (v := VI ((a_.bad.length : Int))) rfl rfl rfl (e_lenM (ev_t rfl) is27) ?_
              refine RgOK.s (v := VB (decide (i18 < (a_.bad.length : Int)))) rfl rfl rfl (e_bin (ev_t rfl) (ev_t rfl) rfl rfl) ?_
              refine RgOK.nil ?_
              show CdOK _ _ _ _ _ _
              refine CdOK.condD (ev_t rfl) ?_ ?_
              · intro c20; replace hm := hm.ifp c20
                refine CdOK.skip ?_
                show CdOK _ _ _ _ _ _
                refine CdOK.seq ?_
                refine CdOK.block ?_
                refine CdOK.seq ?_
                refine CdOK.draw fol (by decide +kernel) ?_
                refine DrOK.s (v := .o (.c (.ptr (h.length + 0) 3))) rfl rfl rfl (e_fa' fa29_3 (ev_t rfl)) ?_
                refine DrOK.s (v := .o (.c (.L 1 (a_.bad.map cI)))) rfl rfl rfl (e_ldb1 (ev_t rfl) ty27 (bx rfl rfl) rfl) ?_
                refine DrOK.s (v := VI (i18)) rfl rfl rfl (e_mv (ev_t rfl)) ?_
                obtain ⟨c21, hm⟩ := hm.ifs
                refine DrOK.s (v := .o (.c (.rp [I ((gd a_.bad i18))]))) rfl rfl rfl (e_ixM (f := cI) (l := a_.bad) (i := i18) (ev_t rfl) (ev_t rfl) el27 c21) ?_
                refine DrOK.s (v := VI ((gd a_.bad i18))) rfl rfl rfl (e_ldR1 (ev_t rfl) ty3 rfl) ?_
                refine DrOK.s (v := .o (.c (.ptr (h.length + 1) 3))) rfl rfl rfl (e_fa' fa29_3 (ev_t rfl)) ?_
                refine DrOK.s (v := .o (.c (.L 1 (b_.bad.map cI)))) rfl rfl rfl (e_ldb1 (ev_t rfl) ty27 (bx rfl rfl) rfl) ?_
                refine DrOK.s (v := VI (i18)) rfl rfl rfl (e_mv (ev_t rfl)) ?_
                obtain ⟨c22, hm⟩ := hm.ifs
                refine DrOK.s (v := .o (.c (.rp [I ((gd b_.bad i18))]))) rfl rfl rfl (e_ixM (f := cI) (l := b_.bad) (i := i18) (ev_t rfl) (ev_t rfl) el27 c22) ?_
                refine DrOK.s (v := VI ((gd b_.bad i18))) rfl rfl rfl (e_ldR1 (ev_t rfl) ty3 rfl) ?_
                refine DrOK.s (v := VB (decide ((gd a_.bad i18) ≠ (gd b_.bad i18)))) rfl rfl rfl (e_neK (ev_t rfl) (ev_t rfl)) ?_
                refine DrOK.nil ?_
                show CdOK _ _ _ _ _ _
                refine CdOK.condD (ev_t rfl) ?_ ?_
                · intro c23; replace hm := hm.ifp c23
                  refine CdOK.seq ?_
                  refine CdOK.region ?_
                  refine RgOK.s (v := VB (false)) rfl rfl rfl (e_as rfl) ?_
                  refine RgOK.nil ?_
                  show CdOK _ _ _ _ _ _
                  refine CdOK.ret ?_
                  refine ⟨.inr rfl, _, rfl, h, [⟨[I (a_.pages), I (a_.spares), .L 2 (a_.places.map Place.cs), .L 1 (a_.bad.map cI)], true, true⟩, ⟨[I (b_.pages), I (b_.spares), .L 2 (b_.places.map Place.cs), .L 1 (b_.bad.map cI)], true, true⟩], _, rfl, rfl, hC, ((renFlV rfl) : RenV _ _ _ _ (VB (false))), ?_⟩
                  have hr := hm.ret
                  replace hr := Ev.ret hr
                  subst hr
                  exact ⟨rfl, rfl⟩
                · intro c24; replace hm := hm.ifn c24
                  refine CdOK.skip ?_
                  show CdOK _ _ _ _ _ _
                  refine CdOK.region ?_
                  refine RgOK.s (v := VI (i18)) rfl rfl rfl (e_mv (ev_t rfl)) ?_
                  refine RgOK.s (v := VI ((w64 (i18 + 1)))) rfl rfl rfl (e_bin (ev_t rfl) rfl rfl rfl) ?_
                  refine RgOK.s (v := VI ((w64 (i18 + 1)))) rfl rfl rfl (e_as (ev_t rfl)) ?_
                  refine RgOK.nil ?_
                  refine Told.id ?_
                  exact ⟨_, (w64 (i18 + 1)), Nat.lt_succ_self _, hm, (.cons rfl (.cons rfl (.cons rfl .nil))), rfl⟩
              · intro c25; replace hm := hm.ifn c25
                refine CdOK.exit ?_
                refine Told.re (σ := []) (X := []) (L' := []) rfl rfl hC (by decide) .nil .nil ?_
                exact ⟨(), hm.ret, .nil, rfl⟩
            · intro _ T0 hm
              show CdOK _ _ _ _ _ _
              refine CdOK.seq ?_
              refine CdOK.region ?_
              refine RgOK.s (v := VB (true)) rfl rfl rfl (e_as rfl) ?_
              refine RgOK.nil ?_
              show CdOK _ _ _ _ _ _
              refine CdOK.ret ?_
              refine ⟨.inr rfl, _, rfl, h, [], _, rfl, rfl, hC, ((renFlV rfl) : RenV _ _ _ _ (VB (true))), ?_⟩
              have hr := hm.ret
              subst hr
              exact ⟨rfl, rfl⟩
end Rv
