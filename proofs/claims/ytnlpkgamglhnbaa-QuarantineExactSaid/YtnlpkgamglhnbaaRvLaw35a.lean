/- Chapter 35: the statements' functions, as plain functions. -/
import Derived.Test.YtnlpkgamglhnbaaRvDrw
set_option linter.unusedVariables false
set_option linter.unusedSimpArgs false
namespace Rv
open Go Go.RowKit Go.Proofs
theorem pl18 : plainFn Try.prog 18 = true := by decide +kernel
theorem pl26 : plainFn Try.prog 26 = true := by decide +kernel
theorem pl30 : plainFn Try.prog 30 = true := by decide +kernel
/- pagemend/pagemendlaw35.awake -/
def law35_awake  : Option Bool := ((quarantine_New 4 1).bind fun (x1 : (Remap × Int)) => ((quarantine_Mark x1.1 2).bind fun (x2 : (Remap × Int × Int)) => ((quarantine_Where x2.1 2).bind fun (x3 : (Int × Int)) => ((quarantine_Mark x2.1 3).bind fun (x4 : (Remap × Int × Int)) => (if x1.2 = 0 then (if x2.2.2 = 0 then (if x2.2.1 = 2 then (if x3.2 = 0 then (if x3.1 = 4 then some (decide (x4.2.2 = 47)) else some false) else some false) else some false) else some false) else some false)))))
theorem law35_awake.eq  : law35_awake  = ((quarantine_New 4 1).bind fun (x1 : (Remap × Int)) => ((quarantine_Mark x1.1 2).bind fun (x2 : (Remap × Int × Int)) => ((quarantine_Where x2.1 2).bind fun (x3 : (Int × Int)) => ((quarantine_Mark x2.1 3).bind fun (x4 : (Remap × Int × Int)) => (if x1.2 = 0 then (if x2.2.2 = 0 then (if x2.2.1 = 2 then (if x3.2 = 0 then (if x3.1 = 4 then some (decide (x4.2.2 = 47)) else some false) else some false) else some false) else some false) else some false))))) := rfl
theorem law35_awake_ok {h : Heap}   {r : Bool} (hm : law35_awake  = some r) : FnOK Try.prog 16 [] h (fun v h' => v = VB (r) ∧ h' = h) := by
  refine FnOK.fin ?_
  refine FnOK.bodyC (N := 53) Try.func16 rfl rfl rfl (fun hC => ?_)
  replace hm := Ev.of hm
  rw [law35_awake.eq] at hm
  show CdOK _ _ _ (look _ []) (h ++ ([] : Heap)) _
  refine CdOK.seq ?_
  refine CdOK.region ?_
  refine RgOK.s (v := VB (false)) rfl rfl rfl (e_as rfl) ?_
  refine RgOK.nil ?_
  show CdOK _ _ _ _ _ _
  refine CdOK.seq ?_
  refine CdOK.region ?_
  obtain ⟨x1, e1, hm⟩ := hm.call
  refine RgOK.cl rfl rfl rfl rfl pl18 (R2.wk _) (quarantine_New_ok   e1) ?_
  rintro _ _ ⟨rfl, rfl⟩
  refine RgOK.s (v := .tup [.agg [I (x1.1.pages), I (x1.1.spares), .L 2 (x1.1.places.map Place.cs), .L 1 (x1.1.bad.map cI)], .c (I (x1.2))]) rfl rfl rfl (e_mv (ev_t rfl)) ?_
  refine RgOK.s (v := .o (.agg [I (x1.1.pages), I (x1.1.spares), .L 2 (x1.1.places.map Place.cs), .L 1 (x1.1.bad.map cI)])) rfl rfl rfl (e_ext (ev_t rfl) rfl) ?_
  refine RgOK.s (v := VI (x1.2)) rfl rfl rfl (e_ext (ev_t rfl) rfl) ?_
  refine RgOK.s (v := .o (.c (.ptr (h.length + 0) 0))) rfl rfl rfl (e_allocN (L' := [⟨[I (0), I (0), .v (.slice none 0 0), .v (.slice none 0 0)], true, true⟩]) rfl zo29 rfl rfl) ?_
  refine RgOK.s0 rfl rfl (e_stN (L' := [⟨[I (x1.1.pages), I (x1.1.spares), .L 2 (x1.1.places.map Place.cs), .L 1 (x1.1.bad.map cI)], true, true⟩]) rfl (ev_t rfl) (ev_t rfl) ty29 rfl rfl rfl rfl rfl) ?_
  refine RgOK.s (v := VI (x1.2)) rfl rfl rfl (e_as (ev_t rfl)) ?_
  refine RgOK.nil ?_
  show CdOK _ _ _ _ _ _
  refine CdOK.seq ?_
  refine CdOK.region ?_
  refine RgOK.s (v := .o (.agg [I (x1.1.pages), I (x1.1.spares), .L 2 (x1.1.places.map Place.cs), .L 1 (x1.1.bad.map cI)])) rfl rfl rfl (e_ldbA (ev_t rfl) ty29 (bx rfl rfl) rfl rfl) ?_
  obtain ⟨x2, e2, hm⟩ := hm.call
  refine RgOK.cl rfl rfl rfl rfl pl30 (R2.wk _) (quarantine_Mark_ok   e2) ?_
  rintro _ _ ⟨rfl, rfl⟩
  refine RgOK.s (v := .tup [.agg [I (x2.1.pages), I (x2.1.spares), .L 2 (x2.1.places.map Place.cs), .L 1 (x2.1.bad.map cI)], .c (I (x2.2.1)), .c (I (x2.2.2))]) rfl rfl rfl (e_mv (ev_t rfl)) ?_
  refine RgOK.s (v := .o (.agg [I (x2.1.pages), I (x2.1.spares), .L 2 (x2.1.places.map Place.cs), .L 1 (x2.1.bad.map cI)])) rfl rfl rfl (e_ext (ev_t rfl) rfl) ?_
  refine RgOK.s (v := VI (x2.2.1)) rfl rfl rfl (e_ext (ev_t rfl) rfl) ?_
  refine RgOK.s (v := VI (x2.2.2)) rfl rfl rfl (e_ext (ev_t rfl) rfl) ?_
  refine RgOK.s0 rfl rfl (e_stN (L' := [⟨[I (x2.1.pages), I (x2.1.spares), .L 2 (x2.1.places.map Place.cs), .L 1 (x2.1.bad.map cI)], true, true⟩]) rfl (ev_t rfl) (ev_t rfl) ty29 rfl rfl rfl rfl rfl) ?_
  refine RgOK.s (v := VI (x2.2.1)) rfl rfl rfl (e_as (ev_t rfl)) ?_
  refine RgOK.s (v := VI (x2.2.2)) rfl rfl rfl (e_as (ev_t rfl)) ?_
  refine RgOK.nil ?_
  show CdOK _ _ _ _ _ _
  refine CdOK.seq ?_
  refine CdOK.region ?_
  refine RgOK.s (v := .o (.agg [I (x2.1.pages), I (x2.1.spares), .L 2 (x2.1.places.map Place.cs), .L 1 (x2.1.bad.map cI)])) rfl rfl rfl (e_ldbA (ev_t rfl) ty29 (bx rfl rfl) rfl rfl) ?_
  obtain ⟨x3, e3, hm⟩ := hm.call
  refine RgOK.cl rfl rfl rfl rfl pl26 (R2.wk _) (quarantine_Where_ok   e3) ?_
  rintro _ _ ⟨rfl, rfl⟩
  refine RgOK.s (v := .tup [.c (I (x3.1)), .c (I (x3.2))]) rfl rfl rfl (e_mv (ev_t rfl)) ?_
  refine RgOK.s (v := VI (x3.1)) rfl rfl rfl (e_ext (ev_t rfl) rfl) ?_
  refine RgOK.s (v := VI (x3.2)) rfl rfl rfl (e_ext (ev_t rfl) rfl) ?_
  refine RgOK.s (v := VI (x3.1)) rfl rfl rfl (e_as (ev_t rfl)) ?_
  refine RgOK.s (v := VI (x3.2)) rfl rfl rfl (e_as (ev_t rfl)) ?_
  refine RgOK.nil ?_
  show CdOK _ _ _ _ _ _
  refine CdOK.seq ?_
  refine CdOK.region ?_
  refine RgOK.s (v := .o (.agg [I (x2.1.pages), I (x2.1.spares), .L 2 (x2.1.places.map Place.cs), .L 1 (x2.1.bad.map cI)])) rfl rfl rfl (e_ldbA (ev_t rfl) ty29 (bx rfl rfl) rfl rfl) ?_
  obtain ⟨x4, e4, hm⟩ := hm.call
  refine RgOK.cl rfl rfl rfl rfl pl30 (R2.wk _) (quarantine_Mark_ok   e4) ?_
  rintro _ _ ⟨rfl, rfl⟩
  refine RgOK.s (v := .tup [.agg [I (x4.1.pages), I (x4.1.spares), .L 2 (x4.1.places.map Place.cs), .L 1 (x4.1.bad.map cI)], .c (I (x4.2.1)), .c (I (x4.2.2))]) rfl rfl rfl (e_mv (ev_t rfl)) ?_
  refine RgOK.s (v := .o (.agg [I (x4.1.pages), I (x4.1.spares), .L 2 (x4.1.places.map Place.cs), .L 1 (x4.1.bad.map cI)])) rfl rfl rfl (e_ext (ev_t rfl) rfl) ?_
  refine RgOK.s (v := VI (x4.2.1)) rfl rfl rfl (e_ext (ev_t rfl) rfl) ?_
  refine RgOK.s (v := VI (x4.2.2)) rfl rfl rfl (e_ext (ev_t rfl) rfl) ?_
  refine RgOK.s (v := .o (.c (.ptr (h.length + 1) 0))) rfl rfl rfl (e_allocN (L' := [⟨[I (x2.1.pages), I (x2.1.spares), .L 2 (x2.1.places.map Place.cs), .L 1 (x2.1.bad.map cI)], true, true⟩, ⟨[I (0), I (0), .v (.slice none 0 0), .v (.slice none 0 0)], true, true⟩]) rfl zo29 rfl rfl) ?_
  refine RgOK.s0 rfl rfl (e_stN (L' := [⟨[I (x2.1.pages), I (x2.1.spares), .L 2 (x2.1.places.map Place.cs), .L 1 (x2.1.bad.map cI)], true, true⟩, ⟨[I (x4.1.pages), I (x4.1.spares), .L 2 (x4.1.places.map Place.cs), .L 1 (x4.1.bad.map cI)], true, true⟩]) rfl (ev_t rfl) (ev_t rfl) ty29 rfl rfl rfl rfl rfl) ?_
  refine RgOK.s (v := VI (x4.2.1)) rfl rfl rfl (e_as (ev_t rfl)) ?_
  refine RgOK.s (v := VI (x4.2.2)) rfl rfl rfl (e_as (ev_t rfl)) ?_
  refine RgOK.nil ?_
  show CdOK _ _ _ _ _ _
  refine CdOK.seq ?_
  refine CdOK.region ?_
  refine RgOK.s (v := VI (x1.2)) rfl rfl rfl (e_mv (ev_t rfl)) ?_
  refine RgOK.sd rfl rfl rfl (e_eqK (ev_t rfl) rfl) ?_ ?_
  · intro c5; replace hm := hm.ifp c5
    refine RgOK.s (v := VB (true)) rfl rfl rfl (e_mv (ev_t rfl)) ?_
    refine RgOK.s (v := VI (x2.2.2)) rfl rfl rfl (e_mv (ev_t rfl)) ?_
    refine RgOK.sd rfl rfl rfl (e_eqK (ev_t rfl) rfl) ?_ ?_
    · intro c6; replace hm := hm.ifp c6
      refine RgOK.s (v := VB (true)) rfl rfl rfl (e_pick (t := true) (ev_t rfl) (ev_t rfl)) ?_
      refine RgOK.s (v := VB (true)) rfl rfl rfl (e_mv (ev_t rfl)) ?_
      refine RgOK.s (v := VI (x2.2.1)) rfl rfl rfl (e_mv (ev_t rfl)) ?_
      refine RgOK.sd rfl rfl rfl (e_eqK (ev_t rfl) rfl) ?_ ?_
      · intro c7; replace hm := hm.ifp c7
        refine RgOK.s (v := VB (true)) rfl rfl rfl (e_pick (t := true) (ev_t rfl) (ev_t rfl)) ?_
        refine RgOK.s (v := VB (true)) rfl rfl rfl (e_mv (ev_t rfl)) ?_
        refine RgOK.s (v := VI (x3.2)) rfl rfl rfl (e_mv (ev_t rfl)) ?_
        refine RgOK.sd rfl rfl rfl (e_eqK (ev_t rfl) rfl) ?_ ?_
        · intro c8; replace hm := hm.ifp c8
          refine RgOK.s (v := VB (true)) rfl rfl rfl (e_pick (t := true) (ev_t rfl) (ev_t rfl)) ?_
          refine RgOK.s (v := VB (true)) rfl rfl rfl (e_mv (ev_t rfl)) ?_
          refine RgOK.s (v := VI (x3.1)) rfl rfl rfl (e_mv (ev_t rfl)) ?_
          refine RgOK.sd rfl rfl rfl (e_eqK (ev_t rfl) rfl) ?_ ?_
          · intro c9; replace hm := hm.ifp c9
            refine RgOK.s (v := VB (true)) rfl rfl rfl (e_pick (t := true) (ev_t rfl) (ev_t rfl)) ?_
            refine RgOK.s (v := VB (true)) rfl rfl rfl (e_mv (ev_t rfl)) ?_
            refine RgOK.s (v := VI (x4.2.2)) rfl rfl rfl (e_mv (ev_t rfl)) ?_
            refine RgOK.s (v := VB (decide (x4.2.2 = 47))) rfl rfl rfl (e_eqK (ev_t rfl) rfl) ?_
            refine RgOK.s (v := VB (decide (x4.2.2 = 47))) rfl rfl rfl (e_pick (t := true) (ev_t rfl) (ev_t rfl)) ?_
            refine RgOK.s (v := VB (decide (x4.2.2 = 47))) rfl rfl rfl (e_as (ev_t rfl)) ?_
            refine RgOK.nil ?_
            show CdOK _ _ _ _ _ _
            refine CdOK.ret ?_
            refine ⟨.inr rfl, _, rfl, h, [⟨[I (x2.1.pages), I (x2.1.spares), .L 2 (x2.1.places.map Place.cs), .L 1 (x2.1.bad.map cI)], true, true⟩, ⟨[I (x4.1.pages), I (x4.1.spares), .L 2 (x4.1.places.map Place.cs), .L 1 (x4.1.bad.map cI)], true, true⟩], _, rfl, rfl, hC, ((renFlV rfl) : RenV _ _ _ _ (VB (decide (x4.2.2 = 47)))), ?_⟩
            have hr := hm.ret
            subst hr
            exact ⟨rfl, rfl⟩
          · intro c10; replace hm := hm.ifn c10
            refine RgOK.s (v := VB (false)) rfl rfl rfl (e_pick (t := true) (ev_t rfl) (ev_t rfl)) ?_
            refine RgOK.s (v := VB (false)) rfl rfl rfl (e_mv (ev_t rfl)) ?_
            refine RgOK.sk rfl rfl rfl ?_
            refine RgOK.sk rfl rfl rfl ?_
            refine RgOK.s (v := VB (false)) rfl rfl rfl (e_pick (t := false) (ev_t rfl) rfl) ?_
            refine RgOK.s (v := VB (false)) rfl rfl rfl (e_as (ev_t rfl)) ?_
            refine RgOK.nil ?_
            show CdOK _ _ _ _ _ _
            refine CdOK.ret ?_
            refine ⟨.inr rfl, _, rfl, h, [⟨[I (x2.1.pages), I (x2.1.spares), .L 2 (x2.1.places.map Place.cs), .L 1 (x2.1.bad.map cI)], true, true⟩, ⟨[I (x4.1.pages), I (x4.1.spares), .L 2 (x4.1.places.map Place.cs), .L 1 (x4.1.bad.map cI)], true, true⟩], _, rfl, rfl, hC, ((renFlV rfl) : RenV _ _ _ _ (VB (false))), ?_⟩
            have hr := hm.ret
            subst hr
            exact ⟨rfl, rfl⟩
        · intro c11; replace hm := hm.ifn c11
          refine RgOK.s (v := VB (false)) rfl rfl rfl (e_pick (t := true) (ev_t rfl) (ev_t rfl)) ?_
          refine RgOK.s (v := VB (false)) rfl rfl rfl (e_mv (ev_t rfl)) ?_
          refine RgOK.sk rfl rfl rfl ?_
          refine RgOK.sk rfl rfl rfl ?_
          refine RgOK.s (v := VB (false)) rfl rfl rfl (e_pick (t := false) (ev_t rfl) rfl) ?_
          refine RgOK.s (v := VB (false)) rfl rfl rfl (e_mv (ev_t rfl)) ?_
          refine RgOK.sk rfl rfl rfl ?_
          refine RgOK.sk rfl rfl rfl ?_
          refine RgOK.s (v := VB (false)) rfl rfl rfl (e_pick (t := false) (ev_t rfl) rfl) ?_
          refine RgOK.s (v := VB (false)) rfl rfl rfl (e_as (ev_t rfl)) ?_
          refine RgOK.nil ?_
          show CdOK _ _ _ _ _ _
          refine CdOK.ret ?_
          refine ⟨.inr rfl, _, rfl, h, [⟨[I (x2.1.pages), I (x2.1.spares), .L 2 (x2.1.places.map Place.cs), .L 1 (x2.1.bad.map cI)], true, true⟩, ⟨[I (x4.1.pages), I (x4.1.spares), .L 2 (x4.1.places.map Place.cs), .L 1 (x4.1.bad.map cI)], true, true⟩], _, rfl, rfl, hC, ((renFlV rfl) : RenV _ _ _ _ (VB (false))), ?_⟩
          have hr := hm.ret
          subst hr
          exact ⟨rfl, rfl⟩
      · intro c12; replace hm := hm.ifn c12
        refine RgOK.s (v := VB (false)) rfl rfl rfl (e_pick (t := true) (ev_t rfl) (ev_t rfl)) ?_
        refine RgOK.s (v := VB (false)) rfl rfl rfl (e_mv (ev_t rfl)) ?_
        refine RgOK.sk rfl rfl rfl ?_
        refine RgOK.sk rfl rfl rfl ?_
        refine RgOK.s (v := VB (false)) rfl rfl rfl (e_pick (t := false) (ev_t rfl) rfl) ?_
        refine RgOK.s (v := VB (false)) rfl rfl rfl (e_mv (ev_t rfl)) ?_
        refine RgOK.sk rfl rfl rfl ?_
        refine RgOK.sk rfl rfl rfl ?_
        refine RgOK.s (v := VB (false)) rfl rfl rfl (e_pick (t := false) (ev_t rfl) rfl) ?_
        refine RgOK.s (v := VB (false)) rfl rfl rfl (e_mv (ev_t rfl)) ?_
        refine RgOK.sk rfl rfl rfl ?_
        refine RgOK.sk rfl rfl rfl ?_
        refine RgOK.s (v := VB (false)) rfl rfl rfl (e_pick (t := false) (ev_t rfl) rfl) ?_
        refine RgOK.s (v := VB (false)) rfl rfl rfl (e_as (ev_t rfl)) ?_
        refine RgOK.nil ?_
        show CdOK _ _ _ _ _ _
        refine CdOK.ret ?_
        refine ⟨.inr rfl, _, rfl, h, [⟨[I (x2.1.pages), I (x2.1.spares), .L 2 (x2.1.places.map Place.cs), .L 1 (x2.1.bad.map cI)], true, true⟩, ⟨[I (x4.1.pages), I (x4.1.spares), .L 2 (x4.1.places.map Place.cs), .L 1 (x4.1.bad.map cI)], true, true⟩], _, rfl, rfl, hC, ((renFlV rfl) : RenV _ _ _ _ (VB (false))), ?_⟩
        have hr := hm.ret
        subst hr
        exact ⟨rfl, rfl⟩
    · intro c13; replace hm := hm.ifn c13
      refine RgOK.s (v := VB (false)) rfl rfl rfl (e_pick (t := true) (ev_t rfl) (ev_t rfl)) ?_
      refine RgOK.s (v := VB (false)) rfl rfl rfl (e_mv (ev_t rfl)) ?_
      refine RgOK.sk rfl rfl rfl ?_
      refine RgOK.sk rfl rfl rfl ?_
      refine RgOK.s (v := VB (false)) rfl rfl rfl (e_pick (t := false) (ev_t rfl) rfl) ?_
      refine RgOK.s (v := VB (false)) rfl rfl rfl (e_mv (ev_t rfl)) ?_
      refine RgOK.sk rfl rfl rfl ?_
      refine RgOK.sk rfl rfl rfl ?_
      refine RgOK.s (v := VB (false)) rfl rfl rfl (e_pick (t := false) (ev_t rfl) rfl) ?_
      refine RgOK.s (v := VB (false)) rfl rfl rfl (e_mv (ev_t rfl)) ?_
      refine RgOK.sk rfl rfl rfl ?_
      refine RgOK.sk rfl rfl rfl ?_
      refine RgOK.s (v := VB (false)) rfl rfl rfl (e_pick (t := false) (ev_t rfl) rfl) ?_
      refine RgOK.s (v := VB (false)) rfl rfl rfl (e_mv (ev_t rfl)) ?_
      refine RgOK.sk rfl rfl rfl ?_
      refine RgOK.sk rfl rfl rfl ?_
      refine RgOK.s (v := VB (false)) rfl rfl rfl (e_pick (t := false) (ev_t rfl) rfl) ?_
      refine RgOK.s (v := VB (false)) rfl rfl rfl (e_as (ev_t rfl)) ?_
      refine RgOK.nil ?_
      show CdOK _ _ _ _ _ _
      refine CdOK.ret ?_
      refine ⟨.inr rfl, _, rfl, h, [⟨[I (x2.1.pages), I (x2.1.spares), .L 2 (x2.1.places.map Place.cs), .L 1 (x2.1.bad.map cI)], true, true⟩, ⟨[I (x4.1.pages), I (x4.1.spares), .L 2 (x4.1.places.map Place.cs), .L 1 (x4.1.bad.map cI)], true, true⟩], _, rfl, rfl, hC, ((renFlV rfl) : RenV _ _ _ _ (VB (false))), ?_⟩
      have hr := hm.ret
      subst hr
      exact ⟨rfl, rfl⟩
  · intro c14; replace hm := hm.ifn c14
    refine RgOK.s (v := VB (false)) rfl rfl rfl (e_mv (ev_t rfl)) ?_
    refine RgOK.sk rfl rfl rfl ?_
    refine RgOK.sk rfl rfl rfl ?_
    refine RgOK.s (v := VB (false)) rfl rfl rfl (e_pick (t := false) (ev_t rfl) rfl) ?_
    refine RgOK.s (v := VB (false)) rfl rfl rfl (e_mv (ev_t rfl)) ?_
    refine RgOK.sk rfl rfl rfl ?_
    refine RgOK.sk rfl rfl rfl ?_
    refine RgOK.s (v := VB (false)) rfl rfl rfl (e_pick (t := false) (ev_t rfl) rfl) ?_
    refine RgOK.s (v := VB (false)) rfl rfl rfl (e_mv (ev_t rfl)) ?_
    refine RgOK.sk rfl rfl rfl ?_
    refine RgOK.sk rfl rfl rfl ?_
    refine RgOK.s (v := VB (false)) rfl rfl rfl (e_pick (t := false) (ev_t rfl) rfl) ?_
    refine RgOK.s (v := VB (false)) rfl rfl rfl (e_mv (ev_t rfl)) ?_
    refine RgOK.sk rfl rfl rfl ?_
    refine RgOK.sk rfl rfl rfl ?_
    refine RgOK.s (v := VB (false)) rfl rfl rfl (e_pick (t := false) (ev_t rfl) rfl) ?_
    refine RgOK.s (v := VB (false)) rfl rfl rfl (e_mv (ev_t rfl)) ?_
    refine RgOK.sk rfl rfl rfl ?_
    refine RgOK.sk rfl rfl rfl ?_
    refine RgOK.s (v := VB (false)) rfl rfl rfl (e_pick (t := false) (ev_t rfl) rfl) ?_
    refine RgOK.s (v := VB (false)) rfl rfl rfl (e_as (ev_t rfl)) ?_
    refine RgOK.nil ?_
    show CdOK _ _ _ _ _ _
    refine CdOK.ret ?_
    refine ⟨.inr rfl, _, rfl, h, [⟨[I (x2.1.pages), I (x2.1.spares), .L 2 (x2.1.places.map Place.cs), .L 1 (x2.1.bad.map cI)], true, true⟩, ⟨[I (x4.1.pages), I (x4.1.spares), .L 2 (x4.1.places.map Place.cs), .L 1 (x4.1.bad.map cI)], true, true⟩], _, rfl, rfl, hC, ((renFlV rfl) : RenV _ _ _ _ (VB (false))), ?_⟩
    have hr := hm.ret
    subst hr
    exact ⟨rfl, rfl⟩
end Rv
