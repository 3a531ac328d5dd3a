/- Chapter 35: the statements' functions, as plain functions. -/
import Derived.Test.YtnlpkgamglhnbaaRvDrw
set_option linter.unusedVariables false
set_option linter.unusedSimpArgs false
namespace Rv
open Go Go.RowKit Go.Proofs
theorem el46 : ElF Try.prog 46 1 := .of (by decide +kernel)
theorem pl16 : plainFn Try.prog 16 = true := by decide +kernel
theorem pl17 : plainFn Try.prog 17 = true := by decide +kernel
theorem pl18 : plainFn Try.prog 18 = true := by decide +kernel
theorem pl24 : plainFn Try.prog 24 = true := by decide +kernel
theorem pl26 : plainFn Try.prog 26 = true := by decide +kernel
theorem pl30 : plainFn Try.prog 30 = true := by decide +kernel
theorem slt46 : SlT Try.prog 46 1 ([Bo false]) 1 := .of (e := 4) (by decide +kernel) (by kernel_rfl) rfl
/- pagemend/pagemendlaw35.awake -/
def law35_awake  : Option Bool := ((quarantine_New 4 1).bind fun (x1 : (Remap × Int)) => ((quarantine_Mark x1.1 2).bind fun (x2 : (Remap × Int × Int)) => ((quarantine_Where x2.1 2).bind fun (x3 : (Int × Int)) => ((quarantine_Mark x2.1 3).bind fun (x4 : (Remap × Int × Int)) => (if x1.2 = 0 then (if x2.2.2 = 0 then (if x2.2.1 = 2 then (if x3.2 = 0 then (if x3.1 = 4 then some (decide (x4.2.2 = 47)) else some false) else some false) else some false) else some false) else some false)))))
theorem law35_awake.eq  : law35_awake  = ((quarantine_New 4 1).bind fun (x1 : (Remap × Int)) => ((quarantine_Mark x1.1 2).bind fun (x2 : (Remap × Int × Int)) => ((quarantine_Where x2.1 2).bind fun (x3 : (Int × Int)) => ((quarantine_Mark x2.1 3).bind fun (x4 : (Remap × Int × Int)) => (if x1.2 = 0 then (if x2.2.2 = 0 then (if x2.2.1 = 2 then (if x3.2 = 0 then (if x3.1 = 4 then some (decide (x4.2.2 = 47)) else some false) else some false) else some false) else some false) else some false))))) := rfl
theorem law35_awake_ok {h : Heap}   {r : Bool} (hm : law35_awake  = some r) : FnOK Try.prog 16 [] h (fun v h' => v = VB (r) ∧ h' = h) := by
  refine FnOK.fin ?_
  refine FnOK.bodyC (N := 53) Try.func16 rfl rfl rfl (fun hC => ?_)
  replace hm := Ev.of hm
  rw [law35_awake.eq] at hm
  show CdOK _ _ _ (look _ []) (h ++ ([] : Heap)) _
  refine CdOK.seq ?_
  refine CdOK.region ?_
  refine RgOK.s (v := VB (false)) rfl rfl rfl (e_as rfl) ?_
  refine RgOK.nil ?_
  show CdOK _ _ _ _ _ _
  refine CdOK.seq ?_
  refine CdOK.region ?_
  obtain ⟨x1, e1, hm⟩ := hm.call
  refine RgOK.cl rfl rfl rfl rfl pl18 (R2.wk _) (quarantine_New_ok   e1) ?_
  rintro _ _ ⟨rfl, rfl⟩
  refine RgOK.s (v := .tup [.agg [I (x1.1.pages), I (x1.1.spares), .L 2 (x1.1.places.map Place.cs), .L 1 (x1.1.bad.map cI)], .c (I (x1.2))]) rfl rfl rfl (e_mv (ev_t rfl)) ?_
  refine RgOK.s (v := .o (.agg [I (x1.1.pages), I (x1.1.spares), .L 2 (x1.1.places.map Place.cs), .L 1 (x1.1.bad.map cI)])) rfl rfl rfl (e_ext (ev_t rfl) rfl) ?_
  refine RgOK.s (v := VI (x1.2)) rfl rfl rfl (e_ext (ev_t rfl) rfl) ?_
  refine RgOK.s (v := .o (.c (.ptr (h.length + 0) 0))) rfl rfl rfl (e_allocN (L' := [⟨[I (0), I (0), .v (.slice none 0 0), .v (.slice none 0 0)], true, true⟩]) rfl zo29 rfl rfl) ?_
  refine RgOK.s0 rfl rfl (e_stN (L' := [⟨[I (x1.1.pages), I (x1.1.spares), .L 2 (x1.1.places.map Place.cs), .L 1 (x1.1.bad.map cI)], true, true⟩]) rfl (ev_t rfl) (ev_t rfl) ty29 rfl rfl rfl rfl rfl) ?_
  refine RgOK.s (v := VI (x1.2)) rfl rfl rfl (e_as (ev_t rfl)) ?_
  refine RgOK.nil ?_
  show CdOK _ _ _ _ _ _
  refine CdOK.seq ?_
  refine CdOK.region ?_
  refine RgOK.s (v := .o (.agg [I (x1.1.pages), I (x1.1.spares), .L 2 (x1.1.places.map Place.cs), .L 1 (x1.1.bad.map cI)])) rfl rfl rfl (e_ldbA (ev_t rfl) ty29 (bx rfl rfl) rfl rfl) ?_
  obtain ⟨x2, e2, hm⟩ := hm.call
  refine RgOK.cl rfl rfl rfl rfl pl30 (R2.wk _) (quarantine_Mark_ok   e2) ?_
  rintro _ _ ⟨rfl, rfl⟩
  refine RgOK.s (v := .tup [.agg [I (x2.1.pages), I (x2.1.spares), .L 2 (x2.1.places.map Place.cs), .L 1 (x2.1.bad.map cI)], .c (I (x2.2.1)), .c (I (x2.2.2))]) rfl rfl rfl (e_mv (ev_t rfl)) ?_
  refine RgOK.s (v := .o (.agg [I (x2.1.pages), I (x2.1.spares), .L 2 (x2.1.places.map Place.cs), .L 1 (x2.1.bad.map cI)])) rfl rfl rfl (e_ext (ev_t rfl) rfl) ?_
  refine RgOK.s (v := VI (x2.2.1)) rfl rfl rfl (e_ext (ev_t rfl) rfl) ?_
  refine RgOK.s (v := VI (x2.2.2)) rfl rfl rfl (e_ext (ev_t rfl) rfl) ?_
  refine RgOK.s0 rfl rfl (e_stN (L' := [⟨[I (x2.1.pages), I (x2.1.spares), .L 2 (x2.1.places.map Place.cs), .L 1 (x2.1.bad.map cI)], true, true⟩]) rfl (ev_t rfl) (ev_t rfl) ty29 rfl rfl rfl rfl rfl) ?_
  refine RgOK.s (v := VI (x2.2.1)) rfl rfl rfl (e_as (ev_t rfl)) ?_
  refine RgOK.s (v := VI (x2.2.2)) rfl rfl rfl (e_as (ev_t rfl)) ?_
  refine RgOK.nil ?_
  show CdOK _ _ _ _ _ _
  refine CdOK.seq ?_
  refine CdOK.region ?_
  refine RgOK.s (v := .o (.agg [I (x2.1.pages), I (x2.1.spares), .L 2 (x2.1.places.map Place.cs), .L 1 (x2.1.bad.map cI)])) rfl rfl rfl (e_ldbA (ev_t rfl) ty29 (bx rfl rfl) rfl rfl) ?_
  obtain ⟨x3, e3, hm⟩ := hm.call
  refine RgOK.cl rfl rfl rfl rfl pl26 (R2.wk _) (quarantine_Where_ok   e3) ?_
  rintro _ _ ⟨rfl, rfl⟩
  refine RgOK.s (v := .tup [.c (I (x3.1)), .c (I (x3.2))]) rfl rfl rfl (e_mv (ev_t rfl)) ?_
  refine RgOK.s (v := VI (x3.1)) rfl rfl rfl (e_ext (ev_t rfl) rfl) ?_
  refine RgOK.s (v := VI (x3.2)) rfl rfl rfl (e_ext (ev_t rfl) rfl) ?_
  refine RgOK.s (v := VI (x3.1)) rfl rfl rfl (e_as (ev_t rfl)) ?_
  refine RgOK.s (v := VI (x3.2)) rfl rfl rfl (e_as (ev_t rfl)) ?_
  refine RgOK.nil ?_
  show CdOK _ _ _ _ _ _
  refine CdOK.seq ?_
  refine CdOK.region ?_
  refine RgOK.s (v := .o (.agg [I (x2.1.pages), I (x2.1.spares), .L 2 (x2.1.places.map Place.cs), .L 1 (x2.1.bad.map cI)])) rfl rfl rfl (e_ldbA (ev_t rfl) ty29 (bx rfl rfl) rfl rfl) ?_
  obtain ⟨x4, e4, hm⟩ := hm.call
  refine RgOK.cl rfl rfl rfl rfl pl30 (R2.wk _) (quarantine_Mark_ok   e4) ?_
  rintro _ _ ⟨rfl, rfl⟩
  refine RgOK.s (v := .tup [.agg [I (x4.1.pages), I (x4.1.spares), .L 2 (x4.1.places.map Place.cs), .L 1 (x4.1.bad.map cI)], .c (I (x4.2.1)), .c (I (x4.2.2))]) rfl rfl rfl (e_mv (ev_t rfl)) ?_
  refine RgOK.s (v := .o (.agg [I (x4.1.pages), I (x4.1.spares), .L 2 (x4.1.places.map Place.cs), .L 1 (x4.1.bad.map cI)])) rfl rfl rfl (e_ext (ev_t rfl) rfl) ?_
  refine RgOK.s (v := VI (x4.2.1)) rfl rfl rfl (e_ext (ev_t rfl) rfl) ?_
  refine RgOK.s (v := VI (x4.2.2)) rfl rfl rfl (e_ext (ev_t rfl) rfl) ?_
  refine RgOK.s (v := .o (.c (.ptr (h.length + 1) 0))) rfl rfl rfl (e_allocN (L' := [⟨[I (x2.1.pages), I (x2.1.spares), .L 2 (x2.1.places.map Place.cs), .L 1 (x2.1.bad.map cI)], true, true⟩, ⟨[I (0), I (0), .v (.slice none 0 0), .v (.slice none 0 0)], true, true⟩]) rfl zo29 rfl rfl) ?_
  refine RgOK.s0 rfl rfl (e_stN (L' := [⟨[I (x2.1.pages), I (x2.1.spares), .L 2 (x2.1.places.map Place.cs), .L 1 (x2.1.bad.map cI)], true, true⟩, ⟨[I (x4.1.pages), I (x4.1.spares), .L 2 (x4.1.places.map Place.cs), .L 1 (x4.1.bad.map cI)], true, true⟩]) rfl (ev_t rfl) (ev_t rfl) ty29 rfl rfl rfl rfl rfl) ?_
  refine RgOK.s (v := VI (x4.2.1)) rfl rfl rfl (e_as (ev_t rfl)) ?_
  refine RgOK.s (v := VI (x4.2.2)) rfl rfl rfl (e_as (ev_t rfl)) ?_
  refine RgOK.nil ?_
  show CdOK _ _ _ _ _ _
  refine CdOK.seq ?_
  refine CdOK.region ?_
  refine RgOK.s (v := VI (x1.2)) rfl rfl rfl (e_mv (ev_t rfl)) ?_
  refine RgOK.sd rfl rfl rfl (e_eqK (ev_t rfl) rfl) ?_ ?_
  · intro c5; replace hm := hm.ifp c5
    refine RgOK.s (v := VB (true)) rfl rfl rfl (e_mv (ev_t rfl)) ?_
    refine RgOK.s (v := VI (x2.2.2)) rfl rfl rfl (e_mv (ev_t rfl)) ?_
    refine RgOK.sd rfl rfl rfl (e_eqK (ev_t rfl) rfl) ?_ ?_
    · intro c6; replace hm := hm.ifp c6
      refine RgOK.s (v := VB (true)) rfl rfl rfl (e_pick (t := true) (ev_t rfl) (ev_t rfl)) ?_
      refine RgOK.s (v := VB (true)) rfl rfl rfl (e_mv (ev_t rfl)) ?_
      refine RgOK.s (v := VI (x2.2.1)) rfl rfl rfl (e_mv (ev_t rfl)) ?_
      refine RgOK.sd rfl rfl rfl (e_eqK (ev_t rfl) rfl) ?_ ?_
      · intro c7; replace hm := hm.ifp c7
        refine RgOK.s (v := VB (true)) rfl rfl rfl (e_pick (t := true) (ev_t rfl) (ev_t rfl)) ?_
        refine RgOK.s (v := VB (true)) rfl rfl rfl (e_mv (ev_t rfl)) ?_
        refine RgOK.s (v := VI (x3.2)) rfl rfl rfl (e_mv (ev_t rfl)) ?_
        refine RgOK.sd rfl rfl rfl (e_eqK (ev_t rfl) rfl) ?_ ?_
        · intro c8; replace hm := hm.ifp c8
          refine RgOK.s (v := VB (true)) rfl rfl rfl (e_pick (t := true) (ev_t rfl) (ev_t rfl)) ?_
          refine RgOK.s (v := VB (true)) rfl rfl rfl (e_mv (ev_t rfl)) ?_
          refine RgOK.s (v := VI (x3.1)) rfl rfl rfl (e_mv (ev_t rfl)) ?_
          refine RgOK.sd rfl rfl rfl (e_eqK (ev_t rfl) rfl) ?_ ?_
          · intro c9; replace hm := hm.ifp c9
            refine RgOK.s (v := VB (true)) rfl rfl rfl (e_pick (t := true) (ev_t rfl) (ev_t rfl)) ?_
            refine RgOK.s (v := VB (true)) rfl rfl rfl (e_mv (ev_t rfl)) ?_
            refine RgOK.s (v := VI (x4.2.2)) rfl rfl rfl (e_mv (ev_t rfl)) ?_
            refine RgOK.s (v := VB (decide (x4.2.2 = 47))) rfl rfl rfl (e_eqK (ev_t rfl) rfl) ?_
            refine RgOK.s (v := VB (decide (x4.2.2 = 47))) rfl rfl rfl (e_pick (t := true) (ev_t rfl) (ev_t rfl)) ?_
            refine RgOK.s (v := VB (decide (x4.2.2 = 47))) rfl rfl rfl (e_as (ev_t rfl)) ?_
            refine RgOK.nil ?_
            show CdOK _ _ _ _ _ _
            refine CdOK.ret ?_
            refine ⟨.inr rfl, _, rfl, h, [⟨[I (x2.1.pages), I (x2.1.spares), .L 2 (x2.1.places.map Place.cs), .L 1 (x2.1.bad.map cI)], true, true⟩, ⟨[I (x4.1.pages), I (x4.1.spares), .L 2 (x4.1.places.map Place.cs), .L 1 (x4.1.bad.map cI)], true, true⟩], _, rfl, rfl, hC, ((renFlV rfl) : RenV _ _ _ _ (VB (decide (x4.2.2 = 47)))), ?_⟩
            have hr := hm.ret
            subst hr
            exact ⟨rfl, rfl⟩
          · intro c10; replace hm := hm.ifn c10
            refine RgOK.s (v := VB (false)) rfl rfl rfl (e_pick (t := true) (ev_t rfl) (ev_t rfl)) ?_
            refine RgOK.s (v := VB (false)) rfl rfl rfl (e_mv (ev_t rfl)) ?_
            refine RgOK.sk rfl rfl rfl ?_
            refine RgOK.sk rfl rfl rfl ?_
            refine RgOK.s (v := VB (false)) rfl rfl rfl (e_pick (t := false) (ev_t rfl) rfl) ?_
            refine RgOK.s (v := VB (false)) rfl rfl rfl (e_as (ev_t rfl)) ?_
            refine RgOK.nil ?_
            show CdOK _ _ _ _ _ _
            refine CdOK.ret ?_
            refine ⟨.inr rfl, _, rfl, h, [⟨[I (x2.1.pages), I (x2.1.spares), .L 2 (x2.1.places.map Place.cs), .L 1 (x2.1.bad.map cI)], true, true⟩, ⟨[I (x4.1.pages), I (x4.1.spares), .L 2 (x4.1.places.map Place.cs), .L 1 (x4.1.bad.map cI)], true, true⟩], _, rfl, rfl, hC, ((renFlV rfl) : RenV _ _ _ _ (VB (false))), ?_⟩
            have hr := hm.ret
            subst hr
            exact ⟨rfl, rfl⟩
        · intro c11; replace hm := hm.ifn c11
          refine RgOK.s (v := VB (false)) rfl rfl rfl (e_pick (t := true) (ev_t rfl) (ev_t rfl)) ?_
          refine RgOK.s (v := VB (false)) rfl rfl rfl (e_mv (ev_t rfl)) ?_
          refine RgOK.sk rfl rfl rfl ?_
          refine RgOK.sk rfl rfl rfl ?_
          refine RgOK.s (v := VB (false)) rfl rfl rfl (e_pick (t := false) (ev_t rfl) rfl) ?_
          refine RgOK.s (v := VB (false)) rfl rfl rfl (e_mv (ev_t rfl)) ?_
          refine RgOK.sk rfl rfl rfl ?_
          refine RgOK.sk rfl rfl rfl ?_
          refine RgOK.s (v := VB (false)) rfl rfl rfl (e_pick (t := false) (ev_t rfl) rfl) ?_
          refine RgOK.s (v := VB (false)) rfl rfl rfl (e_as (ev_t rfl)) ?_
          refine RgOK.nil ?_
          show CdOK _ _ _ _ _ _
          refine CdOK.ret ?_
          refine ⟨.inr rfl, _, rfl, h, [⟨[I (x2.1.pages), I (x2.1.spares), .L 2 (x2.1.places.map Place.cs), .L 1 (x2.1.bad.map cI)], true, true⟩, ⟨[I (x4.1.pages), I (x4.1.spares), .L 2 (x4.1.places.map Place.cs), .L 1 (x4.1.bad.map cI)], true, true⟩], _, rfl, rfl, hC, ((renFlV rfl) : RenV _ _ _ _ (VB (false))), ?_⟩
          have hr := hm.ret
          subst hr
          exact ⟨rfl, rfl⟩
      · intro c12; replace hm := hm.ifn c12
        refine RgOK.s (v := VB (false)) rfl rfl rfl (e_pick (t := true) (ev_t rfl) (ev_t rfl)) ?_
        refine RgOK.s (v := VB (false)) rfl rfl rfl (e_mv (ev_t rfl)) ?_
        refine RgOK.sk rfl rfl rfl ?_
        refine RgOK.sk rfl rfl rfl ?_
        refine RgOK.s (v := VB (false)) rfl rfl rfl (e_pick (t := false) (ev_t rfl) rfl) ?_
        refine RgOK.s (v := VB (false)) rfl rfl rfl (e_mv (ev_t rfl)) ?_
        refine RgOK.sk rfl rfl rfl ?_
        refine RgOK.sk rfl rfl rfl ?_
        refine RgOK.s (v := VB (false)) rfl rfl rfl (e_pick (t := false) (ev_t rfl) rfl) ?_
        refine RgOK.s (v := VB (false)) rfl rfl rfl (e_mv (ev_t rfl)) ?_
        refine RgOK.sk rfl rfl rfl ?_
        refine RgOK.sk rfl rfl rfl ?_
        refine RgOK.s (v := VB (false)) rfl rfl rfl (e_pick (t := false) (ev_t rfl) rfl) ?_
        refine RgOK.s (v := VB (false)) rfl rfl rfl (e_as (ev_t rfl)) ?_
        refine RgOK.nil ?_
        show CdOK _ _ _ _ _ _
        refine CdOK.ret ?_
        refine ⟨.inr rfl, _, rfl, h, [⟨[I (x2.1.pages), I (x2.1.spares), .L 2 (x2.1.places.map Place.cs), .L 1 (x2.1.bad.map cI)], true, true⟩, ⟨[I (x4.1.pages), I (x4.1.spares), .L 2 (x4.1.places.map Place.cs), .L 1 (x4.1.bad.map cI)], true, true⟩], _, rfl, rfl, hC, ((renFlV rfl) : RenV _ _ _ _ (VB (false))), ?_⟩
        have hr := hm.ret
        subst hr
        exact ⟨rfl, rfl⟩
    · intro c13; replace hm := hm.ifn c13
      refine RgOK.s (v := VB (false)) rfl rfl rfl (e_pick (t := true) (ev_t rfl) (ev_t rfl)) ?_
      refine RgOK.s (v := VB (false)) rfl rfl rfl (e_mv (ev_t rfl)) ?_
      refine RgOK.sk rfl rfl rfl ?_
      refine RgOK.sk rfl rfl rfl ?_
      refine RgOK.s (v := VB (false)) rfl rfl rfl (e_pick (t := false) (ev_t rfl) rfl) ?_
      refine RgOK.s (v := VB (false)) rfl rfl rfl (e_mv (ev_t rfl)) ?_
      refine RgOK.sk rfl rfl rfl ?_
      refine RgOK.sk rfl rfl rfl ?_
      refine RgOK.s (v := VB (false)) rfl rfl rfl (e_pick (t := false) (ev_t rfl) rfl) ?_
      refine RgOK.s (v := VB (false)) rfl rfl rfl (e_mv (ev_t rfl)) ?_
      refine RgOK.sk rfl rfl rfl ?_
      refine RgOK.sk rfl rfl rfl ?_
      refine RgOK.s (v := VB (false)) rfl rfl rfl (e_pick (t := false) (ev_t rfl) rfl) ?_
      refine RgOK.s (v := VB (false)) rfl rfl rfl (e_mv (ev_t rfl)) ?_
      refine RgOK.sk rfl rfl rfl ?_
      refine RgOK.sk rfl rfl rfl ?_
      refine RgOK.s (v := VB (false)) rfl rfl rfl (e_pick (t := false) (ev_t rfl) rfl) ?_
      refine RgOK.s (v := VB (false)) rfl rfl rfl (e_as (ev_t rfl)) ?_
      refine RgOK.nil ?_
      show CdOK _ _ _ _ _ _
      refine CdOK.ret ?_
      refine ⟨.inr rfl, _, rfl, h, [⟨[I (x2.1.pages), I (x2.1.spares), .L 2 (x2.1.places.map Place.cs), .L 1 (x2.1.bad.map cI)], true, true⟩, ⟨[I (x4.1.pages), I (x4.1.spares), .L 2 (x4.1.places.map Place.cs), .L 1 (x4.1.bad.map cI)], true, true⟩], _, rfl, rfl, hC, ((renFlV rfl) : RenV _ _ _ _ (VB (false))), ?_⟩
      have hr := hm.ret
      subst hr
      exact ⟨rfl, rfl⟩
  · intro c14; replace hm := hm.ifn c14
    refine RgOK.s (v := VB (false)) rfl rfl rfl (e_mv (ev_t rfl)) ?_
    refine RgOK.sk rfl rfl rfl ?_
    refine RgOK.sk rfl rfl rfl ?_
    refine RgOK.s (v := VB (false)) rfl rfl rfl (e_pick (t := false) (ev_t rfl) rfl) ?_
    refine RgOK.s (v := VB (false)) rfl rfl rfl (e_mv (ev_t rfl)) ?_
    refine RgOK.sk rfl rfl rfl ?_
    refine RgOK.sk rfl rfl rfl ?_
    refine RgOK.s (v := VB (false)) rfl rfl rfl (e_pick (t := false) (ev_t rfl) rfl) ?_
    refine RgOK.s (v := VB (false)) rfl rfl rfl (e_mv (ev_t rfl)) ?_
    refine RgOK.sk rfl rfl rfl ?_
    refine RgOK.sk rfl rfl rfl ?_
    refine RgOK.s (v := VB (false)) rfl rfl rfl (e_pick (t := false) (ev_t rfl) rfl) ?_
    refine RgOK.s (v := VB (false)) rfl rfl rfl (e_mv (ev_t rfl)) ?_
    refine RgOK.sk rfl rfl rfl ?_
    refine RgOK.sk rfl rfl rfl ?_
    refine RgOK.s (v := VB (false)) rfl rfl rfl (e_pick (t := false) (ev_t rfl) rfl) ?_
    refine RgOK.s (v := VB (false)) rfl rfl rfl (e_mv (ev_t rfl)) ?_
    refine RgOK.sk rfl rfl rfl ?_
    refine RgOK.sk rfl rfl rfl ?_
    refine RgOK.s (v := VB (false)) rfl rfl rfl (e_pick (t := false) (ev_t rfl) rfl) ?_
    refine RgOK.s (v := VB (false)) rfl rfl rfl (e_as (ev_t rfl)) ?_
    refine RgOK.nil ?_
    show CdOK _ _ _ _ _ _
    refine CdOK.ret ?_
    refine ⟨.inr rfl, _, rfl, h, [⟨[I (x2.1.pages), I (x2.1.spares), .L 2 (x2.1.places.map Place.cs), .L 1 (x2.1.bad.map cI)], true, true⟩, ⟨[I (x4.1.pages), I (x4.1.spares), .L 2 (x4.1.places.map Place.cs), .L 1 (x4.1.bad.map cI)], true, true⟩], _, rfl, rfl, hC, ((renFlV rfl) : RenV _ _ _ _ (VB (false))), ?_⟩
    have hr := hm.ret
    subst hr
    exact ⟨rfl, rfl⟩
/- pagemend/pagemendlaw35.QuarantineSpares -/
def law35_QuarantineSpares.l1 (pages : Int) (spares : Int) : Nat → Int → Int → Remap → Option (Sum (Int × Remap) Bool)
  | 0, _, _, _ => none
  | kk10 + 1, moved7, id8, bx9 => (if id8 < (w64 (1 + (Int.tmod (w64 pages) 30))) then ((quarantine_Where bx9 id8).bind fun (x12 : (Int × Int)) => ((quarantine_Mark bx9 x12.1).bind fun (x13 : (Remap × Int × Int)) => (if x13.2.2 = 0 then (if x13.2.1 = id8 then law35_QuarantineSpares.l1 pages spares kk10 (w64 (moved7 + 1)) (w64 (id8 + 1)) x13.1 else (if x13.2.2 ≠ 47 then some (Sum.inr false) else (if moved7 ≠ (Int.tmod (w64 spares) 17) then some (Sum.inr false) else law35_QuarantineSpares.l1 pages spares kk10 moved7 (w64 (id8 + 1)) bx9))) else (if x13.2.2 ≠ 47 then some (Sum.inr false) else (if moved7 ≠ (Int.tmod (w64 spares) 17) then some (Sum.inr false) else law35_QuarantineSpares.l1 pages spares kk10 moved7 (w64 (id8 + 1)) bx9))))) else some (Sum.inl (moved7, bx9)))
theorem law35_QuarantineSpares.l1_s (pages : Int) (spares : Int) (kk10 : Nat) (moved7 : Int) (id8 : Int) (bx9 : Remap) : law35_QuarantineSpares.l1 pages spares (kk10 + 1) moved7 id8 bx9 = (if id8 < (w64 (1 + (Int.tmod (w64 pages) 30))) then ((quarantine_Where bx9 id8).bind fun (x12 : (Int × Int)) => ((quarantine_Mark bx9 x12.1).bind fun (x13 : (Remap × Int × Int)) => (if x13.2.2 = 0 then (if x13.2.1 = id8 then law35_QuarantineSpares.l1 pages spares kk10 (w64 (moved7 + 1)) (w64 (id8 + 1)) x13.1 else (if x13.2.2 ≠ 47 then some (Sum.inr false) else (if moved7 ≠ (Int.tmod (w64 spares) 17) then some (Sum.inr false) else law35_QuarantineSpares.l1 pages spares kk10 moved7 (w64 (id8 + 1)) bx9))) else (if x13.2.2 ≠ 47 then some (Sum.inr false) else (if moved7 ≠ (Int.tmod (w64 spares) 17) then some (Sum.inr false) else law35_QuarantineSpares.l1 pages spares kk10 moved7 (w64 (id8 + 1)) bx9))))) else some (Sum.inl (moved7, bx9))) := rfl
def law35_QuarantineSpares (pages : Int) (spares : Int) : Option Bool := ((law35_awake ).bind fun (x1 : Bool) => (if (!x1) = true then some false else ((quarantine_New (w64 (1 + (Int.tmod (w64 pages) 30))) (Int.tmod (w64 spares) 17)).bind fun (x4 : (Remap × Int)) => ((law35_QuarantineSpares.l1 pages spares FU 0 0 x4.1).bind fun (z : Sum (Int × Remap) Bool) => match z with | .inl (s27 : (Int × Remap)) => (if x4.2 = 0 then (if s27.1 = (if (Int.tmod (w64 spares) 17) < (w64 (1 + (Int.tmod (w64 pages) 30))) then (Int.tmod (w64 spares) 17) else (w64 (1 + (Int.tmod (w64 pages) 30)))) then ((quarantine_Left s27.2).bind fun (x30 : Int) => some (decide (x30 = (w64 ((Int.tmod (w64 spares) 17) - s27.1))))) else some false) else some false) | .inr r => some r))))
theorem law35_QuarantineSpares.eq (pages : Int) (spares : Int) : law35_QuarantineSpares pages spares = ((law35_awake ).bind fun (x1 : Bool) => (if (!x1) = true then some false else ((quarantine_New (w64 (1 + (Int.tmod (w64 pages) 30))) (Int.tmod (w64 spares) 17)).bind fun (x4 : (Remap × Int)) => ((law35_QuarantineSpares.l1 pages spares FU 0 0 x4.1).bind fun (z : Sum (Int × Remap) Bool) => match z with | .inl (s27 : (Int × Remap)) => (if x4.2 = 0 then (if s27.1 = (if (Int.tmod (w64 spares) 17) < (w64 (1 + (Int.tmod (w64 pages) 30))) then (Int.tmod (w64 spares) 17) else (w64 (1 + (Int.tmod (w64 pages) 30)))) then ((quarantine_Left s27.2).bind fun (x30 : Int) => some (decide (x30 = (w64 ((Int.tmod (w64 spares) 17) - s27.1))))) else some false) else some false) | .inr r => some r)))) := rfl
theorem law35_QuarantineSpares_ok {h : Heap} {pages : Int} {spares : Int}  {r : Bool} (hm : law35_QuarantineSpares pages spares = some r) : FnOK Try.prog 5 [.o (.c (.v (.int .u8 (pages)))), .o (.c (.v (.int .u8 (spares))))] h (fun v h' => v = VB (r) ∧ h' = h) := by
  refine FnOK.fin ?_
  refine FnOK.bodyC (N := 83) Try.func5 rfl rfl rfl (fun hC => ?_)
  replace hm := Ev.of hm
  rw [law35_QuarantineSpares.eq] at hm
  show CdOK _ _ _ (look _ [(0, .o (.c (.v (.int .u8 (pages))))), (1, .o (.c (.v (.int .u8 (spares)))))]) (h ++ ([] : Heap)) _
  refine CdOK.seq ?_
  refine CdOK.region ?_
  refine RgOK.s (v := VB (false)) rfl rfl rfl (e_as rfl) ?_
  refine RgOK.nil ?_
  show CdOK _ _ _ _ _ _
  refine CdOK.seq ?_
  refine CdOK.seq ?_
  refine CdOK.region ?_
  obtain ⟨x1, e1, hm⟩ := hm.call
  refine RgOK.cl rfl rfl rfl rfl pl16 (R2.wk _) (law35_awake_ok   e1) ?_
  rintro _ _ ⟨rfl, rfl⟩
  refine RgOK.s (v := VB ((!x1))) rfl rfl rfl (e_un (ev_t rfl) rfl) ?_
  refine RgOK.nil ?_
  show CdOK _ _ _ _ _ _
  refine CdOK.condB (ev_t rfl) ?_ ?_
  · intro c2; replace hm := hm.ifp c2
    refine CdOK.seq ?_
    refine CdOK.region ?_
    refine RgOK.s (v := VB (false)) rfl rfl rfl (e_as rfl) ?_
    refine RgOK.nil ?_
    show CdOK _ _ _ _ _ _
    refine CdOK.ret ?_
    refine ⟨.inr rfl, _, rfl, h, [], _, rfl, rfl, hC, ((renFlV rfl) : RenV _ _ _ _ (VB (false))), ?_⟩
    have hr := hm.ret
    subst hr
    exact ⟨rfl, rfl⟩
  · intro c3; replace hm := hm.ifn c3
    refine CdOK.skip ?_
    show CdOK _ _ _ _ _ _
    refine CdOK.seq ?_
    refine CdOK.region ?_
    refine RgOK.s (v := .o (.c (.v (.int .u8 (pages))))) rfl rfl rfl (e_mv (ev_t rfl)) ?_
    refine RgOK.s (v := VI ((w64 pages))) rfl rfl rfl (e_cvw cv5_3 (ev_t rfl)) ?_
    refine RgOK.s (v := VI ((Int.tmod (w64 pages) 30))) rfl rfl rfl (e_remK (ev_t rfl) rfl (by decide)) ?_
    refine RgOK.s (v := VI ((w64 (1 + (Int.tmod (w64 pages) 30))))) rfl rfl rfl (e_bin rfl (ev_t rfl) rfl rfl) ?_
    refine RgOK.s (v := .o (.c (.v (.int .u8 (spares))))) rfl rfl rfl (e_mv (ev_t rfl)) ?_
    refine RgOK.s (v := VI ((w64 spares))) rfl rfl rfl (e_cvw cv5_3 (ev_t rfl)) ?_
    refine RgOK.s (v := VI ((Int.tmod (w64 spares) 17))) rfl rfl rfl (e_remK (ev_t rfl) rfl (by decide)) ?_
    refine RgOK.s (v := VI ((w64 (1 + (Int.tmod (w64 pages) 30))))) rfl rfl rfl (e_as (ev_t rfl)) ?_
    refine RgOK.s (v := VI ((Int.tmod (w64 spares) 17))) rfl rfl rfl (e_as (ev_t rfl)) ?_
    refine RgOK.nil ?_
    show CdOK _ _ _ _ _ _
    refine CdOK.seq ?_
    refine CdOK.region ?_
    refine RgOK.s (v := VI ((w64 (1 + (Int.tmod (w64 pages) 30))))) rfl rfl rfl (e_mv (ev_t rfl)) ?_
    refine RgOK.s (v := VI ((Int.tmod (w64 spares) 17))) rfl rfl rfl (e_mv (ev_t rfl)) ?_
    obtain ⟨x4, e4, hm⟩ := hm.call
    refine RgOK.cl rfl rfl rfl rfl pl18 (R2.wk _) (quarantine_New_ok   e4) ?_
    rintro _ _ ⟨rfl, rfl⟩
    refine RgOK.s (v := .tup [.agg [I (x4.1.pages), I (x4.1.spares), .L 2 (x4.1.places.map Place.cs), .L 1 (x4.1.bad.map cI)], .c (I (x4.2))]) rfl rfl rfl (e_mv (ev_t rfl)) ?_
    refine RgOK.s (v := .o (.agg [I (x4.1.pages), I (x4.1.spares), .L 2 (x4.1.places.map Place.cs), .L 1 (x4.1.bad.map cI)])) rfl rfl rfl (e_ext (ev_t rfl) rfl) ?_
    refine RgOK.s (v := VI (x4.2)) rfl rfl rfl (e_ext (ev_t rfl) rfl) ?_
    refine RgOK.s (v := .o (.c (.ptr (h.length + 0) 0))) rfl rfl rfl (e_allocN (L' := [⟨[I (0), I (0), .v (.slice none 0 0), .v (.slice none 0 0)], true, true⟩]) rfl zo29 rfl rfl) ?_
    refine RgOK.s0 rfl rfl (e_stN (L' := [⟨[I (x4.1.pages), I (x4.1.spares), .L 2 (x4.1.places.map Place.cs), .L 1 (x4.1.bad.map cI)], true, true⟩]) rfl (ev_t rfl) (ev_t rfl) ty29 rfl rfl rfl rfl rfl) ?_
    refine RgOK.s (v := VI (x4.2)) rfl rfl rfl (e_as (ev_t rfl)) ?_
    refine RgOK.nil ?_
    show CdOK _ _ _ _ _ _
    refine CdOK.seq ?_
    refine CdOK.region ?_
    refine RgOK.s (v := VI (0)) rfl rfl rfl (e_as rfl) ?_
    refine RgOK.nil ?_
    show CdOK _ _ _ _ _ _
    refine CdOK.seq ?_
    refine CdOK.seq ?_
    refine CdOK.region ?_
    refine RgOK.s (v := VI (0)) rfl rfl rfl (e_as rfl) ?_
    refine RgOK.nil ?_
    show CdOK _ _ _ _ _ _
    replace hm := hm.bnd
    refine CdOK.joinT (σ := (Int × Remap)) (fun s => Sum.inl (s.1, s.2)) hm (fun s => [(5, VI ((w64 (1 + (Int.tmod (w64 pages) 30))))), (6, VI ((Int.tmod (w64 spares) 17))), (7, .o (.c (.ptr (h.length + 0) 0))), (8, VI (x4.2)), (9, VI (s.1))]) (fun s => h ++ ([⟨[I (s.2.pages), I (s.2.spares), .L 2 (s.2.places.map Place.cs), .L 1 (s.2.bad.map cI)], true, true⟩] : Heap)) ?_ ?_
    · intro hm
      refine CdOK.block ?_
      refine CdOK.loopE (σ := (Int × Int × Remap)) (fun k s => Ev (law35_QuarantineSpares.l1 pages spares k s.1 s.2.1 s.2.2) _) (fun s => [(5, VI ((w64 (1 + (Int.tmod (w64 pages) 30))))), (6, VI ((Int.tmod (w64 spares) 17))), (7, .o (.c (.ptr (h.length + 0) 0))), (8, VI (x4.2)), (9, VI (s.1)), (10, VI (s.2.1))]) (fun s => h ++ ([⟨[I (s.2.2.pages), I (s.2.2.spares), .L 2 (s.2.2.places.map Place.cs), .L 1 (s.2.2.bad.map cI)], true, true⟩] : Heap)) FU (0, 0, x4.1) hm (.cons rfl (.cons rfl (.cons rfl (.cons rfl (.cons rfl (.cons rfl .nil)))))) rfl ?_
      rintro kk10 ⟨moved7, id8, bx9⟩ T0 hm
      replace hm : Ev (law35_QuarantineSpares.l1 pages spares kk10 moved7 id8 bx9) _ := hm
      cases kk10 with
      | zero => exact (Ev.non hm).elim
      | succ kk10 =>
      rw [law35_QuarantineSpares.l1_s] at hm
      show CdOK _ _ _ (look T0 [(5, VI ((w64 (1 + (Int.tmod (w64 pages) 30))))), (6, VI ((Int.tmod (w64 spares) 17))), (7, .o (.c (.ptr (h.length + 0) 0))), (8, VI (x4.2)), (9, VI (moved7)), (10, VI (id8))]) (h ++ ([⟨[I (bx9.pages), I (bx9.spares), .L 2 (bx9.places.map Place.cs), .L 1 (bx9.bad.map cI)], true, true⟩] : Heap)) _
      refine CdOK.seq ?_
      refine CdOK.seq ?_
      refine CdOK.region ?_
      refine RgOK.s (v := VI (id8)) rfl rfl rfl (e_mv (ev_t rfl)) ?_
      refine RgOK.s (v := VI ((w64 (1 + (Int.tmod (w64 pages) 30))))) rfl rfl rfl (e_mv (ev_t rfl)) ?_
      refine RgOK.s (v := VB (decide (id8 < (w64 (1 + (Int.tmod (w64 pages) 30)))))) rfl rfl rfl (e_bin (ev_t rfl) (ev_t rfl) rfl rfl) ?_
      refine RgOK.nil ?_
      show CdOK _ _ _ _ _ _
      refine CdOK.condD (ev_t rfl) ?_ ?_
      · intro c11; replace hm := hm.ifp c11
        refine CdOK.skip ?_
        show CdOK _ _ _ _ _ _
        refine CdOK.seq ?_
        refine CdOK.block ?_
        refine CdOK.seq ?_
        refine CdOK.region ?_
        refine RgOK.s (v := .o (.agg [I (bx9.pages), I (bx9.spares), .L 2 (bx9.places.map Place.cs), .L 1 (bx9.bad.map cI)])) rfl rfl rfl (e_ldbA (ev_t rfl) ty29 (bx rfl rfl) rfl rfl) ?_
        refine RgOK.s (v := VI (id8)) rfl rfl rfl (e_mv (ev_t rfl)) ?_
        obtain ⟨x12, e12, hm⟩ := hm.call
        refine RgOK.cl rfl rfl rfl rfl pl26 (R2.wk _) (quarantine_Where_ok   e12) ?_
        rintro _ _ ⟨rfl, rfl⟩
        refine RgOK.s (v := .tup [.c (I (x12.1)), .c (I (x12.2))]) rfl rfl rfl (e_mv (ev_t rfl)) ?_
        refine RgOK.s (v := VI (x12.1)) rfl rfl rfl (e_ext (ev_t rfl) rfl) ?_
        refine RgOK.s (v := VI (x12.2)) rfl rfl rfl (e_ext (ev_t rfl) rfl) ?_
        refine RgOK.s (v := VI (x12.1)) rfl rfl rfl (e_as (ev_t rfl)) ?_
        refine RgOK.s (v := VI (x12.2)) rfl rfl rfl (e_as (ev_t rfl)) ?_
        refine RgOK.nil ?_
        show CdOK _ _ _ _ _ _
        refine CdOK.seq ?_
        refine CdOK.region ?_
        refine RgOK.s (v := .o (.agg [I (bx9.pages), I (bx9.spares), .L 2 (bx9.places.map Place.cs), .L 1 (bx9.bad.map cI)])) rfl rfl rfl (e_ldbA (ev_t rfl) ty29 (bx rfl rfl) rfl rfl) ?_
        refine RgOK.s (v := VI (x12.1)) rfl rfl rfl (e_mv (ev_t rfl)) ?_
        obtain ⟨x13, e13, hm⟩ := hm.call
        refine RgOK.cl rfl rfl rfl rfl pl30 (R2.wk _) (quarantine_Mark_ok   e13) ?_
        rintro _ _ ⟨rfl, rfl⟩
        refine RgOK.s (v := .tup [.agg [I (x13.1.pages), I (x13.1.spares), .L 2 (x13.1.places.map Place.cs), .L 1 (x13.1.bad.map cI)], .c (I (x13.2.1)), .c (I (x13.2.2))]) rfl rfl rfl (e_mv (ev_t rfl)) ?_
        refine RgOK.s (v := .o (.agg [I (x13.1.pages), I (x13.1.spares), .L 2 (x13.1.places.map Place.cs), .L 1 (x13.1.bad.map cI)])) rfl rfl rfl (e_ext (ev_t rfl) rfl) ?_
        refine RgOK.s (v := VI (x13.2.1)) rfl rfl rfl (e_ext (ev_t rfl) rfl) ?_
        refine RgOK.s (v := VI (x13.2.2)) rfl rfl rfl (e_ext (ev_t rfl) rfl) ?_
        refine RgOK.s (v := .o (.c (.ptr (h.length + 1) 0))) rfl rfl rfl (e_allocN (L' := [⟨[I (bx9.pages), I (bx9.spares), .L 2 (bx9.places.map Place.cs), .L 1 (bx9.bad.map cI)], true, true⟩, ⟨[I (0), I (0), .v (.slice none 0 0), .v (.slice none 0 0)], true, true⟩]) rfl zo29 rfl rfl) ?_
        refine RgOK.s0 rfl rfl (e_stN (L' := [⟨[I (bx9.pages), I (bx9.spares), .L 2 (bx9.places.map Place.cs), .L 1 (bx9.bad.map cI)], true, true⟩, ⟨[I (x13.1.pages), I (x13.1.spares), .L 2 (x13.1.places.map Place.cs), .L 1 (x13.1.bad.map cI)], true, true⟩]) rfl (ev_t rfl) (ev_t rfl) ty29 rfl rfl rfl rfl rfl) ?_
        refine RgOK.s (v := VI (x13.2.1)) rfl rfl rfl (e_as (ev_t rfl)) ?_
        refine RgOK.s (v := VI (x13.2.2)) rfl rfl rfl (e_as (ev_t rfl)) ?_
        refine RgOK.nil ?_
        show CdOK _ _ _ _ _ _
        refine CdOK.seq ?_
        refine CdOK.seq ?_
        refine CdOK.region ?_
        refine RgOK.s (v := VI (x13.2.2)) rfl rfl rfl (e_mv (ev_t rfl)) ?_
        refine RgOK.sd rfl rfl rfl (e_eqK (ev_t rfl) rfl) ?_ ?_
        · intro c14; replace hm := hm.ifp c14
          refine RgOK.s (v := VB (true)) rfl rfl rfl (e_mv (ev_t rfl)) ?_
          refine RgOK.s (v := VI (x13.2.1)) rfl rfl rfl (e_mv (ev_t rfl)) ?_
          refine RgOK.s (v := VI (id8)) rfl rfl rfl (e_mv (ev_t rfl)) ?_
          refine RgOK.s (v := VB (decide (x13.2.1 = id8))) rfl rfl rfl (e_eqK (ev_t rfl) (ev_t rfl)) ?_
          refine RgOK.s (v := VB (decide (x13.2.1 = id8))) rfl rfl rfl (e_pick (t := true) (ev_t rfl) (ev_t rfl)) ?_
          refine RgOK.nil ?_
          show CdOK _ _ _ _ _ _
          refine CdOK.condD (ev_t rfl) ?_ ?_
          · intro c15; replace hm := hm.ifp c15
            refine CdOK.seq ?_
            refine CdOK.region ?_
            refine RgOK.s (v := VI (moved7)) rfl rfl rfl (e_mv (ev_t rfl)) ?_
            refine RgOK.s (v := VI ((w64 (moved7 + 1)))) rfl rfl rfl (e_bin (ev_t rfl) rfl rfl rfl) ?_
            refine RgOK.s (v := VI ((w64 (moved7 + 1)))) rfl rfl rfl (e_as (ev_t rfl)) ?_
            refine RgOK.nil ?_
            show CdOK _ _ _ _ _ _
            refine CdOK.seq ?_
            refine CdOK.region ?_
            refine RgOK.s (v := .o (.agg [I (x13.1.pages), I (x13.1.spares), .L 2 (x13.1.places.map Place.cs), .L 1 (x13.1.bad.map cI)])) rfl rfl rfl (e_ldbA (ev_t rfl) ty29 (bx rfl rfl) rfl rfl) ?_
            refine RgOK.s0 rfl rfl (e_stN (L' := [⟨[I (x13.1.pages), I (x13.1.spares), .L 2 (x13.1.places.map Place.cs), .L 1 (x13.1.bad.map cI)], true, true⟩, ⟨[I (x13.1.pages), I (x13.1.spares), .L 2 (x13.1.places.map Place.cs), .L 1 (x13.1.bad.map cI)], true, true⟩]) rfl (ev_t rfl) (ev_t rfl) ty29 rfl rfl rfl rfl rfl) ?_
            refine RgOK.nil ?_
            show CdOK _ _ _ _ _ _
            refine CdOK.exit ?_
            show CdOK _ _ _ _ _ _
            refine CdOK.region ?_
            refine RgOK.s (v := VI (id8)) rfl rfl rfl (e_mv (ev_t rfl)) ?_
            refine RgOK.s (v := VI ((w64 (id8 + 1)))) rfl rfl rfl (e_bin (ev_t rfl) rfl rfl rfl) ?_
            refine RgOK.s (v := VI ((w64 (id8 + 1)))) rfl rfl rfl (e_as (ev_t rfl)) ?_
            refine RgOK.nil ?_
            refine Told.re (σ := [0]) (X := [(5, VI ((w64 (1 + (Int.tmod (w64 pages) 30))))), (6, VI ((Int.tmod (w64 spares) 17))), (7, .o (.c (.ptr (h.length + 0) 0))), (8, VI (x4.2)), (9, VI ((w64 (moved7 + 1)))), (10, VI ((w64 (id8 + 1))))]) (L' := [⟨[I (x13.1.pages), I (x13.1.spares), .L 2 (x13.1.places.map Place.cs), .L 1 (x13.1.bad.map cI)], true, true⟩]) rfl rfl hC (by decide) (.obj 0 rfl (renFl rfl) .nil) (.cons (renFlV rfl) (.cons (renFlV rfl) (.cons (.o (.c (.ptr 0 0 _ rfl))) (.cons (renFlV rfl) (.cons (renFlV rfl) (.cons (renFlV rfl) .nil)))))) ?_
            exact ⟨_, ((w64 (moved7 + 1)), (w64 (id8 + 1)), x13.1), Nat.lt_succ_self _, hm, (.cons rfl (.cons rfl (.cons rfl (.cons rfl (.cons rfl (.cons rfl .nil)))))), rfl⟩
          · intro c16; replace hm := hm.ifn c16
            refine CdOK.skip ?_
            show CdOK _ _ _ _ _ _
            refine CdOK.seq ?_
            refine CdOK.region ?_
            refine RgOK.s (v := VI (x13.2.2)) rfl rfl rfl (e_mv (ev_t rfl)) ?_
            refine RgOK.sd rfl rfl rfl (e_neK (ev_t rfl) rfl) ?_ ?_
            · intro c17; replace hm := hm.ifp c17
              refine RgOK.s (v := VB (true)) rfl rfl rfl (e_mv (ev_t rfl)) ?_
              refine RgOK.sk rfl rfl rfl ?_
              refine RgOK.sk rfl rfl rfl ?_
              refine RgOK.sk rfl rfl rfl ?_
              refine RgOK.s (v := VB (true)) rfl rfl rfl (e_pick (t := true) (ev_t rfl) rfl) ?_
              refine RgOK.nil ?_
              show CdOK _ _ _ _ _ _
              refine CdOK.cond_true rfl ?_
              refine CdOK.seq ?_
              refine CdOK.region ?_
              refine RgOK.s (v := VB (false)) rfl rfl rfl (e_as rfl) ?_
              refine RgOK.nil ?_
              show CdOK _ _ _ _ _ _
              refine CdOK.ret ?_
              refine ⟨.inr rfl, _, rfl, h, [⟨[I (bx9.pages), I (bx9.spares), .L 2 (bx9.places.map Place.cs), .L 1 (bx9.bad.map cI)], true, true⟩, ⟨[I (x13.1.pages), I (x13.1.spares), .L 2 (x13.1.places.map Place.cs), .L 1 (x13.1.bad.map cI)], true, true⟩], _, rfl, rfl, hC, ((renFlV rfl) : RenV _ _ _ _ (VB (false))), ?_⟩
              have hr := hm.ret
              replace hr := Ev.ret hr
              subst hr
              exact ⟨rfl, rfl⟩
            · intro c18; replace hm := hm.ifn c18
              refine RgOK.s (v := VB (false)) rfl rfl rfl (e_mv (ev_t rfl)) ?_
              refine RgOK.s (v := VI (moved7)) rfl rfl rfl (e_mv (ev_t rfl)) ?_
              refine RgOK.s (v := VI ((Int.tmod (w64 spares) 17))) rfl rfl rfl (e_mv (ev_t rfl)) ?_
              refine RgOK.s (v := VB (decide (moved7 ≠ (Int.tmod (w64 spares) 17)))) rfl rfl rfl (e_neK (ev_t rfl) (ev_t rfl)) ?_
              refine RgOK.s (v := VB (decide (moved7 ≠ (Int.tmod (w64 spares) 17)))) rfl rfl rfl (e_pick (t := false) (ev_t rfl) (ev_t rfl)) ?_
              refine RgOK.nil ?_
              show CdOK _ _ _ _ _ _
              refine CdOK.condD (ev_t rfl) ?_ ?_
              · intro c19; replace hm := hm.ifp c19
                refine CdOK.seq ?_
                refine CdOK.region ?_
                refine RgOK.s (v := VB (false)) rfl rfl rfl (e_as rfl) ?_
                refine RgOK.nil ?_
                show CdOK _ _ _ _ _ _
                refine CdOK.ret ?_
                refine ⟨.inr rfl, _, rfl, h, [⟨[I (bx9.pages), I (bx9.spares), .L 2 (bx9.places.map Place.cs), .L 1 (bx9.bad.map cI)], true, true⟩, ⟨[I (x13.1.pages), I (x13.1.spares), .L 2 (x13.1.places.map Place.cs), .L 1 (x13.1.bad.map cI)], true, true⟩], _, rfl, rfl, hC, ((renFlV rfl) : RenV _ _ _ _ (VB (false))), ?_⟩
                have hr := hm.ret
                replace hr := Ev.ret hr
                subst hr
                exact ⟨rfl, rfl⟩
              · intro c20; replace hm := hm.ifn c20
                refine CdOK.skip ?_
                show CdOK _ _ _ _ _ _
                refine CdOK.region ?_
                refine RgOK.s (v := VI (id8)) rfl rfl rfl (e_mv (ev_t rfl)) ?_
                refine RgOK.s (v := VI ((w64 (id8 + 1)))) rfl rfl rfl (e_bin (ev_t rfl) rfl rfl rfl) ?_
                refine RgOK.s (v := VI ((w64 (id8 + 1)))) rfl rfl rfl (e_as (ev_t rfl)) ?_
                refine RgOK.nil ?_
                refine Told.re (σ := [0]) (X := [(5, VI ((w64 (1 + (Int.tmod (w64 pages) 30))))), (6, VI ((Int.tmod (w64 spares) 17))), (7, .o (.c (.ptr (h.length + 0) 0))), (8, VI (x4.2)), (9, VI (moved7)), (10, VI ((w64 (id8 + 1))))]) (L' := [⟨[I (bx9.pages), I (bx9.spares), .L 2 (bx9.places.map Place.cs), .L 1 (bx9.bad.map cI)], true, true⟩]) rfl rfl hC (by decide) (.obj 0 rfl (renFl rfl) .nil) (.cons (renFlV rfl) (.cons (renFlV rfl) (.cons (.o (.c (.ptr 0 0 _ rfl))) (.cons (renFlV rfl) (.cons (renFlV rfl) (.cons (renFlV rfl) .nil)))))) ?_
                exact ⟨_, (moved7, (w64 (id8 + 1)), bx9), Nat.lt_succ_self _, hm, (.cons rfl (.cons rfl (.cons rfl (.cons rfl (.cons rfl (.cons rfl .nil)))))), rfl⟩
        · intro c21; replace hm := hm.ifn c21
          refine RgOK.s (v := VB (false)) rfl rfl rfl (e_mv (ev_t rfl)) ?_
          refine RgOK.sk rfl rfl rfl ?_
          refine RgOK.sk rfl rfl rfl ?_
          refine RgOK.sk rfl rfl rfl ?_
          refine RgOK.s (v := VB (false)) rfl rfl rfl (e_pick (t := false) (ev_t rfl) rfl) ?_
          refine RgOK.nil ?_
          show CdOK _ _ _ _ _ _
          refine CdOK.cond_false rfl ?_
          refine CdOK.skip ?_
          show CdOK _ _ _ _ _ _
          refine CdOK.seq ?_
          refine CdOK.region ?_
          refine RgOK.s (v := VI (x13.2.2)) rfl rfl rfl (e_mv (ev_t rfl)) ?_
          refine RgOK.sd rfl rfl rfl (e_neK (ev_t rfl) rfl) ?_ ?_
          · intro c22; replace hm := hm.ifp c22
            refine RgOK.s (v := VB (true)) rfl rfl rfl (e_mv (ev_t rfl)) ?_
            refine RgOK.sk rfl rfl rfl ?_
            refine RgOK.sk rfl rfl rfl ?_
            refine RgOK.sk rfl rfl rfl ?_
            refine RgOK.s (v := VB (true)) rfl rfl rfl (e_pick (t := true) (ev_t rfl) rfl) ?_
            refine RgOK.nil ?_
            show CdOK _ _ _ _ _ _
            refine CdOK.cond_true rfl ?_
            refine CdOK.seq ?_
            refine CdOK.region ?_
            refine RgOK.s (v := VB (false)) rfl rfl rfl (e_as rfl) ?_
            refine RgOK.nil ?_
            show CdOK _ _ _ _ _ _
            refine CdOK.ret ?_
            refine ⟨.inr rfl, _, rfl, h, [⟨[I (bx9.pages), I (bx9.spares), .L 2 (bx9.places.map Place.cs), .L 1 (bx9.bad.map cI)], true, true⟩, ⟨[I (x13.1.pages), I (x13.1.spares), .L 2 (x13.1.places.map Place.cs), .L 1 (x13.1.bad.map cI)], true, true⟩], _, rfl, rfl, hC, ((renFlV rfl) : RenV _ _ _ _ (VB (false))), ?_⟩
            have hr := hm.ret
            replace hr := Ev.ret hr
            subst hr
            exact ⟨rfl, rfl⟩
          · intro c23; replace hm := hm.ifn c23
            refine RgOK.s (v := VB (false)) rfl rfl rfl (e_mv (ev_t rfl)) ?_
            refine RgOK.s (v := VI (moved7)) rfl rfl rfl (e_mv (ev_t rfl)) ?_
            refine RgOK.s (v := VI ((Int.tmod (w64 spares) 17))) rfl rfl rfl (e_mv (ev_t rfl)) ?_
            refine RgOK.s (v := VB (decide (moved7 ≠ (Int.tmod (w64 spares) 17)))) rfl rfl rfl (e_neK (ev_t rfl) (ev_t rfl)) ?_
            refine RgOK.s (v := VB (decide (moved7 ≠ (Int.tmod (w64 spares) 17)))) rfl rfl rfl (e_pick (t := false) (ev_t rfl) (ev_t rfl)) ?_
            refine RgOK.nil ?_
            show CdOK _ _ _ _ _ _
            refine CdOK.condD (ev_t rfl) ?_ ?_
            · intro c24; replace hm := hm.ifp c24
              refine CdOK.seq ?_
              refine CdOK.region ?_
              refine RgOK.s (v := VB (false)) rfl rfl rfl (e_as rfl) ?_
              refine RgOK.nil ?_
              show CdOK _ _ _ _ _ _
              refine CdOK.ret ?_
              refine ⟨.inr rfl, _, rfl, h, [⟨[I (bx9.pages), I (bx9.spares), .L 2 (bx9.places.map Place.cs), .L 1 (bx9.bad.map cI)], true, true⟩, ⟨[I (x13.1.pages), I (x13.1.spares), .L 2 (x13.1.places.map Place.cs), .L 1 (x13.1.bad.map cI)], true, true⟩], _, rfl, rfl, hC, ((renFlV rfl) : RenV _ _ _ _ (VB (false))), ?_⟩
              have hr := hm.ret
              replace hr := Ev.ret hr
              subst hr
              exact ⟨rfl, rfl⟩
            · intro c25; replace hm := hm.ifn c25
              refine CdOK.skip ?_
              show CdOK _ _ _ _ _ _
              refine CdOK.region ?_
              refine RgOK.s (v := VI (id8)) rfl rfl rfl (e_mv (ev_t rfl)) ?_
              refine RgOK.s (v := VI ((w64 (id8 + 1)))) rfl rfl rfl (e_bin (ev_t rfl) rfl rfl rfl) ?_
              refine RgOK.s (v := VI ((w64 (id8 + 1)))) rfl rfl rfl (e_as (ev_t rfl)) ?_
              refine RgOK.nil ?_
              refine Told.re (σ := [0]) (X := [(5, VI ((w64 (1 + (Int.tmod (w64 pages) 30))))), (6, VI ((Int.tmod (w64 spares) 17))), (7, .o (.c (.ptr (h.length + 0) 0))), (8, VI (x4.2)), (9, VI (moved7)), (10, VI ((w64 (id8 + 1))))]) (L' := [⟨[I (bx9.pages), I (bx9.spares), .L 2 (bx9.places.map Place.cs), .L 1 (bx9.bad.map cI)], true, true⟩]) rfl rfl hC (by decide) (.obj 0 rfl (renFl rfl) .nil) (.cons (renFlV rfl) (.cons (renFlV rfl) (.cons (.o (.c (.ptr 0 0 _ rfl))) (.cons (renFlV rfl) (.cons (renFlV rfl) (.cons (renFlV rfl) .nil)))))) ?_
              exact ⟨_, (moved7, (w64 (id8 + 1)), bx9), Nat.lt_succ_self _, hm, (.cons rfl (.cons rfl (.cons rfl (.cons rfl (.cons rfl (.cons rfl .nil)))))), rfl⟩
      · intro c26; replace hm := hm.ifn c26
        refine CdOK.exit ?_
        refine Told.id ?_
        exact ⟨(moved7, bx9), hm.ret, (.cons rfl (.cons rfl (.cons rfl (.cons rfl (.cons rfl .nil))))), rfl⟩
    · rintro ⟨moved5, bx6⟩ T0 hm
      show CdOK _ _ _ _ _ _
      refine CdOK.seq ?_
      refine CdOK.region ?_
      refine RgOK.s (v := VI (x4.2)) rfl rfl rfl (e_mv (ev_t rfl)) ?_
      refine RgOK.sd rfl rfl rfl (e_eqK (ev_t rfl) rfl) ?_ ?_
      · intro c28; replace hm := hm.ifp c28
        refine RgOK.s (v := VB (true)) rfl rfl rfl (e_mv (ev_t rfl)) ?_
        refine RgOK.s (v := VI (moved5)) rfl rfl rfl (e_mv (ev_t rfl)) ?_
        refine RgOK.s (v := VI ((w64 (1 + (Int.tmod (w64 pages) 30))))) rfl rfl rfl (e_mv (ev_t rfl)) ?_
        refine RgOK.s (v := VI ((Int.tmod (w64 spares) 17))) rfl rfl rfl (e_mv (ev_t rfl)) ?_
        refine RgOK.s (v := VI ((if (Int.tmod (w64 spares) 17) < (w64 (1 + (Int.tmod (w64 pages) 30))) then (Int.tmod (w64 spares) 17) else (w64 (1 + (Int.tmod (w64 pages) 30)))))) rfl rfl rfl (e_min (ev_t rfl) (ev_t rfl)) ?_
        refine RgOK.sd rfl rfl rfl (e_eqK (ev_t rfl) (ev_t rfl)) ?_ ?_
        · intro c29; replace hm := hm.ifp c29
          refine RgOK.s (v := VB (true)) rfl rfl rfl (e_pick (t := true) (ev_t rfl) (ev_t rfl)) ?_
          refine RgOK.s (v := VB (true)) rfl rfl rfl (e_mv (ev_t rfl)) ?_
          refine RgOK.s (v := .o (.agg [I (bx6.pages), I (bx6.spares), .L 2 (bx6.places.map Place.cs), .L 1 (bx6.bad.map cI)])) rfl rfl rfl (e_ldbA (ev_t rfl) ty29 (bx rfl rfl) rfl rfl) ?_
          obtain ⟨x30, e30, hm⟩ := hm.call
          refine RgOK.cl rfl rfl rfl rfl pl24 (R2.wk _) (quarantine_Left_ok   e30) ?_
          rintro _ _ ⟨rfl, rfl⟩
          refine RgOK.s (v := VI ((Int.tmod (w64 spares) 17))) rfl rfl rfl (e_mv (ev_t rfl)) ?_
          refine RgOK.s (v := VI (moved5)) rfl rfl rfl (e_mv (ev_t rfl)) ?_
          refine RgOK.s (v := VI ((w64 ((Int.tmod (w64 spares) 17) - moved5)))) rfl rfl rfl (e_bin (ev_t rfl) (ev_t rfl) rfl rfl) ?_
          refine RgOK.s (v := VB (decide (x30 = (w64 ((Int.tmod (w64 spares) 17) - moved5))))) rfl rfl rfl (e_eqK (ev_t rfl) (ev_t rfl)) ?_
          refine RgOK.s (v := VB (decide (x30 = (w64 ((Int.tmod (w64 spares) 17) - moved5))))) rfl rfl rfl (e_pick (t := true) (ev_t rfl) (ev_t rfl)) ?_
          refine RgOK.s (v := VB (decide (x30 = (w64 ((Int.tmod (w64 spares) 17) - moved5))))) rfl rfl rfl (e_as (ev_t rfl)) ?_
          refine RgOK.nil ?_
          show CdOK _ _ _ _ _ _
          refine CdOK.ret ?_
          refine ⟨.inr rfl, _, rfl, h, [⟨[I (bx6.pages), I (bx6.spares), .L 2 (bx6.places.map Place.cs), .L 1 (bx6.bad.map cI)], true, true⟩], _, rfl, rfl, hC, ((renFlV rfl) : RenV _ _ _ _ (VB (decide (x30 = (w64 ((Int.tmod (w64 spares) 17) - moved5)))))), ?_⟩
          have hr := hm.ret
          subst hr
          exact ⟨rfl, rfl⟩
        · intro c31; replace hm := hm.ifn c31
          refine RgOK.s (v := VB (false)) rfl rfl rfl (e_pick (t := true) (ev_t rfl) (ev_t rfl)) ?_
          refine RgOK.s (v := VB (false)) rfl rfl rfl (e_mv (ev_t rfl)) ?_
          refine RgOK.sk rfl rfl rfl ?_
          refine RgOK.sk rfl rfl rfl ?_
          refine RgOK.sk rfl rfl rfl ?_
          refine RgOK.sk rfl rfl rfl ?_
          refine RgOK.sk rfl rfl rfl ?_
          refine RgOK.sk rfl rfl rfl ?_
          refine RgOK.s (v := VB (false)) rfl rfl rfl (e_pick (t := false) (ev_t rfl) rfl) ?_
          refine RgOK.s (v := VB (false)) rfl rfl rfl (e_as (ev_t rfl)) ?_
          refine RgOK.nil ?_
          show CdOK _ _ _ _ _ _
          refine CdOK.ret ?_
          refine ⟨.inr rfl, _, rfl, h, [⟨[I (bx6.pages), I (bx6.spares), .L 2 (bx6.places.map Place.cs), .L 1 (bx6.bad.map cI)], true, true⟩], _, rfl, rfl, hC, ((renFlV rfl) : RenV _ _ _ _ (VB (false))), ?_⟩
          have hr := hm.ret
          subst hr
          exact ⟨rfl, rfl⟩
      · intro c32; replace hm := hm.ifn c32
        refine RgOK.s (v := VB (false)) rfl rfl rfl (e_mv (ev_t rfl)) ?_
        refine RgOK.sk rfl rfl rfl ?_
        refine RgOK.sk rfl rfl rfl ?_
        refine RgOK.sk rfl rfl rfl ?_
        refine RgOK.sk rfl rfl rfl ?_
        refine RgOK.sk rfl rfl rfl ?_
        refine RgOK.s (v := VB (false)) rfl rfl rfl (e_pick (t := false) (ev_t rfl) rfl) ?_
        refine RgOK.s (v := VB (false)) rfl rfl rfl (e_mv (ev_t rfl)) ?_
        refine RgOK.sk rfl rfl rfl ?_
        refine RgOK.sk rfl rfl rfl ?_
        refine RgOK.sk rfl rfl rfl ?_
        refine RgOK.sk rfl rfl rfl ?_
        refine RgOK.sk rfl rfl rfl ?_
        refine RgOK.sk rfl rfl rfl ?_
        refine RgOK.s (v := VB (false)) rfl rfl rfl (e_pick (t := false) (ev_t rfl) rfl) ?_
        refine RgOK.s (v := VB (false)) rfl rfl rfl (e_as (ev_t rfl)) ?_
        refine RgOK.nil ?_
        show CdOK _ _ _ _ _ _
        refine CdOK.ret ?_
        refine ⟨.inr rfl, _, rfl, h, [⟨[I (bx6.pages), I (bx6.spares), .L 2 (bx6.places.map Place.cs), .L 1 (bx6.bad.map cI)], true, true⟩], _, rfl, rfl, hC, ((renFlV rfl) : RenV _ _ _ _ (VB (false))), ?_⟩
        have hr := hm.ret
        subst hr
        exact ⟨rfl, rfl⟩
/- pagemend/pagemendlaw35.QuarantinePlaces -/
def law35_QuarantinePlaces.l2 (pages : Int) (spares : Int) (x15 : (Int × Codes)) (x23 : (Remap × Int × Int)) : Nat → Int → (List Bool) → Option (Sum Unit Bool)
  | 0, _, _ => none
  | kk48 + 1, id46, bx47 => (if id46 < (w64 (1 + (Int.tmod (w64 pages) 20))) then ((quarantine_Where x23.1 id46).bind fun (x50 : (Int × Int)) => (if 0 < bx47.length then (if x50.2 ≠ 0 then some (Sum.inr false) else (if x50.1 < 0 then some (Sum.inr false) else (if (w64 ((w64 (1 + (Int.tmod (w64 pages) 20))) + (Int.tmod (w64 spares) 9))) ≤ x50.1 then some (Sum.inr false) else (if (0 : Int) ≤ x50.1 ∧ x50.1 < (bx47.length : Int) then (if (0 : Int) ≤ x50.1 ∧ x50.1 < (bx47.length : Int) then (if (gd bx47 x50.1) = true then some (Sum.inr false) else (if x50.1 = x15.1 then some (Sum.inr false) else (if (0 : Int) ≤ x50.1 ∧ x50.1 < (bx47.length : Int) then (if (0 : Int) ≤ x50.1 ∧ x50.1 < (bx47.length : Int) then ((((quarantine_Owner x23.1 x50.1).bind fun (x68 : (Int × Bool)) => (if x68.2 = true then some (x68.1, true) else some (x68.1, false)))).bind fun (s71 : (Int × Bool)) => (if s71.2 = true then (if s71.1 ≠ id46 then some (Sum.inr false) else law35_QuarantinePlaces.l2 pages spares x15 x23 kk48 (w64 (id46 + 1)) (bx47.set (Int.toNat x50.1) true)) else some (Sum.inr false))) else none) else none))) else none) else none)))) else none)) else some (Sum.inl ()))
theorem law35_QuarantinePlaces.l2_s (pages : Int) (spares : Int) (x15 : (Int × Codes)) (x23 : (Remap × Int × Int)) (kk48 : Nat) (id46 : Int) (bx47 : (List Bool)) : law35_QuarantinePlaces.l2 pages spares x15 x23 (kk48 + 1) id46 bx47 = (if id46 < (w64 (1 + (Int.tmod (w64 pages) 20))) then ((quarantine_Where x23.1 id46).bind fun (x50 : (Int × Int)) => (if 0 < bx47.length then (if x50.2 ≠ 0 then some (Sum.inr false) else (if x50.1 < 0 then some (Sum.inr false) else (if (w64 ((w64 (1 + (Int.tmod (w64 pages) 20))) + (Int.tmod (w64 spares) 9))) ≤ x50.1 then some (Sum.inr false) else (if (0 : Int) ≤ x50.1 ∧ x50.1 < (bx47.length : Int) then (if (0 : Int) ≤ x50.1 ∧ x50.1 < (bx47.length : Int) then (if (gd bx47 x50.1) = true then some (Sum.inr false) else (if x50.1 = x15.1 then some (Sum.inr false) else (if (0 : Int) ≤ x50.1 ∧ x50.1 < (bx47.length : Int) then (if (0 : Int) ≤ x50.1 ∧ x50.1 < (bx47.length : Int) then ((((quarantine_Owner x23.1 x50.1).bind fun (x68 : (Int × Bool)) => (if x68.2 = true then some (x68.1, true) else some (x68.1, false)))).bind fun (s71 : (Int × Bool)) => (if s71.2 = true then (if s71.1 ≠ id46 then some (Sum.inr false) else law35_QuarantinePlaces.l2 pages spares x15 x23 kk48 (w64 (id46 + 1)) (bx47.set (Int.toNat x50.1) true)) else some (Sum.inr false))) else none) else none))) else none) else none)))) else none)) else some (Sum.inl ())) := rfl
def law35_QuarantinePlaces.l1 (pages : Int) (spares : Int) : Nat → Int → Codes → Remap → Option (Sum Remap Bool)
  | 0, _, _, _ => none
  | kk13 + 1, k10, bx11, bx12 => (if 0 < k10 then ((Codes_Next (w64 ((w64 (1 + (Int.tmod (w64 pages) 20))) + (Int.tmod (w64 spares) 9))) bx11).bind fun (x15 : (Int × Codes)) => ((((quarantine_Owner bx12 x15.1).bind fun (x18 : (Int × Bool)) => (if x18.2 = true then some (x18.1, true) else some (x18.1, false)))).bind fun (s21 : (Int × Bool)) => ((quarantine_Left bx12).bind fun (x22 : Int) => ((quarantine_Mark bx12 x15.1).bind fun (x23 : (Remap × Int × Int)) => (if x23.2.2 = 47 then (if s21.2 = true then (if 0 < x22 then some (Sum.inr false) else law35_QuarantinePlaces.l1 pages spares kk13 (w64 (k10 - 1)) x15.2 bx12) else some (Sum.inr false)) else (((if x23.2.2 ≠ 0 then some (Sum.inr false) else (if s21.2 = true then (if x23.2.1 ≠ s21.1 then some (Sum.inr false) else (if s21.2 = true then some (Sum.inl ()) else (if x23.2.1 ≠ (-1) then some (Sum.inr false) else some (Sum.inl ())))) else (if s21.2 = true then some (Sum.inl ()) else (if x23.2.1 ≠ (-1) then some (Sum.inr false) else some (Sum.inl ())))))).bind fun (z : Sum Unit Bool) => match z with | .inl (s44 : Unit) => (if (0 : Int) ≤ (w64 ((w64 (1 + (Int.tmod (w64 pages) 20))) + (Int.tmod (w64 spares) 9))) ∧ (w64 ((w64 (1 + (Int.tmod (w64 pages) 20))) + (Int.tmod (w64 spares) 9))) ≤ (w64 ((w64 (1 + (Int.tmod (w64 pages) 20))) + (Int.tmod (w64 spares) 9))) ∧ (w64 ((w64 (1 + (Int.tmod (w64 pages) 20))) + (Int.tmod (w64 spares) 9))) ≤ 281474976710656 then ((law35_QuarantinePlaces.l2 pages spares x15 x23 FU 0 (List.replicate (Int.toNat (w64 ((w64 (1 + (Int.tmod (w64 pages) 20))) + (Int.tmod (w64 spares) 9)))) false)).bind fun (z : Sum Unit Bool) => match z with | .inl (s77 : Unit) => law35_QuarantinePlaces.l1 pages spares kk13 (w64 (k10 - 1)) x15.2 x23.1 | .inr r => some (Sum.inr r)) else none) | .inr r => some (Sum.inr r))))))) else some (Sum.inl bx12))
theorem law35_QuarantinePlaces.l1_s (pages : Int) (spares : Int) (kk13 : Nat) (k10 : Int) (bx11 : Codes) (bx12 : Remap) : law35_QuarantinePlaces.l1 pages spares (kk13 + 1) k10 bx11 bx12 = (if 0 < k10 then ((Codes_Next (w64 ((w64 (1 + (Int.tmod (w64 pages) 20))) + (Int.tmod (w64 spares) 9))) bx11).bind fun (x15 : (Int × Codes)) => ((((quarantine_Owner bx12 x15.1).bind fun (x18 : (Int × Bool)) => (if x18.2 = true then some (x18.1, true) else some (x18.1, false)))).bind fun (s21 : (Int × Bool)) => ((quarantine_Left bx12).bind fun (x22 : Int) => ((quarantine_Mark bx12 x15.1).bind fun (x23 : (Remap × Int × Int)) => (if x23.2.2 = 47 then (if s21.2 = true then (if 0 < x22 then some (Sum.inr false) else law35_QuarantinePlaces.l1 pages spares kk13 (w64 (k10 - 1)) x15.2 bx12) else some (Sum.inr false)) else (((if x23.2.2 ≠ 0 then some (Sum.inr false) else (if s21.2 = true then (if x23.2.1 ≠ s21.1 then some (Sum.inr false) else (if s21.2 = true then some (Sum.inl ()) else (if x23.2.1 ≠ (-1) then some (Sum.inr false) else some (Sum.inl ())))) else (if s21.2 = true then some (Sum.inl ()) else (if x23.2.1 ≠ (-1) then some (Sum.inr false) else some (Sum.inl ())))))).bind fun (z : Sum Unit Bool) => match z with | .inl (s44 : Unit) => (if (0 : Int) ≤ (w64 ((w64 (1 + (Int.tmod (w64 pages) 20))) + (Int.tmod (w64 spares) 9))) ∧ (w64 ((w64 (1 + (Int.tmod (w64 pages) 20))) + (Int.tmod (w64 spares) 9))) ≤ (w64 ((w64 (1 + (Int.tmod (w64 pages) 20))) + (Int.tmod (w64 spares) 9))) ∧ (w64 ((w64 (1 + (Int.tmod (w64 pages) 20))) + (Int.tmod (w64 spares) 9))) ≤ 281474976710656 then ((law35_QuarantinePlaces.l2 pages spares x15 x23 FU 0 (List.replicate (Int.toNat (w64 ((w64 (1 + (Int.tmod (w64 pages) 20))) + (Int.tmod (w64 spares) 9)))) false)).bind fun (z : Sum Unit Bool) => match z with | .inl (s77 : Unit) => law35_QuarantinePlaces.l1 pages spares kk13 (w64 (k10 - 1)) x15.2 x23.1 | .inr r => some (Sum.inr r)) else none) | .inr r => some (Sum.inr r))))))) else some (Sum.inl bx12)) := rfl
def law35_QuarantinePlaces (codes : (List Int)) (pages : Int) (spares : Int) : Option Bool := ((law35_awake ).bind fun (x1 : Bool) => (if (!x1) = true then some false else ((New codes 200).bind fun (x4 : Codes) => ((quarantine_New (w64 (1 + (Int.tmod (w64 pages) 20))) (Int.tmod (w64 spares) 9)).bind fun (x5 : (Remap × Int)) => (if x5.2 ≠ 0 then some false else ((Codes_Next 12 x4).bind fun (x8 : (Int × Codes)) => ((law35_QuarantinePlaces.l1 pages spares FU x8.1 x8.2 x5.1).bind fun (z : Sum Remap Bool) => match z with | .inl (s79 : Remap) => ((quarantine_Valid s79).bind fun (x80 : Bool) => some x80) | .inr r => some r)))))))
theorem law35_QuarantinePlaces.eq (codes : (List Int)) (pages : Int) (spares : Int) : law35_QuarantinePlaces codes pages spares = ((law35_awake ).bind fun (x1 : Bool) => (if (!x1) = true then some false else ((New codes 200).bind fun (x4 : Codes) => ((quarantine_New (w64 (1 + (Int.tmod (w64 pages) 20))) (Int.tmod (w64 spares) 9)).bind fun (x5 : (Remap × Int)) => (if x5.2 ≠ 0 then some false else ((Codes_Next 12 x4).bind fun (x8 : (Int × Codes)) => ((law35_QuarantinePlaces.l1 pages spares FU x8.1 x8.2 x5.1).bind fun (z : Sum Remap Bool) => match z with | .inl (s79 : Remap) => ((quarantine_Valid s79).bind fun (x80 : Bool) => some x80) | .inr r => some r))))))) := rfl
theorem law35_QuarantinePlaces_ok {h : Heap} {codes : (List Int)} {pages : Int} {spares : Int}  {r : Bool} (hm : law35_QuarantinePlaces codes pages spares = some r) : FnOK Try.prog 4 [.o (.c (.L 1 (codes.map c_u8))), .o (.c (.v (.int .u8 (pages)))), .o (.c (.v (.int .u8 (spares))))] h (fun v h' => v = VB (r) ∧ h' = h) := by
  refine FnOK.fin ?_
  refine FnOK.bodyC (N := 155) Try.func4 rfl rfl rfl (fun hC => ?_)
  replace hm := Ev.of hm
  rw [law35_QuarantinePlaces.eq] at hm
  show CdOK _ _ _ (look _ [(0, .o (.c (.L 1 (codes.map c_u8)))), (1, .o (.c (.v (.int .u8 (pages))))), (2, .o (.c (.v (.int .u8 (spares)))))]) (h ++ ([] : Heap)) _
  refine CdOK.seq ?_
  refine CdOK.region ?_
  refine RgOK.s (v := VB (false)) rfl rfl rfl (e_as rfl) ?_
  refine RgOK.nil ?_
  show CdOK _ _ _ _ _ _
  refine CdOK.seq ?_
  refine CdOK.seq ?_
  refine CdOK.region ?_
  obtain ⟨x1, e1, hm⟩ := hm.call
  refine RgOK.cl rfl rfl rfl rfl pl16 (R2.wk _) (law35_awake_ok   e1) ?_
  rintro _ _ ⟨rfl, rfl⟩
  refine RgOK.s (v := VB ((!x1))) rfl rfl rfl (e_un (ev_t rfl) rfl) ?_
  refine RgOK.nil ?_
  show CdOK _ _ _ _ _ _
  refine CdOK.condB (ev_t rfl) ?_ ?_
  · intro c2; replace hm := hm.ifp c2
    refine CdOK.seq ?_
    refine CdOK.region ?_
    refine RgOK.s (v := VB (false)) rfl rfl rfl (e_as rfl) ?_
    refine RgOK.nil ?_
    show CdOK _ _ _ _ _ _
    refine CdOK.ret ?_
    refine ⟨.inr rfl, _, rfl, h, [], _, rfl, rfl, hC, ((renFlV rfl) : RenV _ _ _ _ (VB (false))), ?_⟩
    have hr := hm.ret
    subst hr
    exact ⟨rfl, rfl⟩
  · intro c3; replace hm := hm.ifn c3
    refine CdOK.skip ?_
    show CdOK _ _ _ _ _ _
    refine CdOK.seq ?_
    refine CdOK.region ?_
    refine RgOK.s (v := .o (.c (.L 1 (codes.map c_u8)))) rfl rfl rfl (e_mv (ev_t rfl)) ?_
    obtain ⟨x4, e4, hm⟩ := hm.call
    refine RgOK.cl rfl rfl rfl rfl pl17 (R2.wk _) (New_ok   e4) ?_
    rintro _ _ ⟨rfl, rfl⟩
    rw [show (h ++ ([] : Heap)) ++ [⟨[.L 1 (x4.l_.map c_u8), I (x4.at_)], true, true⟩] = h ++ ([⟨[.L 1 (x4.l_.map c_u8), I (x4.at_)], true, true⟩] : Heap) from apnd rfl, show (h ++ ([] : Heap) : Heap).length = h.length + 0 from lenN rfl rfl]
    refine RgOK.s (v := .o (.c (.ptr (h.length + 0) 0))) rfl rfl rfl (e_as (ev_t rfl)) ?_
    refine RgOK.nil ?_
    show CdOK _ _ _ _ _ _
    refine CdOK.seq ?_
    refine CdOK.region ?_
    refine RgOK.s (v := .o (.c (.v (.int .u8 (pages))))) rfl rfl rfl (e_mv (ev_t rfl)) ?_
    refine RgOK.s (v := VI ((w64 pages))) rfl rfl rfl (e_cvw cv5_3 (ev_t rfl)) ?_
    refine RgOK.s (v := VI ((Int.tmod (w64 pages) 20))) rfl rfl rfl (e_remK (ev_t rfl) rfl (by decide)) ?_
    refine RgOK.s (v := VI ((w64 (1 + (Int.tmod (w64 pages) 20))))) rfl rfl rfl (e_bin rfl (ev_t rfl) rfl rfl) ?_
    refine RgOK.s (v := .o (.c (.v (.int .u8 (spares))))) rfl rfl rfl (e_mv (ev_t rfl)) ?_
    refine RgOK.s (v := VI ((w64 spares))) rfl rfl rfl (e_cvw cv5_3 (ev_t rfl)) ?_
    refine RgOK.s (v := VI ((Int.tmod (w64 spares) 9))) rfl rfl rfl (e_remK (ev_t rfl) rfl (by decide)) ?_
    refine RgOK.s (v := VI ((w64 (1 + (Int.tmod (w64 pages) 20))))) rfl rfl rfl (e_as (ev_t rfl)) ?_
    refine RgOK.s (v := VI ((Int.tmod (w64 spares) 9))) rfl rfl rfl (e_as (ev_t rfl)) ?_
    refine RgOK.nil ?_
    show CdOK _ _ _ _ _ _
    refine CdOK.seq ?_
    refine CdOK.region ?_
    refine RgOK.s (v := VI ((w64 (1 + (Int.tmod (w64 pages) 20))))) rfl rfl rfl (e_mv (ev_t rfl)) ?_
    refine RgOK.s (v := VI ((Int.tmod (w64 spares) 9))) rfl rfl rfl (e_mv (ev_t rfl)) ?_
    obtain ⟨x5, e5, hm⟩ := hm.call
    refine RgOK.cl rfl rfl rfl rfl pl18 (R2.wk _) (quarantine_New_ok   e5) ?_
    rintro _ _ ⟨rfl, rfl⟩
    refine RgOK.s (v := .tup [.agg [I (x5.1.pages), I (x5.1.spares), .L 2 (x5.1.places.map Place.cs), .L 1 (x5.1.bad.map cI)], .c (I (x5.2))]) rfl rfl rfl (e_mv (ev_t rfl)) ?_
    refine RgOK.s (v := .o (.agg [I (x5.1.pages), I (x5.1.spares), .L 2 (x5.1.places.map Place.cs), .L 1 (x5.1.bad.map cI)])) rfl rfl rfl (e_ext (ev_t rfl) rfl) ?_
    refine RgOK.s (v := VI (x5.2)) rfl rfl rfl (e_ext (ev_t rfl) rfl) ?_
    refine RgOK.s (v := .o (.c (.ptr (h.length + 1) 0))) rfl rfl rfl (e_allocN (L' := [⟨[.L 1 (x4.l_.map c_u8), I (x4.at_)], true, true⟩, ⟨[I (0), I (0), .v (.slice none 0 0), .v (.slice none 0 0)], true, true⟩]) rfl zo29 rfl rfl) ?_
    refine RgOK.s0 rfl rfl (e_stN (L' := [⟨[.L 1 (x4.l_.map c_u8), I (x4.at_)], true, true⟩, ⟨[I (x5.1.pages), I (x5.1.spares), .L 2 (x5.1.places.map Place.cs), .L 1 (x5.1.bad.map cI)], true, true⟩]) rfl (ev_t rfl) (ev_t rfl) ty29 rfl rfl rfl rfl rfl) ?_
    refine RgOK.s (v := VI (x5.2)) rfl rfl rfl (e_as (ev_t rfl)) ?_
    refine RgOK.nil ?_
    show CdOK _ _ _ _ _ _
    refine CdOK.seq ?_
    refine CdOK.seq ?_
    refine CdOK.region ?_
    refine RgOK.s (v := VI (x5.2)) rfl rfl rfl (e_mv (ev_t rfl)) ?_
    refine RgOK.s (v := VB (decide (x5.2 ≠ 0))) rfl rfl rfl (e_neK (ev_t rfl) rfl) ?_
    refine RgOK.nil ?_
    show CdOK _ _ _ _ _ _
    refine CdOK.condD (ev_t rfl) ?_ ?_
    · intro c6; replace hm := hm.ifp c6
      refine CdOK.seq ?_
      refine CdOK.region ?_
      refine RgOK.s (v := VB (false)) rfl rfl rfl (e_as rfl) ?_
      refine RgOK.nil ?_
      show CdOK _ _ _ _ _ _
      refine CdOK.ret ?_
      refine ⟨.inr rfl, _, rfl, h, [⟨[.L 1 (x4.l_.map c_u8), I (x4.at_)], true, true⟩, ⟨[I (x5.1.pages), I (x5.1.spares), .L 2 (x5.1.places.map Place.cs), .L 1 (x5.1.bad.map cI)], true, true⟩], _, rfl, rfl, hC, ((renFlV rfl) : RenV _ _ _ _ (VB (false))), ?_⟩
      have hr := hm.ret
      subst hr
      exact ⟨rfl, rfl⟩
    · intro c7; replace hm := hm.ifn c7
      refine CdOK.skip ?_
      show CdOK _ _ _ _ _ _
      refine CdOK.seq ?_
      refine CdOK.seq ?_
      refine CdOK.region ?_
      refine RgOK.s (v := .o (.c (.ptr (h.length + 0) 0))) rfl rfl rfl (e_mv (ev_t rfl)) ?_
      obtain ⟨x8, e8, hm⟩ := hm.call
      refine RgOK.cl rfl rfl rfl rfl pl32 (R2.wk _) (Codes_Next_ok (b_c_ := (h.length + 0)) (bx rfl rfl) e8) ?_
      rintro _ _ ⟨rfl, rfl⟩
      rw [show _ = h ++ ([⟨[.L 1 (x8.2.l_.map c_u8), I (x8.2.at_)], true, true⟩, ⟨[I (x5.1.pages), I (x5.1.spares), .L 2 (x5.1.places.map Place.cs), .L 1 (x5.1.bad.map cI)], true, true⟩] : Heap) from (bset rfl rfl)]
      refine RgOK.s (v := VI (x8.1)) rfl rfl rfl (e_as (ev_t rfl)) ?_
      refine RgOK.nil ?_
      show CdOK _ _ _ _ _ _
      replace hm := hm.bnd
      refine CdOK.joinT (σ := Remap) (fun s => Sum.inl s) hm (fun s => [(10, .o (.c (.ptr (h.length + 0) 0)))]) (fun s => h ++ ([⟨[I (s.pages), I (s.spares), .L 2 (s.places.map Place.cs), .L 1 (s.bad.map cI)], true, true⟩] : Heap)) ?_ ?_
      · intro hm
        refine CdOK.block ?_
        refine CdOK.loopE (σ := (Int × Codes × Remap)) (fun k s => Ev (law35_QuarantinePlaces.l1 pages spares k s.1 s.2.1 s.2.2) _) (fun s => [(7, .o (.c (.ptr (h.length + 0) 0))), (8, VI ((w64 (1 + (Int.tmod (w64 pages) 20))))), (9, VI ((Int.tmod (w64 spares) 9))), (10, .o (.c (.ptr (h.length + 1) 0))), (12, VI (s.1))]) (fun s => h ++ ([⟨[.L 1 (s.2.1.l_.map c_u8), I (s.2.1.at_)], true, true⟩, ⟨[I (s.2.2.pages), I (s.2.2.spares), .L 2 (s.2.2.places.map Place.cs), .L 1 (s.2.2.bad.map cI)], true, true⟩] : Heap)) FU (x8.1, x8.2, x5.1) hm (.cons rfl (.cons rfl (.cons rfl (.cons rfl (.cons rfl .nil))))) rfl ?_
        rintro kk13 ⟨k10, bx11, bx12⟩ T0 hm
        replace hm : Ev (law35_QuarantinePlaces.l1 pages spares kk13 k10 bx11 bx12) _ := hm
        cases kk13 with
        | zero => exact (Ev.non hm).elim
        | succ kk13 =>
        rw [law35_QuarantinePlaces.l1_s] at hm
        show CdOK _ _ _ (look T0 [(7, .o (.c (.ptr (h.length + 0) 0))), (8, VI ((w64 (1 + (Int.tmod (w64 pages) 20))))), (9, VI ((Int.tmod (w64 spares) 9))), (10, .o (.c (.ptr (h.length + 1) 0))), (12, VI (k10))]) (h ++ ([⟨[.L 1 (bx11.l_.map c_u8), I (bx11.at_)], true, true⟩, ⟨[I (bx12.pages), I (bx12.spares), .L 2 (bx12.places.map Place.cs), .L 1 (bx12.bad.map cI)], true, true⟩] : Heap)) _
        refine CdOK.seq ?_
        refine CdOK.seq ?_
        refine CdOK.region ?_
        refine RgOK.s (v := VI (k10)) rfl rfl rfl (e_mv (ev_t rfl)) ?_
        refine RgOK.s (v := VB (decide (0 < k10))) rfl rfl rfl (e_bin (ev_t rfl) rfl rfl rfl) ?_
        refine RgOK.nil ?_
        show CdOK _ _ _ _ _ _
        refine CdOK.condD (ev_t rfl) ?_ ?_
        · intro c14; replace hm := hm.ifp c14
          refine CdOK.skip ?_
          show CdOK _ _ _ _ _ _
          refine CdOK.seq ?_
          refine CdOK.block ?_
          refine CdOK.seq ?_
          refine CdOK.region ?_
          refine RgOK.s (v := .o (.c (.ptr (h.length + 0) 0))) rfl rfl rfl (e_mv (ev_t rfl)) ?_
          refine RgOK.s (v := VI ((w64 (1 + (Int.tmod (w64 pages) 20))))) rfl rfl rfl (e_mv (ev_t rfl)) ?_
          refine RgOK.s (v := VI ((Int.tmod (w64 spares) 9))) rfl rfl rfl (e_mv (ev_t rfl)) ?_
          refine RgOK.s (v := VI ((w64 ((w64 (1 + (Int.tmod (w64 pages) 20))) + (Int.tmod (w64 spares) 9))))) rfl rfl rfl (e_bin (ev_t rfl) (ev_t rfl) rfl rfl) ?_
          obtain ⟨x15, e15, hm⟩ := hm.call
          refine RgOK.cl rfl rfl rfl rfl pl32 (R2.wk _) (Codes_Next_ok (b_c_ := (h.length + 0)) (bx rfl rfl) e15) ?_
          rintro _ _ ⟨rfl, rfl⟩
          rw [show _ = h ++ ([⟨[.L 1 (x15.2.l_.map c_u8), I (x15.2.at_)], true, true⟩, ⟨[I (bx12.pages), I (bx12.spares), .L 2 (bx12.places.map Place.cs), .L 1 (bx12.bad.map cI)], true, true⟩] : Heap) from (bset rfl rfl)]
          refine RgOK.s (v := VI (x15.1)) rfl rfl rfl (e_as (ev_t rfl)) ?_
          refine RgOK.nil ?_
          show CdOK _ _ _ _ _ _
          replace hm := hm.bnd
          refine CdOK.joinE (σ := (Int × Bool)) (fun s => (s.1, s.2)) hm (fun s => [(7, .o (.c (.ptr (h.length + 0) 0))), (8, VI ((w64 (1 + (Int.tmod (w64 pages) 20))))), (9, VI ((Int.tmod (w64 spares) 9))), (10, .o (.c (.ptr (h.length + 1) 0))), (12, VI (k10)), (13, VI (x15.1)), (14, VI (s.1)), (15, VB (s.2))]) (fun s => h ++ ([⟨[.L 1 (x15.2.l_.map c_u8), I (x15.2.at_)], true, true⟩, ⟨[I (bx12.pages), I (bx12.spares), .L 2 (bx12.places.map Place.cs), .L 1 (bx12.bad.map cI)], true, true⟩] : Heap)) ?_ ?_
          · intro hm
            refine CdOK.region ?_
            refine RgOK.s (v := .o (.agg [I (bx12.pages), I (bx12.spares), .L 2 (bx12.places.map Place.cs), .L 1 (bx12.bad.map cI)])) rfl rfl rfl (e_ldbA (ev_t rfl) ty29 (bx rfl rfl) rfl rfl) ?_
            refine RgOK.s (v := VI (x15.1)) rfl rfl rfl (e_mv (ev_t rfl)) ?_
            obtain ⟨x18, e18, hm⟩ := hm.call
            refine RgOK.cl rfl rfl rfl rfl pl28 (R2.wk _) (quarantine_Owner_ok   e18) ?_
            rintro _ _ ⟨rfl, rfl⟩
            refine RgOK.s (v := .tup [.c (I (x18.1)), .c (Bo (x18.2))]) rfl rfl rfl (e_mv (ev_t rfl)) ?_
            refine RgOK.s (v := VI (x18.1)) rfl rfl rfl (e_ext (ev_t rfl) rfl) ?_
            refine RgOK.sb rfl rfl rfl (e_ext (ev_t rfl) rfl) ?_ ?_
            · intro c19; replace hm := hm.ifp c19
              refine RgOK.s (v := VI (x18.1)) rfl rfl rfl (e_as (ev_t rfl)) ?_
              refine RgOK.s (v := VB (true)) rfl rfl rfl (e_as (ev_t rfl)) ?_
              refine RgOK.nil ?_
              refine Told.id ?_
              exact ⟨(x18.1, true), hm.ret, (.cons rfl (.cons rfl (.cons rfl (.cons rfl (.cons rfl (.cons rfl (.cons rfl (.cons rfl .nil)))))))), rfl⟩
            · intro c20; replace hm := hm.ifn (by rw [c20]; exact Bool.false_ne_true)
              refine RgOK.s (v := VI (x18.1)) rfl rfl rfl (e_as (ev_t rfl)) ?_
              refine RgOK.s (v := VB (false)) rfl rfl rfl (e_as (ev_t rfl)) ?_
              refine RgOK.nil ?_
              refine Told.id ?_
              exact ⟨(x18.1, false), hm.ret, (.cons rfl (.cons rfl (.cons rfl (.cons rfl (.cons rfl (.cons rfl (.cons rfl (.cons rfl .nil)))))))), rfl⟩
          · rintro ⟨owner16, used17⟩ T0 hm
            show CdOK _ _ _ (look T0 [(7, .o (.c (.ptr (h.length + 0) 0))), (8, VI ((w64 (1 + (Int.tmod (w64 pages) 20))))), (9, VI ((Int.tmod (w64 spares) 9))), (10, .o (.c (.ptr (h.length + 1) 0))), (12, VI (k10)), (13, VI (x15.1)), (14, VI (owner16)), (15, VB (used17))]) (h ++ ([⟨[.L 1 (x15.2.l_.map c_u8), I (x15.2.at_)], true, true⟩, ⟨[I (bx12.pages), I (bx12.spares), .L 2 (bx12.places.map Place.cs), .L 1 (bx12.bad.map cI)], true, true⟩] : Heap)) _
            refine CdOK.seq ?_
            refine CdOK.region ?_
            refine RgOK.s (v := .o (.agg [I (bx12.pages), I (bx12.spares), .L 2 (bx12.places.map Place.cs), .L 1 (bx12.bad.map cI)])) rfl rfl rfl (e_ldbA (ev_t rfl) ty29 (bx rfl rfl) rfl rfl) ?_
            obtain ⟨x22, e22, hm⟩ := hm.call
            refine RgOK.cl rfl rfl rfl rfl pl24 (R2.wk _) (quarantine_Left_ok   e22) ?_
            rintro _ _ ⟨rfl, rfl⟩
            refine RgOK.s (v := VI (x22)) rfl rfl rfl (e_as (ev_t rfl)) ?_
            refine RgOK.nil ?_
            show CdOK _ _ _ _ _ _
            refine CdOK.seq ?_
            refine CdOK.region ?_
            refine RgOK.s (v := .o (.agg [I (bx12.pages), I (bx12.spares), .L 2 (bx12.places.map Place.cs), .L 1 (bx12.bad.map cI)])) rfl rfl rfl (e_ldbA (ev_t rfl) ty29 (bx rfl rfl) rfl rfl) ?_
            refine RgOK.s (v := VI (x15.1)) rfl rfl rfl (e_mv (ev_t rfl)) ?_
            obtain ⟨x23, e23, hm⟩ := hm.call
            refine RgOK.cl rfl rfl rfl rfl pl30 (R2.wk _) (quarantine_Mark_ok   e23) ?_
            rintro _ _ ⟨rfl, rfl⟩
            refine RgOK.s (v := .tup [.agg [I (x23.1.pages), I (x23.1.spares), .L 2 (x23.1.places.map Place.cs), .L 1 (x23.1.bad.map cI)], .c (I (x23.2.1)), .c (I (x23.2.2))]) rfl rfl rfl (e_mv (ev_t rfl)) ?_
            refine RgOK.s (v := .o (.agg [I (x23.1.pages), I (x23.1.spares), .L 2 (x23.1.places.map Place.cs), .L 1 (x23.1.bad.map cI)])) rfl rfl rfl (e_ext (ev_t rfl) rfl) ?_
            refine RgOK.s (v := VI (x23.2.1)) rfl rfl rfl (e_ext (ev_t rfl) rfl) ?_
            refine RgOK.s (v := VI (x23.2.2)) rfl rfl rfl (e_ext (ev_t rfl) rfl) ?_
            refine RgOK.s (v := .o (.c (.ptr (h.length + 2) 0))) rfl rfl rfl (e_allocN (L' := [⟨[.L 1 (x15.2.l_.map c_u8), I (x15.2.at_)], true, true⟩, ⟨[I (bx12.pages), I (bx12.spares), .L 2 (bx12.places.map Place.cs), .L 1 (bx12.bad.map cI)], true, true⟩, ⟨[I (0), I (0), .v (.slice none 0 0), .v (.slice none 0 0)], true, true⟩]) rfl zo29 rfl rfl) ?_
            refine RgOK.s0 rfl rfl (e_stN (L' := [⟨[.L 1 (x15.2.l_.map c_u8), I (x15.2.at_)], true, true⟩, ⟨[I (bx12.pages), I (bx12.spares), .L 2 (bx12.places.map Place.cs), .L 1 (bx12.bad.map cI)], true, true⟩, ⟨[I (x23.1.pages), I (x23.1.spares), .L 2 (x23.1.places.map Place.cs), .L 1 (x23.1.bad.map cI)], true, true⟩]) rfl (ev_t rfl) (ev_t rfl) ty29 rfl rfl rfl rfl rfl) ?_
            refine RgOK.s (v := VI (x23.2.1)) rfl rfl rfl (e_as (ev_t rfl)) ?_
            refine RgOK.s (v := VI (x23.2.2)) rfl rfl rfl (e_as (ev_t rfl)) ?_
            refine RgOK.nil ?_
            show CdOK _ _ _ _ _ _
            refine CdOK.seq ?_
            refine CdOK.seq ?_
            refine CdOK.region ?_
            refine RgOK.s (v := VI (x23.2.2)) rfl rfl rfl (e_mv (ev_t rfl)) ?_
            refine RgOK.s (v := VB (decide (x23.2.2 = 47))) rfl rfl rfl (e_eqK (ev_t rfl) rfl) ?_
            refine RgOK.nil ?_
            show CdOK _ _ _ _ _ _
            refine CdOK.condD (ev_t rfl) ?_ ?_
            · intro c24; replace hm := hm.ifp c24
              refine CdOK.seq ?_
              refine CdOK.seq ?_
              refine CdOK.region ?_
              refine RgOK.sb rfl rfl rfl (e_mv (ev_t rfl)) ?_ ?_
              · intro c25; replace hm := hm.ifp c25
                refine RgOK.s (v := VB (false)) rfl rfl rfl (e_un (ev_t rfl) rfl) ?_
                refine RgOK.s (v := VB (false)) rfl rfl rfl (e_mv (ev_t rfl)) ?_
                refine RgOK.s (v := VI (x22)) rfl rfl rfl (e_mv (ev_t rfl)) ?_
                refine RgOK.s (v := VB (decide (0 < x22))) rfl rfl rfl (e_bin (ev_t rfl) rfl rfl rfl) ?_
                refine RgOK.s (v := VB (decide (0 < x22))) rfl rfl rfl (e_pick (t := false) (ev_t rfl) (ev_t rfl)) ?_
                refine RgOK.nil ?_
                show CdOK _ _ _ _ _ _
                refine CdOK.condD (ev_t rfl) ?_ ?_
                · intro c26; replace hm := hm.ifp c26
                  refine CdOK.seq ?_
                  refine CdOK.region ?_
                  refine RgOK.s (v := VB (false)) rfl rfl rfl (e_as rfl) ?_
                  refine RgOK.nil ?_
                  show CdOK _ _ _ _ _ _
                  refine CdOK.ret ?_
                  refine ⟨.inr rfl, _, rfl, h, [⟨[.L 1 (x15.2.l_.map c_u8), I (x15.2.at_)], true, true⟩, ⟨[I (bx12.pages), I (bx12.spares), .L 2 (bx12.places.map Place.cs), .L 1 (bx12.bad.map cI)], true, true⟩, ⟨[I (x23.1.pages), I (x23.1.spares), .L 2 (x23.1.places.map Place.cs), .L 1 (x23.1.bad.map cI)], true, true⟩], _, rfl, rfl, hC, ((renFlV rfl) : RenV _ _ _ _ (VB (false))), ?_⟩
                  have hr := hm.ret
                  replace hr := Ev.ret hr
                  subst hr
                  exact ⟨rfl, rfl⟩
                · intro c27; replace hm := hm.ifn c27
                  refine CdOK.skip ?_
                  show CdOK _ _ _ _ _ _
                  refine CdOK.exit ?_
                  show CdOK _ _ _ _ _ _
                  refine CdOK.region ?_
                  refine RgOK.s (v := VI (k10)) rfl rfl rfl (e_mv (ev_t rfl)) ?_
                  refine RgOK.s (v := VI ((w64 (k10 - 1)))) rfl rfl rfl (e_bin (ev_t rfl) rfl rfl rfl) ?_
                  refine RgOK.s (v := VI ((w64 (k10 - 1)))) rfl rfl rfl (e_as (ev_t rfl)) ?_
                  refine RgOK.nil ?_
                  refine Told.re (σ := [0, 1]) (X := [(7, .o (.c (.ptr (h.length + 0) 0))), (8, VI ((w64 (1 + (Int.tmod (w64 pages) 20))))), (9, VI ((Int.tmod (w64 spares) 9))), (10, .o (.c (.ptr (h.length + 1) 0))), (12, VI ((w64 (k10 - 1))))]) (L' := [⟨[.L 1 (x15.2.l_.map c_u8), I (x15.2.at_)], true, true⟩, ⟨[I (bx12.pages), I (bx12.spares), .L 2 (bx12.places.map Place.cs), .L 1 (bx12.bad.map cI)], true, true⟩]) rfl rfl hC (by decide) (.obj 0 rfl (renFl rfl) (.obj 1 rfl (renFl rfl) .nil)) (.cons (.o (.c (.ptr 0 0 _ rfl))) (.cons (renFlV rfl) (.cons (renFlV rfl) (.cons (.o (.c (.ptr 1 1 _ rfl))) (.cons (renFlV rfl) .nil))))) ?_
                  exact ⟨_, ((w64 (k10 - 1)), x15.2, bx12), Nat.lt_succ_self _, hm, (.cons rfl (.cons rfl (.cons rfl (.cons rfl (.cons rfl .nil))))), rfl⟩
              · intro c28; replace hm := hm.ifn (by rw [c28]; exact Bool.false_ne_true)
                refine RgOK.s (v := VB (true)) rfl rfl rfl (e_un (ev_t rfl) rfl) ?_
                refine RgOK.s (v := VB (true)) rfl rfl rfl (e_mv (ev_t rfl)) ?_
                refine RgOK.sk rfl rfl rfl ?_
                refine RgOK.sk rfl rfl rfl ?_
                refine RgOK.s (v := VB (true)) rfl rfl rfl (e_pick (t := true) (ev_t rfl) rfl) ?_
                refine RgOK.nil ?_
                show CdOK _ _ _ _ _ _
                refine CdOK.cond_true rfl ?_
                refine CdOK.seq ?_
                refine CdOK.region ?_
                refine RgOK.s (v := VB (false)) rfl rfl rfl (e_as rfl) ?_
                refine RgOK.nil ?_
                show CdOK _ _ _ _ _ _
                refine CdOK.ret ?_
                refine ⟨.inr rfl, _, rfl, h, [⟨[.L 1 (x15.2.l_.map c_u8), I (x15.2.at_)], true, true⟩, ⟨[I (bx12.pages), I (bx12.spares), .L 2 (bx12.places.map Place.cs), .L 1 (bx12.bad.map cI)], true, true⟩, ⟨[I (x23.1.pages), I (x23.1.spares), .L 2 (x23.1.places.map Place.cs), .L 1 (x23.1.bad.map cI)], true, true⟩], _, rfl, rfl, hC, ((renFlV rfl) : RenV _ _ _ _ (VB (false))), ?_⟩
                have hr := hm.ret
                replace hr := Ev.ret hr
                subst hr
                exact ⟨rfl, rfl⟩
            · intro c29; replace hm := hm.ifn c29
              refine CdOK.skip ?_
              show CdOK _ _ _ _ _ _
              replace hm := hm.bnd
              refine CdOK.joinE (σ := Unit) (fun s => Sum.inl ()) hm (fun s => [(7, .o (.c (.ptr (h.length + 0) 0))), (8, VI ((w64 (1 + (Int.tmod (w64 pages) 20))))), (9, VI ((Int.tmod (w64 spares) 9))), (10, .o (.c (.ptr (h.length + 1) 0))), (12, VI (k10)), (13, VI (x15.1)), (17, .o (.c (.ptr (h.length + 2) 0)))]) (fun s => h ++ ([⟨[.L 1 (x15.2.l_.map c_u8), I (x15.2.at_)], true, true⟩, ⟨[I (bx12.pages), I (bx12.spares), .L 2 (bx12.places.map Place.cs), .L 1 (bx12.bad.map cI)], true, true⟩, ⟨[I (x23.1.pages), I (x23.1.spares), .L 2 (x23.1.places.map Place.cs), .L 1 (x23.1.bad.map cI)], true, true⟩] : Heap)) ?_ ?_
              · intro hm
                refine CdOK.seq ?_
                refine CdOK.region ?_
                refine RgOK.s (v := VI (x23.2.2)) rfl rfl rfl (e_mv (ev_t rfl)) ?_
                refine RgOK.sd rfl rfl rfl (e_neK (ev_t rfl) rfl) ?_ ?_
                · intro c30; replace hm := hm.ifp c30
                  refine RgOK.s (v := VB (true)) rfl rfl rfl (e_mv (ev_t rfl)) ?_
                  refine RgOK.sk rfl rfl rfl ?_
                  refine RgOK.sk rfl rfl rfl ?_
                  refine RgOK.sk rfl rfl rfl ?_
                  refine RgOK.sk rfl rfl rfl ?_
                  refine RgOK.sk rfl rfl rfl ?_
                  refine RgOK.sk rfl rfl rfl ?_
                  refine RgOK.s (v := VB (true)) rfl rfl rfl (e_pick (t := true) (ev_t rfl) rfl) ?_
                  refine RgOK.s (v := VB (true)) rfl rfl rfl (e_mv (ev_t rfl)) ?_
                  refine RgOK.sk rfl rfl rfl ?_
                  refine RgOK.sk rfl rfl rfl ?_
                  refine RgOK.sk rfl rfl rfl ?_
                  refine RgOK.sk rfl rfl rfl ?_
                  refine RgOK.sk rfl rfl rfl ?_
                  refine RgOK.sk rfl rfl rfl ?_
                  refine RgOK.s (v := VB (true)) rfl rfl rfl (e_pick (t := true) (ev_t rfl) rfl) ?_
                  refine RgOK.nil ?_
                  show CdOK _ _ _ _ _ _
                  refine CdOK.cond_true rfl ?_
                  refine CdOK.seq ?_
                  refine CdOK.region ?_
                  refine RgOK.s (v := VB (false)) rfl rfl rfl (e_as rfl) ?_
                  refine RgOK.nil ?_
                  show CdOK _ _ _ _ _ _
                  refine CdOK.ret ?_
                  refine ⟨.inr rfl, _, rfl, h, [⟨[.L 1 (x15.2.l_.map c_u8), I (x15.2.at_)], true, true⟩, ⟨[I (bx12.pages), I (bx12.spares), .L 2 (bx12.places.map Place.cs), .L 1 (bx12.bad.map cI)], true, true⟩, ⟨[I (x23.1.pages), I (x23.1.spares), .L 2 (x23.1.places.map Place.cs), .L 1 (x23.1.bad.map cI)], true, true⟩], _, rfl, rfl, hC, ((renFlV rfl) : RenV _ _ _ _ (VB (false))), ?_⟩
                  have hr := hm.ret
                  replace hr := Ev.ret hr
                  replace hr := Ev.ret hr
                  subst hr
                  exact ⟨rfl, rfl⟩
                · intro c31; replace hm := hm.ifn c31
                  refine RgOK.s (v := VB (false)) rfl rfl rfl (e_mv (ev_t rfl)) ?_
                  refine RgOK.sb rfl rfl rfl (e_mv (ev_t rfl)) ?_ ?_
                  · intro c32; replace hm := hm.ifp c32
                    refine RgOK.s (v := VB (true)) rfl rfl rfl (e_mv (ev_t rfl)) ?_
                    refine RgOK.s (v := VI (x23.2.1)) rfl rfl rfl (e_mv (ev_t rfl)) ?_
                    refine RgOK.s (v := VI (owner16)) rfl rfl rfl (e_mv (ev_t rfl)) ?_
                    refine RgOK.sd rfl rfl rfl (e_neK (ev_t rfl) (ev_t rfl)) ?_ ?_
                    · intro c33; replace hm := hm.ifp c33
                      refine RgOK.s (v := VB (true)) rfl rfl rfl (e_pick (t := true) (ev_t rfl) (ev_t rfl)) ?_
                      refine RgOK.s (v := VB (true)) rfl rfl rfl (e_pick (t := false) (ev_t rfl) (ev_t rfl)) ?_
                      refine RgOK.s (v := VB (true)) rfl rfl rfl (e_mv (ev_t rfl)) ?_
                      refine RgOK.sk rfl rfl rfl ?_
                      refine RgOK.sk rfl rfl rfl ?_
                      refine RgOK.sk rfl rfl rfl ?_
                      refine RgOK.sk rfl rfl rfl ?_
                      refine RgOK.sk rfl rfl rfl ?_
                      refine RgOK.sk rfl rfl rfl ?_
                      refine RgOK.s (v := VB (true)) rfl rfl rfl (e_pick (t := true) (ev_t rfl) rfl) ?_
                      refine RgOK.nil ?_
                      show CdOK _ _ _ _ _ _
                      refine CdOK.cond_true rfl ?_
                      refine CdOK.seq ?_
                      refine CdOK.region ?_
                      refine RgOK.s (v := VB (false)) rfl rfl rfl (e_as rfl) ?_
                      refine RgOK.nil ?_
                      show CdOK _ _ _ _ _ _
                      refine CdOK.ret ?_
                      refine ⟨.inr rfl, _, rfl, h, [⟨[.L 1 (x15.2.l_.map c_u8), I (x15.2.at_)], true, true⟩, ⟨[I (bx12.pages), I (bx12.spares), .L 2 (bx12.places.map Place.cs), .L 1 (bx12.bad.map cI)], true, true⟩, ⟨[I (x23.1.pages), I (x23.1.spares), .L 2 (x23.1.places.map Place.cs), .L 1 (x23.1.bad.map cI)], true, true⟩], _, rfl, rfl, hC, ((renFlV rfl) : RenV _ _ _ _ (VB (false))), ?_⟩
                      have hr := hm.ret
                      replace hr := Ev.ret hr
                      replace hr := Ev.ret hr
                      subst hr
                      exact ⟨rfl, rfl⟩
                    · intro c34; replace hm := hm.ifn c34
                      refine RgOK.s (v := VB (false)) rfl rfl rfl (e_pick (t := true) (ev_t rfl) (ev_t rfl)) ?_
                      refine RgOK.s (v := VB (false)) rfl rfl rfl (e_pick (t := false) (ev_t rfl) (ev_t rfl)) ?_
                      refine RgOK.s (v := VB (false)) rfl rfl rfl (e_mv (ev_t rfl)) ?_
                      refine RgOK.sb rfl rfl rfl (e_mv (ev_t rfl)) ?_ ?_
                      · intro c35; replace hm := hm.ifp c35
                        refine RgOK.s (v := VB (false)) rfl rfl rfl (e_un (ev_t rfl) rfl) ?_
                        refine RgOK.s (v := VB (false)) rfl rfl rfl (e_mv (ev_t rfl)) ?_
                        refine RgOK.sk rfl rfl rfl ?_
                        refine RgOK.sk rfl rfl rfl ?_
                        refine RgOK.s (v := VB (false)) rfl rfl rfl (e_pick (t := false) (ev_t rfl) rfl) ?_
                        refine RgOK.s (v := VB (false)) rfl rfl rfl (e_pick (t := false) (ev_t rfl) (ev_t rfl)) ?_
                        refine RgOK.nil ?_
                        show CdOK _ _ _ _ _ _
                        refine CdOK.cond_false rfl ?_
                        refine CdOK.skip ?_
                        refine Told.id ?_
                        exact ⟨(), hm.ret, (.cons rfl (.cons rfl (.cons rfl (.cons rfl (.cons rfl (.cons rfl (.cons rfl .nil))))))), rfl⟩
                      · intro c36; replace hm := hm.ifn (by rw [c36]; exact Bool.false_ne_true)
                        refine RgOK.s (v := VB (true)) rfl rfl rfl (e_un (ev_t rfl) rfl) ?_
                        refine RgOK.s (v := VB (true)) rfl rfl rfl (e_mv (ev_t rfl)) ?_
                        refine RgOK.s (v := VI (x23.2.1)) rfl rfl rfl (e_mv (ev_t rfl)) ?_
                        refine RgOK.s (v := VB (decide (x23.2.1 ≠ (-1)))) rfl rfl rfl (e_neK (ev_t rfl) rfl) ?_
                        refine RgOK.s (v := VB (decide (x23.2.1 ≠ (-1)))) rfl rfl rfl (e_pick (t := true) (ev_t rfl) (ev_t rfl)) ?_
                        refine RgOK.s (v := VB (decide (x23.2.1 ≠ (-1)))) rfl rfl rfl (e_pick (t := false) (ev_t rfl) (ev_t rfl)) ?_
                        refine RgOK.nil ?_
                        show CdOK _ _ _ _ _ _
                        refine CdOK.condD (ev_t rfl) ?_ ?_
                        · intro c37; replace hm := hm.ifp c37
                          refine CdOK.seq ?_
                          refine CdOK.region ?_
                          refine RgOK.s (v := VB (false)) rfl rfl rfl (e_as rfl) ?_
                          refine RgOK.nil ?_
                          show CdOK _ _ _ _ _ _
                          refine CdOK.ret ?_
                          refine ⟨.inr rfl, _, rfl, h, [⟨[.L 1 (x15.2.l_.map c_u8), I (x15.2.at_)], true, true⟩, ⟨[I (bx12.pages), I (bx12.spares), .L 2 (bx12.places.map Place.cs), .L 1 (bx12.bad.map cI)], true, true⟩, ⟨[I (x23.1.pages), I (x23.1.spares), .L 2 (x23.1.places.map Place.cs), .L 1 (x23.1.bad.map cI)], true, true⟩], _, rfl, rfl, hC, ((renFlV rfl) : RenV _ _ _ _ (VB (false))), ?_⟩
                          have hr := hm.ret
                          replace hr := Ev.ret hr
                          replace hr := Ev.ret hr
                          subst hr
                          exact ⟨rfl, rfl⟩
                        · intro c38; replace hm := hm.ifn c38
                          refine CdOK.skip ?_
                          refine Told.id ?_
                          exact ⟨(), hm.ret, (.cons rfl (.cons rfl (.cons rfl (.cons rfl (.cons rfl (.cons rfl (.cons rfl .nil))))))), rfl⟩
                  · intro c39; replace hm := hm.ifn (by rw [c39]; exact Bool.false_ne_true)
                    refine RgOK.s (v := VB (false)) rfl rfl rfl (e_mv (ev_t rfl)) ?_
                    refine RgOK.sk rfl rfl rfl ?_
                    refine RgOK.sk rfl rfl rfl ?_
                    refine RgOK.sk rfl rfl rfl ?_
                    refine RgOK.s (v := VB (false)) rfl rfl rfl (e_pick (t := false) (ev_t rfl) rfl) ?_
                    refine RgOK.s (v := VB (false)) rfl rfl rfl (e_pick (t := false) (ev_t rfl) (ev_t rfl)) ?_
                    refine RgOK.s (v := VB (false)) rfl rfl rfl (e_mv (ev_t rfl)) ?_
                    refine RgOK.sb rfl rfl rfl (e_mv (ev_t rfl)) ?_ ?_
                    · intro c40; replace hm := hm.ifp c40
                      refine RgOK.s (v := VB (false)) rfl rfl rfl (e_un (ev_t rfl) rfl) ?_
                      refine RgOK.s (v := VB (false)) rfl rfl rfl (e_mv (ev_t rfl)) ?_
                      refine RgOK.sk rfl rfl rfl ?_
                      refine RgOK.sk rfl rfl rfl ?_
                      refine RgOK.s (v := VB (false)) rfl rfl rfl (e_pick (t := false) (ev_t rfl) rfl) ?_
                      refine RgOK.s (v := VB (false)) rfl rfl rfl (e_pick (t := false) (ev_t rfl) (ev_t rfl)) ?_
                      refine RgOK.nil ?_
                      show CdOK _ _ _ _ _ _
                      refine CdOK.cond_false rfl ?_
                      refine CdOK.skip ?_
                      refine Told.id ?_
                      exact ⟨(), hm.ret, (.cons rfl (.cons rfl (.cons rfl (.cons rfl (.cons rfl (.cons rfl (.cons rfl .nil))))))), rfl⟩
                    · intro c41; replace hm := hm.ifn (by rw [c41]; exact Bool.false_ne_true)
                      refine RgOK.s (v := VB (true)) rfl rfl rfl (e_un (ev_t rfl) rfl) ?_
                      refine RgOK.s (v := VB (true)) rfl rfl rfl (e_mv (ev_t rfl)) ?_
                      refine RgOK.s (v := VI (x23.2.1)) rfl rfl rfl (e_mv (ev_t rfl)) ?_
                      refine RgOK.s (v := VB (decide (x23.2.1 ≠ (-1)))) rfl rfl rfl (e_neK (ev_t rfl) rfl) ?_
                      refine RgOK.s (v := VB (decide (x23.2.1 ≠ (-1)))) rfl rfl rfl (e_pick (t := true) (ev_t rfl) (ev_t rfl)) ?_
                      refine RgOK.s (v := VB (decide (x23.2.1 ≠ (-1)))) rfl rfl rfl (e_pick (t := false) (ev_t rfl) (ev_t rfl)) ?_
                      refine RgOK.nil ?_
                      show CdOK _ _ _ _ _ _
                      refine CdOK.condD (ev_t rfl) ?_ ?_
                      · intro c42; replace hm := hm.ifp c42
                        refine CdOK.seq ?_
                        refine CdOK.region ?_
                        refine RgOK.s (v := VB (false)) rfl rfl rfl (e_as rfl) ?_
                        refine RgOK.nil ?_
                        show CdOK _ _ _ _ _ _
                        refine CdOK.ret ?_
                        refine ⟨.inr rfl, _, rfl, h, [⟨[.L 1 (x15.2.l_.map c_u8), I (x15.2.at_)], true, true⟩, ⟨[I (bx12.pages), I (bx12.spares), .L 2 (bx12.places.map Place.cs), .L 1 (bx12.bad.map cI)], true, true⟩, ⟨[I (x23.1.pages), I (x23.1.spares), .L 2 (x23.1.places.map Place.cs), .L 1 (x23.1.bad.map cI)], true, true⟩], _, rfl, rfl, hC, ((renFlV rfl) : RenV _ _ _ _ (VB (false))), ?_⟩
                        have hr := hm.ret
                        replace hr := Ev.ret hr
                        replace hr := Ev.ret hr
                        subst hr
                        exact ⟨rfl, rfl⟩
                      · intro c43; replace hm := hm.ifn c43
                        refine CdOK.skip ?_
                        refine Told.id ?_
                        exact ⟨(), hm.ret, (.cons rfl (.cons rfl (.cons rfl (.cons rfl (.cons rfl (.cons rfl (.cons rfl .nil))))))), rfl⟩
              · intro _ T0 hm
                show CdOK _ _ _ (look T0 [(7, .o (.c (.ptr (h.length + 0) 0))), (8, VI ((w64 (1 + (Int.tmod (w64 pages) 20))))), (9, VI ((Int.tmod (w64 spares) 9))), (10, .o (.c (.ptr (h.length + 1) 0))), (12, VI (k10)), (13, VI (x15.1)), (17, .o (.c (.ptr (h.length + 2) 0)))]) (h ++ ([⟨[.L 1 (x15.2.l_.map c_u8), I (x15.2.at_)], true, true⟩, ⟨[I (bx12.pages), I (bx12.spares), .L 2 (bx12.places.map Place.cs), .L 1 (bx12.bad.map cI)], true, true⟩, ⟨[I (x23.1.pages), I (x23.1.spares), .L 2 (x23.1.places.map Place.cs), .L 1 (x23.1.bad.map cI)], true, true⟩] : Heap)) _
                replace hm : Ev _ _ := hm
                refine CdOK.seq ?_
                refine CdOK.region ?_
                refine RgOK.s (v := .o (.agg [I (x23.1.pages), I (x23.1.spares), .L 2 (x23.1.places.map Place.cs), .L 1 (x23.1.bad.map cI)])) rfl rfl rfl (e_ldbA (ev_t rfl) ty29 (bx rfl rfl) rfl rfl) ?_
                refine RgOK.s0 rfl rfl (e_stN (L' := [⟨[.L 1 (x15.2.l_.map c_u8), I (x15.2.at_)], true, true⟩, ⟨[I (x23.1.pages), I (x23.1.spares), .L 2 (x23.1.places.map Place.cs), .L 1 (x23.1.bad.map cI)], true, true⟩, ⟨[I (x23.1.pages), I (x23.1.spares), .L 2 (x23.1.places.map Place.cs), .L 1 (x23.1.bad.map cI)], true, true⟩]) rfl (ev_t rfl) (ev_t rfl) ty29 rfl rfl rfl rfl rfl) ?_
                refine RgOK.nil ?_
                show CdOK _ _ _ _ _ _
                refine CdOK.seq ?_
                refine CdOK.region ?_
                refine RgOK.s (v := VI ((w64 (1 + (Int.tmod (w64 pages) 20))))) rfl rfl rfl (e_mv (ev_t rfl)) ?_
                refine RgOK.s (v := VI ((Int.tmod (w64 spares) 9))) rfl rfl rfl (e_mv (ev_t rfl)) ?_
                refine RgOK.s (v := VI ((w64 ((w64 (1 + (Int.tmod (w64 pages) 20))) + (Int.tmod (w64 spares) 9))))) rfl rfl rfl (e_bin (ev_t rfl) (ev_t rfl) rfl rfl) ?_
                obtain ⟨c45, hm⟩ := hm.ifs
                refine RgOK.s (v := .o (.c (.g (h.length + 3) (Int.toNat (w64 ((w64 (1 + (Int.tmod (w64 pages) 20))) + (Int.tmod (w64 spares) 9)))) 1 true))) rfl rfl rfl (e_mks (f := cB) (x := false) (q := 281474976710656) (L' := [⟨[.L 1 (x15.2.l_.map c_u8), I (x15.2.at_)], true, true⟩, ⟨[I (x23.1.pages), I (x23.1.spares), .L 2 (x23.1.places.map Place.cs), .L 1 (x23.1.bad.map cI)], true, true⟩, ⟨[I (x23.1.pages), I (x23.1.spares), .L 2 (x23.1.places.map Place.cs), .L 1 (x23.1.bad.map cI)], true, true⟩, ⟨((List.replicate (Int.toNat (w64 ((w64 (1 + (Int.tmod (w64 pages) 20))) + (Int.tmod (w64 spares) 9)))) false).map cB).flatten, true, true⟩]) slt46 rfl (ev_t rfl) (ev_t rfl) rfl c45 (by decide) rfl rfl) ?_
                refine RgOK.s (v := .o (.c (.g (h.length + 3) (Int.toNat (w64 ((w64 (1 + (Int.tmod (w64 pages) 20))) + (Int.tmod (w64 spares) 9)))) 1 true))) rfl rfl rfl (e_as (ev_t rfl)) ?_
                refine RgOK.nil ?_
                show CdOK _ _ _ _ _ _
                refine CdOK.seq ?_
                refine CdOK.region ?_
                refine RgOK.s (v := VI (0)) rfl rfl rfl (e_as rfl) ?_
                refine RgOK.nil ?_
                show CdOK _ _ _ _ _ _
                replace hm := hm.bnd
                refine CdOK.joinT (σ := Unit) (fun s => Sum.inl ()) hm (fun s => [(7, .o (.c (.ptr (h.length + 0) 0))), (8, VI ((w64 (1 + (Int.tmod (w64 pages) 20))))), (9, VI ((Int.tmod (w64 spares) 9))), (10, .o (.c (.ptr (h.length + 1) 0))), (12, VI (k10))]) (fun s => h ++ ([⟨[.L 1 (x15.2.l_.map c_u8), I (x15.2.at_)], true, true⟩, ⟨[I (x23.1.pages), I (x23.1.spares), .L 2 (x23.1.places.map Place.cs), .L 1 (x23.1.bad.map cI)], true, true⟩] : Heap)) ?_ ?_
                · intro hm
                  refine CdOK.block ?_
                  refine CdOK.re (σ := [0, 1, 3]) (X := [(7, .o (.c (.ptr (h.length + 0) 0))), (8, VI ((w64 (1 + (Int.tmod (w64 pages) 20))))), (9, VI ((Int.tmod (w64 spares) 9))), (10, .o (.c (.ptr (h.length + 1) 0))), (12, VI (k10)), (13, VI (x15.1)), (20, .o (.c (.g (h.length + 2) (((List.replicate (Int.toNat (w64 ((w64 (1 + (Int.tmod (w64 pages) 20))) + (Int.tmod (w64 spares) 9)))) false)).length) 1 true))), (21, VI (0))]) (L' := [⟨[.L 1 (x15.2.l_.map c_u8), I (x15.2.at_)], true, true⟩, ⟨[I (x23.1.pages), I (x23.1.spares), .L 2 (x23.1.places.map Place.cs), .L 1 (x23.1.bad.map cI)], true, true⟩, ⟨((List.replicate (Int.toNat (w64 ((w64 (1 + (Int.tmod (w64 pages) 20))) + (Int.tmod (w64 spares) 9)))) false).map cB).flatten, true, true⟩]) rfl rfl hC (by decide) (.obj 0 rfl (renFl rfl) (.obj 1 rfl (renFl rfl) (.obj 3 rfl (renFl (flat_all (f := cB) (l := (List.replicate (Int.toNat (w64 ((w64 (1 + (Int.tmod (w64 pages) 20))) + (Int.tmod (w64 spares) 9)))) false)) (by intro x; rfl))) .nil))) (.cons (.o (.c (.ptr 0 0 _ rfl))) (.cons (renFlV rfl) (.cons (renFlV rfl) (.cons (.o (.c (.ptr 1 1 _ rfl))) (.cons (renFlV rfl) (.cons (renFlV rfl) (.cons (.o (.c (.gg 3 2 _ _ _ _ _ rfl (by first | rfl | simp) rfl))) (.cons (renFlV rfl) .nil)))))))) ?_
                  refine CdOK.loopE (σ := (Int × (List Bool) × Bool)) (fun k s => Ev (law35_QuarantinePlaces.l2 pages spares x15 x23 k s.1 s.2.1) _) (fun s => [(7, .o (.c (.ptr (h.length + 0) 0))), (8, VI ((w64 (1 + (Int.tmod (w64 pages) 20))))), (9, VI ((Int.tmod (w64 spares) 9))), (10, .o (.c (.ptr (h.length + 1) 0))), (12, VI (k10)), (13, VI (x15.1)), (20, .o (.c (.g (h.length + 2) ((s.2.1).length) 1 s.2.2))), (21, VI (s.1))]) (fun s => h ++ ([⟨[.L 1 (x15.2.l_.map c_u8), I (x15.2.at_)], true, true⟩, ⟨[I (x23.1.pages), I (x23.1.spares), .L 2 (x23.1.places.map Place.cs), .L 1 (x23.1.bad.map cI)], true, true⟩, ⟨(s.2.1.map cB).flatten, true, s.2.2⟩] : Heap)) FU (0, (List.replicate (Int.toNat (w64 ((w64 (1 + (Int.tmod (w64 pages) 20))) + (Int.tmod (w64 spares) 9)))) false), true) hm (.cons rfl (.cons rfl (.cons rfl (.cons rfl (.cons rfl (.cons rfl (.cons rfl (.cons rfl .nil)))))))) rfl ?_
                  rintro kk48 ⟨id46, bx47, bx47v⟩ T0 hm
                  replace hm : Ev (law35_QuarantinePlaces.l2 pages spares x15 x23 kk48 id46 bx47) _ := hm
                  cases kk48 with
                  | zero => exact (Ev.non hm).elim
                  | succ kk48 =>
                  rw [law35_QuarantinePlaces.l2_s] at hm
                  show CdOK _ _ _ (look T0 [(7, .o (.c (.ptr (h.length + 0) 0))), (8, VI ((w64 (1 + (Int.tmod (w64 pages) 20))))), (9, VI ((Int.tmod (w64 spares) 9))), (10, .o (.c (.ptr (h.length + 1) 0))), (12, VI (k10)), (13, VI (x15.1)), (20, .o (.c (.g (h.length + 2) ((bx47).length) 1 bx47v))), (21, VI (id46))]) (h ++ ([⟨[.L 1 (x15.2.l_.map c_u8), I (x15.2.at_)], true, true⟩, ⟨[I (x23.1.pages), I (x23.1.spares), .L 2 (x23.1.places.map Place.cs), .L 1 (x23.1.bad.map cI)], true, true⟩, ⟨(bx47.map cB).flatten, true, bx47v⟩] : Heap)) _
                  refine CdOK.seq ?_
                  refine CdOK.seq ?_
                  refine CdOK.region ?_
                  refine RgOK.s (v := VI (id46)) rfl rfl rfl (e_mv (ev_t rfl)) ?_
                  refine RgOK.s (v := VI ((w64 (1 + (Int.tmod (w64 pages) 20))))) rfl rfl rfl (e_mv (ev_t rfl)) ?_
                  refine RgOK.s (v := VB (decide (id46 < (w64 (1 + (Int.tmod (w64 pages) 20)))))) rfl rfl rfl (e_bin (ev_t rfl) (ev_t rfl) rfl rfl) ?_
                  refine RgOK.nil ?_
                  show CdOK _ _ _ _ _ _
                  refine CdOK.condD (ev_t rfl) ?_ ?_
                  · intro c49; replace hm := hm.ifp c49
                    refine CdOK.skip ?_
                    show CdOK _ _ _ _ _ _
                    refine CdOK.seq ?_
                    refine CdOK.block ?_
                    refine CdOK.seq ?_
                    refine CdOK.region ?_
                    refine RgOK.s (v := .o (.agg [I (x23.1.pages), I (x23.1.spares), .L 2 (x23.1.places.map Place.cs), .L 1 (x23.1.bad.map cI)])) rfl rfl rfl (e_ldbA (ev_t rfl) ty29 (bx rfl rfl) rfl rfl) ?_
                    refine RgOK.s (v := VI (id46)) rfl rfl rfl (e_mv (ev_t rfl)) ?_
                    obtain ⟨x50, e50, hm⟩ := hm.call
                    refine RgOK.cl rfl rfl rfl rfl pl26 (R2.wk _) (quarantine_Where_ok   e50) ?_
                    rintro _ _ ⟨rfl, rfl⟩
                    refine RgOK.s (v := .tup [.c (I (x50.1)), .c (I (x50.2))]) rfl rfl rfl (e_mv (ev_t rfl)) ?_
                    refine RgOK.s (v := VI (x50.1)) rfl rfl rfl (e_ext (ev_t rfl) rfl) ?_
                    refine RgOK.s (v := VI (x50.2)) rfl rfl rfl (e_ext (ev_t rfl) rfl) ?_
                    refine RgOK.s (v := VI (x50.1)) rfl rfl rfl (e_as (ev_t rfl)) ?_
                    refine RgOK.s (v := VI (x50.2)) rfl rfl rfl (e_as (ev_t rfl)) ?_
                    refine RgOK.nil ?_
                    show CdOK _ _ _ _ _ _
                    refine CdOK.seq ?_
                    refine CdOK.seq ?_
                    obtain ⟨c51, hm⟩ := hm.ifs
                    refine CdOK.glT (d := 20) (ev_t rfl) c51 (fun hlv => ?_)
                    subst hlv
                    skip
                    refine CdOK.region ?_
                    refine RgOK.s (v := VI (x50.2)) rfl rfl rfl (e_mv (ev_t rfl)) ?_
                    refine RgOK.sd rfl rfl rfl (e_neK (ev_t rfl) rfl) ?_ ?_
                    · intro c52; replace hm := hm.ifp c52
                      refine RgOK.s (v := VB (true)) rfl rfl rfl (e_mv (ev_t rfl)) ?_
                      refine RgOK.sk rfl rfl rfl ?_
                      refine RgOK.sk rfl rfl rfl ?_
                      refine RgOK.s (v := VB (true)) rfl rfl rfl (e_pick (t := true) (ev_t rfl) rfl) ?_
                      refine RgOK.s (v := VB (true)) rfl rfl rfl (e_mv (ev_t rfl)) ?_
                      refine RgOK.sk rfl rfl rfl ?_
                      refine RgOK.sk rfl rfl rfl ?_
                      refine RgOK.sk rfl rfl rfl ?_
                      refine RgOK.sk rfl rfl rfl ?_
                      refine RgOK.sk rfl rfl rfl ?_
                      refine RgOK.s (v := VB (true)) rfl rfl rfl (e_pick (t := true) (ev_t rfl) rfl) ?_
                      refine RgOK.s (v := VB (true)) rfl rfl rfl (e_mv (ev_t rfl)) ?_
                      refine RgOK.sk rfl rfl rfl ?_
                      refine RgOK.sk rfl rfl rfl ?_
                      refine RgOK.sk rfl rfl rfl ?_
                      refine RgOK.sk rfl rfl rfl ?_
                      refine RgOK.s (v := VB (true)) rfl rfl rfl (e_pick (t := true) (ev_t rfl) rfl) ?_
                      refine RgOK.s (v := VB (true)) rfl rfl rfl (e_mv (ev_t rfl)) ?_
                      refine RgOK.sk rfl rfl rfl ?_
                      refine RgOK.sk rfl rfl rfl ?_
                      refine RgOK.sk rfl rfl rfl ?_
                      refine RgOK.s (v := VB (true)) rfl rfl rfl (e_pick (t := true) (ev_t rfl) rfl) ?_
                      refine RgOK.nil ?_
                      show CdOK _ _ _ _ _ _
                      refine CdOK.cond_true rfl ?_
                      refine CdOK.seq ?_
                      refine CdOK.region ?_
                      refine RgOK.s (v := VB (false)) rfl rfl rfl (e_as rfl) ?_
                      refine RgOK.nil ?_
                      show CdOK _ _ _ _ _ _
                      refine CdOK.ret ?_
                      refine ⟨.inr rfl, _, rfl, h, [⟨[.L 1 (x15.2.l_.map c_u8), I (x15.2.at_)], true, true⟩, ⟨[I (x23.1.pages), I (x23.1.spares), .L 2 (x23.1.places.map Place.cs), .L 1 (x23.1.bad.map cI)], true, true⟩, ⟨(bx47.map cB).flatten, true, true⟩], _, rfl, rfl, hC, ((renFlV rfl) : RenV _ _ _ _ (VB (false))), ?_⟩
                      have hr := hm.ret
                      replace hr := Ev.ret hr
                      replace hr := Ev.ret hr
                      subst hr
                      exact ⟨rfl, rfl⟩
                    · intro c53; replace hm := hm.ifn c53
                      refine RgOK.s (v := VB (false)) rfl rfl rfl (e_mv (ev_t rfl)) ?_
                      refine RgOK.s (v := VI (x50.1)) rfl rfl rfl (e_mv (ev_t rfl)) ?_
                      refine RgOK.sd rfl rfl rfl (e_bin (ev_t rfl) rfl rfl rfl) ?_ ?_
                      · intro c54; replace hm := hm.ifp c54
                        refine RgOK.s (v := VB (true)) rfl rfl rfl (e_pick (t := false) (ev_t rfl) (ev_t rfl)) ?_
                        refine RgOK.s (v := VB (true)) rfl rfl rfl (e_mv (ev_t rfl)) ?_
                        refine RgOK.sk rfl rfl rfl ?_
                        refine RgOK.sk rfl rfl rfl ?_
                        refine RgOK.sk rfl rfl rfl ?_
                        refine RgOK.sk rfl rfl rfl ?_
                        refine RgOK.sk rfl rfl rfl ?_
                        refine RgOK.s (v := VB (true)) rfl rfl rfl (e_pick (t := true) (ev_t rfl) rfl) ?_
                        refine RgOK.s (v := VB (true)) rfl rfl rfl (e_mv (ev_t rfl)) ?_
                        refine RgOK.sk rfl rfl rfl ?_
                        refine RgOK.sk rfl rfl rfl ?_
                        refine RgOK.sk rfl rfl rfl ?_
                        refine RgOK.sk rfl rfl rfl ?_
                        refine RgOK.s (v := VB (true)) rfl rfl rfl (e_pick (t := true) (ev_t rfl) rfl) ?_
                        refine RgOK.s (v := VB (true)) rfl rfl rfl (e_mv (ev_t rfl)) ?_
                        refine RgOK.sk rfl rfl rfl ?_
                        refine RgOK.sk rfl rfl rfl ?_
                        refine RgOK.sk rfl rfl rfl ?_
                        refine RgOK.s (v := VB (true)) rfl rfl rfl (e_pick (t := true) (ev_t rfl) rfl) ?_
                        refine RgOK.nil ?_
                        show CdOK _ _ _ _ _ _
                        refine CdOK.cond_true rfl ?_
                        refine CdOK.seq ?_
                        refine CdOK.region ?_
                        refine RgOK.s (v := VB (false)) rfl rfl rfl (e_as rfl) ?_
                        refine RgOK.nil ?_
                        show CdOK _ _ _ _ _ _
                        refine CdOK.ret ?_
                        refine ⟨.inr rfl, _, rfl, h, [⟨[.L 1 (x15.2.l_.map c_u8), I (x15.2.at_)], true, true⟩, ⟨[I (x23.1.pages), I (x23.1.spares), .L 2 (x23.1.places.map Place.cs), .L 1 (x23.1.bad.map cI)], true, true⟩, ⟨(bx47.map cB).flatten, true, true⟩], _, rfl, rfl, hC, ((renFlV rfl) : RenV _ _ _ _ (VB (false))), ?_⟩
                        have hr := hm.ret
                        replace hr := Ev.ret hr
                        replace hr := Ev.ret hr
                        subst hr
                        exact ⟨rfl, rfl⟩
                      · intro c55; replace hm := hm.ifn c55
                        refine RgOK.s (v := VB (false)) rfl rfl rfl (e_pick (t := false) (ev_t rfl) (ev_t rfl)) ?_
                        refine RgOK.s (v := VB (false)) rfl rfl rfl (e_mv (ev_t rfl)) ?_
                        refine RgOK.s (v := VI (x50.1)) rfl rfl rfl (e_mv (ev_t rfl)) ?_
                        refine RgOK.s (v := VI ((w64 (1 + (Int.tmod (w64 pages) 20))))) rfl rfl rfl (e_mv (ev_t rfl)) ?_
                        refine RgOK.s (v := VI ((Int.tmod (w64 spares) 9))) rfl rfl rfl (e_mv (ev_t rfl)) ?_
                        refine RgOK.s (v := VI ((w64 ((w64 (1 + (Int.tmod (w64 pages) 20))) + (Int.tmod (w64 spares) 9))))) rfl rfl rfl (e_bin (ev_t rfl) (ev_t rfl) rfl rfl) ?_
                        refine RgOK.sd rfl rfl rfl (e_bin (ev_t rfl) (ev_t rfl) rfl rfl) ?_ ?_
                        · intro c56; replace hm := hm.ifp c56
                          refine RgOK.s (v := VB (true)) rfl rfl rfl (e_pick (t := false) (ev_t rfl) (ev_t rfl)) ?_
                          refine RgOK.s (v := VB (true)) rfl rfl rfl (e_mv (ev_t rfl)) ?_
                          refine RgOK.sk rfl rfl rfl ?_
                          refine RgOK.sk rfl rfl rfl ?_
                          refine RgOK.sk rfl rfl rfl ?_
                          refine RgOK.sk rfl rfl rfl ?_
                          refine RgOK.s (v := VB (true)) rfl rfl rfl (e_pick (t := true) (ev_t rfl) rfl) ?_
                          refine RgOK.s (v := VB (true)) rfl rfl rfl (e_mv (ev_t rfl)) ?_
                          refine RgOK.sk rfl rfl rfl ?_
                          refine RgOK.sk rfl rfl rfl ?_
                          refine RgOK.sk rfl rfl rfl ?_
                          refine RgOK.s (v := VB (true)) rfl rfl rfl (e_pick (t := true) (ev_t rfl) rfl) ?_
                          refine RgOK.nil ?_
                          show CdOK _ _ _ _ _ _
                          refine CdOK.cond_true rfl ?_
                          refine CdOK.seq ?_
                          refine CdOK.region ?_
                          refine RgOK.s (v := VB (false)) rfl rfl rfl (e_as rfl) ?_
                          refine RgOK.nil ?_
                          show CdOK _ _ _ _ _ _
                          refine CdOK.ret ?_
                          refine ⟨.inr rfl, _, rfl, h, [⟨[.L 1 (x15.2.l_.map c_u8), I (x15.2.at_)], true, true⟩, ⟨[I (x23.1.pages), I (x23.1.spares), .L 2 (x23.1.places.map Place.cs), .L 1 (x23.1.bad.map cI)], true, true⟩, ⟨(bx47.map cB).flatten, true, true⟩], _, rfl, rfl, hC, ((renFlV rfl) : RenV _ _ _ _ (VB (false))), ?_⟩
                          have hr := hm.ret
                          replace hr := Ev.ret hr
                          replace hr := Ev.ret hr
                          subst hr
                          exact ⟨rfl, rfl⟩
                        · intro c57; replace hm := hm.ifn c57
                          refine RgOK.s (v := VB (false)) rfl rfl rfl (e_pick (t := false) (ev_t rfl) (ev_t rfl)) ?_
                          refine RgOK.s (v := VB (false)) rfl rfl rfl (e_mv (ev_t rfl)) ?_
                          refine RgOK.s (v := .o (.c (.g (h.length + 2) ((bx47).length) 1 true))) rfl rfl rfl (e_mv (ev_t rfl)) ?_
                          refine RgOK.s (v := VI (x50.1)) rfl rfl rfl (e_mv (ev_t rfl)) ?_
                          obtain ⟨c58, hm⟩ := hm.ifs
                          refine RgOK.s (v := .o (.c (.ptr (h.length + 2) (0 + (Int.toNat x50.1) * 1)))) rfl rfl rfl (e_ixg (ev_t rfl) (ev_t rfl) el46 c58) ?_
                          obtain ⟨c59, hm⟩ := hm.ifs
                          refine RgOK.sb rfl rfl rfl (e_ldg1 (k := 1) (off := 0) (f := cB) (l := bx47) (i := x50.1) (ev_t rfl) ty4 (bx rfl rfl) (by intro x; rfl) c59 rfl (by omega)) ?_ ?_
                          · intro c60; replace hm := hm.ifp c60
                            refine RgOK.s (v := VB (true)) rfl rfl rfl (e_pick (t := false) (ev_t rfl) (ev_t rfl)) ?_
                            refine RgOK.s (v := VB (true)) rfl rfl rfl (e_mv (ev_t rfl)) ?_
                            refine RgOK.sk rfl rfl rfl ?_
                            refine RgOK.sk rfl rfl rfl ?_
                            refine RgOK.sk rfl rfl rfl ?_
                            refine RgOK.s (v := VB (true)) rfl rfl rfl (e_pick (t := true) (ev_t rfl) rfl) ?_
                            refine RgOK.nil ?_
                            show CdOK _ _ _ _ _ _
                            refine CdOK.cond_true rfl ?_
                            refine CdOK.seq ?_
                            refine CdOK.region ?_
                            refine RgOK.s (v := VB (false)) rfl rfl rfl (e_as rfl) ?_
                            refine RgOK.nil ?_
                            show CdOK _ _ _ _ _ _
                            refine CdOK.ret ?_
                            refine ⟨.inr rfl, _, rfl, h, [⟨[.L 1 (x15.2.l_.map c_u8), I (x15.2.at_)], true, true⟩, ⟨[I (x23.1.pages), I (x23.1.spares), .L 2 (x23.1.places.map Place.cs), .L 1 (x23.1.bad.map cI)], true, true⟩, ⟨(bx47.map cB).flatten, true, true⟩], _, rfl, rfl, hC, ((renFlV rfl) : RenV _ _ _ _ (VB (false))), ?_⟩
                            have hr := hm.ret
                            replace hr := Ev.ret hr
                            replace hr := Ev.ret hr
                            subst hr
                            exact ⟨rfl, rfl⟩
                          · intro c61; replace hm := hm.ifn (by rw [c61]; exact Bool.false_ne_true)
                            refine RgOK.s (v := VB (false)) rfl rfl rfl (e_pick (t := false) (ev_t rfl) (ev_t rfl)) ?_
                            refine RgOK.s (v := VB (false)) rfl rfl rfl (e_mv (ev_t rfl)) ?_
                            refine RgOK.s (v := VI (x50.1)) rfl rfl rfl (e_mv (ev_t rfl)) ?_
                            refine RgOK.s (v := VI (x15.1)) rfl rfl rfl (e_mv (ev_t rfl)) ?_
                            refine RgOK.s (v := VB (decide (x50.1 = x15.1))) rfl rfl rfl (e_eqK (ev_t rfl) (ev_t rfl)) ?_
                            refine RgOK.s (v := VB (decide (x50.1 = x15.1))) rfl rfl rfl (e_pick (t := false) (ev_t rfl) (ev_t rfl)) ?_
                            refine RgOK.nil ?_
                            show CdOK _ _ _ _ _ _
                            refine CdOK.condD (ev_t rfl) ?_ ?_
                            · intro c62; replace hm := hm.ifp c62
                              refine CdOK.seq ?_
                              refine CdOK.region ?_
                              refine RgOK.s (v := VB (false)) rfl rfl rfl (e_as rfl) ?_
                              refine RgOK.nil ?_
                              show CdOK _ _ _ _ _ _
                              refine CdOK.ret ?_
                              refine ⟨.inr rfl, _, rfl, h, [⟨[.L 1 (x15.2.l_.map c_u8), I (x15.2.at_)], true, true⟩, ⟨[I (x23.1.pages), I (x23.1.spares), .L 2 (x23.1.places.map Place.cs), .L 1 (x23.1.bad.map cI)], true, true⟩, ⟨(bx47.map cB).flatten, true, true⟩], _, rfl, rfl, hC, ((renFlV rfl) : RenV _ _ _ _ (VB (false))), ?_⟩
                              have hr := hm.ret
                              replace hr := Ev.ret hr
                              replace hr := Ev.ret hr
                              subst hr
                              exact ⟨rfl, rfl⟩
                            · intro c63; replace hm := hm.ifn c63
                              refine CdOK.skip ?_
                              show CdOK _ _ _ _ _ _
                              refine CdOK.seq ?_
                              refine CdOK.region ?_
                              refine RgOK.s (v := .o (.c (.g (h.length + 2) ((bx47).length) 1 true))) rfl rfl rfl (e_mv (ev_t rfl)) ?_
                              refine RgOK.s (v := VI (x50.1)) rfl rfl rfl (e_mv (ev_t rfl)) ?_
                              obtain ⟨c64, hm⟩ := hm.ifs
                              refine RgOK.s (v := .o (.c (.ptr (h.length + 2) (0 + (Int.toNat x50.1) * 1)))) rfl rfl rfl (e_ixg (ev_t rfl) (ev_t rfl) el46 c64) ?_
                              obtain ⟨c65, hm⟩ := hm.ifs
                              refine RgOK.s0 rfl rfl (e_stg (k := 1) (off := 0) (f := cB) (l := bx47) (i := x50.1) (x := true) (L' := [⟨[.L 1 (x15.2.l_.map c_u8), I (x15.2.at_)], true, true⟩, ⟨[I (x23.1.pages), I (x23.1.spares), .L 2 (x23.1.places.map Place.cs), .L 1 (x23.1.bad.map cI)], true, true⟩, ⟨((bx47.set (Int.toNat x50.1) true).map cB).flatten, true, true⟩]) rfl (ev_t rfl) rfl ty4 rfl (by intro x; rfl) rfl rfl c65 (by omega) rfl) ?_
                              refine RgOK.nil ?_
                              show CdOK _ _ _ _ _ _
                              replace hm := hm.bnd
                              refine CdOK.joinE (σ := (Int × Bool)) (fun s => (s.1, s.2)) hm (fun s => [(7, .o (.c (.ptr (h.length + 0) 0))), (8, VI ((w64 (1 + (Int.tmod (w64 pages) 20))))), (9, VI ((Int.tmod (w64 spares) 9))), (10, .o (.c (.ptr (h.length + 1) 0))), (12, VI (k10)), (13, VI (x15.1)), (20, .o (.c (.g (h.length + 2) ((bx47).length) 1 true))), (21, VI (id46)), (24, VI (s.1)), (25, VB (s.2))]) (fun s => h ++ ([⟨[.L 1 (x15.2.l_.map c_u8), I (x15.2.at_)], true, true⟩, ⟨[I (x23.1.pages), I (x23.1.spares), .L 2 (x23.1.places.map Place.cs), .L 1 (x23.1.bad.map cI)], true, true⟩, ⟨((bx47.set (Int.toNat x50.1) true).map cB).flatten, true, true⟩] : Heap)) ?_ ?_
                              · intro hm
                                refine CdOK.region ?_
                                refine RgOK.s (v := .o (.agg [I (x23.1.pages), I (x23.1.spares), .L 2 (x23.1.places.map Place.cs), .L 1 (x23.1.bad.map cI)])) rfl rfl rfl (e_ldbA (ev_t rfl) ty29 (bx rfl rfl) rfl rfl) ?_
                                refine RgOK.s (v := VI (x50.1)) rfl rfl rfl (e_mv (ev_t rfl)) ?_
                                obtain ⟨x68, e68, hm⟩ := hm.call
                                refine RgOK.cl rfl rfl rfl rfl pl28 (R2.wk _) (quarantine_Owner_ok   e68) ?_
                                rintro _ _ ⟨rfl, rfl⟩
                                refine RgOK.s (v := .tup [.c (I (x68.1)), .c (Bo (x68.2))]) rfl rfl rfl (e_mv (ev_t rfl)) ?_
                                refine RgOK.s (v := VI (x68.1)) rfl rfl rfl (e_ext (ev_t rfl) rfl) ?_
                                refine RgOK.sb rfl rfl rfl (e_ext (ev_t rfl) rfl) ?_ ?_
                                · intro c69; replace hm := hm.ifp c69
                                  refine RgOK.s (v := VI (x68.1)) rfl rfl rfl (e_as (ev_t rfl)) ?_
                                  refine RgOK.s (v := VB (true)) rfl rfl rfl (e_as (ev_t rfl)) ?_
                                  refine RgOK.nil ?_
                                  refine Told.re (σ := [0, 1, 2]) (X := [(7, .o (.c (.ptr (h.length + 0) 0))), (8, VI ((w64 (1 + (Int.tmod (w64 pages) 20))))), (9, VI ((Int.tmod (w64 spares) 9))), (10, .o (.c (.ptr (h.length + 1) 0))), (12, VI (k10)), (13, VI (x15.1)), (20, .o (.c (.g (h.length + 2) ((bx47).length) 1 true))), (21, VI (id46)), (24, VI (x68.1)), (25, VB (true))]) (L' := [⟨[.L 1 (x15.2.l_.map c_u8), I (x15.2.at_)], true, true⟩, ⟨[I (x23.1.pages), I (x23.1.spares), .L 2 (x23.1.places.map Place.cs), .L 1 (x23.1.bad.map cI)], true, true⟩, ⟨((bx47.set (Int.toNat x50.1) true).map cB).flatten, true, true⟩]) rfl rfl hC (by decide) (.obj 0 rfl (renFl rfl) (.obj 1 rfl (renFl rfl) (.obj 2 rfl (renFl (flat_all (f := cB) (l := (bx47.set (Int.toNat x50.1) true)) (by intro x; rfl))) .nil))) (.cons (.o (.c (.ptr 0 0 _ rfl))) (.cons (renFlV rfl) (.cons (renFlV rfl) (.cons (.o (.c (.ptr 1 1 _ rfl))) (.cons (renFlV rfl) (.cons (renFlV rfl) (.cons (.o (.c (.gg 2 2 _ _ _ _ _ rfl (by first | rfl | simp) rfl))) (.cons (renFlV rfl) (.cons (renFlV rfl) (.cons (renFlV rfl) .nil)))))))))) ?_
                                  exact ⟨(x68.1, true), hm.ret, (.cons rfl (.cons rfl (.cons rfl (.cons rfl (.cons rfl (.cons rfl (.cons rfl (.cons rfl (.cons rfl (.cons rfl .nil)))))))))), rfl⟩
                                · intro c70; replace hm := hm.ifn (by rw [c70]; exact Bool.false_ne_true)
                                  refine RgOK.s (v := VI (x68.1)) rfl rfl rfl (e_as (ev_t rfl)) ?_
                                  refine RgOK.s (v := VB (false)) rfl rfl rfl (e_as (ev_t rfl)) ?_
                                  refine RgOK.nil ?_
                                  refine Told.re (σ := [0, 1, 2]) (X := [(7, .o (.c (.ptr (h.length + 0) 0))), (8, VI ((w64 (1 + (Int.tmod (w64 pages) 20))))), (9, VI ((Int.tmod (w64 spares) 9))), (10, .o (.c (.ptr (h.length + 1) 0))), (12, VI (k10)), (13, VI (x15.1)), (20, .o (.c (.g (h.length + 2) ((bx47).length) 1 true))), (21, VI (id46)), (24, VI (x68.1)), (25, VB (false))]) (L' := [⟨[.L 1 (x15.2.l_.map c_u8), I (x15.2.at_)], true, true⟩, ⟨[I (x23.1.pages), I (x23.1.spares), .L 2 (x23.1.places.map Place.cs), .L 1 (x23.1.bad.map cI)], true, true⟩, ⟨((bx47.set (Int.toNat x50.1) true).map cB).flatten, true, true⟩]) rfl rfl hC (by decide) (.obj 0 rfl (renFl rfl) (.obj 1 rfl (renFl rfl) (.obj 2 rfl (renFl (flat_all (f := cB) (l := (bx47.set (Int.toNat x50.1) true)) (by intro x; rfl))) .nil))) (.cons (.o (.c (.ptr 0 0 _ rfl))) (.cons (renFlV rfl) (.cons (renFlV rfl) (.cons (.o (.c (.ptr 1 1 _ rfl))) (.cons (renFlV rfl) (.cons (renFlV rfl) (.cons (.o (.c (.gg 2 2 _ _ _ _ _ rfl (by first | rfl | simp) rfl))) (.cons (renFlV rfl) (.cons (renFlV rfl) (.cons (renFlV rfl) .nil)))))))))) ?_
                                  exact ⟨(x68.1, false), hm.ret, (.cons rfl (.cons rfl (.cons rfl (.cons rfl (.cons rfl (.cons rfl (.cons rfl (.cons rfl (.cons rfl (.cons rfl .nil)))))))))), rfl⟩
                              · rintro ⟨p66, ok67⟩ T0 hm
                                show CdOK _ _ _ (look T0 [(7, .o (.c (.ptr (h.length + 0) 0))), (8, VI ((w64 (1 + (Int.tmod (w64 pages) 20))))), (9, VI ((Int.tmod (w64 spares) 9))), (10, .o (.c (.ptr (h.length + 1) 0))), (12, VI (k10)), (13, VI (x15.1)), (20, .o (.c (.g (h.length + 2) ((bx47).length) 1 true))), (21, VI (id46)), (24, VI (p66)), (25, VB (ok67))]) (h ++ ([⟨[.L 1 (x15.2.l_.map c_u8), I (x15.2.at_)], true, true⟩, ⟨[I (x23.1.pages), I (x23.1.spares), .L 2 (x23.1.places.map Place.cs), .L 1 (x23.1.bad.map cI)], true, true⟩, ⟨((bx47.set (Int.toNat x50.1) true).map cB).flatten, true, true⟩] : Heap)) _
                                refine CdOK.seq ?_
                                refine CdOK.region ?_
                                refine RgOK.sb rfl rfl rfl (e_mv (ev_t rfl)) ?_ ?_
                                · intro c72; replace hm := hm.ifp c72
                                  refine RgOK.s (v := VB (false)) rfl rfl rfl (e_un (ev_t rfl) rfl) ?_
                                  refine RgOK.s (v := VB (false)) rfl rfl rfl (e_mv (ev_t rfl)) ?_
                                  refine RgOK.s (v := VI (p66)) rfl rfl rfl (e_mv (ev_t rfl)) ?_
                                  refine RgOK.s (v := VI (id46)) rfl rfl rfl (e_mv (ev_t rfl)) ?_
                                  refine RgOK.s (v := VB (decide (p66 ≠ id46))) rfl rfl rfl (e_neK (ev_t rfl) (ev_t rfl)) ?_
                                  refine RgOK.s (v := VB (decide (p66 ≠ id46))) rfl rfl rfl (e_pick (t := false) (ev_t rfl) (ev_t rfl)) ?_
                                  refine RgOK.nil ?_
                                  show CdOK _ _ _ _ _ _
                                  refine CdOK.condD (ev_t rfl) ?_ ?_
                                  · intro c73; replace hm := hm.ifp c73
                                    refine CdOK.seq ?_
                                    refine CdOK.region ?_
                                    refine RgOK.s (v := VB (false)) rfl rfl rfl (e_as rfl) ?_
                                    refine RgOK.nil ?_
                                    show CdOK _ _ _ _ _ _
                                    refine CdOK.ret ?_
                                    refine ⟨.inr rfl, _, rfl, h, [⟨[.L 1 (x15.2.l_.map c_u8), I (x15.2.at_)], true, true⟩, ⟨[I (x23.1.pages), I (x23.1.spares), .L 2 (x23.1.places.map Place.cs), .L 1 (x23.1.bad.map cI)], true, true⟩, ⟨((bx47.set (Int.toNat x50.1) true).map cB).flatten, true, true⟩], _, rfl, rfl, hC, ((renFlV rfl) : RenV _ _ _ _ (VB (false))), ?_⟩
                                    have hr := hm.ret
                                    replace hr := Ev.ret hr
                                    replace hr := Ev.ret hr
                                    subst hr
                                    exact ⟨rfl, rfl⟩
                                  · intro c74; replace hm := hm.ifn c74
                                    refine CdOK.skip ?_
                                    show CdOK _ _ _ _ _ _
                                    refine CdOK.region ?_
                                    refine RgOK.s (v := VI (id46)) rfl rfl rfl (e_mv (ev_t rfl)) ?_
                                    refine RgOK.s (v := VI ((w64 (id46 + 1)))) rfl rfl rfl (e_bin (ev_t rfl) rfl rfl rfl) ?_
                                    refine RgOK.s (v := VI ((w64 (id46 + 1)))) rfl rfl rfl (e_as (ev_t rfl)) ?_
                                    refine RgOK.nil ?_
                                    refine Told.re (σ := [0, 1, 2]) (X := [(7, .o (.c (.ptr (h.length + 0) 0))), (8, VI ((w64 (1 + (Int.tmod (w64 pages) 20))))), (9, VI ((Int.tmod (w64 spares) 9))), (10, .o (.c (.ptr (h.length + 1) 0))), (12, VI (k10)), (13, VI (x15.1)), (20, .o (.c (.g (h.length + 2) (((bx47.set (Int.toNat x50.1) true)).length) 1 true))), (21, VI ((w64 (id46 + 1))))]) (L' := [⟨[.L 1 (x15.2.l_.map c_u8), I (x15.2.at_)], true, true⟩, ⟨[I (x23.1.pages), I (x23.1.spares), .L 2 (x23.1.places.map Place.cs), .L 1 (x23.1.bad.map cI)], true, true⟩, ⟨((bx47.set (Int.toNat x50.1) true).map cB).flatten, true, true⟩]) rfl rfl hC (by decide) (.obj 0 rfl (renFl rfl) (.obj 1 rfl (renFl rfl) (.obj 2 rfl (renFl (flat_all (f := cB) (l := (bx47.set (Int.toNat x50.1) true)) (by intro x; rfl))) .nil))) (.cons (.o (.c (.ptr 0 0 _ rfl))) (.cons (renFlV rfl) (.cons (renFlV rfl) (.cons (.o (.c (.ptr 1 1 _ rfl))) (.cons (renFlV rfl) (.cons (renFlV rfl) (.cons (.o (.c (.gg 2 2 _ _ _ _ _ rfl (by first | rfl | simp) rfl))) (.cons (renFlV rfl) .nil)))))))) ?_
                                    exact ⟨_, ((w64 (id46 + 1)), (bx47.set (Int.toNat x50.1) true), true), Nat.lt_succ_self _, hm, (.cons rfl (.cons rfl (.cons rfl (.cons rfl (.cons rfl (.cons rfl (.cons rfl (.cons rfl .nil)))))))), rfl⟩
                                · intro c75; replace hm := hm.ifn (by rw [c75]; exact Bool.false_ne_true)
                                  refine RgOK.s (v := VB (true)) rfl rfl rfl (e_un (ev_t rfl) rfl) ?_
                                  refine RgOK.s (v := VB (true)) rfl rfl rfl (e_mv (ev_t rfl)) ?_
                                  refine RgOK.sk rfl rfl rfl ?_
                                  refine RgOK.sk rfl rfl rfl ?_
                                  refine RgOK.sk rfl rfl rfl ?_
                                  refine RgOK.s (v := VB (true)) rfl rfl rfl (e_pick (t := true) (ev_t rfl) rfl) ?_
                                  refine RgOK.nil ?_
                                  show CdOK _ _ _ _ _ _
                                  refine CdOK.cond_true rfl ?_
                                  refine CdOK.seq ?_
                                  refine CdOK.region ?_
                                  refine RgOK.s (v := VB (false)) rfl rfl rfl (e_as rfl) ?_
                                  refine RgOK.nil ?_
                                  show CdOK _ _ _ _ _ _
                                  refine CdOK.ret ?_
                                  refine ⟨.inr rfl, _, rfl, h, [⟨[.L 1 (x15.2.l_.map c_u8), I (x15.2.at_)], true, true⟩, ⟨[I (x23.1.pages), I (x23.1.spares), .L 2 (x23.1.places.map Place.cs), .L 1 (x23.1.bad.map cI)], true, true⟩, ⟨((bx47.set (Int.toNat x50.1) true).map cB).flatten, true, true⟩], _, rfl, rfl, hC, ((renFlV rfl) : RenV _ _ _ _ (VB (false))), ?_⟩
                                  have hr := hm.ret
                                  replace hr := Ev.ret hr
                                  replace hr := Ev.ret hr
                                  subst hr
                                  exact ⟨rfl, rfl⟩
                  · intro c76; replace hm := hm.ifn c76
                    refine CdOK.exit ?_
                    refine Told.re (σ := [0, 1]) (X := [(7, .o (.c (.ptr (h.length + 0) 0))), (8, VI ((w64 (1 + (Int.tmod (w64 pages) 20))))), (9, VI ((Int.tmod (w64 spares) 9))), (10, .o (.c (.ptr (h.length + 1) 0))), (12, VI (k10))]) (L' := [⟨[.L 1 (x15.2.l_.map c_u8), I (x15.2.at_)], true, true⟩, ⟨[I (x23.1.pages), I (x23.1.spares), .L 2 (x23.1.places.map Place.cs), .L 1 (x23.1.bad.map cI)], true, true⟩]) rfl rfl hC (by decide) (.obj 0 rfl (renFl rfl) (.obj 1 rfl (renFl rfl) .nil)) (.cons (.o (.c (.ptr 0 0 _ rfl))) (.cons (renFlV rfl) (.cons (renFlV rfl) (.cons (.o (.c (.ptr 1 1 _ rfl))) (.cons (renFlV rfl) .nil))))) ?_
                    exact ⟨(), hm.ret, (.cons rfl (.cons rfl (.cons rfl (.cons rfl (.cons rfl .nil))))), rfl⟩
                · intro _ T0 hm
                  show CdOK _ _ _ _ _ _
                  refine CdOK.region ?_
                  refine RgOK.s (v := VI (k10)) rfl rfl rfl (e_mv (ev_t rfl)) ?_
                  refine RgOK.s (v := VI ((w64 (k10 - 1)))) rfl rfl rfl (e_bin (ev_t rfl) rfl rfl rfl) ?_
                  refine RgOK.s (v := VI ((w64 (k10 - 1)))) rfl rfl rfl (e_as (ev_t rfl)) ?_
                  refine RgOK.nil ?_
                  refine Told.id ?_
                  exact ⟨_, ((w64 (k10 - 1)), x15.2, x23.1), Nat.lt_succ_self _, hm, (.cons rfl (.cons rfl (.cons rfl (.cons rfl (.cons rfl .nil))))), rfl⟩
        · intro c78; replace hm := hm.ifn c78
          refine CdOK.exit ?_
          refine Told.re (σ := [1]) (X := [(10, .o (.c (.ptr (h.length + 0) 0)))]) (L' := [⟨[I (bx12.pages), I (bx12.spares), .L 2 (bx12.places.map Place.cs), .L 1 (bx12.bad.map cI)], true, true⟩]) rfl rfl hC (by decide) (.obj 1 rfl (renFl rfl) .nil) (.cons (.o (.c (.ptr 1 0 _ rfl))) .nil) ?_
          exact ⟨bx12, hm.ret, (.cons rfl .nil), rfl⟩
      · rintro bx9 T0 hm
        show CdOK _ _ _ _ _ _
        refine CdOK.seq ?_
        refine CdOK.region ?_
        refine RgOK.s (v := .o (.agg [I (bx9.pages), I (bx9.spares), .L 2 (bx9.places.map Place.cs), .L 1 (bx9.bad.map cI)])) rfl rfl rfl (e_ldbA (ev_t rfl) ty29 (bx rfl rfl) rfl rfl) ?_
        obtain ⟨x80, e80, hm⟩ := hm.call
        refine RgOK.cl rfl rfl rfl rfl pl22 (R2.wk _) (quarantine_Valid_ok   e80) ?_
        rintro _ _ ⟨rfl, rfl⟩
        refine RgOK.s (v := VB (x80)) rfl rfl rfl (e_as (ev_t rfl)) ?_
        refine RgOK.nil ?_
        show CdOK _ _ _ _ _ _
        refine CdOK.ret ?_
        refine ⟨.inr rfl, _, rfl, h, [⟨[I (bx9.pages), I (bx9.spares), .L 2 (bx9.places.map Place.cs), .L 1 (bx9.bad.map cI)], true, true⟩], _, rfl, rfl, hC, ((renFlV rfl) : RenV _ _ _ _ (VB (x80))), ?_⟩
        have hr := hm.ret
        subst hr
        exact ⟨rfl, rfl⟩
end Rv
