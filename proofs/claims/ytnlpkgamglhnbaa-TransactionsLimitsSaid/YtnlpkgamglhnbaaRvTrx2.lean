/- Chapter 35: the statements' functions, as plain functions. -/
import Derived.Test.YtnlpkgamglhnbaaRvTrx
set_option linter.unusedVariables false
set_option linter.unusedSimpArgs false
namespace Rv
open Go Go.RowKit Go.Proofs
theorem bl59 : bldf Try.prog 59 [(0, 1), (1, 1), (2, 1), (3, 1), (4, 1), (5, 1), (6, 6), (12, 1)] = true := by decide +kernel
theorem bl208 : bldf Try.prog 208 [(0, 1), (1, 1), (2, 1), (3, 1), (4, 1), (5, 1), (6, 1)] = true := by decide +kernel
theorem bo4 : boT Try.prog 4 = true := by decide +kernel
theorem cv5_3 : cvk Try.prog 5 3 .i64 = true := by decide +kernel
theorem fa55_0 : fadr Try.prog 55 0 0 = true := by decide +kernel
theorem fa55_1 : fadr Try.prog 55 1 1 = true := by decide +kernel
theorem fa57_0 : fadr Try.prog 57 0 0 = true := by decide +kernel
theorem fa57_1 : fadr Try.prog 57 1 1 = true := by decide +kernel
theorem fa57_2 : fadr Try.prog 57 2 2 = true := by decide +kernel
theorem fa57_3 : fadr Try.prog 57 3 4 = true := by decide +kernel
theorem fa59_1 : fadr Try.prog 59 1 1 = true := by decide +kernel
theorem fa59_2 : fadr Try.prog 59 2 2 = true := by decide +kernel
theorem fa59_3 : fadr Try.prog 59 3 3 = true := by decide +kernel
theorem fa59_4 : fadr Try.prog 59 4 4 = true := by decide +kernel
theorem fa59_5 : fadr Try.prog 59 5 5 = true := by decide +kernel
theorem fa59_6 : fadr Try.prog 59 6 6 = true := by decide +kernel
theorem fa59_7 : fadr Try.prog 59 7 12 = true := by decide +kernel
theorem fa208_0 : fadr Try.prog 208 0 0 = true := by decide +kernel
theorem fa208_1 : fadr Try.prog 208 1 1 = true := by decide +kernel
theorem fa208_2 : fadr Try.prog 208 2 2 = true := by decide +kernel
theorem fa208_3 : fadr Try.prog 208 3 3 = true := by decide +kernel
theorem fa208_4 : fadr Try.prog 208 4 4 = true := by decide +kernel
theorem fa208_5 : fadr Try.prog 208 5 5 = true := by decide +kernel
theorem fa208_6 : fadr Try.prog 208 6 6 = true := by decide +kernel
theorem pl62 : plainFn Try.prog 62 = true := by decide +kernel
theorem pl66 : plainFn Try.prog 66 = true := by decide +kernel
theorem pl68 : plainFn Try.prog 68 = true := by decide +kernel
theorem pl71 : plainFn Try.prog 71 = true := by decide +kernel
theorem pl77 : plainFn Try.prog 77 = true := by decide +kernel
theorem pl131 : plainFn Try.prog 131 = true := by decide +kernel
theorem pl135 : plainFn Try.prog 135 = true := by decide +kernel
theorem pl187 : plainFn Try.prog 187 = true := by decide +kernel
theorem pl188 : plainFn Try.prog 188 = true := by decide +kernel
theorem pl203 : plainFn Try.prog 203 = true := by decide +kernel
theorem pl205 : plainFn Try.prog 205 = true := by decide +kernel
theorem pl214 : plainFn Try.prog 214 = true := by decide +kernel
theorem pl215 : plainFn Try.prog 215 = true := by decide +kernel
theorem str9 : strT Try.prog 9 = true := by decide +kernel
theorem ty9 : TyF Try.prog 9 false 1 := .of (by decide +kernel)
theorem ty55 : TyF Try.prog 55 true 2 := .of (by decide +kernel)
theorem ty57 : TyF Try.prog 57 true 6 := .of (by decide +kernel)
theorem ty59 : TyF Try.prog 59 true 13 := .of (by decide +kernel)
theorem ty132 : TyF Try.prog 132 false 1 := .of (by decide +kernel)
theorem ty206 : TyF Try.prog 206 false 1 := .of (by decide +kernel)
theorem ty208 : TyF Try.prog 208 true 7 := .of (by decide +kernel)
theorem ty209 : TyF Try.prog 209 true 63 := .of (by decide +kernel)
theorem zo59 : zeroOf Try.prog 59 = some ([.v (.int .i64 0)] ++ [.v (.int .i64 0)] ++ [.v (.int .i64 0)] ++ [.v (.int .i64 0)] ++ [.v (.int .i64 0)] ++ [.v (.int .i64 0)] ++ [.v (.int .i64 0)] ++ [.v (.int .i64 0)] ++ [Bo false] ++ [.v (.string ⟨#[]⟩)] ++ [Bo false] ++ [.v (.string ⟨#[]⟩)] ++ [.v (.string ⟨#[]⟩)]) := by kernel_rfl
theorem zo208 : zeroOf Try.prog 208 = some ([Bo false] ++ [Bo false] ++ [Bo false] ++ [Bo false] ++ [Bo false] ++ [.v .nilFunc] ++ [.v .nilFunc]) := by kernel_rfl
theorem zo209 : zeroOf Try.prog 209 = some ((List.replicate 9 ([Bo false] ++ [Bo false] ++ [Bo false] ++ [Bo false] ++ [Bo false] ++ [.v .nilFunc] ++ [.v .nilFunc])).flatten) := by kernel_rfl
/- pagemend/entry.rules -/
abbrev entry_rules_v : AV := .o (.agg [Bo false, Bo false, Bo false, Bo false, Bo false, .v .nilFunc, .v .nilFunc, Bo true, Bo false, Bo true, Bo false, Bo false, .fn 203 [], .fn 205 [], Bo true, Bo true, Bo true, Bo true, Bo false, .fn 206 [], .fn 205 [], Bo true, Bo true, Bo false, Bo false, Bo false, .fn 203 [], .fn 204 [], Bo true, Bo true, Bo false, Bo false, Bo false, .fn 203 [], .fn 204 [], Bo true, Bo true, Bo false, Bo false, Bo false, .fn 203 [], .fn 204 [], Bo false, Bo false, Bo false, Bo false, Bo true, .fn 203 [], .fn 204 [], Bo false, Bo false, Bo false, Bo true, Bo false, .fn 203 [], .fn 207 [], Bo false, Bo false, Bo false, Bo false, Bo true, .fn 203 [], .fn 204 []])
def entry_rules  : Option Unit := some ()
theorem entry_rules.eq  : entry_rules  = some () := rfl
theorem entry_rules_ok {h : Heap}   {r : Unit} (hm : entry_rules  = some r) : FnOK Try.prog 188 [] h (fun v h' => v = entry_rules_v ∧ h' = h) := by
  refine FnOK.fin ?_
  refine FnOK.bodyC (N := 19) Try.func188 rfl rfl rfl (fun hC => ?_)
  replace hm := Ev.of hm
  rw [entry_rules.eq] at hm
  show CdOK _ _ _ (look _ []) (h ++ ([] : Heap)) _
  refine CdOK.seq ?_
  refine CdOK.region ?_
  refine RgOK.s (v := .o (.c (.ptr (h.length + 0) 0))) rfl rfl rfl (e_allocN (L' := [⟨[Bo false, Bo false, Bo false, Bo false, Bo false, .v .nilFunc, .v .nilFunc, Bo false, Bo false, Bo false, Bo false, Bo false, .v .nilFunc, .v .nilFunc, Bo false, Bo false, Bo false, Bo false, Bo false, .v .nilFunc, .v .nilFunc, Bo false, Bo false, Bo false, Bo false, Bo false, .v .nilFunc, .v .nilFunc, Bo false, Bo false, Bo false, Bo false, Bo false, .v .nilFunc, .v .nilFunc, Bo false, Bo false, Bo false, Bo false, Bo false, .v .nilFunc, .v .nilFunc, Bo false, Bo false, Bo false, Bo false, Bo false, .v .nilFunc, .v .nilFunc, Bo false, Bo false, Bo false, Bo false, Bo false, .v .nilFunc, .v .nilFunc, Bo false, Bo false, Bo false, Bo false, Bo false, .v .nilFunc, .v .nilFunc], true, true⟩]) rfl zo209 rfl rfl) ?_
  refine RgOK.nil ?_
  show CdOK _ _ _ _ _ _
  refine CdOK.seq ?_
  refine CdOK.region ?_
  refine RgOK.s (v := .o (.c (.fn 203 []))) rfl rfl rfl (e_as rfl) ?_
  refine RgOK.nil ?_
  show CdOK _ _ _ _ _ _
  refine CdOK.seq ?_
  refine CdOK.region ?_
  refine RgOK.s (v := .o (.c (.fn 203 []))) rfl rfl rfl (e_mv (ev_t rfl)) ?_
  refine RgOK.s (v := .o (.agg [Bo true, Bo true, Bo false, Bo false, Bo false, .fn 203 [], .fn 204 []])) rfl rfl rfl (e_bld (cs := [Bo true, Bo true, Bo false, Bo false, Bo false, .fn 203 [], .fn 204 []]) zo208 bl208 rfl rfl) ?_
  refine RgOK.s (v := .o (.c (.ptr (h.length + 1) 0))) rfl rfl rfl (e_allocN (L' := [⟨[Bo false, Bo false, Bo false, Bo false, Bo false, .v .nilFunc, .v .nilFunc, Bo false, Bo false, Bo false, Bo false, Bo false, .v .nilFunc, .v .nilFunc, Bo false, Bo false, Bo false, Bo false, Bo false, .v .nilFunc, .v .nilFunc, Bo false, Bo false, Bo false, Bo false, Bo false, .v .nilFunc, .v .nilFunc, Bo false, Bo false, Bo false, Bo false, Bo false, .v .nilFunc, .v .nilFunc, Bo false, Bo false, Bo false, Bo false, Bo false, .v .nilFunc, .v .nilFunc, Bo false, Bo false, Bo false, Bo false, Bo false, .v .nilFunc, .v .nilFunc, Bo false, Bo false, Bo false, Bo false, Bo false, .v .nilFunc, .v .nilFunc, Bo false, Bo false, Bo false, Bo false, Bo false, .v .nilFunc, .v .nilFunc], true, true⟩, ⟨[Bo false, Bo false, Bo false, Bo false, Bo false, .v .nilFunc, .v .nilFunc], true, true⟩]) rfl zo208 rfl rfl) ?_
  refine RgOK.s0 rfl rfl (e_stN (L' := [⟨[Bo false, Bo false, Bo false, Bo false, Bo false, .v .nilFunc, .v .nilFunc, Bo false, Bo false, Bo false, Bo false, Bo false, .v .nilFunc, .v .nilFunc, Bo false, Bo false, Bo false, Bo false, Bo false, .v .nilFunc, .v .nilFunc, Bo false, Bo false, Bo false, Bo false, Bo false, .v .nilFunc, .v .nilFunc, Bo false, Bo false, Bo false, Bo false, Bo false, .v .nilFunc, .v .nilFunc, Bo false, Bo false, Bo false, Bo false, Bo false, .v .nilFunc, .v .nilFunc, Bo false, Bo false, Bo false, Bo false, Bo false, .v .nilFunc, .v .nilFunc, Bo false, Bo false, Bo false, Bo false, Bo false, .v .nilFunc, .v .nilFunc, Bo false, Bo false, Bo false, Bo false, Bo false, .v .nilFunc, .v .nilFunc], true, true⟩, ⟨[Bo true, Bo true, Bo false, Bo false, Bo false, .fn 203 [], .fn 204 []], true, true⟩]) rfl (ev_t rfl) (ev_t rfl) ty208 rfl rfl rfl rfl rfl) ?_
  refine RgOK.nil ?_
  show CdOK _ _ _ _ _ _
  refine CdOK.seq ?_
  refine CdOK.region ?_
  refine RgOK.s (v := .o (.c (.fn 203 []))) rfl rfl rfl (e_mv (ev_t rfl)) ?_
  refine RgOK.s (v := .o (.agg [Bo false, Bo false, Bo false, Bo false, Bo true, .fn 203 [], .fn 204 []])) rfl rfl rfl (e_bld (cs := [Bo false, Bo false, Bo false, Bo false, Bo true, .fn 203 [], .fn 204 []]) zo208 bl208 rfl rfl) ?_
  refine RgOK.s (v := .o (.c (.ptr (h.length + 2) 0))) rfl rfl rfl (e_allocN (L' := [⟨[Bo false, Bo false, Bo false, Bo false, Bo false, .v .nilFunc, .v .nilFunc, Bo false, Bo false, Bo false, Bo false, Bo false, .v .nilFunc, .v .nilFunc, Bo false, Bo false, Bo false, Bo false, Bo false, .v .nilFunc, .v .nilFunc, Bo false, Bo false, Bo false, Bo false, Bo false, .v .nilFunc, .v .nilFunc, Bo false, Bo false, Bo false, Bo false, Bo false, .v .nilFunc, .v .nilFunc, Bo false, Bo false, Bo false, Bo false, Bo false, .v .nilFunc, .v .nilFunc, Bo false, Bo false, Bo false, Bo false, Bo false, .v .nilFunc, .v .nilFunc, Bo false, Bo false, Bo false, Bo false, Bo false, .v .nilFunc, .v .nilFunc, Bo false, Bo false, Bo false, Bo false, Bo false, .v .nilFunc, .v .nilFunc], true, true⟩, ⟨[Bo true, Bo true, Bo false, Bo false, Bo false, .fn 203 [], .fn 204 []], true, true⟩, ⟨[Bo false, Bo false, Bo false, Bo false, Bo false, .v .nilFunc, .v .nilFunc], true, true⟩]) rfl zo208 rfl rfl) ?_
  refine RgOK.s0 rfl rfl (e_stN (L' := [⟨[Bo false, Bo false, Bo false, Bo false, Bo false, .v .nilFunc, .v .nilFunc, Bo false, Bo false, Bo false, Bo false, Bo false, .v .nilFunc, .v .nilFunc, Bo false, Bo false, Bo false, Bo false, Bo false, .v .nilFunc, .v .nilFunc, Bo false, Bo false, Bo false, Bo false, Bo false, .v .nilFunc, .v .nilFunc, Bo false, Bo false, Bo false, Bo false, Bo false, .v .nilFunc, .v .nilFunc, Bo false, Bo false, Bo false, Bo false, Bo false, .v .nilFunc, .v .nilFunc, Bo false, Bo false, Bo false, Bo false, Bo false, .v .nilFunc, .v .nilFunc, Bo false, Bo false, Bo false, Bo false, Bo false, .v .nilFunc, .v .nilFunc, Bo false, Bo false, Bo false, Bo false, Bo false, .v .nilFunc, .v .nilFunc], true, true⟩, ⟨[Bo true, Bo true, Bo false, Bo false, Bo false, .fn 203 [], .fn 204 []], true, true⟩, ⟨[Bo false, Bo false, Bo false, Bo false, Bo true, .fn 203 [], .fn 204 []], true, true⟩]) rfl (ev_t rfl) (ev_t rfl) ty208 rfl rfl rfl rfl rfl) ?_
  refine RgOK.nil ?_
  show CdOK _ _ _ _ _ _
  refine CdOK.seq ?_
  refine CdOK.region ?_
  refine RgOK.s (v := .o (.c (.fn 203 []))) rfl rfl rfl (e_mv (ev_t rfl)) ?_
  refine RgOK.s (v := .o (.agg [Bo true, Bo false, Bo true, Bo false, Bo false, .fn 203 [], .fn 205 []])) rfl rfl rfl (e_bld (cs := [Bo true, Bo false, Bo true, Bo false, Bo false, .fn 203 [], .fn 205 []]) zo208 bl208 rfl rfl) ?_
  refine RgOK.s (v := .o (.agg [Bo true, Bo true, Bo true, Bo true, Bo false, .fn 206 [], .fn 205 []])) rfl rfl rfl (e_bld (cs := [Bo true, Bo true, Bo true, Bo true, Bo false, .fn 206 [], .fn 205 []]) zo208 bl208 rfl rfl) ?_
  refine RgOK.s (v := .o (.agg [Bo true, Bo true, Bo false, Bo false, Bo false, .fn 203 [], .fn 204 []])) rfl rfl rfl (e_ldbA (ev_t rfl) ty208 (bx rfl rfl) rfl rfl) ?_
  refine RgOK.s (v := .o (.agg [Bo true, Bo true, Bo false, Bo false, Bo false, .fn 203 [], .fn 204 []])) rfl rfl rfl (e_ldbA (ev_t rfl) ty208 (bx rfl rfl) rfl rfl) ?_
  refine RgOK.s (v := .o (.agg [Bo true, Bo true, Bo false, Bo false, Bo false, .fn 203 [], .fn 204 []])) rfl rfl rfl (e_ldbA (ev_t rfl) ty208 (bx rfl rfl) rfl rfl) ?_
  refine RgOK.s (v := .o (.agg [Bo false, Bo false, Bo false, Bo false, Bo true, .fn 203 [], .fn 204 []])) rfl rfl rfl (e_ldbA (ev_t rfl) ty208 (bx rfl rfl) rfl rfl) ?_
  refine RgOK.s (v := .o (.c (.fn 203 []))) rfl rfl rfl (e_mv (ev_t rfl)) ?_
  refine RgOK.s (v := .o (.agg [Bo false, Bo false, Bo false, Bo true, Bo false, .fn 203 [], .fn 207 []])) rfl rfl rfl (e_bld (cs := [Bo false, Bo false, Bo false, Bo true, Bo false, .fn 203 [], .fn 207 []]) zo208 bl208 rfl rfl) ?_
  refine RgOK.s (v := .o (.agg [Bo false, Bo false, Bo false, Bo false, Bo true, .fn 203 [], .fn 204 []])) rfl rfl rfl (e_ldbA (ev_t rfl) ty208 (bx rfl rfl) rfl rfl) ?_
  refine RgOK.s (v := .o (.agg [Bo false, Bo false, Bo false, Bo false, Bo false, .v .nilFunc, .v .nilFunc, Bo true, Bo false, Bo true, Bo false, Bo false, .fn 203 [], .fn 205 [], Bo true, Bo true, Bo true, Bo true, Bo false, .fn 206 [], .fn 205 [], Bo true, Bo true, Bo false, Bo false, Bo false, .fn 203 [], .fn 204 [], Bo true, Bo true, Bo false, Bo false, Bo false, .fn 203 [], .fn 204 [], Bo true, Bo true, Bo false, Bo false, Bo false, .fn 203 [], .fn 204 [], Bo false, Bo false, Bo false, Bo false, Bo true, .fn 203 [], .fn 204 [], Bo false, Bo false, Bo false, Bo true, Bo false, .fn 203 [], .fn 207 [], Bo false, Bo false, Bo false, Bo false, Bo true, .fn 203 [], .fn 204 []])) rfl rfl rfl (e_bldK rfl (by kernel_rfl)) ?_
  refine RgOK.s0 rfl rfl (e_stN (L' := [⟨[Bo false, Bo false, Bo false, Bo false, Bo false, .v .nilFunc, .v .nilFunc, Bo true, Bo false, Bo true, Bo false, Bo false, .fn 203 [], .fn 205 [], Bo true, Bo true, Bo true, Bo true, Bo false, .fn 206 [], .fn 205 [], Bo true, Bo true, Bo false, Bo false, Bo false, .fn 203 [], .fn 204 [], Bo true, Bo true, Bo false, Bo false, Bo false, .fn 203 [], .fn 204 [], Bo true, Bo true, Bo false, Bo false, Bo false, .fn 203 [], .fn 204 [], Bo false, Bo false, Bo false, Bo false, Bo true, .fn 203 [], .fn 204 [], Bo false, Bo false, Bo false, Bo true, Bo false, .fn 203 [], .fn 207 [], Bo false, Bo false, Bo false, Bo false, Bo true, .fn 203 [], .fn 204 []], true, true⟩, ⟨[Bo true, Bo true, Bo false, Bo false, Bo false, .fn 203 [], .fn 204 []], true, true⟩, ⟨[Bo false, Bo false, Bo false, Bo false, Bo true, .fn 203 [], .fn 204 []], true, true⟩]) rfl (ev_t rfl) (ev_t rfl) ty209 rfl rfl rfl rfl rfl) ?_
  refine RgOK.nil ?_
  show CdOK _ _ _ _ _ _
  refine CdOK.ret ?_
  refine ⟨.inr rfl, _, (resA_c (look_find rfl) (eLoad_A ty209 (bx rfl rfl) rfl rfl rfl) resA_n), h, [⟨[Bo false, Bo false, Bo false, Bo false, Bo false, .v .nilFunc, .v .nilFunc, Bo true, Bo false, Bo true, Bo false, Bo false, .fn 203 [], .fn 205 [], Bo true, Bo true, Bo true, Bo true, Bo false, .fn 206 [], .fn 205 [], Bo true, Bo true, Bo false, Bo false, Bo false, .fn 203 [], .fn 204 [], Bo true, Bo true, Bo false, Bo false, Bo false, .fn 203 [], .fn 204 [], Bo true, Bo true, Bo false, Bo false, Bo false, .fn 203 [], .fn 204 [], Bo false, Bo false, Bo false, Bo false, Bo true, .fn 203 [], .fn 204 [], Bo false, Bo false, Bo false, Bo true, Bo false, .fn 203 [], .fn 207 [], Bo false, Bo false, Bo false, Bo false, Bo true, .fn 203 [], .fn 204 []], true, true⟩, ⟨[Bo true, Bo true, Bo false, Bo false, Bo false, .fn 203 [], .fn 204 []], true, true⟩, ⟨[Bo false, Bo false, Bo false, Bo false, Bo true, .fn 203 [], .fn 204 []], true, true⟩], _, rfl, rfl, hC, ((.o (.agg (R2.of (.fl _ rfl) (R2.of (.fl _ rfl) (R2.of (.fl _ rfl) (R2.of (.fl _ rfl) (R2.of (.fl _ rfl) (R2.of (.fl _ rfl) (R2.of (.fl _ rfl) (R2.of (.fl _ rfl) (R2.of (.fl _ rfl) (R2.of (.fl _ rfl) (R2.of (.fl _ rfl) (R2.of (.fl _ rfl) (R2.of (.fn _ _ _ (R2.nil _)) (R2.of (.fn _ _ _ (R2.nil _)) (R2.of (.fl _ rfl) (R2.of (.fl _ rfl) (R2.of (.fl _ rfl) (R2.of (.fl _ rfl) (R2.of (.fl _ rfl) (R2.of (.fn _ _ _ (R2.nil _)) (R2.of (.fn _ _ _ (R2.nil _)) (R2.of (.fl _ rfl) (R2.of (.fl _ rfl) (R2.of (.fl _ rfl) (R2.of (.fl _ rfl) (R2.of (.fl _ rfl) (R2.of (.fn _ _ _ (R2.nil _)) (R2.of (.fn _ _ _ (R2.nil _)) (R2.of (.fl _ rfl) (R2.of (.fl _ rfl) (R2.of (.fl _ rfl) (R2.of (.fl _ rfl) (R2.of (.fl _ rfl) (R2.of (.fn _ _ _ (R2.nil _)) (R2.of (.fn _ _ _ (R2.nil _)) (R2.of (.fl _ rfl) (R2.of (.fl _ rfl) (R2.of (.fl _ rfl) (R2.of (.fl _ rfl) (R2.of (.fl _ rfl) (R2.of (.fn _ _ _ (R2.nil _)) (R2.of (.fn _ _ _ (R2.nil _)) (R2.of (.fl _ rfl) (R2.of (.fl _ rfl) (R2.of (.fl _ rfl) (R2.of (.fl _ rfl) (R2.of (.fl _ rfl) (R2.of (.fn _ _ _ (R2.nil _)) (R2.of (.fn _ _ _ (R2.nil _)) (R2.of (.fl _ rfl) (R2.of (.fl _ rfl) (R2.of (.fl _ rfl) (R2.of (.fl _ rfl) (R2.of (.fl _ rfl) (R2.of (.fn _ _ _ (R2.nil _)) (R2.of (.fn _ _ _ (R2.nil _)) (R2.of (.fl _ rfl) (R2.of (.fl _ rfl) (R2.of (.fl _ rfl) (R2.of (.fl _ rfl) (R2.of (.fl _ rfl) (R2.of (.fn _ _ _ (R2.nil _)) (R2.of (.fn _ _ _ (R2.nil _)) (R2.nil _)))))))))))))))))))))))))))))))))))))))))))))))))))))))))))))))))) : RenV _ _ _ _ (.o (.agg [Bo false, Bo false, Bo false, Bo false, Bo false, .v .nilFunc, .v .nilFunc, Bo true, Bo false, Bo true, Bo false, Bo false, .fn 203 [], .fn 205 [], Bo true, Bo true, Bo true, Bo true, Bo false, .fn 206 [], .fn 205 [], Bo true, Bo true, Bo false, Bo false, Bo false, .fn 203 [], .fn 204 [], Bo true, Bo true, Bo false, Bo false, Bo false, .fn 203 [], .fn 204 [], Bo true, Bo true, Bo false, Bo false, Bo false, .fn 203 [], .fn 204 [], Bo false, Bo false, Bo false, Bo false, Bo true, .fn 203 [], .fn 204 [], Bo false, Bo false, Bo false, Bo true, Bo false, .fn 203 [], .fn 207 [], Bo false, Bo false, Bo false, Bo false, Bo true, .fn 203 [], .fn 204 []]))), ?_⟩
  have hr := hm.ret
  subst hr
  exact ⟨rfl, rfl⟩
/- pagemend/entry.rules$1 -/
def entry_rules_1 (a0 : AEntry) : Option Bool := some true
theorem entry_rules_1.eq (a0 : AEntry) : entry_rules_1 a0 = some true := rfl
theorem entry_rules_1_ok {h : Heap} {a0 : AEntry}  {r : Bool} (hm : entry_rules_1 a0 = some r) : FnOK Try.prog 203 [.o (.agg [I (a0.lsn), I (a0.kind_), I (a0.tx), I (a0.prevTx), I (a0.prevPage), I (a0.ref), I (a0.change.page), I (a0.change.slot), Bo (a0.change.before.set_), .v (.string a0.change.before.data), Bo (a0.change.after.set_), .v (.string a0.change.after.data), .v (.string a0.blob)])] h (fun v h' => v = VB (r) ∧ h' = h) := by
  refine FnOK.fin ?_
  refine FnOK.bodyC (N := 3) Try.func203 rfl rfl rfl (fun hC => ?_)
  replace hm := Ev.of hm
  rw [entry_rules_1.eq] at hm
  show CdOK _ _ _ (look _ [(0, .o (.agg [I (a0.lsn), I (a0.kind_), I (a0.tx), I (a0.prevTx), I (a0.prevPage), I (a0.ref), I (a0.change.page), I (a0.change.slot), Bo (a0.change.before.set_), .v (.string a0.change.before.data), Bo (a0.change.after.set_), .v (.string a0.change.after.data), .v (.string a0.blob)]))]) (h ++ ([] : Heap)) _
  refine CdOK.seq ?_
  refine CdOK.region ?_
  refine RgOK.s (v := .o (.c (.ptr (h.length + 0) 0))) rfl rfl rfl (e_boxN (L' := [⟨[I (a0.lsn), I (a0.kind_), I (a0.tx), I (a0.prevTx), I (a0.prevPage), I (a0.ref), I (a0.change.page), I (a0.change.slot), Bo (a0.change.before.set_), .v (.string a0.change.before.data), Bo (a0.change.after.set_), .v (.string a0.change.after.data), .v (.string a0.blob)], true, true⟩]) rfl (ev_t rfl) rfl rfl) ?_
  refine RgOK.s (v := VB (false)) rfl rfl rfl (e_as rfl) ?_
  refine RgOK.nil ?_
  show CdOK _ _ _ _ _ _
  refine CdOK.seq ?_
  refine CdOK.region ?_
  refine RgOK.s (v := VB (true)) rfl rfl rfl (e_as rfl) ?_
  refine RgOK.nil ?_
  show CdOK _ _ _ _ _ _
  refine CdOK.ret ?_
  refine ⟨.inr rfl, _, rfl, h, [⟨[I (a0.lsn), I (a0.kind_), I (a0.tx), I (a0.prevTx), I (a0.prevPage), I (a0.ref), I (a0.change.page), I (a0.change.slot), Bo (a0.change.before.set_), .v (.string a0.change.before.data), Bo (a0.change.after.set_), .v (.string a0.change.after.data), .v (.string a0.blob)], true, true⟩], _, rfl, rfl, hC, ((renFlV rfl) : RenV _ _ _ _ (VB (true))), ?_⟩
  have hr := hm.ret
  subst hr
  exact ⟨rfl, rfl⟩
/- pagemend/change.paged -/
def change_f214 (id_ : Int) : Option Bool := (if 0 ≤ id_ then some (decide (id_ < 64)) else some false)
theorem change_f214.eq (id_ : Int) : change_f214 id_ = (if 0 ≤ id_ then some (decide (id_ < 64)) else some false) := rfl
theorem change_f214_ok {h : Heap} {id_ : Int}  {r : Bool} (hm : change_f214 id_ = some r) : FnOK Try.prog 214 [VI (id_)] h (fun v h' => v = VB (r) ∧ h' = h) := by
  refine FnOK.fin ?_
  refine FnOK.bodyC (N := 9) Try.func214 rfl rfl rfl (fun hC => ?_)
  replace hm := Ev.of hm
  rw [change_f214.eq] at hm
  show CdOK _ _ _ (look _ [(0, VI (id_))]) (h ++ ([] : Heap)) _
  refine CdOK.seq ?_
  refine CdOK.region ?_
  refine RgOK.s (v := VB (false)) rfl rfl rfl (e_as rfl) ?_
  refine RgOK.nil ?_
  show CdOK _ _ _ _ _ _
  refine CdOK.seq ?_
  refine CdOK.region ?_
  refine RgOK.s (v := VI (id_)) rfl rfl rfl (e_mv (ev_t rfl)) ?_
  refine RgOK.sd rfl rfl rfl (e_bin (ev_t rfl) rfl rfl rfl) ?_ ?_
  · intro c1; replace hm := hm.ifp c1
    refine RgOK.s (v := VB (true)) rfl rfl rfl (e_mv (ev_t rfl)) ?_
    refine RgOK.s (v := VI (id_)) rfl rfl rfl (e_mv (ev_t rfl)) ?_
    refine RgOK.s (v := VB (decide (id_ < 64))) rfl rfl rfl (e_bin (ev_t rfl) rfl rfl rfl) ?_
    refine RgOK.s (v := VB (decide (id_ < 64))) rfl rfl rfl (e_pick (t := true) (ev_t rfl) (ev_t rfl)) ?_
    refine RgOK.s (v := VB (decide (id_ < 64))) rfl rfl rfl (e_as (ev_t rfl)) ?_
    refine RgOK.nil ?_
    show CdOK _ _ _ _ _ _
    refine CdOK.ret ?_
    refine ⟨.inr rfl, _, rfl, h, [], _, rfl, rfl, hC, ((renFlV rfl) : RenV _ _ _ _ (VB (decide (id_ < 64)))), ?_⟩
    have hr := hm.ret
    subst hr
    exact ⟨rfl, rfl⟩
  · intro c2; replace hm := hm.ifn c2
    refine RgOK.s (v := VB (false)) rfl rfl rfl (e_mv (ev_t rfl)) ?_
    refine RgOK.sk rfl rfl rfl ?_
    refine RgOK.sk rfl rfl rfl ?_
    refine RgOK.s (v := VB (false)) rfl rfl rfl (e_pick (t := false) (ev_t rfl) rfl) ?_
    refine RgOK.s (v := VB (false)) rfl rfl rfl (e_as (ev_t rfl)) ?_
    refine RgOK.nil ?_
    show CdOK _ _ _ _ _ _
    refine CdOK.ret ?_
    refine ⟨.inr rfl, _, rfl, h, [], _, rfl, rfl, hC, ((renFlV rfl) : RenV _ _ _ _ (VB (false))), ?_⟩
    have hr := hm.ret
    subst hr
    exact ⟨rfl, rfl⟩
/- pagemend/change.ValidCell -/
def change_f215 (c_ : ACell) : Option Bool := (if (c_.data.size : Int) ≤ 12 then (if c_.set_ = true then some true else some ((c_.data).toList == (({ data := #[] } : ByteArray)).toList)) else some false)
theorem change_f215.eq (c_ : ACell) : change_f215 c_ = (if (c_.data.size : Int) ≤ 12 then (if c_.set_ = true then some true else some ((c_.data).toList == (({ data := #[] } : ByteArray)).toList)) else some false) := rfl
theorem change_f215_ok {h : Heap} {c_ : ACell}  {r : Bool} (hm : change_f215 c_ = some r) : FnOK Try.prog 215 [.o (.agg [Bo (c_.set_), .v (.string c_.data)])] h (fun v h' => v = VB (r) ∧ h' = h) := by
  refine FnOK.fin ?_
  refine FnOK.bodyC (N := 16) Try.func215 rfl rfl rfl (fun hC => ?_)
  replace hm := Ev.of hm
  rw [change_f215.eq] at hm
  show CdOK _ _ _ (look _ [(0, .o (.agg [Bo (c_.set_), .v (.string c_.data)]))]) (h ++ ([] : Heap)) _
  refine CdOK.seq ?_
  refine CdOK.region ?_
  refine RgOK.s (v := .o (.c (.ptr (h.length + 0) 0))) rfl rfl rfl (e_boxN (L' := [⟨[Bo (c_.set_), .v (.string c_.data)], true, true⟩]) rfl (ev_t rfl) rfl rfl) ?_
  refine RgOK.s (v := VB (false)) rfl rfl rfl (e_as rfl) ?_
  refine RgOK.nil ?_
  show CdOK _ _ _ _ _ _
  refine CdOK.seq ?_
  refine CdOK.region ?_
  refine RgOK.s (v := .o (.c (.ptr (h.length + 0) 1))) rfl rfl rfl (e_fa' fa55_1 (ev_t rfl)) ?_
  refine RgOK.s (v := .o (.c (.v (.string c_.data)))) rfl rfl rfl (e_ldb1 (ev_t rfl) ty9 (bx rfl rfl) rfl) ?_
  refine RgOK.s (v := VI ((c_.data.size : Int))) rfl rfl rfl (e_lenS' (ev_t rfl) str9) ?_
  refine RgOK.sd rfl rfl rfl (e_bin (ev_t rfl) rfl rfl rfl) ?_ ?_
  · intro c1; replace hm := hm.ifp c1
    refine RgOK.s (v := VB (true)) rfl rfl rfl (e_mv (ev_t rfl)) ?_
    refine RgOK.s (v := .o (.c (.ptr (h.length + 0) 0))) rfl rfl rfl (e_fa' fa55_0 (ev_t rfl)) ?_
    refine RgOK.sb rfl rfl rfl (e_ldb1 (ev_t rfl) ty4 (bx rfl rfl) rfl) ?_ ?_
    · intro c2; replace hm := hm.ifp c2
      refine RgOK.s (v := VB (true)) rfl rfl rfl (e_mv (ev_t rfl)) ?_
      refine RgOK.sk rfl rfl rfl ?_
      refine RgOK.sk rfl rfl rfl ?_
      refine RgOK.sk rfl rfl rfl ?_
      refine RgOK.s (v := VB (true)) rfl rfl rfl (e_pick (t := true) (ev_t rfl) rfl) ?_
      refine RgOK.s (v := VB (true)) rfl rfl rfl (e_pick (t := true) (ev_t rfl) (ev_t rfl)) ?_
      refine RgOK.s (v := VB (true)) rfl rfl rfl (e_as (ev_t rfl)) ?_
      refine RgOK.nil ?_
      show CdOK _ _ _ _ _ _
      refine CdOK.ret ?_
      refine ⟨.inr rfl, _, rfl, h, [⟨[Bo (c_.set_), .v (.string c_.data)], true, true⟩], _, rfl, rfl, hC, ((renFlV rfl) : RenV _ _ _ _ (VB (true))), ?_⟩
      have hr := hm.ret
      subst hr
      exact ⟨rfl, rfl⟩
    · intro c3; replace hm := hm.ifn (by rw [c3]; exact Bool.false_ne_true)
      refine RgOK.s (v := VB (false)) rfl rfl rfl (e_mv (ev_t rfl)) ?_
      refine RgOK.s (v := .o (.c (.ptr (h.length + 0) 1))) rfl rfl rfl (e_fa' fa55_1 (ev_t rfl)) ?_
      refine RgOK.s (v := .o (.c (.v (.string c_.data)))) rfl rfl rfl (e_ldb1 (ev_t rfl) ty9 (bx rfl rfl) rfl) ?_
      refine RgOK.s (v := VB (((c_.data).toList == (({ data := #[] } : ByteArray)).toList))) rfl rfl rfl (e_bin (ev_t rfl) rfl rfl rfl) ?_
      refine RgOK.s (v := VB (((c_.data).toList == (({ data := #[] } : ByteArray)).toList))) rfl rfl rfl (e_pick (t := false) (ev_t rfl) (ev_t rfl)) ?_
      refine RgOK.s (v := VB (((c_.data).toList == (({ data := #[] } : ByteArray)).toList))) rfl rfl rfl (e_pick (t := true) (ev_t rfl) (ev_t rfl)) ?_
      refine RgOK.s (v := VB (((c_.data).toList == (({ data := #[] } : ByteArray)).toList))) rfl rfl rfl (e_as (ev_t rfl)) ?_
      refine RgOK.nil ?_
      show CdOK _ _ _ _ _ _
      refine CdOK.ret ?_
      refine ⟨.inr rfl, _, rfl, h, [⟨[Bo (c_.set_), .v (.string c_.data)], true, true⟩], _, rfl, rfl, hC, ((renFlV rfl) : RenV _ _ _ _ (VB (((c_.data).toList == (({ data := #[] } : ByteArray)).toList)))), ?_⟩
      have hr := hm.ret
      subst hr
      exact ⟨rfl, rfl⟩
  · intro c4; replace hm := hm.ifn c4
    refine RgOK.s (v := VB (false)) rfl rfl rfl (e_mv (ev_t rfl)) ?_
    refine RgOK.sk rfl rfl rfl ?_
    refine RgOK.sk rfl rfl rfl ?_
    refine RgOK.sk rfl rfl rfl ?_
    refine RgOK.sk rfl rfl rfl ?_
    refine RgOK.sk rfl rfl rfl ?_
    refine RgOK.sk rfl rfl rfl ?_
    refine RgOK.sk rfl rfl rfl ?_
    refine RgOK.s (v := VB (false)) rfl rfl rfl (e_pick (t := false) (ev_t rfl) rfl) ?_
    refine RgOK.s (v := VB (false)) rfl rfl rfl (e_as (ev_t rfl)) ?_
    refine RgOK.nil ?_
    show CdOK _ _ _ _ _ _
    refine CdOK.ret ?_
    refine ⟨.inr rfl, _, rfl, h, [⟨[Bo (c_.set_), .v (.string c_.data)], true, true⟩], _, rfl, rfl, hC, ((renFlV rfl) : RenV _ _ _ _ (VB (false))), ?_⟩
    have hr := hm.ret
    subst hr
    exact ⟨rfl, rfl⟩
/- pagemend/change.Valid -/
def change_Valid (c_ : Change) : Option Bool := ((change_f214 c_.page).bind fun (x1 : Bool) => (if x1 = true then (if 0 ≤ c_.slot then (if c_.slot < 16 then ((change_f215 c_.before).bind fun (x4 : Bool) => (if x4 = true then ((change_f215 c_.after).bind fun (x5 : Bool) => some x5) else some false)) else some false) else some false) else some false))
theorem change_Valid.eq (c_ : Change) : change_Valid c_ = ((change_f214 c_.page).bind fun (x1 : Bool) => (if x1 = true then (if 0 ≤ c_.slot then (if c_.slot < 16 then ((change_f215 c_.before).bind fun (x4 : Bool) => (if x4 = true then ((change_f215 c_.after).bind fun (x5 : Bool) => some x5) else some false)) else some false) else some false) else some false)) := rfl
theorem change_Valid_ok {h : Heap} {c_ : Change}  {r : Bool} (hm : change_Valid c_ = some r) : FnOK Try.prog 205 [.o (.agg [I (c_.page), I (c_.slot), Bo (c_.before.set_), .v (.string c_.before.data), Bo (c_.after.set_), .v (.string c_.after.data)])] h (fun v h' => v = VB (r) ∧ h' = h) := by
  refine FnOK.fin ?_
  refine FnOK.bodyC (N := 26) Try.func205 rfl rfl rfl (fun hC => ?_)
  replace hm := Ev.of hm
  rw [change_Valid.eq] at hm
  show CdOK _ _ _ (look _ [(0, .o (.agg [I (c_.page), I (c_.slot), Bo (c_.before.set_), .v (.string c_.before.data), Bo (c_.after.set_), .v (.string c_.after.data)]))]) (h ++ ([] : Heap)) _
  refine CdOK.seq ?_
  refine CdOK.region ?_
  refine RgOK.s (v := .o (.c (.ptr (h.length + 0) 0))) rfl rfl rfl (e_boxN (L' := [⟨[I (c_.page), I (c_.slot), Bo (c_.before.set_), .v (.string c_.before.data), Bo (c_.after.set_), .v (.string c_.after.data)], true, true⟩]) rfl (ev_t rfl) rfl rfl) ?_
  refine RgOK.s (v := VB (false)) rfl rfl rfl (e_as rfl) ?_
  refine RgOK.nil ?_
  show CdOK _ _ _ _ _ _
  refine CdOK.seq ?_
  refine CdOK.region ?_
  refine RgOK.s (v := .o (.c (.ptr (h.length + 0) 0))) rfl rfl rfl (e_fa' fa57_0 (ev_t rfl)) ?_
  refine RgOK.s (v := VI (c_.page)) rfl rfl rfl (e_ldb1 (ev_t rfl) ty3 (bx rfl rfl) rfl) ?_
  obtain ⟨x1, e1, hm⟩ := hm.call
  cases x1 with
  | true =>
    replace hm := hm.ifp rfl
    refine RgOK.cl rfl rfl rfl rfl pl214 (R2.wk _) (change_f214_ok   e1) ?_
    rintro _ _ ⟨rfl, rfl⟩
    refine RgOK.s (v := VB (true)) rfl rfl rfl (e_mv (ev_t rfl)) ?_
    refine RgOK.s (v := .o (.c (.ptr (h.length + 0) 1))) rfl rfl rfl (e_fa' fa57_1 (ev_t rfl)) ?_
    refine RgOK.s (v := VI (c_.slot)) rfl rfl rfl (e_ldb1 (ev_t rfl) ty3 (bx rfl rfl) rfl) ?_
    refine RgOK.sd rfl rfl rfl (e_bin (ev_t rfl) rfl rfl rfl) ?_ ?_
    · intro c2; replace hm := hm.ifp c2
      refine RgOK.s (v := VB (true)) rfl rfl rfl (e_pick (t := true) (ev_t rfl) (ev_t rfl)) ?_
      refine RgOK.s (v := VB (true)) rfl rfl rfl (e_mv (ev_t rfl)) ?_
      refine RgOK.s (v := .o (.c (.ptr (h.length + 0) 1))) rfl rfl rfl (e_fa' fa57_1 (ev_t rfl)) ?_
      refine RgOK.s (v := VI (c_.slot)) rfl rfl rfl (e_ldb1 (ev_t rfl) ty3 (bx rfl rfl) rfl) ?_
      refine RgOK.sd rfl rfl rfl (e_bin (ev_t rfl) rfl rfl rfl) ?_ ?_
      · intro c3; replace hm := hm.ifp c3
        refine RgOK.s (v := VB (true)) rfl rfl rfl (e_pick (t := true) (ev_t rfl) (ev_t rfl)) ?_
        refine RgOK.s (v := VB (true)) rfl rfl rfl (e_mv (ev_t rfl)) ?_
        refine RgOK.s (v := .o (.c (.ptr (h.length + 0) 2))) rfl rfl rfl (e_fa' fa57_2 (ev_t rfl)) ?_
        refine RgOK.s (v := .o (.agg [Bo (c_.before.set_), .v (.string c_.before.data)])) rfl rfl rfl (e_ldbA (ev_t rfl) ty55 (bx rfl rfl) rfl rfl) ?_
        obtain ⟨x4, e4, hm⟩ := hm.call
        cases x4 with
        | true =>
          replace hm := hm.ifp rfl
          refine RgOK.cl rfl rfl rfl rfl pl215 (R2.wk _) (change_f215_ok   e4) ?_
          rintro _ _ ⟨rfl, rfl⟩
          refine RgOK.s (v := VB (true)) rfl rfl rfl (e_pick (t := true) (ev_t rfl) (ev_t rfl)) ?_
          refine RgOK.s (v := VB (true)) rfl rfl rfl (e_mv (ev_t rfl)) ?_
          refine RgOK.s (v := .o (.c (.ptr (h.length + 0) 4))) rfl rfl rfl (e_fa' fa57_3 (ev_t rfl)) ?_
          refine RgOK.s (v := .o (.agg [Bo (c_.after.set_), .v (.string c_.after.data)])) rfl rfl rfl (e_ldbA (ev_t rfl) ty55 (bx rfl rfl) rfl rfl) ?_
          obtain ⟨x5, e5, hm⟩ := hm.call
          refine RgOK.cl rfl rfl rfl rfl pl215 (R2.wk _) (change_f215_ok   e5) ?_
          rintro _ _ ⟨rfl, rfl⟩
          refine RgOK.s (v := VB (x5)) rfl rfl rfl (e_pick (t := true) (ev_t rfl) (ev_t rfl)) ?_
          refine RgOK.s (v := VB (x5)) rfl rfl rfl (e_as (ev_t rfl)) ?_
          refine RgOK.nil ?_
          show CdOK _ _ _ _ _ _
          refine CdOK.ret ?_
          refine ⟨.inr rfl, _, rfl, h, [⟨[I (c_.page), I (c_.slot), Bo (c_.before.set_), .v (.string c_.before.data), Bo (c_.after.set_), .v (.string c_.after.data)], true, true⟩], _, rfl, rfl, hC, ((renFlV rfl) : RenV _ _ _ _ (VB (x5))), ?_⟩
          have hr := hm.ret
          subst hr
          exact ⟨rfl, rfl⟩
        | false =>
          replace hm := hm.ifn Bool.false_ne_true
          refine RgOK.cl rfl rfl rfl rfl pl215 (R2.wk _) (change_f215_ok   e4) ?_
          rintro _ _ ⟨rfl, rfl⟩
          refine RgOK.s (v := VB (false)) rfl rfl rfl (e_pick (t := true) (ev_t rfl) (ev_t rfl)) ?_
          refine RgOK.s (v := VB (false)) rfl rfl rfl (e_mv (ev_t rfl)) ?_
          refine RgOK.sk rfl rfl rfl ?_
          refine RgOK.sk rfl rfl rfl ?_
          refine RgOK.sk rfl rfl rfl ?_
          refine RgOK.s (v := VB (false)) rfl rfl rfl (e_pick (t := false) (ev_t rfl) rfl) ?_
          refine RgOK.s (v := VB (false)) rfl rfl rfl (e_as (ev_t rfl)) ?_
          refine RgOK.nil ?_
          show CdOK _ _ _ _ _ _
          refine CdOK.ret ?_
          refine ⟨.inr rfl, _, rfl, h, [⟨[I (c_.page), I (c_.slot), Bo (c_.before.set_), .v (.string c_.before.data), Bo (c_.after.set_), .v (.string c_.after.data)], true, true⟩], _, rfl, rfl, hC, ((renFlV rfl) : RenV _ _ _ _ (VB (false))), ?_⟩
          have hr := hm.ret
          subst hr
          exact ⟨rfl, rfl⟩
      · intro c6; replace hm := hm.ifn c6
        refine RgOK.s (v := VB (false)) rfl rfl rfl (e_pick (t := true) (ev_t rfl) (ev_t rfl)) ?_
        refine RgOK.s (v := VB (false)) rfl rfl rfl (e_mv (ev_t rfl)) ?_
        refine RgOK.sk rfl rfl rfl ?_
        refine RgOK.sk rfl rfl rfl ?_
        refine RgOK.sk rfl rfl rfl ?_
        refine RgOK.s (v := VB (false)) rfl rfl rfl (e_pick (t := false) (ev_t rfl) rfl) ?_
        refine RgOK.s (v := VB (false)) rfl rfl rfl (e_mv (ev_t rfl)) ?_
        refine RgOK.sk rfl rfl rfl ?_
        refine RgOK.sk rfl rfl rfl ?_
        refine RgOK.sk rfl rfl rfl ?_
        refine RgOK.s (v := VB (false)) rfl rfl rfl (e_pick (t := false) (ev_t rfl) rfl) ?_
        refine RgOK.s (v := VB (false)) rfl rfl rfl (e_as (ev_t rfl)) ?_
        refine RgOK.nil ?_
        show CdOK _ _ _ _ _ _
        refine CdOK.ret ?_
        refine ⟨.inr rfl, _, rfl, h, [⟨[I (c_.page), I (c_.slot), Bo (c_.before.set_), .v (.string c_.before.data), Bo (c_.after.set_), .v (.string c_.after.data)], true, true⟩], _, rfl, rfl, hC, ((renFlV rfl) : RenV _ _ _ _ (VB (false))), ?_⟩
        have hr := hm.ret
        subst hr
        exact ⟨rfl, rfl⟩
    · intro c7; replace hm := hm.ifn c7
      refine RgOK.s (v := VB (false)) rfl rfl rfl (e_pick (t := true) (ev_t rfl) (ev_t rfl)) ?_
      refine RgOK.s (v := VB (false)) rfl rfl rfl (e_mv (ev_t rfl)) ?_
      refine RgOK.sk rfl rfl rfl ?_
      refine RgOK.sk rfl rfl rfl ?_
      refine RgOK.sk rfl rfl rfl ?_
      refine RgOK.s (v := VB (false)) rfl rfl rfl (e_pick (t := false) (ev_t rfl) rfl) ?_
      refine RgOK.s (v := VB (false)) rfl rfl rfl (e_mv (ev_t rfl)) ?_
      refine RgOK.sk rfl rfl rfl ?_
      refine RgOK.sk rfl rfl rfl ?_
      refine RgOK.sk rfl rfl rfl ?_
      refine RgOK.s (v := VB (false)) rfl rfl rfl (e_pick (t := false) (ev_t rfl) rfl) ?_
      refine RgOK.s (v := VB (false)) rfl rfl rfl (e_mv (ev_t rfl)) ?_
      refine RgOK.sk rfl rfl rfl ?_
      refine RgOK.sk rfl rfl rfl ?_
      refine RgOK.sk rfl rfl rfl ?_
      refine RgOK.s (v := VB (false)) rfl rfl rfl (e_pick (t := false) (ev_t rfl) rfl) ?_
      refine RgOK.s (v := VB (false)) rfl rfl rfl (e_as (ev_t rfl)) ?_
      refine RgOK.nil ?_
      show CdOK _ _ _ _ _ _
      refine CdOK.ret ?_
      refine ⟨.inr rfl, _, rfl, h, [⟨[I (c_.page), I (c_.slot), Bo (c_.before.set_), .v (.string c_.before.data), Bo (c_.after.set_), .v (.string c_.after.data)], true, true⟩], _, rfl, rfl, hC, ((renFlV rfl) : RenV _ _ _ _ (VB (false))), ?_⟩
      have hr := hm.ret
      subst hr
      exact ⟨rfl, rfl⟩
  | false =>
    replace hm := hm.ifn Bool.false_ne_true
    refine RgOK.cl rfl rfl rfl rfl pl214 (R2.wk _) (change_f214_ok   e1) ?_
    rintro _ _ ⟨rfl, rfl⟩
    refine RgOK.s (v := VB (false)) rfl rfl rfl (e_mv (ev_t rfl)) ?_
    refine RgOK.sk rfl rfl rfl ?_
    refine RgOK.sk rfl rfl rfl ?_
    refine RgOK.sk rfl rfl rfl ?_
    refine RgOK.s (v := VB (false)) rfl rfl rfl (e_pick (t := false) (ev_t rfl) rfl) ?_
    refine RgOK.s (v := VB (false)) rfl rfl rfl (e_mv (ev_t rfl)) ?_
    refine RgOK.sk rfl rfl rfl ?_
    refine RgOK.sk rfl rfl rfl ?_
    refine RgOK.sk rfl rfl rfl ?_
    refine RgOK.s (v := VB (false)) rfl rfl rfl (e_pick (t := false) (ev_t rfl) rfl) ?_
    refine RgOK.s (v := VB (false)) rfl rfl rfl (e_mv (ev_t rfl)) ?_
    refine RgOK.sk rfl rfl rfl ?_
    refine RgOK.sk rfl rfl rfl ?_
    refine RgOK.sk rfl rfl rfl ?_
    refine RgOK.s (v := VB (false)) rfl rfl rfl (e_pick (t := false) (ev_t rfl) rfl) ?_
    refine RgOK.s (v := VB (false)) rfl rfl rfl (e_mv (ev_t rfl)) ?_
    refine RgOK.sk rfl rfl rfl ?_
    refine RgOK.sk rfl rfl rfl ?_
    refine RgOK.sk rfl rfl rfl ?_
    refine RgOK.s (v := VB (false)) rfl rfl rfl (e_pick (t := false) (ev_t rfl) rfl) ?_
    refine RgOK.s (v := VB (false)) rfl rfl rfl (e_as (ev_t rfl)) ?_
    refine RgOK.nil ?_
    show CdOK _ _ _ _ _ _
    refine CdOK.ret ?_
    refine ⟨.inr rfl, _, rfl, h, [⟨[I (c_.page), I (c_.slot), Bo (c_.before.set_), .v (.string c_.before.data), Bo (c_.after.set_), .v (.string c_.after.data)], true, true⟩], _, rfl, rfl, hC, ((renFlV rfl) : RenV _ _ _ _ (VB (false))), ?_⟩
    have hr := hm.ret
    subst hr
    exact ⟨rfl, rfl⟩
/- pagemend/entry.Valid -/
def entry_Valid (e_ : AEntry) : Option Bool := (if e_.lsn < 1 then some false else (if 1099511627776 < e_.lsn then some false else (if e_.kind_ < 1 then some false else (if 8 < e_.kind_ then some false else ((entry_before e_.prevTx e_).bind fun (x9 : Bool) => (if x9 = true then ((entry_before e_.prevPage e_).bind fun (x10 : Bool) => (if x10 = true then ((entry_before e_.ref e_).bind fun (x11 : Bool) => (if (!x11) = true then some false else (if e_.kind_ = 1 then (((((if e_.tx < 1 then some true else (if 1073741824 < e_.tx then some (decide (1073741824 < e_.tx)) else some false))).bind fun (s20 : Bool) => (if s20 = true then some (Sum.inr false) else (if e_.ref ≠ 0 then (if e_.ref ≠ 0 then some (Sum.inr false) else some (Sum.inl ())) else (if (!((e_.blob).toList == (({ data := #[] } : ByteArray)).toList)) = true then some (Sum.inr false) else some (Sum.inl ())))))).bind fun (z : Sum Unit Bool) => match z with | .inl (s29 : Unit) => (if (e_.blob.size : Int) ≤ 8192 then ((entry_rules_1 e_).bind fun (x31 : Bool) => (if x31 = true then ((change_Valid e_.change).bind fun (x32 : Bool) => some x32) else some false)) else some false) | .inr r => some r) else none))) else some false)) else some false))))))
theorem entry_Valid.eq (e_ : AEntry) : entry_Valid e_ = (if e_.lsn < 1 then some false else (if 1099511627776 < e_.lsn then some false else (if e_.kind_ < 1 then some false else (if 8 < e_.kind_ then some false else ((entry_before e_.prevTx e_).bind fun (x9 : Bool) => (if x9 = true then ((entry_before e_.prevPage e_).bind fun (x10 : Bool) => (if x10 = true then ((entry_before e_.ref e_).bind fun (x11 : Bool) => (if (!x11) = true then some false else (if e_.kind_ = 1 then (((((if e_.tx < 1 then some true else (if 1073741824 < e_.tx then some (decide (1073741824 < e_.tx)) else some false))).bind fun (s20 : Bool) => (if s20 = true then some (Sum.inr false) else (if e_.ref ≠ 0 then (if e_.ref ≠ 0 then some (Sum.inr false) else some (Sum.inl ())) else (if (!((e_.blob).toList == (({ data := #[] } : ByteArray)).toList)) = true then some (Sum.inr false) else some (Sum.inl ())))))).bind fun (z : Sum Unit Bool) => match z with | .inl (s29 : Unit) => (if (e_.blob.size : Int) ≤ 8192 then ((entry_rules_1 e_).bind fun (x31 : Bool) => (if x31 = true then ((change_Valid e_.change).bind fun (x32 : Bool) => some x32) else some false)) else some false) | .inr r => some r) else none))) else some false)) else some false)))))) := rfl
theorem entry_Valid_ok {h : Heap} {e_ : AEntry}  {r : Bool} (hm : entry_Valid e_ = some r) : FnOK Try.prog 135 [.o (.agg [I (e_.lsn), I (e_.kind_), I (e_.tx), I (e_.prevTx), I (e_.prevPage), I (e_.ref), I (e_.change.page), I (e_.change.slot), Bo (e_.change.before.set_), .v (.string e_.change.before.data), Bo (e_.change.after.set_), .v (.string e_.change.after.data), .v (.string e_.blob)])] h (fun v h' => v = VB (r) ∧ h' = h) := by
  refine FnOK.fin ?_
  refine FnOK.bodyC (N := 122) Try.func135 rfl rfl rfl (fun hC => ?_)
  replace hm := Ev.of hm
  rw [entry_Valid.eq] at hm
  show CdOK _ _ _ (look _ [(0, .o (.agg [I (e_.lsn), I (e_.kind_), I (e_.tx), I (e_.prevTx), I (e_.prevPage), I (e_.ref), I (e_.change.page), I (e_.change.slot), Bo (e_.change.before.set_), .v (.string e_.change.before.data), Bo (e_.change.after.set_), .v (.string e_.change.after.data), .v (.string e_.blob)]))]) (h ++ ([] : Heap)) _
  refine CdOK.seq ?_
  refine CdOK.region ?_
  refine RgOK.s (v := .o (.c (.ptr (h.length + 0) 0))) rfl rfl rfl (e_boxN (L' := [⟨[I (e_.lsn), I (e_.kind_), I (e_.tx), I (e_.prevTx), I (e_.prevPage), I (e_.ref), I (e_.change.page), I (e_.change.slot), Bo (e_.change.before.set_), .v (.string e_.change.before.data), Bo (e_.change.after.set_), .v (.string e_.change.after.data), .v (.string e_.blob)], true, true⟩]) rfl (ev_t rfl) rfl rfl) ?_
  refine RgOK.s (v := VB (false)) rfl rfl rfl (e_as rfl) ?_
  refine RgOK.nil ?_
  show CdOK _ _ _ _ _ _
  refine CdOK.seq ?_
  refine CdOK.seq ?_
  refine CdOK.region ?_
  refine RgOK.s (v := .o (.c (.ptr (h.length + 0) 0))) rfl rfl rfl (e_fa' fa59_0 (ev_t rfl)) ?_
  refine RgOK.s (v := VI (e_.lsn)) rfl rfl rfl (e_ldb1 (ev_t rfl) ty3 (bx rfl rfl) rfl) ?_
  refine RgOK.sd rfl rfl rfl (e_bin (ev_t rfl) rfl rfl rfl) ?_ ?_
  · intro c1; replace hm := hm.ifp c1
    refine RgOK.s (v := VB (true)) rfl rfl rfl (e_mv (ev_t rfl)) ?_
    refine RgOK.sk rfl rfl rfl ?_
    refine RgOK.sk rfl rfl rfl ?_
    refine RgOK.sk rfl rfl rfl ?_
    refine RgOK.s (v := VB (true)) rfl rfl rfl (e_pick (t := true) (ev_t rfl) rfl) ?_
    refine RgOK.s (v := VB (true)) rfl rfl rfl (e_mv (ev_t rfl)) ?_
    refine RgOK.sk rfl rfl rfl ?_
    refine RgOK.sk rfl rfl rfl ?_
    refine RgOK.sk rfl rfl rfl ?_
    refine RgOK.s (v := VB (true)) rfl rfl rfl (e_pick (t := true) (ev_t rfl) rfl) ?_
    refine RgOK.s (v := VB (true)) rfl rfl rfl (e_mv (ev_t rfl)) ?_
    refine RgOK.sk rfl rfl rfl ?_
    refine RgOK.sk rfl rfl rfl ?_
    refine RgOK.sk rfl rfl rfl ?_
    refine RgOK.s (v := VB (true)) rfl rfl rfl (e_pick (t := true) (ev_t rfl) rfl) ?_
    refine RgOK.s (v := VB (true)) rfl rfl rfl (e_mv (ev_t rfl)) ?_
    refine RgOK.sk rfl rfl rfl ?_
    refine RgOK.sk rfl rfl rfl ?_
    refine RgOK.sk rfl rfl rfl ?_
    refine RgOK.sk rfl rfl rfl ?_
    refine RgOK.sk rfl rfl rfl ?_
    refine RgOK.s (v := VB (true)) rfl rfl rfl (e_pick (t := true) (ev_t rfl) rfl) ?_
    refine RgOK.s (v := VB (true)) rfl rfl rfl (e_mv (ev_t rfl)) ?_
    refine RgOK.sk rfl rfl rfl ?_
    refine RgOK.sk rfl rfl rfl ?_
    refine RgOK.sk rfl rfl rfl ?_
    refine RgOK.sk rfl rfl rfl ?_
    refine RgOK.sk rfl rfl rfl ?_
    refine RgOK.s (v := VB (true)) rfl rfl rfl (e_pick (t := true) (ev_t rfl) rfl) ?_
    refine RgOK.s (v := VB (true)) rfl rfl rfl (e_mv (ev_t rfl)) ?_
    refine RgOK.sk rfl rfl rfl ?_
    refine RgOK.sk rfl rfl rfl ?_
    refine RgOK.sk rfl rfl rfl ?_
    refine RgOK.sk rfl rfl rfl ?_
    refine RgOK.sk rfl rfl rfl ?_
    refine RgOK.s (v := VB (true)) rfl rfl rfl (e_pick (t := true) (ev_t rfl) rfl) ?_
    refine RgOK.nil ?_
    show CdOK _ _ _ _ _ _
    refine CdOK.cond_true rfl ?_
    refine CdOK.seq ?_
    refine CdOK.region ?_
    refine RgOK.s (v := VB (false)) rfl rfl rfl (e_as rfl) ?_
    refine RgOK.nil ?_
    show CdOK _ _ _ _ _ _
    refine CdOK.ret ?_
    refine ⟨.inr rfl, _, rfl, h, [⟨[I (e_.lsn), I (e_.kind_), I (e_.tx), I (e_.prevTx), I (e_.prevPage), I (e_.ref), I (e_.change.page), I (e_.change.slot), Bo (e_.change.before.set_), .v (.string e_.change.before.data), Bo (e_.change.after.set_), .v (.string e_.change.after.data), .v (.string e_.blob)], true, true⟩], _, rfl, rfl, hC, ((renFlV rfl) : RenV _ _ _ _ (VB (false))), ?_⟩
    have hr := hm.ret
    subst hr
    exact ⟨rfl, rfl⟩
  · intro c2; replace hm := hm.ifn c2
    refine RgOK.s (v := VB (false)) rfl rfl rfl (e_mv (ev_t rfl)) ?_
    refine RgOK.s (v := .o (.c (.ptr (h.length + 0) 0))) rfl rfl rfl (e_fa' fa59_0 (ev_t rfl)) ?_
    refine RgOK.s (v := VI (e_.lsn)) rfl rfl rfl (e_ldb1 (ev_t rfl) ty3 (bx rfl rfl) rfl) ?_
    refine RgOK.sd rfl rfl rfl (e_bin (ev_t rfl) rfl rfl rfl) ?_ ?_
    · intro c3; replace hm := hm.ifp c3
      refine RgOK.s (v := VB (true)) rfl rfl rfl (e_pick (t := false) (ev_t rfl) (ev_t rfl)) ?_
      refine RgOK.s (v := VB (true)) rfl rfl rfl (e_mv (ev_t rfl)) ?_
      refine RgOK.sk rfl rfl rfl ?_
      refine RgOK.sk rfl rfl rfl ?_
      refine RgOK.sk rfl rfl rfl ?_
      refine RgOK.s (v := VB (true)) rfl rfl rfl (e_pick (t := true) (ev_t rfl) rfl) ?_
      refine RgOK.s (v := VB (true)) rfl rfl rfl (e_mv (ev_t rfl)) ?_
      refine RgOK.sk rfl rfl rfl ?_
      refine RgOK.sk rfl rfl rfl ?_
      refine RgOK.sk rfl rfl rfl ?_
      refine RgOK.s (v := VB (true)) rfl rfl rfl (e_pick (t := true) (ev_t rfl) rfl) ?_
      refine RgOK.s (v := VB (true)) rfl rfl rfl (e_mv (ev_t rfl)) ?_
      refine RgOK.sk rfl rfl rfl ?_
      refine RgOK.sk rfl rfl rfl ?_
      refine RgOK.sk rfl rfl rfl ?_
      refine RgOK.sk rfl rfl rfl ?_
      refine RgOK.sk rfl rfl rfl ?_
      refine RgOK.s (v := VB (true)) rfl rfl rfl (e_pick (t := true) (ev_t rfl) rfl) ?_
      refine RgOK.s (v := VB (true)) rfl rfl rfl (e_mv (ev_t rfl)) ?_
      refine RgOK.sk rfl rfl rfl ?_
      refine RgOK.sk rfl rfl rfl ?_
      refine RgOK.sk rfl rfl rfl ?_
      refine RgOK.sk rfl rfl rfl ?_
      refine RgOK.sk rfl rfl rfl ?_
      refine RgOK.s (v := VB (true)) rfl rfl rfl (e_pick (t := true) (ev_t rfl) rfl) ?_
      refine RgOK.s (v := VB (true)) rfl rfl rfl (e_mv (ev_t rfl)) ?_
      refine RgOK.sk rfl rfl rfl ?_
      refine RgOK.sk rfl rfl rfl ?_
      refine RgOK.sk rfl rfl rfl ?_
      refine RgOK.sk rfl rfl rfl ?_
      refine RgOK.sk rfl rfl rfl ?_
      refine RgOK.s (v := VB (true)) rfl rfl rfl (e_pick (t := true) (ev_t rfl) rfl) ?_
      refine RgOK.nil ?_
      show CdOK _ _ _ _ _ _
      refine CdOK.cond_true rfl ?_
      refine CdOK.seq ?_
      refine CdOK.region ?_
      refine RgOK.s (v := VB (false)) rfl rfl rfl (e_as rfl) ?_
      refine RgOK.nil ?_
      show CdOK _ _ _ _ _ _
      refine CdOK.ret ?_
      refine ⟨.inr rfl, _, rfl, h, [⟨[I (e_.lsn), I (e_.kind_), I (e_.tx), I (e_.prevTx), I (e_.prevPage), I (e_.ref), I (e_.change.page), I (e_.change.slot), Bo (e_.change.before.set_), .v (.string e_.change.before.data), Bo (e_.change.after.set_), .v (.string e_.change.after.data), .v (.string e_.blob)], true, true⟩], _, rfl, rfl, hC, ((renFlV rfl) : RenV _ _ _ _ (VB (false))), ?_⟩
      have hr := hm.ret
      subst hr
      exact ⟨rfl, rfl⟩
    · intro c4; replace hm := hm.ifn c4
      refine RgOK.s (v := VB (false)) rfl rfl rfl (e_pick (t := false) (ev_t rfl) (ev_t rfl)) ?_
      refine RgOK.s (v := VB (false)) rfl rfl rfl (e_mv (ev_t rfl)) ?_
      refine RgOK.s (v := .o (.c (.ptr (h.length + 0) 1))) rfl rfl rfl (e_fa' fa59_1 (ev_t rfl)) ?_
      refine RgOK.s (v := VI (e_.kind_)) rfl rfl rfl (e_ldb1 (ev_t rfl) ty3 (bx rfl rfl) rfl) ?_
      refine RgOK.sd rfl rfl rfl (e_bin (ev_t rfl) rfl rfl rfl) ?_ ?_
      · intro c5; replace hm := hm.ifp c5
        refine RgOK.s (v := VB (true)) rfl rfl rfl (e_pick (t := false) (ev_t rfl) (ev_t rfl)) ?_
        refine RgOK.s (v := VB (true)) rfl rfl rfl (e_mv (ev_t rfl)) ?_
        refine RgOK.sk rfl rfl rfl ?_
        refine RgOK.sk rfl rfl rfl ?_
        refine RgOK.sk rfl rfl rfl ?_
        refine RgOK.s (v := VB (true)) rfl rfl rfl (e_pick (t := true) (ev_t rfl) rfl) ?_
        refine RgOK.s (v := VB (true)) rfl rfl rfl (e_mv (ev_t rfl)) ?_
        refine RgOK.sk rfl rfl rfl ?_
        refine RgOK.sk rfl rfl rfl ?_
        refine RgOK.sk rfl rfl rfl ?_
        refine RgOK.sk rfl rfl rfl ?_
        refine RgOK.sk rfl rfl rfl ?_
        refine RgOK.s (v := VB (true)) rfl rfl rfl (e_pick (t := true) (ev_t rfl) rfl) ?_
        refine RgOK.s (v := VB (true)) rfl rfl rfl (e_mv (ev_t rfl)) ?_
        refine RgOK.sk rfl rfl rfl ?_
        refine RgOK.sk rfl rfl rfl ?_
        refine RgOK.sk rfl rfl rfl ?_
        refine RgOK.sk rfl rfl rfl ?_
        refine RgOK.sk rfl rfl rfl ?_
        refine RgOK.s (v := VB (true)) rfl rfl rfl (e_pick (t := true) (ev_t rfl) rfl) ?_
        refine RgOK.s (v := VB (true)) rfl rfl rfl (e_mv (ev_t rfl)) ?_
        refine RgOK.sk rfl rfl rfl ?_
        refine RgOK.sk rfl rfl rfl ?_
        refine RgOK.sk rfl rfl rfl ?_
        refine RgOK.sk rfl rfl rfl ?_
        refine RgOK.sk rfl rfl rfl ?_
        refine RgOK.s (v := VB (true)) rfl rfl rfl (e_pick (t := true) (ev_t rfl) rfl) ?_
        refine RgOK.nil ?_
        show CdOK _ _ _ _ _ _
        refine CdOK.cond_true rfl ?_
        refine CdOK.seq ?_
        refine CdOK.region ?_
        refine RgOK.s (v := VB (false)) rfl rfl rfl (e_as rfl) ?_
        refine RgOK.nil ?_
        show CdOK _ _ _ _ _ _
        refine CdOK.ret ?_
        refine ⟨.inr rfl, _, rfl, h, [⟨[I (e_.lsn), I (e_.kind_), I (e_.tx), I (e_.prevTx), I (e_.prevPage), I (e_.ref), I (e_.change.page), I (e_.change.slot), Bo (e_.change.before.set_), .v (.string e_.change.before.data), Bo (e_.change.after.set_), .v (.string e_.change.after.data), .v (.string e_.blob)], true, true⟩], _, rfl, rfl, hC, ((renFlV rfl) : RenV _ _ _ _ (VB (false))), ?_⟩
        have hr := hm.ret
        subst hr
        exact ⟨rfl, rfl⟩
      · intro c6; replace hm := hm.ifn c6
        refine RgOK.s (v := VB (false)) rfl rfl rfl (e_pick (t := false) (ev_t rfl) (ev_t rfl)) ?_
        refine RgOK.s (v := VB (false)) rfl rfl rfl (e_mv (ev_t rfl)) ?_
        refine RgOK.s (v := .o (.c (.ptr (h.length + 0) 1))) rfl rfl rfl (e_fa' fa59_1 (ev_t rfl)) ?_
        refine RgOK.s (v := VI (e_.kind_)) rfl rfl rfl (e_ldb1 (ev_t rfl) ty3 (bx rfl rfl) rfl) ?_
        refine RgOK.sd rfl rfl rfl (e_bin (ev_t rfl) rfl rfl rfl) ?_ ?_
        · intro c7; replace hm := hm.ifp c7
          refine RgOK.s (v := VB (true)) rfl rfl rfl (e_pick (t := false) (ev_t rfl) (ev_t rfl)) ?_
          refine RgOK.s (v := VB (true)) rfl rfl rfl (e_mv (ev_t rfl)) ?_
          refine RgOK.sk rfl rfl rfl ?_
          refine RgOK.sk rfl rfl rfl ?_
          refine RgOK.sk rfl rfl rfl ?_
          refine RgOK.sk rfl rfl rfl ?_
          refine RgOK.sk rfl rfl rfl ?_
          refine RgOK.s (v := VB (true)) rfl rfl rfl (e_pick (t := true) (ev_t rfl) rfl) ?_
          refine RgOK.s (v := VB (true)) rfl rfl rfl (e_mv (ev_t rfl)) ?_
          refine RgOK.sk rfl rfl rfl ?_
          refine RgOK.sk rfl rfl rfl ?_
          refine RgOK.sk rfl rfl rfl ?_
          refine RgOK.sk rfl rfl rfl ?_
          refine RgOK.sk rfl rfl rfl ?_
          refine RgOK.s (v := VB (true)) rfl rfl rfl (e_pick (t := true) (ev_t rfl) rfl) ?_
          refine RgOK.s (v := VB (true)) rfl rfl rfl (e_mv (ev_t rfl)) ?_
          refine RgOK.sk rfl rfl rfl ?_
          refine RgOK.sk rfl rfl rfl ?_
          refine RgOK.sk rfl rfl rfl ?_
          refine RgOK.sk rfl rfl rfl ?_
          refine RgOK.sk rfl rfl rfl ?_
          refine RgOK.s (v := VB (true)) rfl rfl rfl (e_pick (t := true) (ev_t rfl) rfl) ?_
          refine RgOK.nil ?_
          show CdOK _ _ _ _ _ _
          refine CdOK.cond_true rfl ?_
          refine CdOK.seq ?_
          refine CdOK.region ?_
          refine RgOK.s (v := VB (false)) rfl rfl rfl (e_as rfl) ?_
          refine RgOK.nil ?_
          show CdOK _ _ _ _ _ _
          refine CdOK.ret ?_
          refine ⟨.inr rfl, _, rfl, h, [⟨[I (e_.lsn), I (e_.kind_), I (e_.tx), I (e_.prevTx), I (e_.prevPage), I (e_.ref), I (e_.change.page), I (e_.change.slot), Bo (e_.change.before.set_), .v (.string e_.change.before.data), Bo (e_.change.after.set_), .v (.string e_.change.after.data), .v (.string e_.blob)], true, true⟩], _, rfl, rfl, hC, ((renFlV rfl) : RenV _ _ _ _ (VB (false))), ?_⟩
          have hr := hm.ret
          subst hr
          exact ⟨rfl, rfl⟩
        · intro c8; replace hm := hm.ifn c8
          refine RgOK.s (v := VB (false)) rfl rfl rfl (e_pick (t := false) (ev_t rfl) (ev_t rfl)) ?_
          refine RgOK.s (v := VB (false)) rfl rfl rfl (e_mv (ev_t rfl)) ?_
          refine RgOK.s (v := .o (.c (.ptr (h.length + 0) 3))) rfl rfl rfl (e_fa' fa59_3 (ev_t rfl)) ?_
          refine RgOK.s (v := VI (e_.prevTx)) rfl rfl rfl (e_ldb1 (ev_t rfl) ty3 (bx rfl rfl) rfl) ?_
          refine RgOK.s (v := .o (.agg [I (e_.lsn), I (e_.kind_), I (e_.tx), I (e_.prevTx), I (e_.prevPage), I (e_.ref), I (e_.change.page), I (e_.change.slot), Bo (e_.change.before.set_), .v (.string e_.change.before.data), Bo (e_.change.after.set_), .v (.string e_.change.after.data), .v (.string e_.blob)])) rfl rfl rfl (e_ldbA (ev_t rfl) ty59 (bx rfl rfl) rfl rfl) ?_
          obtain ⟨x9, e9, hm⟩ := hm.call
          cases x9 with
          | true =>
            replace hm := hm.ifp rfl
            refine RgOK.cl rfl rfl rfl rfl pl187 (R2.wk _) (entry_before_ok   e9) ?_
            rintro _ _ ⟨rfl, rfl⟩
            refine RgOK.s (v := VB (false)) rfl rfl rfl (e_un (ev_t rfl) rfl) ?_
            refine RgOK.s (v := VB (false)) rfl rfl rfl (e_pick (t := false) (ev_t rfl) (ev_t rfl)) ?_
            refine RgOK.s (v := VB (false)) rfl rfl rfl (e_mv (ev_t rfl)) ?_
            refine RgOK.s (v := .o (.c (.ptr (h.length + 0) 4))) rfl rfl rfl (e_fa' fa59_4 (ev_t rfl)) ?_
            refine RgOK.s (v := VI (e_.prevPage)) rfl rfl rfl (e_ldb1 (ev_t rfl) ty3 (bx rfl rfl) rfl) ?_
            refine RgOK.s (v := .o (.agg [I (e_.lsn), I (e_.kind_), I (e_.tx), I (e_.prevTx), I (e_.prevPage), I (e_.ref), I (e_.change.page), I (e_.change.slot), Bo (e_.change.before.set_), .v (.string e_.change.before.data), Bo (e_.change.after.set_), .v (.string e_.change.after.data), .v (.string e_.blob)])) rfl rfl rfl (e_ldbA (ev_t rfl) ty59 (bx rfl rfl) rfl rfl) ?_
            obtain ⟨x10, e10, hm⟩ := hm.call
            cases x10 with
            | true =>
              replace hm := hm.ifp rfl
              refine RgOK.cl rfl rfl rfl rfl pl187 (R2.wk _) (entry_before_ok   e10) ?_
              rintro _ _ ⟨rfl, rfl⟩
              refine RgOK.s (v := VB (false)) rfl rfl rfl (e_un (ev_t rfl) rfl) ?_
              refine RgOK.s (v := VB (false)) rfl rfl rfl (e_pick (t := false) (ev_t rfl) (ev_t rfl)) ?_
              refine RgOK.s (v := VB (false)) rfl rfl rfl (e_mv (ev_t rfl)) ?_
              refine RgOK.s (v := .o (.c (.ptr (h.length + 0) 5))) rfl rfl rfl (e_fa' fa59_5 (ev_t rfl)) ?_
              refine RgOK.s (v := VI (e_.ref)) rfl rfl rfl (e_ldb1 (ev_t rfl) ty3 (bx rfl rfl) rfl) ?_
              refine RgOK.s (v := .o (.agg [I (e_.lsn), I (e_.kind_), I (e_.tx), I (e_.prevTx), I (e_.prevPage), I (e_.ref), I (e_.change.page), I (e_.change.slot), Bo (e_.change.before.set_), .v (.string e_.change.before.data), Bo (e_.change.after.set_), .v (.string e_.change.after.data), .v (.string e_.blob)])) rfl rfl rfl (e_ldbA (ev_t rfl) ty59 (bx rfl rfl) rfl rfl) ?_
              obtain ⟨x11, e11, hm⟩ := hm.call
              refine RgOK.cl rfl rfl rfl rfl pl187 (R2.wk _) (entry_before_ok   e11) ?_
              rintro _ _ ⟨rfl, rfl⟩
              refine RgOK.s (v := VB ((!x11))) rfl rfl rfl (e_un (ev_t rfl) rfl) ?_
              refine RgOK.s (v := VB ((!x11))) rfl rfl rfl (e_pick (t := false) (ev_t rfl) (ev_t rfl)) ?_
              refine RgOK.nil ?_
              show CdOK _ _ _ _ _ _
              refine CdOK.condB (ev_t rfl) ?_ ?_
              · intro c12; replace hm := hm.ifp c12
                refine CdOK.seq ?_
                refine CdOK.region ?_
                refine RgOK.s (v := VB (false)) rfl rfl rfl (e_as rfl) ?_
                refine RgOK.nil ?_
                show CdOK _ _ _ _ _ _
                refine CdOK.ret ?_
                refine ⟨.inr rfl, _, rfl, h, [⟨[I (e_.lsn), I (e_.kind_), I (e_.tx), I (e_.prevTx), I (e_.prevPage), I (e_.ref), I (e_.change.page), I (e_.change.slot), Bo (e_.change.before.set_), .v (.string e_.change.before.data), Bo (e_.change.after.set_), .v (.string e_.change.after.data), .v (.string e_.blob)], true, true⟩], _, rfl, rfl, hC, ((renFlV rfl) : RenV _ _ _ _ (VB (false))), ?_⟩
                have hr := hm.ret
                subst hr
                exact ⟨rfl, rfl⟩
              · intro c13; replace hm := hm.ifn c13
                refine CdOK.skip ?_
                show CdOK _ _ _ _ _ _
                refine CdOK.seq ?_
                refine CdOK.draw2 (ord := [0, 1, 2, 3, 4, 5]) (chain := [4, 5]) fol (by decide +kernel) (by decide +kernel) ?_
                refine Dr2.fc (v := entry_rules_v) rfl rfl rfl rfl rfl rfl rfl pl188 (R2.wk _) (entry_rules_ok rfl) ?_
                refine Dr2.s (v := .o (.c (.ptr (h.length + 0) 1))) rfl rfl rfl rfl rfl rfl (e_fa' fa59_1 (ev_t rfl)) ?_
                refine Dr2.f (v := VI (e_.kind_)) rfl rfl rfl rfl rfl rfl (e_ldb1 (ev_t rfl) ty3 (bx rfl rfl) rfl) ?_
                obtain ⟨c14, hm⟩ := hm.ifs
                refine Dr2.s (v := .o (.agg [Bo true, Bo false, Bo true, Bo false, Bo false, .fn 203 [], .fn 205 []])) rfl rfl rfl rfl rfl rfl (e_ixK (n := 1) (ev_t rfl) (ev_t rfl) c14 (by kernel_rfl)) ?_
                refine Dr2.c (v := .o (.c (.ptr (h.length + 1) 0))) rfl rfl rfl rfl rfl (e_allocN (L' := [⟨[I (e_.lsn), I (e_.kind_), I (e_.tx), I (e_.prevTx), I (e_.prevPage), I (e_.ref), I (e_.change.page), I (e_.change.slot), Bo (e_.change.before.set_), .v (.string e_.change.before.data), Bo (e_.change.after.set_), .v (.string e_.change.after.data), .v (.string e_.blob)], true, true⟩, ⟨[Bo false, Bo false, Bo false, Bo false, Bo false, .v .nilFunc, .v .nilFunc], true, true⟩]) rfl zo208 rfl rfl) (.e rfl rfl (e_ldb1 (ev_t rfl) ty3 (bx rfl rfl) rfl) (.c rfl rfl rfl pl188 (R2.wk _) (entry_rules_ok rfl) .nil)) ?_
                refine Dr2.c0 rfl rfl rfl rfl (e_stN (L' := [⟨[I (e_.lsn), I (e_.kind_), I (e_.tx), I (e_.prevTx), I (e_.prevPage), I (e_.ref), I (e_.change.page), I (e_.change.slot), Bo (e_.change.before.set_), .v (.string e_.change.before.data), Bo (e_.change.after.set_), .v (.string e_.change.after.data), .v (.string e_.blob)], true, true⟩, ⟨[Bo true, Bo false, Bo true, Bo false, Bo false, .fn 203 [], .fn 205 []], true, true⟩]) rfl (ev_t rfl) (ev_t rfl) ty208 rfl rfl rfl rfl rfl) (.m (by decide +kernel) (.m (by decide +kernel) .nil)) ?_
                refine Dr2.nil ?_
                show CdOK _ _ _ _ _ _
                replace hm := hm.bnd
                refine CdOK.joinE (σ := Unit) (fun s => Sum.inl ()) hm (fun s => [(1, .o (.c (.ptr (h.length + 0) 0))), (3, .o (.c (.ptr (h.length + 1) 0)))]) (fun s => h ++ ([⟨[I (e_.lsn), I (e_.kind_), I (e_.tx), I (e_.prevTx), I (e_.prevPage), I (e_.ref), I (e_.change.page), I (e_.change.slot), Bo (e_.change.before.set_), .v (.string e_.change.before.data), Bo (e_.change.after.set_), .v (.string e_.change.after.data), .v (.string e_.blob)], true, true⟩, ⟨[Bo true, Bo false, Bo true, Bo false, Bo false, .fn 203 [], .fn 205 []], true, true⟩] : Heap)) ?_ ?_
                · intro hm
                  refine CdOK.block ?_
                  replace hm := hm.bnd
                  refine CdOK.joinE (σ := Bool) (fun s => s) hm (fun s => [(1, .o (.c (.ptr (h.length + 0) 0))), (3, .o (.c (.ptr (h.length + 1) 0))), (47, VB (s))]) (fun s => h ++ ([⟨[I (e_.lsn), I (e_.kind_), I (e_.tx), I (e_.prevTx), I (e_.prevPage), I (e_.ref), I (e_.change.page), I (e_.change.slot), Bo (e_.change.before.set_), .v (.string e_.change.before.data), Bo (e_.change.after.set_), .v (.string e_.change.after.data), .v (.string e_.blob)], true, true⟩, ⟨[Bo true, Bo false, Bo true, Bo false, Bo false, .fn 203 [], .fn 205 []], true, true⟩] : Heap)) ?_ ?_
                  · intro hm
                    refine CdOK.seq ?_
                    refine CdOK.region ?_
                    refine RgOK.s (v := .o (.c (.ptr (h.length + 1) 0))) rfl rfl rfl (e_fa' fa208_0 (ev_t rfl)) ?_
                    refine RgOK.s (v := VB (true)) rfl rfl rfl (e_ldb1 (ev_t rfl) ty4 (bx rfl rfl) rfl) ?_
                    refine RgOK.s (v := VB (true)) rfl rfl rfl (e_mv (ev_t rfl)) ?_
                    refine RgOK.s (v := .o (.c (.ptr (h.length + 0) 2))) rfl rfl rfl (e_fa' fa59_2 (ev_t rfl)) ?_
                    refine RgOK.s (v := VI (e_.tx)) rfl rfl rfl (e_ldb1 (ev_t rfl) ty3 (bx rfl rfl) rfl) ?_
                    refine RgOK.sd rfl rfl rfl (e_bin (ev_t rfl) rfl rfl rfl) ?_ ?_
                    · intro c16; replace hm := hm.ifp c16
                      refine RgOK.s (v := VB (true)) rfl rfl rfl (e_mv (ev_t rfl)) ?_
                      refine RgOK.sk rfl rfl rfl ?_
                      refine RgOK.sk rfl rfl rfl ?_
                      refine RgOK.sk rfl rfl rfl ?_
                      refine RgOK.s (v := VB (true)) rfl rfl rfl (e_pick (t := true) (ev_t rfl) rfl) ?_
                      refine RgOK.s (v := VB (true)) rfl rfl rfl (e_pick (t := true) (ev_t rfl) (ev_t rfl)) ?_
                      refine RgOK.s (v := VB (true)) rfl rfl rfl (e_as (ev_t rfl)) ?_
                      refine RgOK.nil ?_
                      show CdOK _ _ _ _ _ _
                      refine CdOK.cond_true rfl ?_
                      refine CdOK.skip ?_
                      refine Told.id ?_
                      exact ⟨true, hm.ret, (.cons rfl (.cons rfl (.cons rfl .nil))), rfl⟩
                    · intro c17; replace hm := hm.ifn c17
                      refine RgOK.s (v := VB (false)) rfl rfl rfl (e_mv (ev_t rfl)) ?_
                      refine RgOK.s (v := .o (.c (.ptr (h.length + 0) 2))) rfl rfl rfl (e_fa' fa59_2 (ev_t rfl)) ?_
                      refine RgOK.s (v := VI (e_.tx)) rfl rfl rfl (e_ldb1 (ev_t rfl) ty3 (bx rfl rfl) rfl) ?_
                      refine RgOK.s (v := VB (decide (1073741824 < e_.tx))) rfl rfl rfl (e_bin (ev_t rfl) rfl rfl rfl) ?_
                      refine RgOK.s (v := VB (decide (1073741824 < e_.tx))) rfl rfl rfl (e_pick (t := false) (ev_t rfl) (ev_t rfl)) ?_
                      refine RgOK.s (v := VB (decide (1073741824 < e_.tx))) rfl rfl rfl (e_pick (t := true) (ev_t rfl) (ev_t rfl)) ?_
                      refine RgOK.s (v := VB (decide (1073741824 < e_.tx))) rfl rfl rfl (e_as (ev_t rfl)) ?_
                      refine RgOK.nil ?_
                      show CdOK _ _ _ _ _ _
                      refine CdOK.condD (ev_t rfl) ?_ ?_
                      · intro c18; replace hm := hm.ifp c18
                        refine CdOK.skip ?_
                        refine Told.id ?_
                        exact ⟨(decide (1073741824 < e_.tx)), hm.ret, (.cons rfl (.cons rfl (.cons rfl .nil))), rfl⟩
                      · intro c19; replace hm := hm.ifn c19
                        refine CdOK.region ?_
                        refine RgOK.s (v := .o (.c (.ptr (h.length + 1) 1))) rfl rfl rfl (e_fa' fa208_1 (ev_t rfl)) ?_
                        refine RgOK.s (v := VB (false)) rfl rfl rfl (e_ldb1 (ev_t rfl) ty4 (bx rfl rfl) rfl) ?_
                        refine RgOK.s (v := VB (false)) rfl rfl rfl (e_mv (ev_t rfl)) ?_
                        refine RgOK.sk rfl rfl rfl ?_
                        refine RgOK.sk rfl rfl rfl ?_
                        refine RgOK.sk rfl rfl rfl ?_
                        refine RgOK.s (v := VB (false)) rfl rfl rfl (e_pick (t := false) (ev_t rfl) rfl) ?_
                        refine RgOK.s (v := VB (false)) rfl rfl rfl (e_as (ev_t rfl)) ?_
                        refine RgOK.nil ?_
                        refine Told.id ?_
                        exact ⟨false, hm.ret, (.cons rfl (.cons rfl (.cons rfl .nil))), rfl⟩
                  · rintro t4715 T0 hm
                    show CdOK _ _ _ (look T0 [(1, .o (.c (.ptr (h.length + 0) 0))), (3, .o (.c (.ptr (h.length + 1) 0))), (47, VB (t4715))]) (h ++ ([⟨[I (e_.lsn), I (e_.kind_), I (e_.tx), I (e_.prevTx), I (e_.prevPage), I (e_.ref), I (e_.change.page), I (e_.change.slot), Bo (e_.change.before.set_), .v (.string e_.change.before.data), Bo (e_.change.after.set_), .v (.string e_.change.after.data), .v (.string e_.blob)], true, true⟩, ⟨[Bo true, Bo false, Bo true, Bo false, Bo false, .fn 203 [], .fn 205 []], true, true⟩] : Heap)) _
                    refine CdOK.condB (ev_t rfl) ?_ ?_
                    · intro c21; replace hm := hm.ifp c21
                      refine CdOK.seq ?_
                      refine CdOK.region ?_
                      refine RgOK.s (v := VB (false)) rfl rfl rfl (e_as rfl) ?_
                      refine RgOK.nil ?_
                      show CdOK _ _ _ _ _ _
                      refine CdOK.ret ?_
                      refine ⟨.inr rfl, _, rfl, h, [⟨[I (e_.lsn), I (e_.kind_), I (e_.tx), I (e_.prevTx), I (e_.prevPage), I (e_.ref), I (e_.change.page), I (e_.change.slot), Bo (e_.change.before.set_), .v (.string e_.change.before.data), Bo (e_.change.after.set_), .v (.string e_.change.after.data), .v (.string e_.blob)], true, true⟩, ⟨[Bo true, Bo false, Bo true, Bo false, Bo false, .fn 203 [], .fn 205 []], true, true⟩], _, rfl, rfl, hC, ((renFlV rfl) : RenV _ _ _ _ (VB (false))), ?_⟩
                      have hr := hm.ret
                      replace hr := Ev.ret hr
                      subst hr
                      exact ⟨rfl, rfl⟩
                    · intro c22; replace hm := hm.ifn c22
                      refine CdOK.seq ?_
                      refine CdOK.seq ?_
                      refine CdOK.region ?_
                      refine RgOK.s (v := .o (.c (.ptr (h.length + 1) 0))) rfl rfl rfl (e_fa' fa208_0 (ev_t rfl)) ?_
                      refine RgOK.s (v := VB (true)) rfl rfl rfl (e_ldb1 (ev_t rfl) ty4 (bx rfl rfl) rfl) ?_
                      refine RgOK.s (v := VB (false)) rfl rfl rfl (e_un (ev_t rfl) rfl) ?_
                      refine RgOK.s (v := VB (false)) rfl rfl rfl (e_mv (ev_t rfl)) ?_
                      refine RgOK.sk rfl rfl rfl ?_
                      refine RgOK.sk rfl rfl rfl ?_
                      refine RgOK.sk rfl rfl rfl ?_
                      refine RgOK.sk rfl rfl rfl ?_
                      refine RgOK.sk rfl rfl rfl ?_
                      refine RgOK.sk rfl rfl rfl ?_
                      refine RgOK.sk rfl rfl rfl ?_
                      refine RgOK.sk rfl rfl rfl ?_
                      refine RgOK.s (v := VB (false)) rfl rfl rfl (e_pick (t := false) (ev_t rfl) rfl) ?_
                      refine RgOK.s (v := VB (false)) rfl rfl rfl (e_as (ev_t rfl)) ?_
                      refine RgOK.nil ?_
                      show CdOK _ _ _ _ _ _
                      refine CdOK.cond_false rfl ?_
                      refine CdOK.seq ?_
                      refine CdOK.region ?_
                      refine RgOK.s (v := .o (.c (.ptr (h.length + 1) 2))) rfl rfl rfl (e_fa' fa208_2 (ev_t rfl)) ?_
                      refine RgOK.s (v := VB (true)) rfl rfl rfl (e_ldb1 (ev_t rfl) ty4 (bx rfl rfl) rfl) ?_
                      refine RgOK.s (v := VB (false)) rfl rfl rfl (e_un (ev_t rfl) rfl) ?_
                      refine RgOK.s (v := VB (false)) rfl rfl rfl (e_mv (ev_t rfl)) ?_
                      refine RgOK.sk rfl rfl rfl ?_
                      refine RgOK.sk rfl rfl rfl ?_
                      refine RgOK.sk rfl rfl rfl ?_
                      refine RgOK.s (v := VB (false)) rfl rfl rfl (e_pick (t := false) (ev_t rfl) rfl) ?_
                      refine RgOK.s (v := VB (false)) rfl rfl rfl (e_as (ev_t rfl)) ?_
                      refine RgOK.nil ?_
                      show CdOK _ _ _ _ _ _
                      refine CdOK.cond_false rfl ?_
                      refine CdOK.seq ?_
                      refine CdOK.region ?_
                      refine RgOK.s (v := .o (.c (.ptr (h.length + 1) 3))) rfl rfl rfl (e_fa' fa208_3 (ev_t rfl)) ?_
                      refine RgOK.s (v := VB (false)) rfl rfl rfl (e_ldb1 (ev_t rfl) ty4 (bx rfl rfl) rfl) ?_
                      refine RgOK.s (v := VB (true)) rfl rfl rfl (e_un (ev_t rfl) rfl) ?_
                      refine RgOK.s (v := VB (true)) rfl rfl rfl (e_mv (ev_t rfl)) ?_
                      refine RgOK.s (v := .o (.c (.ptr (h.length + 0) 5))) rfl rfl rfl (e_fa' fa59_5 (ev_t rfl)) ?_
                      refine RgOK.s (v := VI (e_.ref)) rfl rfl rfl (e_ldb1 (ev_t rfl) ty3 (bx rfl rfl) rfl) ?_
                      refine RgOK.s (v := VB (decide (e_.ref ≠ 0))) rfl rfl rfl (e_neK (ev_t rfl) rfl) ?_
                      refine RgOK.s (v := VB (decide (e_.ref ≠ 0))) rfl rfl rfl (e_pick (t := true) (ev_t rfl) (ev_t rfl)) ?_
                      refine RgOK.s (v := VB (decide (e_.ref ≠ 0))) rfl rfl rfl (e_as (ev_t rfl)) ?_
                      refine RgOK.nil ?_
                      show CdOK _ _ _ _ _ _
                      refine CdOK.condD (ev_t rfl) ?_ ?_
                      · intro c23; replace hm := hm.ifp c23
                        refine CdOK.skip ?_
                        show CdOK _ _ _ _ _ _
                        refine CdOK.condD (ev_t rfl) ?_ ?_
                        · intro c24; replace hm := hm.ifp c24
                          refine CdOK.seq ?_
                          refine CdOK.region ?_
                          refine RgOK.s (v := VB (false)) rfl rfl rfl (e_as rfl) ?_
                          refine RgOK.nil ?_
                          show CdOK _ _ _ _ _ _
                          refine CdOK.ret ?_
                          refine ⟨.inr rfl, _, rfl, h, [⟨[I (e_.lsn), I (e_.kind_), I (e_.tx), I (e_.prevTx), I (e_.prevPage), I (e_.ref), I (e_.change.page), I (e_.change.slot), Bo (e_.change.before.set_), .v (.string e_.change.before.data), Bo (e_.change.after.set_), .v (.string e_.change.after.data), .v (.string e_.blob)], true, true⟩, ⟨[Bo true, Bo false, Bo true, Bo false, Bo false, .fn 203 [], .fn 205 []], true, true⟩], _, rfl, rfl, hC, ((renFlV rfl) : RenV _ _ _ _ (VB (false))), ?_⟩
                          have hr := hm.ret
                          replace hr := Ev.ret hr
                          subst hr
                          exact ⟨rfl, rfl⟩
                        · intro c25; replace hm := hm.ifn c25
                          refine CdOK.skip ?_
                          refine Told.id ?_
                          exact ⟨(), hm.ret, (.cons rfl (.cons rfl .nil)), rfl⟩
                      · intro c26; replace hm := hm.ifn c26
                        refine CdOK.region ?_
                        refine RgOK.s (v := .o (.c (.ptr (h.length + 1) 4))) rfl rfl rfl (e_fa' fa208_4 (ev_t rfl)) ?_
                        refine RgOK.s (v := VB (false)) rfl rfl rfl (e_ldb1 (ev_t rfl) ty4 (bx rfl rfl) rfl) ?_
                        refine RgOK.s (v := VB (true)) rfl rfl rfl (e_un (ev_t rfl) rfl) ?_
                        refine RgOK.s (v := VB (true)) rfl rfl rfl (e_mv (ev_t rfl)) ?_
                        refine RgOK.s (v := .o (.c (.ptr (h.length + 0) 12))) rfl rfl rfl (e_fa' fa59_7 (ev_t rfl)) ?_
                        refine RgOK.s (v := .o (.c (.v (.string e_.blob)))) rfl rfl rfl (e_ldb1 (ev_t rfl) ty9 (bx rfl rfl) rfl) ?_
                        refine RgOK.s (v := VB ((!((e_.blob).toList == (({ data := #[] } : ByteArray)).toList)))) rfl rfl rfl (e_bin (ev_t rfl) rfl rfl rfl) ?_
                        refine RgOK.s (v := VB ((!((e_.blob).toList == (({ data := #[] } : ByteArray)).toList)))) rfl rfl rfl (e_pick (t := true) (ev_t rfl) (ev_t rfl)) ?_
                        refine RgOK.s (v := VB ((!((e_.blob).toList == (({ data := #[] } : ByteArray)).toList)))) rfl rfl rfl (e_as (ev_t rfl)) ?_
                        refine RgOK.nil ?_
                        show CdOK _ _ _ _ _ _
                        refine CdOK.condB (ev_t rfl) ?_ ?_
                        · intro c27; replace hm := hm.ifp c27
                          refine CdOK.seq ?_
                          refine CdOK.region ?_
                          refine RgOK.s (v := VB (false)) rfl rfl rfl (e_as rfl) ?_
                          refine RgOK.nil ?_
                          show CdOK _ _ _ _ _ _
                          refine CdOK.ret ?_
                          refine ⟨.inr rfl, _, rfl, h, [⟨[I (e_.lsn), I (e_.kind_), I (e_.tx), I (e_.prevTx), I (e_.prevPage), I (e_.ref), I (e_.change.page), I (e_.change.slot), Bo (e_.change.before.set_), .v (.string e_.change.before.data), Bo (e_.change.after.set_), .v (.string e_.change.after.data), .v (.string e_.blob)], true, true⟩, ⟨[Bo true, Bo false, Bo true, Bo false, Bo false, .fn 203 [], .fn 205 []], true, true⟩], _, rfl, rfl, hC, ((renFlV rfl) : RenV _ _ _ _ (VB (false))), ?_⟩
                          have hr := hm.ret
                          replace hr := Ev.ret hr
                          subst hr
                          exact ⟨rfl, rfl⟩
                        · intro c28; replace hm := hm.ifn c28
                          refine CdOK.skip ?_
                          refine Told.id ?_
                          exact ⟨(), hm.ret, (.cons rfl (.cons rfl .nil)), rfl⟩
                · intro _ T0 hm
                  show CdOK _ _ _ (look T0 [(1, .o (.c (.ptr (h.length + 0) 0))), (3, .o (.c (.ptr (h.length + 1) 0)))]) (h ++ ([⟨[I (e_.lsn), I (e_.kind_), I (e_.tx), I (e_.prevTx), I (e_.prevPage), I (e_.ref), I (e_.change.page), I (e_.change.slot), Bo (e_.change.before.set_), .v (.string e_.change.before.data), Bo (e_.change.after.set_), .v (.string e_.change.after.data), .v (.string e_.blob)], true, true⟩, ⟨[Bo true, Bo false, Bo true, Bo false, Bo false, .fn 203 [], .fn 205 []], true, true⟩] : Heap)) _
                  replace hm : Ev _ _ := hm
                  refine CdOK.seq ?_
                  refine CdOK.region ?_
                  refine RgOK.s (v := .o (.c (.ptr (h.length + 0) 12))) rfl rfl rfl (e_fa' fa59_7 (ev_t rfl)) ?_
                  refine RgOK.s (v := .o (.c (.v (.string e_.blob)))) rfl rfl rfl (e_ldb1 (ev_t rfl) ty9 (bx rfl rfl) rfl) ?_
                  refine RgOK.s (v := VI ((e_.blob.size : Int))) rfl rfl rfl (e_lenS' (ev_t rfl) str9) ?_
                  refine RgOK.sd rfl rfl rfl (e_bin (ev_t rfl) rfl rfl rfl) ?_ ?_
                  · intro c30; replace hm := hm.ifp c30
                    refine RgOK.s (v := VB (true)) rfl rfl rfl (e_mv (ev_t rfl)) ?_
                    refine RgOK.s (v := .o (.c (.ptr (h.length + 1) 5))) rfl rfl rfl (e_fa' fa208_5 (ev_t rfl)) ?_
                    refine RgOK.s (v := .o (.c (.fn 203 []))) rfl rfl rfl (e_ldb1 (ev_t rfl) ty132 (bx rfl rfl) rfl) ?_
                    refine RgOK.s (v := .o (.agg [I (e_.lsn), I (e_.kind_), I (e_.tx), I (e_.prevTx), I (e_.prevPage), I (e_.ref), I (e_.change.page), I (e_.change.slot), Bo (e_.change.before.set_), .v (.string e_.change.before.data), Bo (e_.change.after.set_), .v (.string e_.change.after.data), .v (.string e_.blob)])) rfl rfl rfl (e_ldbA (ev_t rfl) ty59 (bx rfl rfl) rfl rfl) ?_
                    obtain ⟨x31, e31, hm⟩ := hm.call
                    cases x31 with
                    | true =>
                      replace hm := hm.ifp rfl
                      refine RgOK.cl rfl rfl rfl rfl pl203 (R2.wk _) (entry_rules_1_ok   e31) ?_
                      rintro _ _ ⟨rfl, rfl⟩
                      refine RgOK.s (v := VB (true)) rfl rfl rfl (e_pick (t := true) (ev_t rfl) (ev_t rfl)) ?_
                      refine RgOK.s (v := VB (true)) rfl rfl rfl (e_mv (ev_t rfl)) ?_
                      refine RgOK.s (v := .o (.c (.ptr (h.length + 1) 6))) rfl rfl rfl (e_fa' fa208_6 (ev_t rfl)) ?_
                      refine RgOK.s (v := .o (.c (.fn 205 []))) rfl rfl rfl (e_ldb1 (ev_t rfl) ty206 (bx rfl rfl) rfl) ?_
                      refine RgOK.s (v := .o (.c (.ptr (h.length + 0) 6))) rfl rfl rfl (e_fa' fa59_6 (ev_t rfl)) ?_
                      refine RgOK.s (v := .o (.agg [I (e_.change.page), I (e_.change.slot), Bo (e_.change.before.set_), .v (.string e_.change.before.data), Bo (e_.change.after.set_), .v (.string e_.change.after.data)])) rfl rfl rfl (e_ldbA (ev_t rfl) ty57 (bx rfl rfl) rfl rfl) ?_
                      obtain ⟨x32, e32, hm⟩ := hm.call
                      refine RgOK.cl rfl rfl rfl rfl pl205 (R2.wk _) (change_Valid_ok   e32) ?_
                      rintro _ _ ⟨rfl, rfl⟩
                      refine RgOK.s (v := VB (x32)) rfl rfl rfl (e_pick (t := true) (ev_t rfl) (ev_t rfl)) ?_
                      refine RgOK.s (v := VB (x32)) rfl rfl rfl (e_as (ev_t rfl)) ?_
                      refine RgOK.nil ?_
                      show CdOK _ _ _ _ _ _
                      refine CdOK.ret ?_
                      refine ⟨.inr rfl, _, rfl, h, [⟨[I (e_.lsn), I (e_.kind_), I (e_.tx), I (e_.prevTx), I (e_.prevPage), I (e_.ref), I (e_.change.page), I (e_.change.slot), Bo (e_.change.before.set_), .v (.string e_.change.before.data), Bo (e_.change.after.set_), .v (.string e_.change.after.data), .v (.string e_.blob)], true, true⟩, ⟨[Bo true, Bo false, Bo true, Bo false, Bo false, .fn 203 [], .fn 205 []], true, true⟩], _, rfl, rfl, hC, ((renFlV rfl) : RenV _ _ _ _ (VB (x32))), ?_⟩
                      have hr := hm.ret
                      subst hr
                      exact ⟨rfl, rfl⟩
                    | false =>
                      replace hm := hm.ifn Bool.false_ne_true
                      refine RgOK.cl rfl rfl rfl rfl pl203 (R2.wk _) (entry_rules_1_ok   e31) ?_
                      rintro _ _ ⟨rfl, rfl⟩
                      refine RgOK.s (v := VB (false)) rfl rfl rfl (e_pick (t := true) (ev_t rfl) (ev_t rfl)) ?_
                      refine RgOK.s (v := VB (false)) rfl rfl rfl (e_mv (ev_t rfl)) ?_
                      refine RgOK.sk rfl rfl rfl ?_
                      refine RgOK.sk rfl rfl rfl ?_
                      refine RgOK.sk rfl rfl rfl ?_
                      refine RgOK.sk rfl rfl rfl ?_
                      refine RgOK.sk rfl rfl rfl ?_
                      refine RgOK.s (v := VB (false)) rfl rfl rfl (e_pick (t := false) (ev_t rfl) rfl) ?_
                      refine RgOK.s (v := VB (false)) rfl rfl rfl (e_as (ev_t rfl)) ?_
                      refine RgOK.nil ?_
                      show CdOK _ _ _ _ _ _
                      refine CdOK.ret ?_
                      refine ⟨.inr rfl, _, rfl, h, [⟨[I (e_.lsn), I (e_.kind_), I (e_.tx), I (e_.prevTx), I (e_.prevPage), I (e_.ref), I (e_.change.page), I (e_.change.slot), Bo (e_.change.before.set_), .v (.string e_.change.before.data), Bo (e_.change.after.set_), .v (.string e_.change.after.data), .v (.string e_.blob)], true, true⟩, ⟨[Bo true, Bo false, Bo true, Bo false, Bo false, .fn 203 [], .fn 205 []], true, true⟩], _, rfl, rfl, hC, ((renFlV rfl) : RenV _ _ _ _ (VB (false))), ?_⟩
                      have hr := hm.ret
                      subst hr
                      exact ⟨rfl, rfl⟩
                  · intro c33; replace hm := hm.ifn c33
                    refine RgOK.s (v := VB (false)) rfl rfl rfl (e_mv (ev_t rfl)) ?_
                    refine RgOK.sk rfl rfl rfl ?_
                    refine RgOK.sk rfl rfl rfl ?_
                    refine RgOK.sk rfl rfl rfl ?_
                    refine RgOK.sk rfl rfl rfl ?_
                    refine RgOK.s (v := VB (false)) rfl rfl rfl (e_pick (t := false) (ev_t rfl) rfl) ?_
                    refine RgOK.s (v := VB (false)) rfl rfl rfl (e_mv (ev_t rfl)) ?_
                    refine RgOK.sk rfl rfl rfl ?_
                    refine RgOK.sk rfl rfl rfl ?_
                    refine RgOK.sk rfl rfl rfl ?_
                    refine RgOK.sk rfl rfl rfl ?_
                    refine RgOK.sk rfl rfl rfl ?_
                    refine RgOK.s (v := VB (false)) rfl rfl rfl (e_pick (t := false) (ev_t rfl) rfl) ?_
                    refine RgOK.s (v := VB (false)) rfl rfl rfl (e_as (ev_t rfl)) ?_
                    refine RgOK.nil ?_
                    show CdOK _ _ _ _ _ _
                    refine CdOK.ret ?_
                    refine ⟨.inr rfl, _, rfl, h, [⟨[I (e_.lsn), I (e_.kind_), I (e_.tx), I (e_.prevTx), I (e_.prevPage), I (e_.ref), I (e_.change.page), I (e_.change.slot), Bo (e_.change.before.set_), .v (.string e_.change.before.data), Bo (e_.change.after.set_), .v (.string e_.change.after.data), .v (.string e_.blob)], true, true⟩, ⟨[Bo true, Bo false, Bo true, Bo false, Bo false, .fn 203 [], .fn 205 []], true, true⟩], _, rfl, rfl, hC, ((renFlV rfl) : RenV _ _ _ _ (VB (false))), ?_⟩
                    have hr := hm.ret
                    subst hr
                    exact ⟨rfl, rfl⟩
            | false =>
              replace hm := hm.ifn Bool.false_ne_true
              refine RgOK.cl rfl rfl rfl rfl pl187 (R2.wk _) (entry_before_ok   e10) ?_
              rintro _ _ ⟨rfl, rfl⟩
              refine RgOK.s (v := VB (true)) rfl rfl rfl (e_un (ev_t rfl) rfl) ?_
              refine RgOK.s (v := VB (true)) rfl rfl rfl (e_pick (t := false) (ev_t rfl) (ev_t rfl)) ?_
              refine RgOK.s (v := VB (true)) rfl rfl rfl (e_mv (ev_t rfl)) ?_
              refine RgOK.sk rfl rfl rfl ?_
              refine RgOK.sk rfl rfl rfl ?_
              refine RgOK.sk rfl rfl rfl ?_
              refine RgOK.sk rfl rfl rfl ?_
              refine RgOK.sk rfl rfl rfl ?_
              refine RgOK.s (v := VB (true)) rfl rfl rfl (e_pick (t := true) (ev_t rfl) rfl) ?_
              refine RgOK.nil ?_
              show CdOK _ _ _ _ _ _
              refine CdOK.cond_true rfl ?_
              refine CdOK.seq ?_
              refine CdOK.region ?_
              refine RgOK.s (v := VB (false)) rfl rfl rfl (e_as rfl) ?_
              refine RgOK.nil ?_
              show CdOK _ _ _ _ _ _
              refine CdOK.ret ?_
              refine ⟨.inr rfl, _, rfl, h, [⟨[I (e_.lsn), I (e_.kind_), I (e_.tx), I (e_.prevTx), I (e_.prevPage), I (e_.ref), I (e_.change.page), I (e_.change.slot), Bo (e_.change.before.set_), .v (.string e_.change.before.data), Bo (e_.change.after.set_), .v (.string e_.change.after.data), .v (.string e_.blob)], true, true⟩], _, rfl, rfl, hC, ((renFlV rfl) : RenV _ _ _ _ (VB (false))), ?_⟩
              have hr := hm.ret
              subst hr
              exact ⟨rfl, rfl⟩
          | false =>
            replace hm := hm.ifn Bool.false_ne_true
            refine RgOK.cl rfl rfl rfl rfl pl187 (R2.wk _) (entry_before_ok   e9) ?_
            rintro _ _ ⟨rfl, rfl⟩
            refine RgOK.s (v := VB (true)) rfl rfl rfl (e_un (ev_t rfl) rfl) ?_
            refine RgOK.s (v := VB (true)) rfl rfl rfl (e_pick (t := false) (ev_t rfl) (ev_t rfl)) ?_
            refine RgOK.s (v := VB (true)) rfl rfl rfl (e_mv (ev_t rfl)) ?_
            refine RgOK.sk rfl rfl rfl ?_
            refine RgOK.sk rfl rfl rfl ?_
            refine RgOK.sk rfl rfl rfl ?_
            refine RgOK.sk rfl rfl rfl ?_
            refine RgOK.sk rfl rfl rfl ?_
            refine RgOK.s (v := VB (true)) rfl rfl rfl (e_pick (t := true) (ev_t rfl) rfl) ?_
            refine RgOK.s (v := VB (true)) rfl rfl rfl (e_mv (ev_t rfl)) ?_
            refine RgOK.sk rfl rfl rfl ?_
            refine RgOK.sk rfl rfl rfl ?_
            refine RgOK.sk rfl rfl rfl ?_
            refine RgOK.sk rfl rfl rfl ?_
            refine RgOK.sk rfl rfl rfl ?_
            refine RgOK.s (v := VB (true)) rfl rfl rfl (e_pick (t := true) (ev_t rfl) rfl) ?_
            refine RgOK.nil ?_
            show CdOK _ _ _ _ _ _
            refine CdOK.cond_true rfl ?_
            refine CdOK.seq ?_
            refine CdOK.region ?_
            refine RgOK.s (v := VB (false)) rfl rfl rfl (e_as rfl) ?_
            refine RgOK.nil ?_
            show CdOK _ _ _ _ _ _
            refine CdOK.ret ?_
            refine ⟨.inr rfl, _, rfl, h, [⟨[I (e_.lsn), I (e_.kind_), I (e_.tx), I (e_.prevTx), I (e_.prevPage), I (e_.ref), I (e_.change.page), I (e_.change.slot), Bo (e_.change.before.set_), .v (.string e_.change.before.data), Bo (e_.change.after.set_), .v (.string e_.change.after.data), .v (.string e_.blob)], true, true⟩], _, rfl, rfl, hC, ((renFlV rfl) : RenV _ _ _ _ (VB (false))), ?_⟩
            have hr := hm.ret
            subst hr
            exact ⟨rfl, rfl⟩
/- pagemend/transactions.Note -/
def transactions_Note (l_ : (List Tx)) (e_ : AEntry) : Option ((List Tx) × Int) := ((transactions_Valid l_).bind fun (x1 : Bool) => (if (!x1) = true then some (([] : List Tx), 15) else ((entry_Valid e_).bind fun (x4 : Bool) => (if (!x4) = true then some (([] : List Tx), 12) else (if e_.tx = 0 then some (l_, 0) else ((transactions_Find l_ e_.tx).bind fun (x9 : Int) => (if x9 < 0 then some (([] : List Tx), 16) else (if (0 : Int) ≤ x9 ∧ x9 < (l_.length : Int) then ((BinarySearch ((gd l_ x9).pending) e_.ref).bind fun (x13 : (Int × Bool)) => (((if e_.prevTx ≠ ((gd l_ x9).last) then some (Sum.inr (([] : List Tx), 13)) else (if e_.kind_ = 2 then (if (!x13.2) = true then some (Sum.inr (([] : List Tx), 13)) else some (Sum.inl ())) else some (Sum.inl ())))).bind fun (z : Sum Unit ((List Tx) × Int)) => match z with | .inl (s20 : Unit) => (((if e_.kind_ = 1 then ((slices_Clip ((gd l_ x9).pending)).bind fun (x23 : (List Int)) => (if (x23.length = 0 ∨ 0 < ([e_.lsn] : List Int).length) ∧ x23.length + ([e_.lsn] : List Int).length ≤ 17592186044416 then some (Sum.inl (⟨(gd l_ x9).id_, (gd l_ x9).state, e_.lsn, (gd l_ x9).until_, (x23 ++ ([e_.lsn] : List Int)), (gd l_ x9).saves⟩ : Tx)) else none)) else (if e_.kind_ = 2 then (if ((gd l_ x9).pending).length ≤ 17592186044416 then none else none) else (if e_.kind_ = 4 then some (Sum.inl (⟨(gd l_ x9).id_, 3, e_.lsn, 0, (gd l_ x9).pending, ([] : List Int)⟩ : Tx)) else (((if e_.kind_ = 3 then some (decide (e_.kind_ = 3)) else some (decide (e_.kind_ = 5)))).bind fun (s35 : Bool) => (if s35 = true then none else some (Sum.inl (⟨(gd l_ x9).id_, (gd l_ x9).state, e_.lsn, (gd l_ x9).until_, (gd l_ x9).pending, (gd l_ x9).saves⟩ : Tx)))))))).bind fun (z : Sum Tx ((List Tx) × Int)) => match z with | .inl (s38 : Tx) => (((if s38.state = 2 then ((transactions_left s38 s38.until_).bind fun (x41 : Bool) => (if (!x41) = true then some (⟨s38.id_, 1, s38.last, 0, s38.pending, s38.saves⟩ : Tx) else some s38)) else some s38)).bind fun (s45 : Tx) => ((transactions_with l_ s45).bind fun (x46 : (List Tx)) => some (x46, 0))) | .inr r => some r) | .inr r => some r)) else none))))))))
theorem transactions_Note.eq (l_ : (List Tx)) (e_ : AEntry) : transactions_Note l_ e_ = ((transactions_Valid l_).bind fun (x1 : Bool) => (if (!x1) = true then some (([] : List Tx), 15) else ((entry_Valid e_).bind fun (x4 : Bool) => (if (!x4) = true then some (([] : List Tx), 12) else (if e_.tx = 0 then some (l_, 0) else ((transactions_Find l_ e_.tx).bind fun (x9 : Int) => (if x9 < 0 then some (([] : List Tx), 16) else (if (0 : Int) ≤ x9 ∧ x9 < (l_.length : Int) then ((BinarySearch ((gd l_ x9).pending) e_.ref).bind fun (x13 : (Int × Bool)) => (((if e_.prevTx ≠ ((gd l_ x9).last) then some (Sum.inr (([] : List Tx), 13)) else (if e_.kind_ = 2 then (if (!x13.2) = true then some (Sum.inr (([] : List Tx), 13)) else some (Sum.inl ())) else some (Sum.inl ())))).bind fun (z : Sum Unit ((List Tx) × Int)) => match z with | .inl (s20 : Unit) => (((if e_.kind_ = 1 then ((slices_Clip ((gd l_ x9).pending)).bind fun (x23 : (List Int)) => (if (x23.length = 0 ∨ 0 < ([e_.lsn] : List Int).length) ∧ x23.length + ([e_.lsn] : List Int).length ≤ 17592186044416 then some (Sum.inl (⟨(gd l_ x9).id_, (gd l_ x9).state, e_.lsn, (gd l_ x9).until_, (x23 ++ ([e_.lsn] : List Int)), (gd l_ x9).saves⟩ : Tx)) else none)) else (if e_.kind_ = 2 then (if ((gd l_ x9).pending).length ≤ 17592186044416 then none else none) else (if e_.kind_ = 4 then some (Sum.inl (⟨(gd l_ x9).id_, 3, e_.lsn, 0, (gd l_ x9).pending, ([] : List Int)⟩ : Tx)) else (((if e_.kind_ = 3 then some (decide (e_.kind_ = 3)) else some (decide (e_.kind_ = 5)))).bind fun (s35 : Bool) => (if s35 = true then none else some (Sum.inl (⟨(gd l_ x9).id_, (gd l_ x9).state, e_.lsn, (gd l_ x9).until_, (gd l_ x9).pending, (gd l_ x9).saves⟩ : Tx)))))))).bind fun (z : Sum Tx ((List Tx) × Int)) => match z with | .inl (s38 : Tx) => (((if s38.state = 2 then ((transactions_left s38 s38.until_).bind fun (x41 : Bool) => (if (!x41) = true then some (⟨s38.id_, 1, s38.last, 0, s38.pending, s38.saves⟩ : Tx) else some s38)) else some s38)).bind fun (s45 : Tx) => ((transactions_with l_ s45).bind fun (x46 : (List Tx)) => some (x46, 0))) | .inr r => some r) | .inr r => some r)) else none)))))))) := rfl
theorem transactions_Note_ok {h : Heap} {l_ : (List Tx)} {e_ : AEntry}  {r : ((List Tx) × Int)} (hm : transactions_Note l_ e_ = some r) : FnOK Try.prog 68 [.o (.c (.L 6 (l_.map Tx.cs))), .o (.agg [I (e_.lsn), I (e_.kind_), I (e_.tx), I (e_.prevTx), I (e_.prevPage), I (e_.ref), I (e_.change.page), I (e_.change.slot), Bo (e_.change.before.set_), .v (.string e_.change.before.data), Bo (e_.change.after.set_), .v (.string e_.change.after.data), .v (.string e_.blob)])] h (fun v h' => v = .tup [.c (.L 6 (r.1.map Tx.cs)), .c (I (r.2))] ∧ h' = h) := by
  refine FnOK.fin ?_
  refine FnOK.bodyC (N := 107) Try.func68 rfl rfl rfl (fun hC => ?_)
  replace hm := Ev.of hm
  rw [transactions_Note.eq] at hm
  show CdOK _ _ _ (look _ [(0, .o (.c (.L 6 (l_.map Tx.cs)))), (1, .o (.agg [I (e_.lsn), I (e_.kind_), I (e_.tx), I (e_.prevTx), I (e_.prevPage), I (e_.ref), I (e_.change.page), I (e_.change.slot), Bo (e_.change.before.set_), .v (.string e_.change.before.data), Bo (e_.change.after.set_), .v (.string e_.change.after.data), .v (.string e_.blob)]))]) (h ++ ([] : Heap)) _
  refine CdOK.seq ?_
  refine CdOK.region ?_
  refine RgOK.s (v := .o (.c (.ptr (h.length + 0) 0))) rfl rfl rfl (e_boxN (L' := [⟨[I (e_.lsn), I (e_.kind_), I (e_.tx), I (e_.prevTx), I (e_.prevPage), I (e_.ref), I (e_.change.page), I (e_.change.slot), Bo (e_.change.before.set_), .v (.string e_.change.before.data), Bo (e_.change.after.set_), .v (.string e_.change.after.data), .v (.string e_.blob)], true, true⟩]) rfl (ev_t rfl) rfl rfl) ?_
  refine RgOK.s (v := .o (.c (.v (.slice none 0 0)))) rfl rfl rfl (e_as rfl) ?_
  refine RgOK.s (v := VI (0)) rfl rfl rfl (e_as rfl) ?_
  refine RgOK.nil ?_
  show CdOK _ _ _ _ _ _
  refine CdOK.seq ?_
  refine CdOK.block ?_
  refine CdOK.seq ?_
  refine CdOK.region ?_
  refine RgOK.s (v := .o (.c (.L 6 (l_.map Tx.cs)))) rfl rfl rfl (e_mv (ev_t rfl)) ?_
  obtain ⟨x1, e1, hm⟩ := hm.call
  refine RgOK.cl rfl rfl rfl rfl pl65 (R2.wk _) (transactions_Valid_ok   e1) ?_
  rintro _ _ ⟨rfl, rfl⟩
  refine RgOK.s (v := VB ((!x1))) rfl rfl rfl (e_un (ev_t rfl) rfl) ?_
  refine RgOK.s (v := VB ((!x1))) rfl rfl rfl (e_as (ev_t rfl)) ?_
  refine RgOK.nil ?_
  show CdOK _ _ _ _ _ _
  refine CdOK.condB (ev_t rfl) ?_ ?_
  · intro c2; replace hm := hm.ifp c2
    refine CdOK.seq ?_
    refine CdOK.region ?_
    refine RgOK.s (v := .o (.c (.v (.slice none 0 0)))) rfl rfl rfl (e_as rfl) ?_
    refine RgOK.s (v := VI (15)) rfl rfl rfl (e_as rfl) ?_
    refine RgOK.nil ?_
    show CdOK _ _ _ _ _ _
    refine CdOK.ret ?_
    refine ⟨.inr rfl, _, rfl, h, [⟨[I (e_.lsn), I (e_.kind_), I (e_.tx), I (e_.prevTx), I (e_.prevPage), I (e_.ref), I (e_.change.page), I (e_.change.slot), Bo (e_.change.before.set_), .v (.string e_.change.before.data), Bo (e_.change.after.set_), .v (.string e_.change.after.data), .v (.string e_.blob)], true, true⟩], _, rfl, rfl, hC, ((.tup (R2.of (.c (.wk (.fl _ rfl) (.nlL _))) (R2.of (.c (.fl _ rfl)) (R2.nil _)))) : RenV _ _ _ _ (.tup [.c (.L 6 (([] : List Tx).map Tx.cs)), .c (I (15))])), ?_⟩
    have hr := hm.ret
    subst hr
    exact ⟨rfl, rfl⟩
  · intro c3; replace hm := hm.ifn c3
    refine CdOK.seq ?_
    refine CdOK.region ?_
    refine RgOK.s (v := .o (.agg [I (e_.lsn), I (e_.kind_), I (e_.tx), I (e_.prevTx), I (e_.prevPage), I (e_.ref), I (e_.change.page), I (e_.change.slot), Bo (e_.change.before.set_), .v (.string e_.change.before.data), Bo (e_.change.after.set_), .v (.string e_.change.after.data), .v (.string e_.blob)])) rfl rfl rfl (e_ldbA (ev_t rfl) ty59 (bx rfl rfl) rfl rfl) ?_
    obtain ⟨x4, e4, hm⟩ := hm.call
    refine RgOK.cl rfl rfl rfl rfl pl135 (R2.wk _) (entry_Valid_ok   e4) ?_
    rintro _ _ ⟨rfl, rfl⟩
    refine RgOK.s (v := VB ((!x4))) rfl rfl rfl (e_un (ev_t rfl) rfl) ?_
    refine RgOK.s (v := VB ((!x4))) rfl rfl rfl (e_as (ev_t rfl)) ?_
    refine RgOK.nil ?_
    show CdOK _ _ _ _ _ _
    refine CdOK.condB (ev_t rfl) ?_ ?_
    · intro c5; replace hm := hm.ifp c5
      refine CdOK.seq ?_
      refine CdOK.region ?_
      refine RgOK.s (v := .o (.c (.v (.slice none 0 0)))) rfl rfl rfl (e_as rfl) ?_
      refine RgOK.s (v := VI (12)) rfl rfl rfl (e_as rfl) ?_
      refine RgOK.nil ?_
      show CdOK _ _ _ _ _ _
      refine CdOK.ret ?_
      refine ⟨.inr rfl, _, rfl, h, [⟨[I (e_.lsn), I (e_.kind_), I (e_.tx), I (e_.prevTx), I (e_.prevPage), I (e_.ref), I (e_.change.page), I (e_.change.slot), Bo (e_.change.before.set_), .v (.string e_.change.before.data), Bo (e_.change.after.set_), .v (.string e_.change.after.data), .v (.string e_.blob)], true, true⟩], _, rfl, rfl, hC, ((.tup (R2.of (.c (.wk (.fl _ rfl) (.nlL _))) (R2.of (.c (.fl _ rfl)) (R2.nil _)))) : RenV _ _ _ _ (.tup [.c (.L 6 (([] : List Tx).map Tx.cs)), .c (I (12))])), ?_⟩
      have hr := hm.ret
      subst hr
      exact ⟨rfl, rfl⟩
    · intro c6; replace hm := hm.ifn c6
      refine CdOK.seq ?_
      refine CdOK.region ?_
      refine RgOK.s (v := .o (.c (.ptr (h.length + 0) 2))) rfl rfl rfl (e_fa' fa59_2 (ev_t rfl)) ?_
      refine RgOK.s (v := VI (e_.tx)) rfl rfl rfl (e_ldb1 (ev_t rfl) ty3 (bx rfl rfl) rfl) ?_
      refine RgOK.s (v := VB (decide (e_.tx = 0))) rfl rfl rfl (e_eqK (ev_t rfl) rfl) ?_
      refine RgOK.s (v := VB (decide (e_.tx = 0))) rfl rfl rfl (e_as (ev_t rfl)) ?_
      refine RgOK.nil ?_
      show CdOK _ _ _ _ _ _
      refine CdOK.condD (ev_t rfl) ?_ ?_
      · intro c7; replace hm := hm.ifp c7
        refine CdOK.seq ?_
        refine CdOK.region ?_
        refine RgOK.s (v := .o (.c (.L 6 (l_.map Tx.cs)))) rfl rfl rfl (e_mv (ev_t rfl)) ?_
        refine RgOK.s (v := .o (.c (.L 6 (l_.map Tx.cs)))) rfl rfl rfl (e_as (ev_t rfl)) ?_
        refine RgOK.s (v := VI (0)) rfl rfl rfl (e_as rfl) ?_
        refine RgOK.nil ?_
        show CdOK _ _ _ _ _ _
        refine CdOK.ret ?_
        refine ⟨.inr rfl, _, rfl, h, [⟨[I (e_.lsn), I (e_.kind_), I (e_.tx), I (e_.prevTx), I (e_.prevPage), I (e_.ref), I (e_.change.page), I (e_.change.slot), Bo (e_.change.before.set_), .v (.string e_.change.before.data), Bo (e_.change.after.set_), .v (.string e_.change.after.data), .v (.string e_.blob)], true, true⟩], _, rfl, rfl, hC, ((renFlV rfl) : RenV _ _ _ _ (.tup [.c (.L 6 (l_.map Tx.cs)), .c (I (0))])), ?_⟩
        have hr := hm.ret
        subst hr
        exact ⟨rfl, rfl⟩
      · intro c8; replace hm := hm.ifn c8
        refine CdOK.skip ?_
        show CdOK _ _ _ _ _ _
        refine CdOK.seq ?_
        refine CdOK.region ?_
        refine RgOK.s (v := .o (.c (.L 6 (l_.map Tx.cs)))) rfl rfl rfl (e_mv (ev_t rfl)) ?_
        refine RgOK.s (v := .o (.c (.ptr (h.length + 0) 2))) rfl rfl rfl (e_fa' fa59_2 (ev_t rfl)) ?_
        refine RgOK.s (v := VI (e_.tx)) rfl rfl rfl (e_ldb1 (ev_t rfl) ty3 (bx rfl rfl) rfl) ?_
        obtain ⟨x9, e9, hm⟩ := hm.call
        refine RgOK.cl rfl rfl rfl rfl pl73 (R2.wk _) (transactions_Find_ok   e9) ?_
        rintro _ _ ⟨rfl, rfl⟩
        refine RgOK.s (v := VI (x9)) rfl rfl rfl (e_as (ev_t rfl)) ?_
        refine RgOK.nil ?_
        show CdOK _ _ _ _ _ _
        refine CdOK.seq ?_
        refine CdOK.seq ?_
        refine CdOK.region ?_
        refine RgOK.s (v := VI (x9)) rfl rfl rfl (e_mv (ev_t rfl)) ?_
        refine RgOK.s (v := VB (decide (x9 < 0))) rfl rfl rfl (e_bin (ev_t rfl) rfl rfl rfl) ?_
        refine RgOK.nil ?_
        show CdOK _ _ _ _ _ _
        refine CdOK.condD (ev_t rfl) ?_ ?_
        · intro c10; replace hm := hm.ifp c10
          refine CdOK.seq ?_
          refine CdOK.region ?_
          refine RgOK.s (v := .o (.c (.v (.slice none 0 0)))) rfl rfl rfl (e_as rfl) ?_
          refine RgOK.s (v := VI (16)) rfl rfl rfl (e_as rfl) ?_
          refine RgOK.nil ?_
          show CdOK _ _ _ _ _ _
          refine CdOK.ret ?_
          refine ⟨.inr rfl, _, rfl, h, [⟨[I (e_.lsn), I (e_.kind_), I (e_.tx), I (e_.prevTx), I (e_.prevPage), I (e_.ref), I (e_.change.page), I (e_.change.slot), Bo (e_.change.before.set_), .v (.string e_.change.before.data), Bo (e_.change.after.set_), .v (.string e_.change.after.data), .v (.string e_.blob)], true, true⟩], _, rfl, rfl, hC, ((.tup (R2.of (.c (.wk (.fl _ rfl) (.nlL _))) (R2.of (.c (.fl _ rfl)) (R2.nil _)))) : RenV _ _ _ _ (.tup [.c (.L 6 (([] : List Tx).map Tx.cs)), .c (I (16))])), ?_⟩
          have hr := hm.ret
          subst hr
          exact ⟨rfl, rfl⟩
        · intro c11; replace hm := hm.ifn c11
          refine CdOK.skip ?_
          show CdOK _ _ _ _ _ _
          refine CdOK.seq ?_
          refine CdOK.region ?_
          refine RgOK.s (v := .o (.c (.L 6 (l_.map Tx.cs)))) rfl rfl rfl (e_mv (ev_t rfl)) ?_
          refine RgOK.s (v := VI (x9)) rfl rfl rfl (e_mv (ev_t rfl)) ?_
          obtain ⟨c12, hm⟩ := hm.ifs
          refine RgOK.s (v := .o (.c (.rp [I ((gd l_ x9).id_), I ((gd l_ x9).state), I ((gd l_ x9).last), I ((gd l_ x9).until_), .L 1 (((gd l_ x9).pending).map cI), .L 1 (((gd l_ x9).saves).map cI)]))) rfl rfl rfl (e_ixM (f := Tx.cs) (l := l_) (i := x9) (ev_t rfl) (ev_t rfl) el92 c12) ?_
          refine RgOK.s (v := .o (.agg [I ((gd l_ x9).id_), I ((gd l_ x9).state), I ((gd l_ x9).last), I ((gd l_ x9).until_), .L 1 (((gd l_ x9).pending).map cI), .L 1 (((gd l_ x9).saves).map cI)])) rfl rfl rfl (e_ldRA (ev_t rfl) ty108 rfl rfl) ?_
          refine RgOK.s (v := .o (.c (.ptr (h.length + 1) 0))) rfl rfl rfl (e_allocN (L' := [⟨[I (e_.lsn), I (e_.kind_), I (e_.tx), I (e_.prevTx), I (e_.prevPage), I (e_.ref), I (e_.change.page), I (e_.change.slot), Bo (e_.change.before.set_), .v (.string e_.change.before.data), Bo (e_.change.after.set_), .v (.string e_.change.after.data), .v (.string e_.blob)], true, true⟩, ⟨[I (0), I (0), I (0), I (0), .v (.slice none 0 0), .v (.slice none 0 0)], true, true⟩]) rfl zo108 rfl rfl) ?_
          refine RgOK.s0 rfl rfl (e_stN (L' := [⟨[I (e_.lsn), I (e_.kind_), I (e_.tx), I (e_.prevTx), I (e_.prevPage), I (e_.ref), I (e_.change.page), I (e_.change.slot), Bo (e_.change.before.set_), .v (.string e_.change.before.data), Bo (e_.change.after.set_), .v (.string e_.change.after.data), .v (.string e_.blob)], true, true⟩, ⟨[I ((gd l_ x9).id_), I ((gd l_ x9).state), I ((gd l_ x9).last), I ((gd l_ x9).until_), .L 1 (((gd l_ x9).pending).map cI), .L 1 (((gd l_ x9).saves).map cI)], true, true⟩]) rfl (ev_t rfl) (ev_t rfl) ty108 rfl rfl rfl rfl rfl) ?_
          refine RgOK.nil ?_
          show CdOK _ _ _ _ _ _
          refine CdOK.seq ?_
          refine CdOK.region ?_
          refine RgOK.s (v := .o (.c (.ptr (h.length + 1) 4))) rfl rfl rfl (e_fa' fa108_4 (ev_t rfl)) ?_
          refine RgOK.s (v := .o (.c (.L 1 (((gd l_ x9).pending).map cI)))) rfl rfl rfl (e_ldb1 (ev_t rfl) ty27 (bx rfl rfl) rfl) ?_
          refine RgOK.s (v := .o (.c (.ptr (h.length + 0) 5))) rfl rfl rfl (e_fa' fa59_5 (ev_t rfl)) ?_
          refine RgOK.s (v := VI (e_.ref)) rfl rfl rfl (e_ldb1 (ev_t rfl) ty3 (bx rfl rfl) rfl) ?_
          obtain ⟨x13, e13, hm⟩ := hm.call
          refine RgOK.cl rfl rfl rfl rfl pl91 (R2.wk _) (BinarySearch_ok   e13) ?_
          rintro _ _ ⟨rfl, rfl⟩
          refine RgOK.s (v := .tup [.c (I (x13.1)), .c (Bo (x13.2))]) rfl rfl rfl (e_mv (ev_t rfl)) ?_
          refine RgOK.s (v := VI (x13.1)) rfl rfl rfl (e_ext (ev_t rfl) rfl) ?_
          refine RgOK.s (v := VB (x13.2)) rfl rfl rfl (e_ext (ev_t rfl) rfl) ?_
          refine RgOK.s (v := VI (x13.1)) rfl rfl rfl (e_as (ev_t rfl)) ?_
          refine RgOK.s (v := VB (x13.2)) rfl rfl rfl (e_as (ev_t rfl)) ?_
          refine RgOK.nil ?_
          show CdOK _ _ _ _ _ _
          replace hm := hm.bnd
          refine CdOK.joinE (σ := Unit) (fun s => Sum.inl ()) hm (fun s => [(0, .o (.c (.L 6 (l_.map Tx.cs)))), (3, .o (.c (.ptr (h.length + 0) 0))), (7, .o (.c (.ptr (h.length + 1) 0))), (8, VI (x13.1))]) (fun s => h ++ ([⟨[I (e_.lsn), I (e_.kind_), I (e_.tx), I (e_.prevTx), I (e_.prevPage), I (e_.ref), I (e_.change.page), I (e_.change.slot), Bo (e_.change.before.set_), .v (.string e_.change.before.data), Bo (e_.change.after.set_), .v (.string e_.change.after.data), .v (.string e_.blob)], true, true⟩, ⟨[I ((gd l_ x9).id_), I ((gd l_ x9).state), I ((gd l_ x9).last), I ((gd l_ x9).until_), .L 1 (((gd l_ x9).pending).map cI), .L 1 (((gd l_ x9).saves).map cI)], true, true⟩] : Heap)) ?_ ?_
          · intro hm
            refine CdOK.seq ?_
            refine CdOK.region ?_
            refine RgOK.s (v := .o (.c (.ptr (h.length + 0) 3))) rfl rfl rfl (e_fa' fa59_3 (ev_t rfl)) ?_
            refine RgOK.s (v := VI (e_.prevTx)) rfl rfl rfl (e_ldb1 (ev_t rfl) ty3 (bx rfl rfl) rfl) ?_
            refine RgOK.s (v := .o (.c (.ptr (h.length + 1) 2))) rfl rfl rfl (e_fa' fa108_2 (ev_t rfl)) ?_
            refine RgOK.s (v := VI ((gd l_ x9).last)) rfl rfl rfl (e_ldb1 (ev_t rfl) ty3 (bx rfl rfl) rfl) ?_
            refine RgOK.sd rfl rfl rfl (e_neK (ev_t rfl) (ev_t rfl)) ?_ ?_
            · intro c14; replace hm := hm.ifp c14
              refine RgOK.s (v := VB (true)) rfl rfl rfl (e_mv (ev_t rfl)) ?_
              refine RgOK.sk rfl rfl rfl ?_
              refine RgOK.sk rfl rfl rfl ?_
              refine RgOK.sk rfl rfl rfl ?_
              refine RgOK.sk rfl rfl rfl ?_
              refine RgOK.sk rfl rfl rfl ?_
              refine RgOK.sk rfl rfl rfl ?_
              refine RgOK.sk rfl rfl rfl ?_
              refine RgOK.s (v := VB (true)) rfl rfl rfl (e_pick (t := true) (ev_t rfl) rfl) ?_
              refine RgOK.nil ?_
              show CdOK _ _ _ _ _ _
              refine CdOK.cond_true rfl ?_
              refine CdOK.seq ?_
              refine CdOK.region ?_
              refine RgOK.s (v := .o (.c (.v (.slice none 0 0)))) rfl rfl rfl (e_as rfl) ?_
              refine RgOK.s (v := VI (13)) rfl rfl rfl (e_as rfl) ?_
              refine RgOK.nil ?_
              show CdOK _ _ _ _ _ _
              refine CdOK.ret ?_
              refine ⟨.inr rfl, _, rfl, h, [⟨[I (e_.lsn), I (e_.kind_), I (e_.tx), I (e_.prevTx), I (e_.prevPage), I (e_.ref), I (e_.change.page), I (e_.change.slot), Bo (e_.change.before.set_), .v (.string e_.change.before.data), Bo (e_.change.after.set_), .v (.string e_.change.after.data), .v (.string e_.blob)], true, true⟩, ⟨[I ((gd l_ x9).id_), I ((gd l_ x9).state), I ((gd l_ x9).last), I ((gd l_ x9).until_), .L 1 (((gd l_ x9).pending).map cI), .L 1 (((gd l_ x9).saves).map cI)], true, true⟩], _, rfl, rfl, hC, ((.tup (R2.of (.c (.wk (.fl _ rfl) (.nlL _))) (R2.of (.c (.fl _ rfl)) (R2.nil _)))) : RenV _ _ _ _ (.tup [.c (.L 6 (([] : List Tx).map Tx.cs)), .c (I (13))])), ?_⟩
              have hr := hm.ret
              replace hr := Ev.ret hr
              subst hr
              exact ⟨rfl, rfl⟩
            · intro c15; replace hm := hm.ifn c15
              refine RgOK.s (v := VB (false)) rfl rfl rfl (e_mv (ev_t rfl)) ?_
              refine RgOK.s (v := .o (.c (.ptr (h.length + 0) 1))) rfl rfl rfl (e_fa' fa59_1 (ev_t rfl)) ?_
              refine RgOK.s (v := VI (e_.kind_)) rfl rfl rfl (e_ldb1 (ev_t rfl) ty3 (bx rfl rfl) rfl) ?_
              refine RgOK.sd rfl rfl rfl (e_eqK (ev_t rfl) rfl) ?_ ?_
              · intro c16; replace hm := hm.ifp c16
                refine RgOK.s (v := VB (true)) rfl rfl rfl (e_mv (ev_t rfl)) ?_
                refine RgOK.s (v := VB (x13.2)) rfl rfl rfl (e_mv (ev_t rfl)) ?_
                refine RgOK.s (v := VB ((!x13.2))) rfl rfl rfl (e_un (ev_t rfl) rfl) ?_
                refine RgOK.s (v := VB ((!x13.2))) rfl rfl rfl (e_pick (t := true) (ev_t rfl) (ev_t rfl)) ?_
                refine RgOK.s (v := VB ((!x13.2))) rfl rfl rfl (e_pick (t := false) (ev_t rfl) (ev_t rfl)) ?_
                refine RgOK.nil ?_
                show CdOK _ _ _ _ _ _
                refine CdOK.condB (ev_t rfl) ?_ ?_
                · intro c17; replace hm := hm.ifp c17
                  refine CdOK.seq ?_
                  refine CdOK.region ?_
                  refine RgOK.s (v := .o (.c (.v (.slice none 0 0)))) rfl rfl rfl (e_as rfl) ?_
                  refine RgOK.s (v := VI (13)) rfl rfl rfl (e_as rfl) ?_
                  refine RgOK.nil ?_
                  show CdOK _ _ _ _ _ _
                  refine CdOK.ret ?_
                  refine ⟨.inr rfl, _, rfl, h, [⟨[I (e_.lsn), I (e_.kind_), I (e_.tx), I (e_.prevTx), I (e_.prevPage), I (e_.ref), I (e_.change.page), I (e_.change.slot), Bo (e_.change.before.set_), .v (.string e_.change.before.data), Bo (e_.change.after.set_), .v (.string e_.change.after.data), .v (.string e_.blob)], true, true⟩, ⟨[I ((gd l_ x9).id_), I ((gd l_ x9).state), I ((gd l_ x9).last), I ((gd l_ x9).until_), .L 1 (((gd l_ x9).pending).map cI), .L 1 (((gd l_ x9).saves).map cI)], true, true⟩], _, rfl, rfl, hC, ((.tup (R2.of (.c (.wk (.fl _ rfl) (.nlL _))) (R2.of (.c (.fl _ rfl)) (R2.nil _)))) : RenV _ _ _ _ (.tup [.c (.L 6 (([] : List Tx).map Tx.cs)), .c (I (13))])), ?_⟩
                  have hr := hm.ret
                  replace hr := Ev.ret hr
                  subst hr
                  exact ⟨rfl, rfl⟩
                · intro c18; replace hm := hm.ifn c18
                  refine CdOK.skip ?_
                  refine Told.id ?_
                  exact ⟨(), hm.ret, (.cons rfl (.cons rfl (.cons rfl (.cons rfl .nil)))), rfl⟩
              · intro c19; replace hm := hm.ifn c19
                refine RgOK.s (v := VB (false)) rfl rfl rfl (e_mv (ev_t rfl)) ?_
                refine RgOK.sk rfl rfl rfl ?_
                refine RgOK.sk rfl rfl rfl ?_
                refine RgOK.s (v := VB (false)) rfl rfl rfl (e_pick (t := false) (ev_t rfl) rfl) ?_
                refine RgOK.s (v := VB (false)) rfl rfl rfl (e_pick (t := false) (ev_t rfl) (ev_t rfl)) ?_
                refine RgOK.nil ?_
                show CdOK _ _ _ _ _ _
                refine CdOK.cond_false rfl ?_
                refine CdOK.skip ?_
                refine Told.id ?_
                exact ⟨(), hm.ret, (.cons rfl (.cons rfl (.cons rfl (.cons rfl .nil)))), rfl⟩
          · intro _ T0 hm
            show CdOK _ _ _ (look T0 [(0, .o (.c (.L 6 (l_.map Tx.cs)))), (3, .o (.c (.ptr (h.length + 0) 0))), (7, .o (.c (.ptr (h.length + 1) 0))), (8, VI (x13.1))]) (h ++ ([⟨[I (e_.lsn), I (e_.kind_), I (e_.tx), I (e_.prevTx), I (e_.prevPage), I (e_.ref), I (e_.change.page), I (e_.change.slot), Bo (e_.change.before.set_), .v (.string e_.change.before.data), Bo (e_.change.after.set_), .v (.string e_.change.after.data), .v (.string e_.blob)], true, true⟩, ⟨[I ((gd l_ x9).id_), I ((gd l_ x9).state), I ((gd l_ x9).last), I ((gd l_ x9).until_), .L 1 (((gd l_ x9).pending).map cI), .L 1 (((gd l_ x9).saves).map cI)], true, true⟩] : Heap)) _
            replace hm : Ev _ _ := hm
            refine CdOK.seq ?_
            refine CdOK.region ?_
            refine RgOK.s (v := .o (.c (.ptr (h.length + 0) 0))) rfl rfl rfl (e_fa' fa59_0 (ev_t rfl)) ?_
            refine RgOK.s (v := VI (e_.lsn)) rfl rfl rfl (e_ldb1 (ev_t rfl) ty3 (bx rfl rfl) rfl) ?_
            refine RgOK.s (v := .o (.c (.ptr (h.length + 1) 2))) rfl rfl rfl (e_fa' fa108_2 (ev_t rfl)) ?_
            refine RgOK.s0 rfl rfl (e_stN (L' := [⟨[I (e_.lsn), I (e_.kind_), I (e_.tx), I (e_.prevTx), I (e_.prevPage), I (e_.ref), I (e_.change.page), I (e_.change.slot), Bo (e_.change.before.set_), .v (.string e_.change.before.data), Bo (e_.change.after.set_), .v (.string e_.change.after.data), .v (.string e_.blob)], true, true⟩, ⟨[I ((gd l_ x9).id_), I ((gd l_ x9).state), I (e_.lsn), I ((gd l_ x9).until_), .L 1 (((gd l_ x9).pending).map cI), .L 1 (((gd l_ x9).saves).map cI)], true, true⟩]) rfl (ev_t rfl) (ev_t rfl) ty3 rfl rfl rfl rfl rfl) ?_
            refine RgOK.nil ?_
            show CdOK _ _ _ _ _ _
            replace hm := hm.bnd
            refine CdOK.joinE (σ := Tx) (fun s => Sum.inl s) hm (fun s => [(0, .o (.c (.L 6 (l_.map Tx.cs)))), (7, .o (.c (.ptr (h.length + 0) 0)))]) (fun s => h ++ ([⟨[I (s.id_), I (s.state), I (s.last), I (s.until_), .L 1 (s.pending.map cI), .L 1 (s.saves.map cI)], true, true⟩] : Heap)) ?_ ?_
            · intro hm
              refine CdOK.seq ?_
              refine CdOK.region ?_
              refine RgOK.s (v := .o (.c (.ptr (h.length + 0) 1))) rfl rfl rfl (e_fa' fa59_1 (ev_t rfl)) ?_
              refine RgOK.s (v := VI (e_.kind_)) rfl rfl rfl (e_ldb1 (ev_t rfl) ty3 (bx rfl rfl) rfl) ?_
              refine RgOK.nil ?_
              show CdOK _ _ _ _ _ _
              refine CdOK.block ?_
              refine CdOK.seq ?_
              refine CdOK.region ?_
              refine RgOK.s (v := VB (decide (e_.kind_ = 1))) rfl rfl rfl (e_eqK (ev_t rfl) rfl) ?_
              refine RgOK.s (v := VB (decide (e_.kind_ = 1))) rfl rfl rfl (e_as (ev_t rfl)) ?_
              refine RgOK.nil ?_
              show CdOK _ _ _ _ _ _
              refine CdOK.condD (ev_t rfl) ?_ ?_
              · intro c22; replace hm := hm.ifp c22
                refine CdOK.draw2 (ord := [0, 1, 2, 3, 4, 5, 6, 7, 8]) (chain := [6, 8]) fol (by decide +kernel) (by decide +kernel) ?_
                refine Dr2.s (v := .o (.c (.ptr (h.length + 1) 4))) rfl rfl rfl rfl rfl rfl (e_fa' fa108_4 (ev_t rfl)) ?_
                refine Dr2.f (v := .o (.c (.L 1 (((gd l_ x9).pending).map cI)))) rfl rfl rfl rfl rfl rfl (e_ldb1 (ev_t rfl) ty27 (bx rfl rfl) rfl) ?_
                obtain ⟨x23, e23, hm⟩ := hm.call
                refine Dr2.fc (v := .o (.c (.LC 1 (x23.map cI)))) rfl rfl rfl rfl rfl rfl rfl pl136 (R2.wk _) (slices_Clip_ok   e23) ?_
                refine Dr2.s (v := .o (.c (.ptr (h.length + 0) 0))) rfl rfl rfl rfl rfl rfl (e_fa' fa59_0 (ev_t rfl)) ?_
                refine Dr2.f (v := VI (e_.lsn)) rfl rfl rfl rfl rfl rfl (e_ldb1 (ev_t rfl) ty3 (bx rfl rfl) rfl) ?_
                refine Dr2.s (v := .o (.c (.LC 1 (([e_.lsn] : List Int).map cI)))) rfl rfl rfl rfl rfl rfl (e_lit (cs := [I (e_.lsn)]) (xs := ([e_.lsn]).map cI) slt27 rfl rfl rfl rfl rfl) ?_
                obtain ⟨c24, hm⟩ := hm.ifs
                refine Dr2.c (v := .o (.c (.g (h.length + 2) (((x23 ++ ([e_.lsn] : List Int))).length) 1 (decide (0 < ([e_.lsn] : List Int).length))))) rfl rfl rfl rfl rfl (e_apC (k := 1) (q := 17592186044416) (m := ([e_.lsn] : List Int).length) (f := cI) (xs := x23) (ys := ([e_.lsn] : List Int)) (L' := [⟨[I (e_.lsn), I (e_.kind_), I (e_.tx), I (e_.prevTx), I (e_.prevPage), I (e_.ref), I (e_.change.page), I (e_.change.slot), Bo (e_.change.before.set_), .v (.string e_.change.before.data), Bo (e_.change.after.set_), .v (.string e_.change.after.data), .v (.string e_.blob)], true, true⟩, ⟨[I ((gd l_ x9).id_), I ((gd l_ x9).state), I (e_.lsn), I ((gd l_ x9).until_), .L 1 (((gd l_ x9).pending).map cI), .L 1 (((gd l_ x9).saves).map cI)], true, true⟩, ⟨((x23 ++ ([e_.lsn] : List Int)).map cI).flatten, true, (decide (0 < ([e_.lsn] : List Int).length))⟩]) slt27 rfl (ev_t rfl) (ev_t rfl) src_LC rfl c24.1 c24.2 rfl rfl rfl rfl) (.m (by decide +kernel) (.m (by decide +kernel) (.m (by decide +kernel) .nil))) ?_
                refine Dr2.s (v := .o (.c (.ptr (h.length + 1) 4))) rfl rfl rfl rfl rfl rfl (e_fa' fa108_4 (ev_t rfl)) ?_
                refine Dr2.c0 rfl rfl rfl rfl (e_stN (L' := [⟨[I (e_.lsn), I (e_.kind_), I (e_.tx), I (e_.prevTx), I (e_.prevPage), I (e_.ref), I (e_.change.page), I (e_.change.slot), Bo (e_.change.before.set_), .v (.string e_.change.before.data), Bo (e_.change.after.set_), .v (.string e_.change.after.data), .v (.string e_.blob)], true, true⟩, ⟨[I ((gd l_ x9).id_), I ((gd l_ x9).state), I (e_.lsn), I ((gd l_ x9).until_), .g (h.length + 2) (((x23 ++ ([e_.lsn] : List Int))).length) 1 (decide (0 < ([e_.lsn] : List Int).length)), .L 1 (((gd l_ x9).saves).map cI)], true, true⟩, ⟨((x23 ++ ([e_.lsn] : List Int)).map cI).flatten, true, (decide (0 < ([e_.lsn] : List Int).length))⟩]) rfl (ev_t rfl) (ev_t rfl) ty27 rfl rfl rfl rfl rfl) (.m (by decide +kernel) (.m (by decide +kernel) (.m (by decide +kernel) .nil))) ?_
                refine Dr2.nil ?_
                refine Told.re (σ := [1]) (X := [(0, .o (.c (.L 6 (l_.map Tx.cs)))), (7, .o (.c (.ptr (h.length + 0) 0)))]) (L' := [⟨[I ((⟨(gd l_ x9).id_, (gd l_ x9).state, e_.lsn, (gd l_ x9).until_, (x23 ++ ([e_.lsn] : List Int)), (gd l_ x9).saves⟩ : Tx).id_), I ((⟨(gd l_ x9).id_, (gd l_ x9).state, e_.lsn, (gd l_ x9).until_, (x23 ++ ([e_.lsn] : List Int)), (gd l_ x9).saves⟩ : Tx).state), I ((⟨(gd l_ x9).id_, (gd l_ x9).state, e_.lsn, (gd l_ x9).until_, (x23 ++ ([e_.lsn] : List Int)), (gd l_ x9).saves⟩ : Tx).last), I ((⟨(gd l_ x9).id_, (gd l_ x9).state, e_.lsn, (gd l_ x9).until_, (x23 ++ ([e_.lsn] : List Int)), (gd l_ x9).saves⟩ : Tx).until_), .L 1 ((⟨(gd l_ x9).id_, (gd l_ x9).state, e_.lsn, (gd l_ x9).until_, (x23 ++ ([e_.lsn] : List Int)), (gd l_ x9).saves⟩ : Tx).pending.map cI), .L 1 ((⟨(gd l_ x9).id_, (gd l_ x9).state, e_.lsn, (gd l_ x9).until_, (x23 ++ ([e_.lsn] : List Int)), (gd l_ x9).saves⟩ : Tx).saves.map cI)], true, true⟩]) rfl rfl hC (by decide) (.obj 1 rfl (R2.of (.fl _ rfl) (R2.of (.fl _ rfl) (R2.of (.fl _ rfl) (R2.of (.fl _ rfl) (R2.of (.fzg 2 _ 1 _ ((x23 ++ ([e_.lsn] : List Int)).map cI) rfl (by decide) (by first | exact List.length_map .. | simp) (lens_all (by intro x; rfl)) (vl_all (by intro x; rfl))) (R2.of (.fl _ rfl) (R2.nil _))))))) .nil) (.cons (renFlV rfl) (.cons (.o (.c (.ptr 1 0 _ rfl))) .nil)) ?_
                exact ⟨(⟨(gd l_ x9).id_, (gd l_ x9).state, e_.lsn, (gd l_ x9).until_, (x23 ++ ([e_.lsn] : List Int)), (gd l_ x9).saves⟩ : Tx), hm.ret, (.cons rfl (.cons rfl .nil)), rfl⟩
              · intro c25; replace hm := hm.ifn c25
                refine CdOK.seq ?_
                refine CdOK.region ?_
                refine RgOK.s (v := VB (decide (e_.kind_ = 2))) rfl rfl rfl (e_eqK (ev_t rfl) rfl) ?_
                refine RgOK.s (v := VB (decide (e_.kind_ = 2))) rfl rfl rfl (e_as (ev_t rfl)) ?_
                refine RgOK.nil ?_
                show CdOK _ _ _ _ _ _
                refine CdOK.condD (ev_t rfl) ?_ ?_
                · intro c26; replace hm := hm.ifp c26
                  refine CdOK.region ?_
                  refine RgOK.s (v := .o (.c (.ptr (h.length + 1) 4))) rfl rfl rfl (e_fa' fa108_4 (ev_t rfl)) ?_
                  refine RgOK.s (v := .o (.c (.L 1 (((gd l_ x9).pending).map cI)))) rfl rfl rfl (e_ldb1 (ev_t rfl) ty27 (bx rfl rfl) rfl) ?_
                  obtain ⟨c28, hm⟩ := hm.ifs
                  refine RgOK.cl rfl rfl rfl rfl pl93 (R2.wk _) (cloneI_ok (A := (h.length + 2)) (l := (gd l_ x9).pending) (lenN rfl rfl) c28) ?_
                  rintro _ _ ⟨lv27, rfl, rfl⟩
                  rw [show (h ++ ([⟨[I (e_.lsn), I (e_.kind_), I (e_.tx), I (e_.prevTx), I (e_.prevPage), I (e_.ref), I (e_.change.page), I (e_.change.slot), Bo (e_.change.before.set_), .v (.string e_.change.before.data), Bo (e_.change.after.set_), .v (.string e_.change.after.data), .v (.string e_.blob)], true, true⟩, ⟨[I ((gd l_ x9).id_), I ((gd l_ x9).state), I (e_.lsn), I ((gd l_ x9).until_), .L 1 (((gd l_ x9).pending).map cI), .L 1 (((gd l_ x9).saves).map cI)], true, true⟩] : Heap)) ++ [⟨(((gd l_ x9).pending).map cI).flatten, true, lv27⟩] = h ++ ([⟨[I (e_.lsn), I (e_.kind_), I (e_.tx), I (e_.prevTx), I (e_.prevPage), I (e_.ref), I (e_.change.page), I (e_.change.slot), Bo (e_.change.before.set_), .v (.string e_.change.before.data), Bo (e_.change.after.set_), .v (.string e_.change.after.data), .v (.string e_.blob)], true, true⟩, ⟨[I ((gd l_ x9).id_), I ((gd l_ x9).state), I (e_.lsn), I ((gd l_ x9).until_), .L 1 (((gd l_ x9).pending).map cI), .L 1 (((gd l_ x9).saves).map cI)], true, true⟩, ⟨(((gd l_ x9).pending).map cI).flatten, true, lv27⟩] : Heap) from apnd rfl]
                  refine RgOK.s (v := VI (x13.1)) rfl rfl rfl (e_mv (ev_t rfl)) ?_
                  refine RgOK.s (v := VI (x13.1)) rfl rfl rfl (e_mv (ev_t rfl)) ?_
                  refine RgOK.s (v := VI ((w64 (x13.1 + 1)))) rfl rfl rfl (e_bin (ev_t rfl) rfl rfl rfl) ?_
                  exact (Ev.non hm).elim
                · intro c29; replace hm := hm.ifn c29
                  refine CdOK.seq ?_
                  refine CdOK.region ?_
                  refine RgOK.s (v := VB (decide (e_.kind_ = 4))) rfl rfl rfl (e_eqK (ev_t rfl) rfl) ?_
                  refine RgOK.s (v := VB (decide (e_.kind_ = 4))) rfl rfl rfl (e_as (ev_t rfl)) ?_
                  refine RgOK.nil ?_
                  show CdOK _ _ _ _ _ _
                  refine CdOK.condD (ev_t rfl) ?_ ?_
                  · intro c30; replace hm := hm.ifp c30
                    refine CdOK.region ?_
                    refine RgOK.s (v := .o (.c (.ptr (h.length + 1) 1))) rfl rfl rfl (e_fa' fa108_1 (ev_t rfl)) ?_
                    refine RgOK.s0 rfl rfl (e_stN (L' := [⟨[I (e_.lsn), I (e_.kind_), I (e_.tx), I (e_.prevTx), I (e_.prevPage), I (e_.ref), I (e_.change.page), I (e_.change.slot), Bo (e_.change.before.set_), .v (.string e_.change.before.data), Bo (e_.change.after.set_), .v (.string e_.change.after.data), .v (.string e_.blob)], true, true⟩, ⟨[I ((gd l_ x9).id_), I (3), I (e_.lsn), I ((gd l_ x9).until_), .L 1 (((gd l_ x9).pending).map cI), .L 1 (((gd l_ x9).saves).map cI)], true, true⟩]) rfl (ev_t rfl) rfl ty3 rfl rfl rfl rfl rfl) ?_
                    refine RgOK.s (v := .o (.c (.ptr (h.length + 1) 3))) rfl rfl rfl (e_fa' fa108_3 (ev_t rfl)) ?_
                    refine RgOK.s0 rfl rfl (e_stN (L' := [⟨[I (e_.lsn), I (e_.kind_), I (e_.tx), I (e_.prevTx), I (e_.prevPage), I (e_.ref), I (e_.change.page), I (e_.change.slot), Bo (e_.change.before.set_), .v (.string e_.change.before.data), Bo (e_.change.after.set_), .v (.string e_.change.after.data), .v (.string e_.blob)], true, true⟩, ⟨[I ((gd l_ x9).id_), I (3), I (e_.lsn), I (0), .L 1 (((gd l_ x9).pending).map cI), .L 1 (((gd l_ x9).saves).map cI)], true, true⟩]) rfl (ev_t rfl) rfl ty3 rfl rfl rfl rfl rfl) ?_
                    refine RgOK.s (v := .o (.c (.ptr (h.length + 1) 5))) rfl rfl rfl (e_fa' fa108_5 (ev_t rfl)) ?_
                    refine RgOK.s0 rfl rfl (e_stN (L' := [⟨[I (e_.lsn), I (e_.kind_), I (e_.tx), I (e_.prevTx), I (e_.prevPage), I (e_.ref), I (e_.change.page), I (e_.change.slot), Bo (e_.change.before.set_), .v (.string e_.change.before.data), Bo (e_.change.after.set_), .v (.string e_.change.after.data), .v (.string e_.blob)], true, true⟩, ⟨[I ((gd l_ x9).id_), I (3), I (e_.lsn), I (0), .L 1 (((gd l_ x9).pending).map cI), .v (.slice none 0 0)], true, true⟩]) rfl (ev_t rfl) rfl ty27 rfl rfl rfl rfl rfl) ?_
                    refine RgOK.nil ?_
                    refine Told.re (σ := [1]) (X := [(0, .o (.c (.L 6 (l_.map Tx.cs)))), (7, .o (.c (.ptr (h.length + 0) 0)))]) (L' := [⟨[I ((⟨(gd l_ x9).id_, 3, e_.lsn, 0, (gd l_ x9).pending, ([] : List Int)⟩ : Tx).id_), I ((⟨(gd l_ x9).id_, 3, e_.lsn, 0, (gd l_ x9).pending, ([] : List Int)⟩ : Tx).state), I ((⟨(gd l_ x9).id_, 3, e_.lsn, 0, (gd l_ x9).pending, ([] : List Int)⟩ : Tx).last), I ((⟨(gd l_ x9).id_, 3, e_.lsn, 0, (gd l_ x9).pending, ([] : List Int)⟩ : Tx).until_), .L 1 ((⟨(gd l_ x9).id_, 3, e_.lsn, 0, (gd l_ x9).pending, ([] : List Int)⟩ : Tx).pending.map cI), .L 1 ((⟨(gd l_ x9).id_, 3, e_.lsn, 0, (gd l_ x9).pending, ([] : List Int)⟩ : Tx).saves.map cI)], true, true⟩]) rfl rfl hC (by decide) (.obj 1 rfl (R2.of (.fl _ rfl) (R2.of (.fl _ rfl) (R2.of (.fl _ rfl) (R2.of (.fl _ rfl) (R2.of (.fl _ rfl) (R2.of (.wk (.fl _ rfl) (.nlL _)) (R2.nil _))))))) .nil) (.cons (renFlV rfl) (.cons (.o (.c (.ptr 1 0 _ rfl))) .nil)) ?_
                    exact ⟨(⟨(gd l_ x9).id_, 3, e_.lsn, 0, (gd l_ x9).pending, ([] : List Int)⟩ : Tx), hm.ret, (.cons rfl (.cons rfl .nil)), rfl⟩
                  · intro c31; replace hm := hm.ifn c31
                    replace hm := hm.bnd
                    refine CdOK.joinE (σ := Bool) (fun s => s) hm (fun s => [(0, .o (.c (.L 6 (l_.map Tx.cs)))), (3, .o (.c (.ptr (h.length + 0) 0))), (7, .o (.c (.ptr (h.length + 1) 0))), (85, VB (s))]) (fun s => h ++ ([⟨[I (e_.lsn), I (e_.kind_), I (e_.tx), I (e_.prevTx), I (e_.prevPage), I (e_.ref), I (e_.change.page), I (e_.change.slot), Bo (e_.change.before.set_), .v (.string e_.change.before.data), Bo (e_.change.after.set_), .v (.string e_.change.after.data), .v (.string e_.blob)], true, true⟩, ⟨[I ((gd l_ x9).id_), I ((gd l_ x9).state), I (e_.lsn), I ((gd l_ x9).until_), .L 1 (((gd l_ x9).pending).map cI), .L 1 (((gd l_ x9).saves).map cI)], true, true⟩] : Heap)) ?_ ?_
                    · intro hm
                      refine CdOK.seq ?_
                      refine CdOK.region ?_
                      refine RgOK.s (v := VB (decide (e_.kind_ = 3))) rfl rfl rfl (e_eqK (ev_t rfl) rfl) ?_
                      refine RgOK.s (v := VB (decide (e_.kind_ = 3))) rfl rfl rfl (e_as (ev_t rfl)) ?_
                      refine RgOK.nil ?_
                      show CdOK _ _ _ _ _ _
                      refine CdOK.condD (ev_t rfl) ?_ ?_
                      · intro c33; replace hm := hm.ifp c33
                        refine CdOK.skip ?_
                        refine Told.id ?_
                        exact ⟨(decide (e_.kind_ = 3)), hm.ret, (.cons rfl (.cons rfl (.cons rfl (.cons rfl .nil)))), rfl⟩
                      · intro c34; replace hm := hm.ifn c34
                        refine CdOK.region ?_
                        refine RgOK.s (v := VB (decide (e_.kind_ = 5))) rfl rfl rfl (e_eqK (ev_t rfl) rfl) ?_
                        refine RgOK.s (v := VB (decide (e_.kind_ = 5))) rfl rfl rfl (e_as (ev_t rfl)) ?_
                        refine RgOK.nil ?_
                        refine Told.id ?_
                        exact ⟨(decide (e_.kind_ = 5)), hm.ret, (.cons rfl (.cons rfl (.cons rfl (.cons rfl .nil)))), rfl⟩
                    · rintro t8532 T0 hm
                      show CdOK _ _ _ (look T0 [(0, .o (.c (.L 6 (l_.map Tx.cs)))), (3, .o (.c (.ptr (h.length + 0) 0))), (7, .o (.c (.ptr (h.length + 1) 0))), (85, VB (t8532))]) (h ++ ([⟨[I (e_.lsn), I (e_.kind_), I (e_.tx), I (e_.prevTx), I (e_.prevPage), I (e_.ref), I (e_.change.page), I (e_.change.slot), Bo (e_.change.before.set_), .v (.string e_.change.before.data), Bo (e_.change.after.set_), .v (.string e_.change.after.data), .v (.string e_.blob)], true, true⟩, ⟨[I ((gd l_ x9).id_), I ((gd l_ x9).state), I (e_.lsn), I ((gd l_ x9).until_), .L 1 (((gd l_ x9).pending).map cI), .L 1 (((gd l_ x9).saves).map cI)], true, true⟩] : Heap)) _
                      refine CdOK.condB (ev_t rfl) ?_ ?_
                      · intro c36; replace hm := hm.ifp c36
                        refine CdOK.seq ?_
                        refine CdOK.region ?_
                        refine RgOK.s (v := .o (.c (.L 6 (l_.map Tx.cs)))) rfl rfl rfl (e_mv (ev_t rfl)) ?_
                        refine RgOK.s (v := .o (.c (.ptr (h.length + 0) 2))) rfl rfl rfl (e_fa' fa59_2 (ev_t rfl)) ?_
                        refine RgOK.s (v := VI (e_.tx)) rfl rfl rfl (e_ldb1 (ev_t rfl) ty3 (bx rfl rfl) rfl) ?_
                        exact (Ev.non hm).elim
                      · intro c37; replace hm := hm.ifn c37
                        refine CdOK.skip ?_
                        refine Told.re (σ := [1]) (X := [(0, .o (.c (.L 6 (l_.map Tx.cs)))), (7, .o (.c (.ptr (h.length + 0) 0)))]) (L' := [⟨[I ((⟨(gd l_ x9).id_, (gd l_ x9).state, e_.lsn, (gd l_ x9).until_, (gd l_ x9).pending, (gd l_ x9).saves⟩ : Tx).id_), I ((⟨(gd l_ x9).id_, (gd l_ x9).state, e_.lsn, (gd l_ x9).until_, (gd l_ x9).pending, (gd l_ x9).saves⟩ : Tx).state), I ((⟨(gd l_ x9).id_, (gd l_ x9).state, e_.lsn, (gd l_ x9).until_, (gd l_ x9).pending, (gd l_ x9).saves⟩ : Tx).last), I ((⟨(gd l_ x9).id_, (gd l_ x9).state, e_.lsn, (gd l_ x9).until_, (gd l_ x9).pending, (gd l_ x9).saves⟩ : Tx).until_), .L 1 ((⟨(gd l_ x9).id_, (gd l_ x9).state, e_.lsn, (gd l_ x9).until_, (gd l_ x9).pending, (gd l_ x9).saves⟩ : Tx).pending.map cI), .L 1 ((⟨(gd l_ x9).id_, (gd l_ x9).state, e_.lsn, (gd l_ x9).until_, (gd l_ x9).pending, (gd l_ x9).saves⟩ : Tx).saves.map cI)], true, true⟩]) rfl rfl hC (by decide) (.obj 1 rfl (renFl rfl) .nil) (.cons (renFlV rfl) (.cons (.o (.c (.ptr 1 0 _ rfl))) .nil)) ?_
                        exact ⟨(⟨(gd l_ x9).id_, (gd l_ x9).state, e_.lsn, (gd l_ x9).until_, (gd l_ x9).pending, (gd l_ x9).saves⟩ : Tx), hm.ret, (.cons rfl (.cons rfl .nil)), rfl⟩
            · rintro bx21 T0 hm
              show CdOK _ _ _ (look T0 [(0, .o (.c (.L 6 (l_.map Tx.cs)))), (7, .o (.c (.ptr (h.length + 0) 0)))]) (h ++ ([⟨[I (bx21.id_), I (bx21.state), I (bx21.last), I (bx21.until_), .L 1 (bx21.pending.map cI), .L 1 (bx21.saves.map cI)], true, true⟩] : Heap)) _
              replace hm : Ev _ _ := hm
              replace hm := hm.bnd
              refine CdOK.joinE (σ := Tx) (fun s => s) hm (fun s => [(0, .o (.c (.L 6 (l_.map Tx.cs)))), (7, .o (.c (.ptr (h.length + 0) 0)))]) (fun s => h ++ ([⟨[I (s.id_), I (s.state), I (s.last), I (s.until_), .L 1 (s.pending.map cI), .L 1 (s.saves.map cI)], true, true⟩] : Heap)) ?_ ?_
              · intro hm
                refine CdOK.seq ?_
                refine CdOK.region ?_
                refine RgOK.s (v := .o (.c (.ptr (h.length + 0) 1))) rfl rfl rfl (e_fa' fa108_1 (ev_t rfl)) ?_
                refine RgOK.s (v := VI (bx21.state)) rfl rfl rfl (e_ldb1 (ev_t rfl) ty3 (bx rfl rfl) rfl) ?_
                refine RgOK.sd rfl rfl rfl (e_eqK (ev_t rfl) rfl) ?_ ?_
                · intro c40; replace hm := hm.ifp c40
                  refine RgOK.s (v := VB (true)) rfl rfl rfl (e_mv (ev_t rfl)) ?_
                  refine RgOK.s (v := .o (.agg [I (bx21.id_), I (bx21.state), I (bx21.last), I (bx21.until_), .L 1 (bx21.pending.map cI), .L 1 (bx21.saves.map cI)])) rfl rfl rfl (e_ldbA (ev_t rfl) ty108 (bx rfl rfl) rfl rfl) ?_
                  refine RgOK.s (v := .o (.c (.ptr (h.length + 0) 3))) rfl rfl rfl (e_fa' fa108_3 (ev_t rfl)) ?_
                  refine RgOK.s (v := VI (bx21.until_)) rfl rfl rfl (e_ldb1 (ev_t rfl) ty3 (bx rfl rfl) rfl) ?_
                  obtain ⟨x41, e41, hm⟩ := hm.call
                  refine RgOK.cl rfl rfl rfl rfl pl138 (R2.wk _) (transactions_left_ok   e41) ?_
                  rintro _ _ ⟨rfl, rfl⟩
                  refine RgOK.s (v := VB ((!x41))) rfl rfl rfl (e_un (ev_t rfl) rfl) ?_
                  refine RgOK.s (v := VB ((!x41))) rfl rfl rfl (e_pick (t := true) (ev_t rfl) (ev_t rfl)) ?_
                  refine RgOK.nil ?_
                  show CdOK _ _ _ _ _ _
                  refine CdOK.condB (ev_t rfl) ?_ ?_
                  · intro c42; replace hm := hm.ifp c42
                    refine CdOK.region ?_
                    refine RgOK.s (v := .o (.c (.ptr (h.length + 0) 1))) rfl rfl rfl (e_fa' fa108_1 (ev_t rfl)) ?_
                    refine RgOK.s0 rfl rfl (e_stN (L' := [⟨[I (bx21.id_), I (1), I (bx21.last), I (bx21.until_), .L 1 (bx21.pending.map cI), .L 1 (bx21.saves.map cI)], true, true⟩]) rfl (ev_t rfl) rfl ty3 rfl rfl rfl rfl rfl) ?_
                    refine RgOK.s (v := .o (.c (.ptr (h.length + 0) 3))) rfl rfl rfl (e_fa' fa108_3 (ev_t rfl)) ?_
                    refine RgOK.s0 rfl rfl (e_stN (L' := [⟨[I (bx21.id_), I (1), I (bx21.last), I (0), .L 1 (bx21.pending.map cI), .L 1 (bx21.saves.map cI)], true, true⟩]) rfl (ev_t rfl) rfl ty3 rfl rfl rfl rfl rfl) ?_
                    refine RgOK.nil ?_
                    refine Told.id ?_
                    exact ⟨(⟨bx21.id_, 1, bx21.last, 0, bx21.pending, bx21.saves⟩ : Tx), hm.ret, (.cons rfl (.cons rfl .nil)), rfl⟩
                  · intro c43; replace hm := hm.ifn c43
                    refine CdOK.skip ?_
                    refine Told.id ?_
                    exact ⟨bx21, hm.ret, (.cons rfl (.cons rfl .nil)), rfl⟩
                · intro c44; replace hm := hm.ifn c44
                  refine RgOK.s (v := VB (false)) rfl rfl rfl (e_mv (ev_t rfl)) ?_
                  refine RgOK.sk rfl rfl rfl ?_
                  refine RgOK.sk rfl rfl rfl ?_
                  refine RgOK.sk rfl rfl rfl ?_
                  refine RgOK.sk rfl rfl rfl ?_
                  refine RgOK.sk rfl rfl rfl ?_
                  refine RgOK.s (v := VB (false)) rfl rfl rfl (e_pick (t := false) (ev_t rfl) rfl) ?_
                  refine RgOK.nil ?_
                  show CdOK _ _ _ _ _ _
                  refine CdOK.cond_false rfl ?_
                  refine CdOK.skip ?_
                  refine Told.id ?_
                  exact ⟨bx21, hm.ret, (.cons rfl (.cons rfl .nil)), rfl⟩
              · rintro bx39 T0 hm
                show CdOK _ _ _ (look T0 [(0, .o (.c (.L 6 (l_.map Tx.cs)))), (7, .o (.c (.ptr (h.length + 0) 0)))]) (h ++ ([⟨[I (bx39.id_), I (bx39.state), I (bx39.last), I (bx39.until_), .L 1 (bx39.pending.map cI), .L 1 (bx39.saves.map cI)], true, true⟩] : Heap)) _
                refine CdOK.seq ?_
                refine CdOK.region ?_
                refine RgOK.s (v := .o (.c (.L 6 (l_.map Tx.cs)))) rfl rfl rfl (e_mv (ev_t rfl)) ?_
                refine RgOK.s (v := .o (.agg [I (bx39.id_), I (bx39.state), I (bx39.last), I (bx39.until_), .L 1 (bx39.pending.map cI), .L 1 (bx39.saves.map cI)])) rfl rfl rfl (e_ldbA (ev_t rfl) ty108 (bx rfl rfl) rfl rfl) ?_
                obtain ⟨x46, e46, hm⟩ := hm.call
                refine RgOK.cl rfl rfl rfl rfl pl139 (R2.wk _) (transactions_with_ok   e46) ?_
                rintro _ _ ⟨rfl, rfl⟩
                refine RgOK.s (v := .o (.c (.L 6 (x46.map Tx.cs)))) rfl rfl rfl (e_as (ev_t rfl)) ?_
                refine RgOK.s (v := VI (0)) rfl rfl rfl (e_as rfl) ?_
                refine RgOK.nil ?_
                show CdOK _ _ _ _ _ _
                refine CdOK.ret ?_
                refine ⟨.inr rfl, _, rfl, h, [⟨[I (bx39.id_), I (bx39.state), I (bx39.last), I (bx39.until_), .L 1 (bx39.pending.map cI), .L 1 (bx39.saves.map cI)], true, true⟩], _, rfl, rfl, hC, ((renFlV rfl) : RenV _ _ _ _ (.tup [.c (.L 6 (x46.map Tx.cs)), .c (I (0))])), ?_⟩
                have hr := hm.ret
                subst hr
                exact ⟨rfl, rfl⟩
/- pagemend/pagemendlaw12.awake -/
def law12_awake  : Option Bool := ((transactions_Begin ([] : List Tx) 1).bind fun (x1 : ((List Tx) × Int)) => ((transactions_Note x1.1 (⟨1, 1, 1, 0, 0, 0, (⟨0, 0, (⟨false, (⟨#[]⟩ : ByteArray)⟩ : ACell), (⟨false, (⟨#[]⟩ : ByteArray)⟩ : ACell)⟩ : Change), (⟨#[]⟩ : ByteArray)⟩ : AEntry)).bind fun (x2 : ((List Tx) × Int)) => ((transactions_Save x2.1 1).bind fun (x3 : ((List Tx) × Int)) => ((transactions_Note x3.1 (⟨2, 1, 1, 1, 0, 0, (⟨0, 0, (⟨false, (⟨#[]⟩ : ByteArray)⟩ : ACell), (⟨false, (⟨#[]⟩ : ByteArray)⟩ : ACell)⟩ : Change), (⟨#[]⟩ : ByteArray)⟩ : AEntry)).bind fun (x4 : ((List Tx) × Int)) => ((transactions_Note x4.1 (⟨3, 1, 1, 2, 0, 0, (⟨0, 0, (⟨false, (⟨#[]⟩ : ByteArray)⟩ : ACell), (⟨false, (⟨#[]⟩ : ByteArray)⟩ : ACell)⟩ : Change), (⟨#[]⟩ : ByteArray)⟩ : AEntry)).bind fun (x5 : ((List Tx) × Int)) => ((transactions_Back x5.1 1 0).bind fun (x6 : ((List Tx) × Int)) => (if x1.2 = 0 then (if x2.2 = 0 then (if x3.2 = 0 then (if x4.2 = 0 then (if x5.2 = 0 then (if x6.2 = 0 then (if (x6.1.length : Int) = 1 then (if (0 : Int) ≤ 0 ∧ 0 < (x6.1.length : Int) then (if ((gd x6.1 0).state) = 2 then (if (0 : Int) ≤ 0 ∧ 0 < (x6.1.length : Int) then (if ((gd x6.1 0).until_) = 1 then (if (0 : Int) ≤ 0 ∧ 0 < (x6.1.length : Int) then some (decide ((((gd x6.1 0).pending).length : Int) = 3)) else none) else some false) else none) else some false) else none) else some false) else some false) else some false) else some false) else some false) else some false) else some false)))))))
theorem law12_awake.eq  : law12_awake  = ((transactions_Begin ([] : List Tx) 1).bind fun (x1 : ((List Tx) × Int)) => ((transactions_Note x1.1 (⟨1, 1, 1, 0, 0, 0, (⟨0, 0, (⟨false, (⟨#[]⟩ : ByteArray)⟩ : ACell), (⟨false, (⟨#[]⟩ : ByteArray)⟩ : ACell)⟩ : Change), (⟨#[]⟩ : ByteArray)⟩ : AEntry)).bind fun (x2 : ((List Tx) × Int)) => ((transactions_Save x2.1 1).bind fun (x3 : ((List Tx) × Int)) => ((transactions_Note x3.1 (⟨2, 1, 1, 1, 0, 0, (⟨0, 0, (⟨false, (⟨#[]⟩ : ByteArray)⟩ : ACell), (⟨false, (⟨#[]⟩ : ByteArray)⟩ : ACell)⟩ : Change), (⟨#[]⟩ : ByteArray)⟩ : AEntry)).bind fun (x4 : ((List Tx) × Int)) => ((transactions_Note x4.1 (⟨3, 1, 1, 2, 0, 0, (⟨0, 0, (⟨false, (⟨#[]⟩ : ByteArray)⟩ : ACell), (⟨false, (⟨#[]⟩ : ByteArray)⟩ : ACell)⟩ : Change), (⟨#[]⟩ : ByteArray)⟩ : AEntry)).bind fun (x5 : ((List Tx) × Int)) => ((transactions_Back x5.1 1 0).bind fun (x6 : ((List Tx) × Int)) => (if x1.2 = 0 then (if x2.2 = 0 then (if x3.2 = 0 then (if x4.2 = 0 then (if x5.2 = 0 then (if x6.2 = 0 then (if (x6.1.length : Int) = 1 then (if (0 : Int) ≤ 0 ∧ 0 < (x6.1.length : Int) then (if ((gd x6.1 0).state) = 2 then (if (0 : Int) ≤ 0 ∧ 0 < (x6.1.length : Int) then (if ((gd x6.1 0).until_) = 1 then (if (0 : Int) ≤ 0 ∧ 0 < (x6.1.length : Int) then some (decide ((((gd x6.1 0).pending).length : Int) = 3)) else none) else some false) else none) else some false) else none) else some false) else some false) else some false) else some false) else some false) else some false) else some false))))))) := rfl
theorem law12_awake_ok {h : Heap}   {r : Bool} (hm : law12_awake  = some r) : FnOK Try.prog 62 [] h (fun v h' => v = VB (r) ∧ h' = h) := by
  refine FnOK.fin ?_
  refine FnOK.bodyC (N := 89) Try.func62 rfl rfl rfl (fun hC => ?_)
  replace hm := Ev.of hm
  rw [law12_awake.eq] at hm
  show CdOK _ _ _ (look _ []) (h ++ ([] : Heap)) _
  refine CdOK.seq ?_
  refine CdOK.region ?_
  refine RgOK.s (v := VB (false)) rfl rfl rfl (e_as rfl) ?_
  refine RgOK.nil ?_
  show CdOK _ _ _ _ _ _
  refine CdOK.seq ?_
  refine CdOK.region ?_
  obtain ⟨x1, e1, hm⟩ := hm.call
  refine RgOK.cl rfl rfl rfl rfl pl71 (R2.of (.c (.nlL _)) (R2.of (.refl _) (R2.nil _))) (transactions_Begin_ok   e1) ?_
  rintro _ _ ⟨rfl, rfl⟩
  refine RgOK.s (v := .tup [.c (.L 6 (x1.1.map Tx.cs)), .c (I (x1.2))]) rfl rfl rfl (e_mv (ev_t rfl)) ?_
  refine RgOK.s (v := .o (.c (.L 6 (x1.1.map Tx.cs)))) rfl rfl rfl (e_ext (ev_t rfl) rfl) ?_
  refine RgOK.s (v := VI (x1.2)) rfl rfl rfl (e_ext (ev_t rfl) rfl) ?_
  refine RgOK.s (v := .o (.c (.L 6 (x1.1.map Tx.cs)))) rfl rfl rfl (e_as (ev_t rfl)) ?_
  refine RgOK.s (v := VI (x1.2)) rfl rfl rfl (e_as (ev_t rfl)) ?_
  refine RgOK.nil ?_
  show CdOK _ _ _ _ _ _
  refine CdOK.seq ?_
  refine CdOK.region ?_
  refine RgOK.s (v := .o (.c (.L 6 (x1.1.map Tx.cs)))) rfl rfl rfl (e_mv (ev_t rfl)) ?_
  refine RgOK.s (v := .o (.agg [I (1), I (1), I (1), I (0), I (0), I (0), I (0), I (0), Bo false, .v (.string (⟨#[]⟩ : ByteArray)), Bo false, .v (.string (⟨#[]⟩ : ByteArray)), .v (.string (⟨#[]⟩ : ByteArray))])) rfl rfl rfl (e_bld (cs := [I (1), I (1), I (1), I (0), I (0), I (0), I (0), I (0), Bo false, .v (.string (⟨#[]⟩ : ByteArray)), Bo false, .v (.string (⟨#[]⟩ : ByteArray)), .v (.string (⟨#[]⟩ : ByteArray))]) zo59 bl59 rfl rfl) ?_
  obtain ⟨x2, e2, hm⟩ := hm.call
  refine RgOK.cl rfl rfl rfl rfl pl68 (R2.wk _) (transactions_Note_ok   e2) ?_
  rintro _ _ ⟨rfl, rfl⟩
  refine RgOK.s (v := .tup [.c (.L 6 (x2.1.map Tx.cs)), .c (I (x2.2))]) rfl rfl rfl (e_mv (ev_t rfl)) ?_
  refine RgOK.s (v := .o (.c (.L 6 (x2.1.map Tx.cs)))) rfl rfl rfl (e_ext (ev_t rfl) rfl) ?_
  refine RgOK.s (v := VI (x2.2)) rfl rfl rfl (e_ext (ev_t rfl) rfl) ?_
  refine RgOK.s (v := .o (.c (.L 6 (x2.1.map Tx.cs)))) rfl rfl rfl (e_as (ev_t rfl)) ?_
  refine RgOK.s (v := VI (x2.2)) rfl rfl rfl (e_as (ev_t rfl)) ?_
  refine RgOK.nil ?_
  show CdOK _ _ _ _ _ _
  refine CdOK.seq ?_
  refine CdOK.region ?_
  refine RgOK.s (v := .o (.c (.L 6 (x2.1.map Tx.cs)))) rfl rfl rfl (e_mv (ev_t rfl)) ?_
  obtain ⟨x3, e3, hm⟩ := hm.call
  refine RgOK.cl rfl rfl rfl rfl pl77 (R2.wk _) (transactions_Save_ok   e3) ?_
  rintro _ _ ⟨rfl, rfl⟩
  refine RgOK.s (v := .tup [.c (.L 6 (x3.1.map Tx.cs)), .c (I (x3.2))]) rfl rfl rfl (e_mv (ev_t rfl)) ?_
  refine RgOK.s (v := .o (.c (.L 6 (x3.1.map Tx.cs)))) rfl rfl rfl (e_ext (ev_t rfl) rfl) ?_
  refine RgOK.s (v := VI (x3.2)) rfl rfl rfl (e_ext (ev_t rfl) rfl) ?_
  refine RgOK.s (v := .o (.c (.L 6 (x3.1.map Tx.cs)))) rfl rfl rfl (e_as (ev_t rfl)) ?_
  refine RgOK.s (v := VI (x3.2)) rfl rfl rfl (e_as (ev_t rfl)) ?_
  refine RgOK.nil ?_
  show CdOK _ _ _ _ _ _
  refine CdOK.seq ?_
  refine CdOK.region ?_
  refine RgOK.s (v := .o (.c (.L 6 (x3.1.map Tx.cs)))) rfl rfl rfl (e_mv (ev_t rfl)) ?_
  refine RgOK.s (v := .o (.agg [I (2), I (1), I (1), I (1), I (0), I (0), I (0), I (0), Bo false, .v (.string (⟨#[]⟩ : ByteArray)), Bo false, .v (.string (⟨#[]⟩ : ByteArray)), .v (.string (⟨#[]⟩ : ByteArray))])) rfl rfl rfl (e_bld (cs := [I (2), I (1), I (1), I (1), I (0), I (0), I (0), I (0), Bo false, .v (.string (⟨#[]⟩ : ByteArray)), Bo false, .v (.string (⟨#[]⟩ : ByteArray)), .v (.string (⟨#[]⟩ : ByteArray))]) zo59 bl59 rfl rfl) ?_
  obtain ⟨x4, e4, hm⟩ := hm.call
  refine RgOK.cl rfl rfl rfl rfl pl68 (R2.wk _) (transactions_Note_ok   e4) ?_
  rintro _ _ ⟨rfl, rfl⟩
  refine RgOK.s (v := .tup [.c (.L 6 (x4.1.map Tx.cs)), .c (I (x4.2))]) rfl rfl rfl (e_mv (ev_t rfl)) ?_
  refine RgOK.s (v := .o (.c (.L 6 (x4.1.map Tx.cs)))) rfl rfl rfl (e_ext (ev_t rfl) rfl) ?_
  refine RgOK.s (v := VI (x4.2)) rfl rfl rfl (e_ext (ev_t rfl) rfl) ?_
  refine RgOK.s (v := .o (.c (.L 6 (x4.1.map Tx.cs)))) rfl rfl rfl (e_as (ev_t rfl)) ?_
  refine RgOK.s (v := VI (x4.2)) rfl rfl rfl (e_as (ev_t rfl)) ?_
  refine RgOK.nil ?_
  show CdOK _ _ _ _ _ _
  refine CdOK.seq ?_
  refine CdOK.region ?_
  refine RgOK.s (v := .o (.c (.L 6 (x4.1.map Tx.cs)))) rfl rfl rfl (e_mv (ev_t rfl)) ?_
  refine RgOK.s (v := .o (.agg [I (3), I (1), I (1), I (2), I (0), I (0), I (0), I (0), Bo false, .v (.string (⟨#[]⟩ : ByteArray)), Bo false, .v (.string (⟨#[]⟩ : ByteArray)), .v (.string (⟨#[]⟩ : ByteArray))])) rfl rfl rfl (e_bld (cs := [I (3), I (1), I (1), I (2), I (0), I (0), I (0), I (0), Bo false, .v (.string (⟨#[]⟩ : ByteArray)), Bo false, .v (.string (⟨#[]⟩ : ByteArray)), .v (.string (⟨#[]⟩ : ByteArray))]) zo59 bl59 rfl rfl) ?_
  obtain ⟨x5, e5, hm⟩ := hm.call
  refine RgOK.cl rfl rfl rfl rfl pl68 (R2.wk _) (transactions_Note_ok   e5) ?_
  rintro _ _ ⟨rfl, rfl⟩
  refine RgOK.s (v := .tup [.c (.L 6 (x5.1.map Tx.cs)), .c (I (x5.2))]) rfl rfl rfl (e_mv (ev_t rfl)) ?_
  refine RgOK.s (v := .o (.c (.L 6 (x5.1.map Tx.cs)))) rfl rfl rfl (e_ext (ev_t rfl) rfl) ?_
  refine RgOK.s (v := VI (x5.2)) rfl rfl rfl (e_ext (ev_t rfl) rfl) ?_
  refine RgOK.s (v := .o (.c (.L 6 (x5.1.map Tx.cs)))) rfl rfl rfl (e_as (ev_t rfl)) ?_
  refine RgOK.s (v := VI (x5.2)) rfl rfl rfl (e_as (ev_t rfl)) ?_
  refine RgOK.nil ?_
  show CdOK _ _ _ _ _ _
  refine CdOK.seq ?_
  refine CdOK.region ?_
  refine RgOK.s (v := .o (.c (.L 6 (x5.1.map Tx.cs)))) rfl rfl rfl (e_mv (ev_t rfl)) ?_
  obtain ⟨x6, e6, hm⟩ := hm.call
  refine RgOK.cl rfl rfl rfl rfl pl131 (R2.wk _) (transactions_Back_ok   e6) ?_
  rintro _ _ ⟨rfl, rfl⟩
  refine RgOK.s (v := .tup [.c (.L 6 (x6.1.map Tx.cs)), .c (I (x6.2))]) rfl rfl rfl (e_mv (ev_t rfl)) ?_
  refine RgOK.s (v := .o (.c (.L 6 (x6.1.map Tx.cs)))) rfl rfl rfl (e_ext (ev_t rfl) rfl) ?_
  refine RgOK.s (v := VI (x6.2)) rfl rfl rfl (e_ext (ev_t rfl) rfl) ?_
  refine RgOK.s (v := .o (.c (.L 6 (x6.1.map Tx.cs)))) rfl rfl rfl (e_as (ev_t rfl)) ?_
  refine RgOK.s (v := VI (x6.2)) rfl rfl rfl (e_as (ev_t rfl)) ?_
  refine RgOK.nil ?_
  show CdOK _ _ _ _ _ _
  refine CdOK.seq ?_
  refine CdOK.region ?_
  refine RgOK.s (v := VI (x1.2)) rfl rfl rfl (e_mv (ev_t rfl)) ?_
  refine RgOK.sd rfl rfl rfl (e_eqK (ev_t rfl) rfl) ?_ ?_
  · intro c7; replace hm := hm.ifp c7
    refine RgOK.s (v := VB (true)) rfl rfl rfl (e_mv (ev_t rfl)) ?_
    refine RgOK.s (v := VI (x2.2)) rfl rfl rfl (e_mv (ev_t rfl)) ?_
    refine RgOK.sd rfl rfl rfl (e_eqK (ev_t rfl) rfl) ?_ ?_
    · intro c8; replace hm := hm.ifp c8
      refine RgOK.s (v := VB (true)) rfl rfl rfl (e_pick (t := true) (ev_t rfl) (ev_t rfl)) ?_
      refine RgOK.s (v := VB (true)) rfl rfl rfl (e_mv (ev_t rfl)) ?_
      refine RgOK.s (v := VI (x3.2)) rfl rfl rfl (e_mv (ev_t rfl)) ?_
      refine RgOK.sd rfl rfl rfl (e_eqK (ev_t rfl) rfl) ?_ ?_
      · intro c9; replace hm := hm.ifp c9
        refine RgOK.s (v := VB (true)) rfl rfl rfl (e_pick (t := true) (ev_t rfl) (ev_t rfl)) ?_
        refine RgOK.s (v := VB (true)) rfl rfl rfl (e_mv (ev_t rfl)) ?_
        refine RgOK.s (v := VI (x4.2)) rfl rfl rfl (e_mv (ev_t rfl)) ?_
        refine RgOK.sd rfl rfl rfl (e_eqK (ev_t rfl) rfl) ?_ ?_
        · intro c10; replace hm := hm.ifp c10
          refine RgOK.s (v := VB (true)) rfl rfl rfl (e_pick (t := true) (ev_t rfl) (ev_t rfl)) ?_
          refine RgOK.s (v := VB (true)) rfl rfl rfl (e_mv (ev_t rfl)) ?_
          refine RgOK.s (v := VI (x5.2)) rfl rfl rfl (e_mv (ev_t rfl)) ?_
          refine RgOK.sd rfl rfl rfl (e_eqK (ev_t rfl) rfl) ?_ ?_
          · intro c11; replace hm := hm.ifp c11
            refine RgOK.s (v := VB (true)) rfl rfl rfl (e_pick (t := true) (ev_t rfl) (ev_t rfl)) ?_
            refine RgOK.s (v := VB (true)) rfl rfl rfl (e_mv (ev_t rfl)) ?_
            refine RgOK.s (v := VI (x6.2)) rfl rfl rfl (e_mv (ev_t rfl)) ?_
            refine RgOK.sd rfl rfl rfl (e_eqK (ev_t rfl) rfl) ?_ ?_
            · intro c12; replace hm := hm.ifp c12
              refine RgOK.s (v := VB (true)) rfl rfl rfl (e_pick (t := true) (ev_t rfl) (ev_t rfl)) ?_
              refine RgOK.s (v := VB (true)) rfl rfl rfl (e_mv (ev_t rfl)) ?_
              refine RgOK.s (v := .o (.c (.L 6 (x6.1.map Tx.cs)))) rfl rfl rfl (e_mv (ev_t rfl)) ?_
              refine RgOK.s (v := VI ((x6.1.length : Int))) rfl rfl rfl (e_lenM (ev_t rfl) is92) ?_
              refine RgOK.sd rfl rfl rfl (e_eqK (ev_t rfl) rfl) ?_ ?_
              · intro c13; replace hm := hm.ifp c13
                refine RgOK.s (v := VB (true)) rfl rfl rfl (e_pick (t := true) (ev_t rfl) (ev_t rfl)) ?_
                refine RgOK.s (v := VB (true)) rfl rfl rfl (e_mv (ev_t rfl)) ?_
                refine RgOK.s (v := .o (.c (.L 6 (x6.1.map Tx.cs)))) rfl rfl rfl (e_mv (ev_t rfl)) ?_
                obtain ⟨c14, hm⟩ := hm.ifs
                refine RgOK.s (v := .o (.c (.rp [I ((gd x6.1 0).id_), I ((gd x6.1 0).state), I ((gd x6.1 0).last), I ((gd x6.1 0).until_), .L 1 (((gd x6.1 0).pending).map cI), .L 1 (((gd x6.1 0).saves).map cI)]))) rfl rfl rfl (e_ixM (f := Tx.cs) (l := x6.1) (i := 0) (ev_t rfl) rfl el92 c14) ?_
                refine RgOK.s (v := .o (.c (.rp [I ((gd x6.1 0).state), I ((gd x6.1 0).last), I ((gd x6.1 0).until_), .L 1 (((gd x6.1 0).pending).map cI), .L 1 (((gd x6.1 0).saves).map cI)]))) rfl rfl rfl (e_faR fa108_1 (ev_t rfl) rfl) ?_
                refine RgOK.s (v := VI ((gd x6.1 0).state)) rfl rfl rfl (e_ldR1 (ev_t rfl) ty3 rfl) ?_
                refine RgOK.sd rfl rfl rfl (e_eqK (ev_t rfl) rfl) ?_ ?_
                · intro c15; replace hm := hm.ifp c15
                  refine RgOK.s (v := VB (true)) rfl rfl rfl (e_pick (t := true) (ev_t rfl) (ev_t rfl)) ?_
                  refine RgOK.s (v := VB (true)) rfl rfl rfl (e_mv (ev_t rfl)) ?_
                  refine RgOK.s (v := .o (.c (.L 6 (x6.1.map Tx.cs)))) rfl rfl rfl (e_mv (ev_t rfl)) ?_
                  obtain ⟨c16, hm⟩ := hm.ifs
                  refine RgOK.s (v := .o (.c (.rp [I ((gd x6.1 0).id_), I ((gd x6.1 0).state), I ((gd x6.1 0).last), I ((gd x6.1 0).until_), .L 1 (((gd x6.1 0).pending).map cI), .L 1 (((gd x6.1 0).saves).map cI)]))) rfl rfl rfl (e_ixM (f := Tx.cs) (l := x6.1) (i := 0) (ev_t rfl) rfl el92 c16) ?_
                  refine RgOK.s (v := .o (.c (.rp [I ((gd x6.1 0).until_), .L 1 (((gd x6.1 0).pending).map cI), .L 1 (((gd x6.1 0).saves).map cI)]))) rfl rfl rfl (e_faR fa108_3 (ev_t rfl) rfl) ?_
                  refine RgOK.s (v := VI ((gd x6.1 0).until_)) rfl rfl rfl (e_ldR1 (ev_t rfl) ty3 rfl) ?_
                  refine RgOK.sd rfl rfl rfl (e_eqK (ev_t rfl) rfl) ?_ ?_
                  · intro c17; replace hm := hm.ifp c17
                    refine RgOK.s (v := VB (true)) rfl rfl rfl (e_pick (t := true) (ev_t rfl) (ev_t rfl)) ?_
                    refine RgOK.s (v := VB (true)) rfl rfl rfl (e_mv (ev_t rfl)) ?_
                    refine RgOK.s (v := .o (.c (.L 6 (x6.1.map Tx.cs)))) rfl rfl rfl (e_mv (ev_t rfl)) ?_
                    obtain ⟨c18, hm⟩ := hm.ifs
                    refine RgOK.s (v := .o (.c (.rp [I ((gd x6.1 0).id_), I ((gd x6.1 0).state), I ((gd x6.1 0).last), I ((gd x6.1 0).until_), .L 1 (((gd x6.1 0).pending).map cI), .L 1 (((gd x6.1 0).saves).map cI)]))) rfl rfl rfl (e_ixM (f := Tx.cs) (l := x6.1) (i := 0) (ev_t rfl) rfl el92 c18) ?_
                    refine RgOK.s (v := .o (.c (.rp [.L 1 (((gd x6.1 0).pending).map cI), .L 1 (((gd x6.1 0).saves).map cI)]))) rfl rfl rfl (e_faR fa108_4 (ev_t rfl) rfl) ?_
                    refine RgOK.s (v := .o (.c (.L 1 (((gd x6.1 0).pending).map cI)))) rfl rfl rfl (e_ldR1 (ev_t rfl) ty27 rfl) ?_
                    refine RgOK.s (v := VI ((((gd x6.1 0).pending).length : Int))) rfl rfl rfl (e_lenM (ev_t rfl) is27) ?_
                    refine RgOK.s (v := VB (decide ((((gd x6.1 0).pending).length : Int) = 3))) rfl rfl rfl (e_eqK (ev_t rfl) rfl) ?_
                    refine RgOK.s (v := VB (decide ((((gd x6.1 0).pending).length : Int) = 3))) rfl rfl rfl (e_pick (t := true) (ev_t rfl) (ev_t rfl)) ?_
                    refine RgOK.s (v := VB (decide ((((gd x6.1 0).pending).length : Int) = 3))) rfl rfl rfl (e_as (ev_t rfl)) ?_
                    refine RgOK.nil ?_
                    show CdOK _ _ _ _ _ _
                    refine CdOK.ret ?_
                    refine ⟨.inr rfl, _, rfl, h, [], _, rfl, rfl, hC, ((renFlV rfl) : RenV _ _ _ _ (VB (decide ((((gd x6.1 0).pending).length : Int) = 3)))), ?_⟩
                    have hr := hm.ret
                    subst hr
                    exact ⟨rfl, rfl⟩
                  · intro c19; replace hm := hm.ifn c19
                    refine RgOK.s (v := VB (false)) rfl rfl rfl (e_pick (t := true) (ev_t rfl) (ev_t rfl)) ?_
                    refine RgOK.s (v := VB (false)) rfl rfl rfl (e_mv (ev_t rfl)) ?_
                    refine RgOK.sk rfl rfl rfl ?_
                    refine RgOK.sk rfl rfl rfl ?_
                    refine RgOK.sk rfl rfl rfl ?_
                    refine RgOK.sk rfl rfl rfl ?_
                    refine RgOK.sk rfl rfl rfl ?_
                    refine RgOK.sk rfl rfl rfl ?_
                    refine RgOK.s (v := VB (false)) rfl rfl rfl (e_pick (t := false) (ev_t rfl) rfl) ?_
                    refine RgOK.s (v := VB (false)) rfl rfl rfl (e_as (ev_t rfl)) ?_
                    refine RgOK.nil ?_
                    show CdOK _ _ _ _ _ _
                    refine CdOK.ret ?_
                    refine ⟨.inr rfl, _, rfl, h, [], _, rfl, rfl, hC, ((renFlV rfl) : RenV _ _ _ _ (VB (false))), ?_⟩
                    have hr := hm.ret
                    subst hr
                    exact ⟨rfl, rfl⟩
                · intro c20; replace hm := hm.ifn c20
                  refine RgOK.s (v := VB (false)) rfl rfl rfl (e_pick (t := true) (ev_t rfl) (ev_t rfl)) ?_
                  refine RgOK.s (v := VB (false)) rfl rfl rfl (e_mv (ev_t rfl)) ?_
                  refine RgOK.sk rfl rfl rfl ?_
                  refine RgOK.sk rfl rfl rfl ?_
                  refine RgOK.sk rfl rfl rfl ?_
                  refine RgOK.sk rfl rfl rfl ?_
                  refine RgOK.sk rfl rfl rfl ?_
                  refine RgOK.s (v := VB (false)) rfl rfl rfl (e_pick (t := false) (ev_t rfl) rfl) ?_
                  refine RgOK.s (v := VB (false)) rfl rfl rfl (e_mv (ev_t rfl)) ?_
                  refine RgOK.sk rfl rfl rfl ?_
                  refine RgOK.sk rfl rfl rfl ?_
                  refine RgOK.sk rfl rfl rfl ?_
                  refine RgOK.sk rfl rfl rfl ?_
                  refine RgOK.sk rfl rfl rfl ?_
                  refine RgOK.sk rfl rfl rfl ?_
                  refine RgOK.s (v := VB (false)) rfl rfl rfl (e_pick (t := false) (ev_t rfl) rfl) ?_
                  refine RgOK.s (v := VB (false)) rfl rfl rfl (e_as (ev_t rfl)) ?_
                  refine RgOK.nil ?_
                  show CdOK _ _ _ _ _ _
                  refine CdOK.ret ?_
                  refine ⟨.inr rfl, _, rfl, h, [], _, rfl, rfl, hC, ((renFlV rfl) : RenV _ _ _ _ (VB (false))), ?_⟩
                  have hr := hm.ret
                  subst hr
                  exact ⟨rfl, rfl⟩
              · intro c21; replace hm := hm.ifn c21
                refine RgOK.s (v := VB (false)) rfl rfl rfl (e_pick (t := true) (ev_t rfl) (ev_t rfl)) ?_
                refine RgOK.s (v := VB (false)) rfl rfl rfl (e_mv (ev_t rfl)) ?_
                refine RgOK.sk rfl rfl rfl ?_
                refine RgOK.sk rfl rfl rfl ?_
                refine RgOK.sk rfl rfl rfl ?_
                refine RgOK.sk rfl rfl rfl ?_
                refine RgOK.sk rfl rfl rfl ?_
                refine RgOK.s (v := VB (false)) rfl rfl rfl (e_pick (t := false) (ev_t rfl) rfl) ?_
                refine RgOK.s (v := VB (false)) rfl rfl rfl (e_mv (ev_t rfl)) ?_
                refine RgOK.sk rfl rfl rfl ?_
                refine RgOK.sk rfl rfl rfl ?_
                refine RgOK.sk rfl rfl rfl ?_
                refine RgOK.sk rfl rfl rfl ?_
                refine RgOK.sk rfl rfl rfl ?_
                refine RgOK.s (v := VB (false)) rfl rfl rfl (e_pick (t := false) (ev_t rfl) rfl) ?_
                refine RgOK.s (v := VB (false)) rfl rfl rfl (e_mv (ev_t rfl)) ?_
                refine RgOK.sk rfl rfl rfl ?_
                refine RgOK.sk rfl rfl rfl ?_
                refine RgOK.sk rfl rfl rfl ?_
                refine RgOK.sk rfl rfl rfl ?_
                refine RgOK.sk rfl rfl rfl ?_
                refine RgOK.sk rfl rfl rfl ?_
                refine RgOK.s (v := VB (false)) rfl rfl rfl (e_pick (t := false) (ev_t rfl) rfl) ?_
                refine RgOK.s (v := VB (false)) rfl rfl rfl (e_as (ev_t rfl)) ?_
                refine RgOK.nil ?_
                show CdOK _ _ _ _ _ _
                refine CdOK.ret ?_
                refine ⟨.inr rfl, _, rfl, h, [], _, rfl, rfl, hC, ((renFlV rfl) : RenV _ _ _ _ (VB (false))), ?_⟩
                have hr := hm.ret
                subst hr
                exact ⟨rfl, rfl⟩
            · intro c22; replace hm := hm.ifn c22
              refine RgOK.s (v := VB (false)) rfl rfl rfl (e_pick (t := true) (ev_t rfl) (ev_t rfl)) ?_
              refine RgOK.s (v := VB (false)) rfl rfl rfl (e_mv (ev_t rfl)) ?_
              refine RgOK.sk rfl rfl rfl ?_
              refine RgOK.sk rfl rfl rfl ?_
              refine RgOK.sk rfl rfl rfl ?_
              refine RgOK.s (v := VB (false)) rfl rfl rfl (e_pick (t := false) (ev_t rfl) rfl) ?_
              refine RgOK.s (v := VB (false)) rfl rfl rfl (e_mv (ev_t rfl)) ?_
              refine RgOK.sk rfl rfl rfl ?_
              refine RgOK.sk rfl rfl rfl ?_
              refine RgOK.sk rfl rfl rfl ?_
              refine RgOK.sk rfl rfl rfl ?_
              refine RgOK.sk rfl rfl rfl ?_
              refine RgOK.s (v := VB (false)) rfl rfl rfl (e_pick (t := false) (ev_t rfl) rfl) ?_
              refine RgOK.s (v := VB (false)) rfl rfl rfl (e_mv (ev_t rfl)) ?_
              refine RgOK.sk rfl rfl rfl ?_
              refine RgOK.sk rfl rfl rfl ?_
              refine RgOK.sk rfl rfl rfl ?_
              refine RgOK.sk rfl rfl rfl ?_
              refine RgOK.sk rfl rfl rfl ?_
              refine RgOK.s (v := VB (false)) rfl rfl rfl (e_pick (t := false) (ev_t rfl) rfl) ?_
              refine RgOK.s (v := VB (false)) rfl rfl rfl (e_mv (ev_t rfl)) ?_
              refine RgOK.sk rfl rfl rfl ?_
              refine RgOK.sk rfl rfl rfl ?_
              refine RgOK.sk rfl rfl rfl ?_
              refine RgOK.sk rfl rfl rfl ?_
              refine RgOK.sk rfl rfl rfl ?_
              refine RgOK.sk rfl rfl rfl ?_
              refine RgOK.s (v := VB (false)) rfl rfl rfl (e_pick (t := false) (ev_t rfl) rfl) ?_
              refine RgOK.s (v := VB (false)) rfl rfl rfl (e_as (ev_t rfl)) ?_
              refine RgOK.nil ?_
              show CdOK _ _ _ _ _ _
              refine CdOK.ret ?_
              refine ⟨.inr rfl, _, rfl, h, [], _, rfl, rfl, hC, ((renFlV rfl) : RenV _ _ _ _ (VB (false))), ?_⟩
              have hr := hm.ret
              subst hr
              exact ⟨rfl, rfl⟩
          · intro c23; replace hm := hm.ifn c23
            refine RgOK.s (v := VB (false)) rfl rfl rfl (e_pick (t := true) (ev_t rfl) (ev_t rfl)) ?_
            refine RgOK.s (v := VB (false)) rfl rfl rfl (e_mv (ev_t rfl)) ?_
            refine RgOK.sk rfl rfl rfl ?_
            refine RgOK.sk rfl rfl rfl ?_
            refine RgOK.s (v := VB (false)) rfl rfl rfl (e_pick (t := false) (ev_t rfl) rfl) ?_
            refine RgOK.s (v := VB (false)) rfl rfl rfl (e_mv (ev_t rfl)) ?_
            refine RgOK.sk rfl rfl rfl ?_
            refine RgOK.sk rfl rfl rfl ?_
            refine RgOK.sk rfl rfl rfl ?_
            refine RgOK.s (v := VB (false)) rfl rfl rfl (e_pick (t := false) (ev_t rfl) rfl) ?_
            refine RgOK.s (v := VB (false)) rfl rfl rfl (e_mv (ev_t rfl)) ?_
            refine RgOK.sk rfl rfl rfl ?_
            refine RgOK.sk rfl rfl rfl ?_
            refine RgOK.sk rfl rfl rfl ?_
            refine RgOK.sk rfl rfl rfl ?_
            refine RgOK.sk rfl rfl rfl ?_
            refine RgOK.s (v := VB (false)) rfl rfl rfl (e_pick (t := false) (ev_t rfl) rfl) ?_
            refine RgOK.s (v := VB (false)) rfl rfl rfl (e_mv (ev_t rfl)) ?_
            refine RgOK.sk rfl rfl rfl ?_
            refine RgOK.sk rfl rfl rfl ?_
            refine RgOK.sk rfl rfl rfl ?_
            refine RgOK.sk rfl rfl rfl ?_
            refine RgOK.sk rfl rfl rfl ?_
            refine RgOK.s (v := VB (false)) rfl rfl rfl (e_pick (t := false) (ev_t rfl) rfl) ?_
            refine RgOK.s (v := VB (false)) rfl rfl rfl (e_mv (ev_t rfl)) ?_
            refine RgOK.sk rfl rfl rfl ?_
            refine RgOK.sk rfl rfl rfl ?_
            refine RgOK.sk rfl rfl rfl ?_
            refine RgOK.sk rfl rfl rfl ?_
            refine RgOK.sk rfl rfl rfl ?_
            refine RgOK.sk rfl rfl rfl ?_
            refine RgOK.s (v := VB (false)) rfl rfl rfl (e_pick (t := false) (ev_t rfl) rfl) ?_
            refine RgOK.s (v := VB (false)) rfl rfl rfl (e_as (ev_t rfl)) ?_
            refine RgOK.nil ?_
            show CdOK _ _ _ _ _ _
            refine CdOK.ret ?_
            refine ⟨.inr rfl, _, rfl, h, [], _, rfl, rfl, hC, ((renFlV rfl) : RenV _ _ _ _ (VB (false))), ?_⟩
            have hr := hm.ret
            subst hr
            exact ⟨rfl, rfl⟩
        · intro c24; replace hm := hm.ifn c24
          refine RgOK.s (v := VB (false)) rfl rfl rfl (e_pick (t := true) (ev_t rfl) (ev_t rfl)) ?_
          refine RgOK.s (v := VB (false)) rfl rfl rfl (e_mv (ev_t rfl)) ?_
          refine RgOK.sk rfl rfl rfl ?_
          refine RgOK.sk rfl rfl rfl ?_
          refine RgOK.s (v := VB (false)) rfl rfl rfl (e_pick (t := false) (ev_t rfl) rfl) ?_
          refine RgOK.s (v := VB (false)) rfl rfl rfl (e_mv (ev_t rfl)) ?_
          refine RgOK.sk rfl rfl rfl ?_
          refine RgOK.sk rfl rfl rfl ?_
          refine RgOK.s (v := VB (false)) rfl rfl rfl (e_pick (t := false) (ev_t rfl) rfl) ?_
          refine RgOK.s (v := VB (false)) rfl rfl rfl (e_mv (ev_t rfl)) ?_
          refine RgOK.sk rfl rfl rfl ?_
          refine RgOK.sk rfl rfl rfl ?_
          refine RgOK.sk rfl rfl rfl ?_
          refine RgOK.s (v := VB (false)) rfl rfl rfl (e_pick (t := false) (ev_t rfl) rfl) ?_
          refine RgOK.s (v := VB (false)) rfl rfl rfl (e_mv (ev_t rfl)) ?_
          refine RgOK.sk rfl rfl rfl ?_
          refine RgOK.sk rfl rfl rfl ?_
          refine RgOK.sk rfl rfl rfl ?_
          refine RgOK.sk rfl rfl rfl ?_
          refine RgOK.sk rfl rfl rfl ?_
          refine RgOK.s (v := VB (false)) rfl rfl rfl (e_pick (t := false) (ev_t rfl) rfl) ?_
          refine RgOK.s (v := VB (false)) rfl rfl rfl (e_mv (ev_t rfl)) ?_
          refine RgOK.sk rfl rfl rfl ?_
          refine RgOK.sk rfl rfl rfl ?_
          refine RgOK.sk rfl rfl rfl ?_
          refine RgOK.sk rfl rfl rfl ?_
          refine RgOK.sk rfl rfl rfl ?_
          refine RgOK.s (v := VB (false)) rfl rfl rfl (e_pick (t := false) (ev_t rfl) rfl) ?_
          refine RgOK.s (v := VB (false)) rfl rfl rfl (e_mv (ev_t rfl)) ?_
          refine RgOK.sk rfl rfl rfl ?_
          refine RgOK.sk rfl rfl rfl ?_
          refine RgOK.sk rfl rfl rfl ?_
          refine RgOK.sk rfl rfl rfl ?_
          refine RgOK.sk rfl rfl rfl ?_
          refine RgOK.sk rfl rfl rfl ?_
          refine RgOK.s (v := VB (false)) rfl rfl rfl (e_pick (t := false) (ev_t rfl) rfl) ?_
          refine RgOK.s (v := VB (false)) rfl rfl rfl (e_as (ev_t rfl)) ?_
          refine RgOK.nil ?_
          show CdOK _ _ _ _ _ _
          refine CdOK.ret ?_
          refine ⟨.inr rfl, _, rfl, h, [], _, rfl, rfl, hC, ((renFlV rfl) : RenV _ _ _ _ (VB (false))), ?_⟩
          have hr := hm.ret
          subst hr
          exact ⟨rfl, rfl⟩
      · intro c25; replace hm := hm.ifn c25
        refine RgOK.s (v := VB (false)) rfl rfl rfl (e_pick (t := true) (ev_t rfl) (ev_t rfl)) ?_
        refine RgOK.s (v := VB (false)) rfl rfl rfl (e_mv (ev_t rfl)) ?_
        refine RgOK.sk rfl rfl rfl ?_
        refine RgOK.sk rfl rfl rfl ?_
        refine RgOK.s (v := VB (false)) rfl rfl rfl (e_pick (t := false) (ev_t rfl) rfl) ?_
        refine RgOK.s (v := VB (false)) rfl rfl rfl (e_mv (ev_t rfl)) ?_
        refine RgOK.sk rfl rfl rfl ?_
        refine RgOK.sk rfl rfl rfl ?_
        refine RgOK.s (v := VB (false)) rfl rfl rfl (e_pick (t := false) (ev_t rfl) rfl) ?_
        refine RgOK.s (v := VB (false)) rfl rfl rfl (e_mv (ev_t rfl)) ?_
        refine RgOK.sk rfl rfl rfl ?_
        refine RgOK.sk rfl rfl rfl ?_
        refine RgOK.s (v := VB (false)) rfl rfl rfl (e_pick (t := false) (ev_t rfl) rfl) ?_
        refine RgOK.s (v := VB (false)) rfl rfl rfl (e_mv (ev_t rfl)) ?_
        refine RgOK.sk rfl rfl rfl ?_
        refine RgOK.sk rfl rfl rfl ?_
        refine RgOK.sk rfl rfl rfl ?_
        refine RgOK.s (v := VB (false)) rfl rfl rfl (e_pick (t := false) (ev_t rfl) rfl) ?_
        refine RgOK.s (v := VB (false)) rfl rfl rfl (e_mv (ev_t rfl)) ?_
        refine RgOK.sk rfl rfl rfl ?_
        refine RgOK.sk rfl rfl rfl ?_
        refine RgOK.sk rfl rfl rfl ?_
        refine RgOK.sk rfl rfl rfl ?_
        refine RgOK.sk rfl rfl rfl ?_
        refine RgOK.s (v := VB (false)) rfl rfl rfl (e_pick (t := false) (ev_t rfl) rfl) ?_
        refine RgOK.s (v := VB (false)) rfl rfl rfl (e_mv (ev_t rfl)) ?_
        refine RgOK.sk rfl rfl rfl ?_
        refine RgOK.sk rfl rfl rfl ?_
        refine RgOK.sk rfl rfl rfl ?_
        refine RgOK.sk rfl rfl rfl ?_
        refine RgOK.sk rfl rfl rfl ?_
        refine RgOK.s (v := VB (false)) rfl rfl rfl (e_pick (t := false) (ev_t rfl) rfl) ?_
        refine RgOK.s (v := VB (false)) rfl rfl rfl (e_mv (ev_t rfl)) ?_
        refine RgOK.sk rfl rfl rfl ?_
        refine RgOK.sk rfl rfl rfl ?_
        refine RgOK.sk rfl rfl rfl ?_
        refine RgOK.sk rfl rfl rfl ?_
        refine RgOK.sk rfl rfl rfl ?_
        refine RgOK.sk rfl rfl rfl ?_
        refine RgOK.s (v := VB (false)) rfl rfl rfl (e_pick (t := false) (ev_t rfl) rfl) ?_
        refine RgOK.s (v := VB (false)) rfl rfl rfl (e_as (ev_t rfl)) ?_
        refine RgOK.nil ?_
        show CdOK _ _ _ _ _ _
        refine CdOK.ret ?_
        refine ⟨.inr rfl, _, rfl, h, [], _, rfl, rfl, hC, ((renFlV rfl) : RenV _ _ _ _ (VB (false))), ?_⟩
        have hr := hm.ret
        subst hr
        exact ⟨rfl, rfl⟩
    · intro c26; replace hm := hm.ifn c26
      refine RgOK.s (v := VB (false)) rfl rfl rfl (e_pick (t := true) (ev_t rfl) (ev_t rfl)) ?_
      refine RgOK.s (v := VB (false)) rfl rfl rfl (e_mv (ev_t rfl)) ?_
      refine RgOK.sk rfl rfl rfl ?_
      refine RgOK.sk rfl rfl rfl ?_
      refine RgOK.s (v := VB (false)) rfl rfl rfl (e_pick (t := false) (ev_t rfl) rfl) ?_
      refine RgOK.s (v := VB (false)) rfl rfl rfl (e_mv (ev_t rfl)) ?_
      refine RgOK.sk rfl rfl rfl ?_
      refine RgOK.sk rfl rfl rfl ?_
      refine RgOK.s (v := VB (false)) rfl rfl rfl (e_pick (t := false) (ev_t rfl) rfl) ?_
      refine RgOK.s (v := VB (false)) rfl rfl rfl (e_mv (ev_t rfl)) ?_
      refine RgOK.sk rfl rfl rfl ?_
      refine RgOK.sk rfl rfl rfl ?_
      refine RgOK.s (v := VB (false)) rfl rfl rfl (e_pick (t := false) (ev_t rfl) rfl) ?_
      refine RgOK.s (v := VB (false)) rfl rfl rfl (e_mv (ev_t rfl)) ?_
      refine RgOK.sk rfl rfl rfl ?_
      refine RgOK.sk rfl rfl rfl ?_
      refine RgOK.s (v := VB (false)) rfl rfl rfl (e_pick (t := false) (ev_t rfl) rfl) ?_
      refine RgOK.s (v := VB (false)) rfl rfl rfl (e_mv (ev_t rfl)) ?_
      refine RgOK.sk rfl rfl rfl ?_
      refine RgOK.sk rfl rfl rfl ?_
      refine RgOK.sk rfl rfl rfl ?_
      refine RgOK.s (v := VB (false)) rfl rfl rfl (e_pick (t := false) (ev_t rfl) rfl) ?_
      refine RgOK.s (v := VB (false)) rfl rfl rfl (e_mv (ev_t rfl)) ?_
      refine RgOK.sk rfl rfl rfl ?_
      refine RgOK.sk rfl rfl rfl ?_
      refine RgOK.sk rfl rfl rfl ?_
      refine RgOK.sk rfl rfl rfl ?_
      refine RgOK.sk rfl rfl rfl ?_
      refine RgOK.s (v := VB (false)) rfl rfl rfl (e_pick (t := false) (ev_t rfl) rfl) ?_
      refine RgOK.s (v := VB (false)) rfl rfl rfl (e_mv (ev_t rfl)) ?_
      refine RgOK.sk rfl rfl rfl ?_
      refine RgOK.sk rfl rfl rfl ?_
      refine RgOK.sk rfl rfl rfl ?_
      refine RgOK.sk rfl rfl rfl ?_
      refine RgOK.sk rfl rfl rfl ?_
      refine RgOK.s (v := VB (false)) rfl rfl rfl (e_pick (t := false) (ev_t rfl) rfl) ?_
      refine RgOK.s (v := VB (false)) rfl rfl rfl (e_mv (ev_t rfl)) ?_
      refine RgOK.sk rfl rfl rfl ?_
      refine RgOK.sk rfl rfl rfl ?_
      refine RgOK.sk rfl rfl rfl ?_
      refine RgOK.sk rfl rfl rfl ?_
      refine RgOK.sk rfl rfl rfl ?_
      refine RgOK.sk rfl rfl rfl ?_
      refine RgOK.s (v := VB (false)) rfl rfl rfl (e_pick (t := false) (ev_t rfl) rfl) ?_
      refine RgOK.s (v := VB (false)) rfl rfl rfl (e_as (ev_t rfl)) ?_
      refine RgOK.nil ?_
      show CdOK _ _ _ _ _ _
      refine CdOK.ret ?_
      refine ⟨.inr rfl, _, rfl, h, [], _, rfl, rfl, hC, ((renFlV rfl) : RenV _ _ _ _ (VB (false))), ?_⟩
      have hr := hm.ret
      subst hr
      exact ⟨rfl, rfl⟩
  · intro c27; replace hm := hm.ifn c27
    refine RgOK.s (v := VB (false)) rfl rfl rfl (e_mv (ev_t rfl)) ?_
    refine RgOK.sk rfl rfl rfl ?_
    refine RgOK.sk rfl rfl rfl ?_
    refine RgOK.s (v := VB (false)) rfl rfl rfl (e_pick (t := false) (ev_t rfl) rfl) ?_
    refine RgOK.s (v := VB (false)) rfl rfl rfl (e_mv (ev_t rfl)) ?_
    refine RgOK.sk rfl rfl rfl ?_
    refine RgOK.sk rfl rfl rfl ?_
    refine RgOK.s (v := VB (false)) rfl rfl rfl (e_pick (t := false) (ev_t rfl) rfl) ?_
    refine RgOK.s (v := VB (false)) rfl rfl rfl (e_mv (ev_t rfl)) ?_
    refine RgOK.sk rfl rfl rfl ?_
    refine RgOK.sk rfl rfl rfl ?_
    refine RgOK.s (v := VB (false)) rfl rfl rfl (e_pick (t := false) (ev_t rfl) rfl) ?_
    refine RgOK.s (v := VB (false)) rfl rfl rfl (e_mv (ev_t rfl)) ?_
    refine RgOK.sk rfl rfl rfl ?_
    refine RgOK.sk rfl rfl rfl ?_
    refine RgOK.s (v := VB (false)) rfl rfl rfl (e_pick (t := false) (ev_t rfl) rfl) ?_
    refine RgOK.s (v := VB (false)) rfl rfl rfl (e_mv (ev_t rfl)) ?_
    refine RgOK.sk rfl rfl rfl ?_
    refine RgOK.sk rfl rfl rfl ?_
    refine RgOK.s (v := VB (false)) rfl rfl rfl (e_pick (t := false) (ev_t rfl) rfl) ?_
    refine RgOK.s (v := VB (false)) rfl rfl rfl (e_mv (ev_t rfl)) ?_
    refine RgOK.sk rfl rfl rfl ?_
    refine RgOK.sk rfl rfl rfl ?_
    refine RgOK.sk rfl rfl rfl ?_
    refine RgOK.s (v := VB (false)) rfl rfl rfl (e_pick (t := false) (ev_t rfl) rfl) ?_
    refine RgOK.s (v := VB (false)) rfl rfl rfl (e_mv (ev_t rfl)) ?_
    refine RgOK.sk rfl rfl rfl ?_
    refine RgOK.sk rfl rfl rfl ?_
    refine RgOK.sk rfl rfl rfl ?_
    refine RgOK.sk rfl rfl rfl ?_
    refine RgOK.sk rfl rfl rfl ?_
    refine RgOK.s (v := VB (false)) rfl rfl rfl (e_pick (t := false) (ev_t rfl) rfl) ?_
    refine RgOK.s (v := VB (false)) rfl rfl rfl (e_mv (ev_t rfl)) ?_
    refine RgOK.sk rfl rfl rfl ?_
    refine RgOK.sk rfl rfl rfl ?_
    refine RgOK.sk rfl rfl rfl ?_
    refine RgOK.sk rfl rfl rfl ?_
    refine RgOK.sk rfl rfl rfl ?_
    refine RgOK.s (v := VB (false)) rfl rfl rfl (e_pick (t := false) (ev_t rfl) rfl) ?_
    refine RgOK.s (v := VB (false)) rfl rfl rfl (e_mv (ev_t rfl)) ?_
    refine RgOK.sk rfl rfl rfl ?_
    refine RgOK.sk rfl rfl rfl ?_
    refine RgOK.sk rfl rfl rfl ?_
    refine RgOK.sk rfl rfl rfl ?_
    refine RgOK.sk rfl rfl rfl ?_
    refine RgOK.sk rfl rfl rfl ?_
    refine RgOK.s (v := VB (false)) rfl rfl rfl (e_pick (t := false) (ev_t rfl) rfl) ?_
    refine RgOK.s (v := VB (false)) rfl rfl rfl (e_as (ev_t rfl)) ?_
    refine RgOK.nil ?_
    show CdOK _ _ _ _ _ _
    refine CdOK.ret ?_
    refine ⟨.inr rfl, _, rfl, h, [], _, rfl, rfl, hC, ((renFlV rfl) : RenV _ _ _ _ (VB (false))), ?_⟩
    have hr := hm.ret
    subst hr
    exact ⟨rfl, rfl⟩
/- pagemend/pagemendlaw12.TransactionsLimits -/
def law12_TransactionsLimits.l1 (less : Int) : Nat → (List Tx) → Int → Option (List Tx)
  | 0, _, _ => none
  | kk7 + 1, l5, i6 => (if i6 ≤ (w64 (64 - (Int.tmod (w64 less) 2))) then (if (l5).length + ([(⟨(w64 (2 * i6)), 1, 0, 0, ([] : List Int), ([] : List Int)⟩ : Tx)] : List Tx).length ≤ 1759218604441 then law12_TransactionsLimits.l1 less kk7 (l5 ++ ([(⟨(w64 (2 * i6)), 1, 0, 0, ([] : List Int), ([] : List Int)⟩ : Tx)] : List Tx)) (w64 (i6 + 1)) else none) else some l5)
theorem law12_TransactionsLimits.l1_s (less : Int) (kk7 : Nat) (l5 : (List Tx)) (i6 : Int) : law12_TransactionsLimits.l1 less (kk7 + 1) l5 i6 = (if i6 ≤ (w64 (64 - (Int.tmod (w64 less) 2))) then (if (l5).length + ([(⟨(w64 (2 * i6)), 1, 0, 0, ([] : List Int), ([] : List Int)⟩ : Tx)] : List Tx).length ≤ 1759218604441 then law12_TransactionsLimits.l1 less kk7 (l5 ++ ([(⟨(w64 (2 * i6)), 1, 0, 0, ([] : List Int), ([] : List Int)⟩ : Tx)] : List Tx)) (w64 (i6 + 1)) else none) else some l5) := rfl
def law12_TransactionsLimits.l2 (saves : Int) : Nat → (List Tx) → Int → Option (Sum (List Tx) Bool)
  | 0, _, _ => none
  | kk41 + 1, l39, i40 => (if i40 < (w64 (7 + (Int.tmod (w64 saves) 3))) then ((transactions_Save l39 4).bind fun (x43 : ((List Tx) × Int)) => (((if (!((decide (x43.2 = 0)) == (decide (i40 < 8)))) = true then some (Sum.inr false) else (if x43.2 ≠ 0 then (if x43.2 ≠ 21 then some (Sum.inr false) else some (Sum.inl ())) else some (Sum.inl ())))).bind fun (z : Sum Unit Bool) => match z with | .inl (s50 : Unit) => (if x43.2 = 0 then law12_TransactionsLimits.l2 saves kk41 x43.1 (w64 (i40 + 1)) else law12_TransactionsLimits.l2 saves kk41 l39 (w64 (i40 + 1))) | .inr r => some (Sum.inr r))) else some (Sum.inl l39))
theorem law12_TransactionsLimits.l2_s (saves : Int) (kk41 : Nat) (l39 : (List Tx)) (i40 : Int) : law12_TransactionsLimits.l2 saves (kk41 + 1) l39 i40 = (if i40 < (w64 (7 + (Int.tmod (w64 saves) 3))) then ((transactions_Save l39 4).bind fun (x43 : ((List Tx) × Int)) => (((if (!((decide (x43.2 = 0)) == (decide (i40 < 8)))) = true then some (Sum.inr false) else (if x43.2 ≠ 0 then (if x43.2 ≠ 21 then some (Sum.inr false) else some (Sum.inl ())) else some (Sum.inl ())))).bind fun (z : Sum Unit Bool) => match z with | .inl (s50 : Unit) => (if x43.2 = 0 then law12_TransactionsLimits.l2 saves kk41 x43.1 (w64 (i40 + 1)) else law12_TransactionsLimits.l2 saves kk41 l39 (w64 (i40 + 1))) | .inr r => some (Sum.inr r))) else some (Sum.inl l39)) := rfl
def law12_TransactionsLimits (less : Int) (saves : Int) : Option Bool := ((law12_awake ).bind fun (x1 : Bool) => (if (!x1) = true then some false else ((law12_TransactionsLimits.l1 less FU ([] : List Tx) 1).bind fun (s11 : (List Tx)) => ((transactions_Begin s11 7).bind fun (x12 : ((List Tx) × Int)) => (((if (w64 (64 - (Int.tmod (w64 less) 2))) = 64 then (if x12.2 ≠ 21 then some (Sum.inr false) else (if (x12.1.length : Int) ≠ 0 then some (Sum.inr false) else (if (w64 (64 - (Int.tmod (w64 less) 2))) < 64 then (if x12.2 ≠ 0 then some (Sum.inr false) else (if (x12.1.length : Int) ≠ (w64 ((w64 (64 - (Int.tmod (w64 less) 2))) + 1)) then some (Sum.inr false) else (if (0 : Int) ≤ 3 ∧ 3 < (x12.1.length : Int) then (if ((gd x12.1 3).id_) ≠ 7 then some (Sum.inr false) else some (Sum.inl ())) else none))) else some (Sum.inl ())))) else (if (w64 (64 - (Int.tmod (w64 less) 2))) < 64 then (if x12.2 ≠ 0 then some (Sum.inr false) else (if (x12.1.length : Int) ≠ (w64 ((w64 (64 - (Int.tmod (w64 less) 2))) + 1)) then some (Sum.inr false) else (if (0 : Int) ≤ 3 ∧ 3 < (x12.1.length : Int) then (if ((gd x12.1 3).id_) ≠ 7 then some (Sum.inr false) else some (Sum.inl ())) else none))) else some (Sum.inl ())))).bind fun (z : Sum Unit Bool) => match z with | .inl (s37 : Unit) => ((law12_TransactionsLimits.l2 saves FU s11 0).bind fun (z : Sum (List Tx) Bool) => match z with | .inl (s54 : (List Tx)) => ((ref12_Valid s54).bind fun (x55 : Bool) => (if x55 = true then (if (0 : Int) ≤ 1 ∧ 1 < (s54.length : Int) then some (decide ((((gd s54 1).saves).length : Int) = (if 8 < (w64 (7 + (Int.tmod (w64 saves) 3))) then 8 else (w64 (7 + (Int.tmod (w64 saves) 3)))))) else none) else some false)) | .inr r => some r) | .inr r => some r)))))
theorem law12_TransactionsLimits.eq (less : Int) (saves : Int) : law12_TransactionsLimits less saves = ((law12_awake ).bind fun (x1 : Bool) => (if (!x1) = true then some false else ((law12_TransactionsLimits.l1 less FU ([] : List Tx) 1).bind fun (s11 : (List Tx)) => ((transactions_Begin s11 7).bind fun (x12 : ((List Tx) × Int)) => (((if (w64 (64 - (Int.tmod (w64 less) 2))) = 64 then (if x12.2 ≠ 21 then some (Sum.inr false) else (if (x12.1.length : Int) ≠ 0 then some (Sum.inr false) else (if (w64 (64 - (Int.tmod (w64 less) 2))) < 64 then (if x12.2 ≠ 0 then some (Sum.inr false) else (if (x12.1.length : Int) ≠ (w64 ((w64 (64 - (Int.tmod (w64 less) 2))) + 1)) then some (Sum.inr false) else (if (0 : Int) ≤ 3 ∧ 3 < (x12.1.length : Int) then (if ((gd x12.1 3).id_) ≠ 7 then some (Sum.inr false) else some (Sum.inl ())) else none))) else some (Sum.inl ())))) else (if (w64 (64 - (Int.tmod (w64 less) 2))) < 64 then (if x12.2 ≠ 0 then some (Sum.inr false) else (if (x12.1.length : Int) ≠ (w64 ((w64 (64 - (Int.tmod (w64 less) 2))) + 1)) then some (Sum.inr false) else (if (0 : Int) ≤ 3 ∧ 3 < (x12.1.length : Int) then (if ((gd x12.1 3).id_) ≠ 7 then some (Sum.inr false) else some (Sum.inl ())) else none))) else some (Sum.inl ())))).bind fun (z : Sum Unit Bool) => match z with | .inl (s37 : Unit) => ((law12_TransactionsLimits.l2 saves FU s11 0).bind fun (z : Sum (List Tx) Bool) => match z with | .inl (s54 : (List Tx)) => ((ref12_Valid s54).bind fun (x55 : Bool) => (if x55 = true then (if (0 : Int) ≤ 1 ∧ 1 < (s54.length : Int) then some (decide ((((gd s54 1).saves).length : Int) = (if 8 < (w64 (7 + (Int.tmod (w64 saves) 3))) then 8 else (w64 (7 + (Int.tmod (w64 saves) 3)))))) else none) else some false)) | .inr r => some r) | .inr r => some r))))) := rfl
theorem law12_TransactionsLimits_ok {h : Heap} {less : Int} {saves : Int}  {r : Bool} (hm : law12_TransactionsLimits less saves = some r) : FnOK Try.prog 14 [.o (.c (.v (.int .u8 (less)))), .o (.c (.v (.int .u8 (saves))))] h (fun v h' => v = VB (r) ∧ h' = h) := by
  refine FnOK.fin ?_
  refine FnOK.bodyC (N := 111) Try.func14 rfl rfl rfl (fun hC => ?_)
  replace hm := Ev.of hm
  rw [law12_TransactionsLimits.eq] at hm
  show CdOK _ _ _ (look _ [(0, .o (.c (.v (.int .u8 (less))))), (1, .o (.c (.v (.int .u8 (saves)))))]) (h ++ ([] : Heap)) _
  refine CdOK.seq ?_
  refine CdOK.region ?_
  refine RgOK.s (v := VB (false)) rfl rfl rfl (e_as rfl) ?_
  refine RgOK.nil ?_
  show CdOK _ _ _ _ _ _
  refine CdOK.seq ?_
  refine CdOK.seq ?_
  refine CdOK.region ?_
  obtain ⟨x1, e1, hm⟩ := hm.call
  refine RgOK.cl rfl rfl rfl rfl pl62 (R2.wk _) (law12_awake_ok   e1) ?_
  rintro _ _ ⟨rfl, rfl⟩
  refine RgOK.s (v := VB ((!x1))) rfl rfl rfl (e_un (ev_t rfl) rfl) ?_
  refine RgOK.nil ?_
  show CdOK _ _ _ _ _ _
  refine CdOK.condB (ev_t rfl) ?_ ?_
  · intro c2; replace hm := hm.ifp c2
    refine CdOK.seq ?_
    refine CdOK.region ?_
    refine RgOK.s (v := VB (false)) rfl rfl rfl (e_as rfl) ?_
    refine RgOK.nil ?_
    show CdOK _ _ _ _ _ _
    refine CdOK.ret ?_
    refine ⟨.inr rfl, _, rfl, h, [], _, rfl, rfl, hC, ((renFlV rfl) : RenV _ _ _ _ (VB (false))), ?_⟩
    have hr := hm.ret
    subst hr
    exact ⟨rfl, rfl⟩
  · intro c3; replace hm := hm.ifn c3
    refine CdOK.skip ?_
    show CdOK _ _ _ _ _ _
    refine CdOK.seq ?_
    refine CdOK.region ?_
    refine RgOK.s (v := .o (.c (.v (.int .u8 (less))))) rfl rfl rfl (e_mv (ev_t rfl)) ?_
    refine RgOK.s (v := VI ((w64 less))) rfl rfl rfl (e_cvw cv5_3 (ev_t rfl)) ?_
    refine RgOK.s (v := VI ((Int.tmod (w64 less) 2))) rfl rfl rfl (e_remK (ev_t rfl) rfl (by decide)) ?_
    refine RgOK.s (v := VI ((w64 (64 - (Int.tmod (w64 less) 2))))) rfl rfl rfl (e_bin rfl (ev_t rfl) rfl rfl) ?_
    refine RgOK.s (v := VI ((w64 (64 - (Int.tmod (w64 less) 2))))) rfl rfl rfl (e_as (ev_t rfl)) ?_
    refine RgOK.nil ?_
    show CdOK _ _ _ _ _ _
    refine CdOK.seq ?_
    refine CdOK.region ?_
    refine RgOK.s (v := .o (.c (.v (.slice none 0 0)))) rfl rfl rfl (e_as rfl) ?_
    refine RgOK.nil ?_
    show CdOK _ _ _ _ _ _
    refine CdOK.seq ?_
    refine CdOK.seq ?_
    refine CdOK.region ?_
    refine RgOK.s (v := VI (1)) rfl rfl rfl (e_as rfl) ?_
    refine RgOK.nil ?_
    show CdOK _ _ _ _ _ _
    replace hm := hm.bnd
    refine CdOK.joinT (σ := (List Tx)) (fun s => s) hm (fun s => [(1, .o (.c (.v (.int .u8 (saves))))), (5, VI ((w64 (64 - (Int.tmod (w64 less) 2))))), (6, .o (.c (.L 6 (s.map Tx.cs))))]) (fun s => h ++ ([] : Heap)) ?_ ?_
    · intro hm
      refine CdOK.block ?_
      refine CdOK.re (σ := [1000]) (X := [(1, .o (.c (.v (.int .u8 (saves))))), (5, VI ((w64 (64 - (Int.tmod (w64 less) 2))))), (6, .o (.c (.g (h.length + 0) ((([] : List Tx)).length) 6 false))), (7, VI (1))]) (L' := [⟨(([] : List Tx).map Tx.cs).flatten, true, false⟩]) rfl rfl hC (by decide) (.dead 1000 _ rfl .nil) (.cons (renFlV rfl) (.cons (renFlV rfl) (.cons (.o (.c (.nilg _ _))) (.cons (renFlV rfl) .nil)))) ?_
      refine CdOK.loopE (σ := ((List Tx) × Int × Bool)) (fun k s => Ev (law12_TransactionsLimits.l1 less k s.1 s.2.1) _) (fun s => [(1, .o (.c (.v (.int .u8 (saves))))), (5, VI ((w64 (64 - (Int.tmod (w64 less) 2))))), (6, .o (.c (.g (h.length + 0) ((s.1).length) 6 s.2.2))), (7, VI (s.2.1))]) (fun s => h ++ ([⟨(s.1.map Tx.cs).flatten, true, s.2.2⟩] : Heap)) FU (([] : List Tx), 1, false) hm (.cons rfl (.cons rfl (.cons rfl (.cons rfl .nil)))) rfl ?_
      rintro kk7 ⟨l5, i6, l5v⟩ T0 hm
      replace hm : Ev (law12_TransactionsLimits.l1 less kk7 l5 i6) _ := hm
      cases kk7 with
      | zero => exact (Ev.non hm).elim
      | succ kk7 =>
      rw [law12_TransactionsLimits.l1_s] at hm
      show CdOK _ _ _ (look T0 [(1, .o (.c (.v (.int .u8 (saves))))), (5, VI ((w64 (64 - (Int.tmod (w64 less) 2))))), (6, .o (.c (.g (h.length + 0) ((l5).length) 6 l5v))), (7, VI (i6))]) (h ++ ([⟨(l5.map Tx.cs).flatten, true, l5v⟩] : Heap)) _
      refine CdOK.seq ?_
      refine CdOK.seq ?_
      refine CdOK.region ?_
      refine RgOK.s (v := VI (i6)) rfl rfl rfl (e_mv (ev_t rfl)) ?_
      refine RgOK.s (v := VI ((w64 (64 - (Int.tmod (w64 less) 2))))) rfl rfl rfl (e_mv (ev_t rfl)) ?_
      refine RgOK.s (v := VB (decide (i6 ≤ (w64 (64 - (Int.tmod (w64 less) 2)))))) rfl rfl rfl (e_bin (ev_t rfl) (ev_t rfl) rfl rfl) ?_
      refine RgOK.nil ?_
      show CdOK _ _ _ _ _ _
      refine CdOK.condD (ev_t rfl) ?_ ?_
      · intro c8; replace hm := hm.ifp c8
        refine CdOK.skip ?_
        show CdOK _ _ _ _ _ _
        refine CdOK.seq ?_
        refine CdOK.block ?_
        refine CdOK.region ?_
        refine RgOK.s (v := .o (.c (.g (h.length + 0) ((l5).length) 6 l5v))) rfl rfl rfl (e_mv (ev_t rfl)) ?_
        refine RgOK.s (v := VI (i6)) rfl rfl rfl (e_mv (ev_t rfl)) ?_
        refine RgOK.s (v := VI ((w64 (2 * i6)))) rfl rfl rfl (e_bin rfl (ev_t rfl) rfl rfl) ?_
        refine RgOK.sW (v' := .o (.agg [I ((w64 (2 * i6))), I (1), I (0), I (0), .L 1 (([] : List Int).map cI), .L 1 (([] : List Int).map cI)])) rfl rfl rfl (e_bld (cs := [I ((w64 (2 * i6))), I (1), I (0), I (0), .v (.slice none 0 0), .v (.slice none 0 0)]) zo108 bl108 rfl rfl) (.agg (R2.cons (.refl _) (R2.cons (.refl _) (R2.cons (.refl _) (R2.cons (.refl _) (R2.cons (.nlL _) (R2.cons (.nlL _) (R2.nil _)))))))) ?_
        refine RgOK.s (v := .o (.c (.LC 6 (([(⟨(w64 (2 * i6)), 1, 0, 0, ([] : List Int), ([] : List Int)⟩ : Tx)] : List Tx).map Tx.cs)))) rfl rfl rfl (e_lit (cs := [I ((w64 (2 * i6))), I (1), I (0), I (0), .L 1 (([] : List Int).map cI), .L 1 (([] : List Int).map cI)]) (xs := ([(⟨(w64 (2 * i6)), 1, 0, 0, ([] : List Int), ([] : List Int)⟩ : Tx)]).map Tx.cs) slt92 rfl rfl rfl rfl rfl) ?_
        obtain ⟨c9, hm⟩ := hm.ifs
        refine RgOK.s (v := .o (.c (.g (h.length + 1) (((l5 ++ ([(⟨(w64 (2 * i6)), 1, 0, 0, ([] : List Int), ([] : List Int)⟩ : Tx)] : List Tx))).length) 6 (l5v || decide (0 < ([(⟨(w64 (2 * i6)), 1, 0, 0, ([] : List Int), ([] : List Int)⟩ : Tx)] : List Tx).length))))) rfl rfl rfl (e_apG (k := 6) (q := 1759218604441) (m := ([(⟨(w64 (2 * i6)), 1, 0, 0, ([] : List Int), ([] : List Int)⟩ : Tx)] : List Tx).length) (j := 0) (f := Tx.cs) (xs := l5) (ys := ([(⟨(w64 (2 * i6)), 1, 0, 0, ([] : List Int), ([] : List Int)⟩ : Tx)] : List Tx)) (L' := [⟨(l5.map Tx.cs).flatten, true, false⟩, ⟨((l5 ++ ([(⟨(w64 (2 * i6)), 1, 0, 0, ([] : List Int), ([] : List Int)⟩ : Tx)] : List Tx)).map Tx.cs).flatten, true, (l5v || decide (0 < ([(⟨(w64 (2 * i6)), 1, 0, 0, ([] : List Int), ([] : List Int)⟩ : Tx)] : List Tx).length))⟩]) slt92 rfl (ev_t rfl) (ev_t rfl) (bx rfl rfl) (by intro x; rfl) src_LC rfl c9 rfl (by first | rfl | simp) rfl rfl) ?_
        refine RgOK.s (v := .o (.c (.g (h.length + 1) (((l5 ++ ([(⟨(w64 (2 * i6)), 1, 0, 0, ([] : List Int), ([] : List Int)⟩ : Tx)] : List Tx))).length) 6 (l5v || decide (0 < ([(⟨(w64 (2 * i6)), 1, 0, 0, ([] : List Int), ([] : List Int)⟩ : Tx)] : List Tx).length))))) rfl rfl rfl (e_as (ev_t rfl)) ?_
        refine RgOK.nil ?_
        show CdOK _ _ _ _ _ _
        refine CdOK.region ?_
        refine RgOK.s (v := VI (i6)) rfl rfl rfl (e_mv (ev_t rfl)) ?_
        refine RgOK.s (v := VI ((w64 (i6 + 1)))) rfl rfl rfl (e_bin (ev_t rfl) rfl rfl rfl) ?_
        refine RgOK.s (v := VI ((w64 (i6 + 1)))) rfl rfl rfl (e_as (ev_t rfl)) ?_
        refine RgOK.nil ?_
        refine Told.re (σ := [1]) (X := [(1, .o (.c (.v (.int .u8 (saves))))), (5, VI ((w64 (64 - (Int.tmod (w64 less) 2))))), (6, .o (.c (.g (h.length + 0) (((l5 ++ ([(⟨(w64 (2 * i6)), 1, 0, 0, ([] : List Int), ([] : List Int)⟩ : Tx)] : List Tx))).length) 6 (l5v || decide (0 < ([(⟨(w64 (2 * i6)), 1, 0, 0, ([] : List Int), ([] : List Int)⟩ : Tx)] : List Tx).length))))), (7, VI ((w64 (i6 + 1))))]) (L' := [⟨((l5 ++ ([(⟨(w64 (2 * i6)), 1, 0, 0, ([] : List Int), ([] : List Int)⟩ : Tx)] : List Tx)).map Tx.cs).flatten, true, (l5v || decide (0 < ([(⟨(w64 (2 * i6)), 1, 0, 0, ([] : List Int), ([] : List Int)⟩ : Tx)] : List Tx).length))⟩]) rfl rfl hC (by decide) (.obj 1 rfl (renFl (flat_all (f := Tx.cs) (l := (l5 ++ ([(⟨(w64 (2 * i6)), 1, 0, 0, ([] : List Int), ([] : List Int)⟩ : Tx)] : List Tx))) (by intro x; rfl))) .nil) (.cons (renFlV rfl) (.cons (renFlV rfl) (.cons (.o (.c (.gg 1 0 _ _ _ _ _ rfl (by first | rfl | simp) rfl))) (.cons (renFlV rfl) .nil)))) ?_
        exact ⟨_, ((l5 ++ ([(⟨(w64 (2 * i6)), 1, 0, 0, ([] : List Int), ([] : List Int)⟩ : Tx)] : List Tx)), (w64 (i6 + 1)), (l5v || decide (0 < ([(⟨(w64 (2 * i6)), 1, 0, 0, ([] : List Int), ([] : List Int)⟩ : Tx)] : List Tx).length))), Nat.lt_succ_self _, hm, (.cons rfl (.cons rfl (.cons rfl (.cons rfl .nil)))), rfl⟩
      · intro c10; replace hm := hm.ifn c10
        refine CdOK.exit ?_
        refine Told.re (σ := []) (X := [(1, .o (.c (.v (.int .u8 (saves))))), (5, VI ((w64 (64 - (Int.tmod (w64 less) 2))))), (6, .o (.c (.L 6 (l5.map Tx.cs))))]) (L' := []) rfl rfl hC (by decide) .nil (.cons (renFlV rfl) (.cons (renFlV rfl) (.cons (.o (.c (.fzg 0 _ 6 _ (l5.map Tx.cs) rfl (by decide) (by first | exact List.length_map .. | simp) (lens_all (by intro x; rfl)) (vl_all (by intro x; rfl))))) .nil))) ?_
        exact ⟨l5, hm.ret, (.cons rfl (.cons rfl (.cons rfl .nil))), rfl⟩
    · rintro l4 T0 hm
      show CdOK _ _ _ _ _ _
      refine CdOK.seq ?_
      refine CdOK.region ?_
      refine RgOK.s (v := .o (.c (.L 6 (l4.map Tx.cs)))) rfl rfl rfl (e_mv (ev_t rfl)) ?_
      obtain ⟨x12, e12, hm⟩ := hm.call
      refine RgOK.cl rfl rfl rfl rfl pl71 (R2.wk _) (transactions_Begin_ok   e12) ?_
      rintro _ _ ⟨rfl, rfl⟩
      refine RgOK.s (v := .tup [.c (.L 6 (x12.1.map Tx.cs)), .c (I (x12.2))]) rfl rfl rfl (e_mv (ev_t rfl)) ?_
      refine RgOK.s (v := .o (.c (.L 6 (x12.1.map Tx.cs)))) rfl rfl rfl (e_ext (ev_t rfl) rfl) ?_
      refine RgOK.s (v := VI (x12.2)) rfl rfl rfl (e_ext (ev_t rfl) rfl) ?_
      refine RgOK.s (v := .o (.c (.L 6 (x12.1.map Tx.cs)))) rfl rfl rfl (e_as (ev_t rfl)) ?_
      refine RgOK.s (v := VI (x12.2)) rfl rfl rfl (e_as (ev_t rfl)) ?_
      refine RgOK.nil ?_
      show CdOK _ _ _ _ _ _
      replace hm := hm.bnd
      refine CdOK.joinE (σ := Unit) (fun s => Sum.inl ()) hm (fun s => [(1, .o (.c (.v (.int .u8 (saves))))), (6, .o (.c (.L 6 (l4.map Tx.cs))))]) (fun s => h ++ ([] : Heap)) ?_ ?_
      · intro hm
        refine CdOK.seq ?_
        refine CdOK.region ?_
        refine RgOK.s (v := VI ((w64 (64 - (Int.tmod (w64 less) 2))))) rfl rfl rfl (e_mv (ev_t rfl)) ?_
        refine RgOK.sd rfl rfl rfl (e_eqK (ev_t rfl) rfl) ?_ ?_
        · intro c13; replace hm := hm.ifp c13
          refine RgOK.s (v := VB (true)) rfl rfl rfl (e_mv (ev_t rfl)) ?_
          refine RgOK.s (v := VI (x12.2)) rfl rfl rfl (e_mv (ev_t rfl)) ?_
          refine RgOK.sd rfl rfl rfl (e_neK (ev_t rfl) rfl) ?_ ?_
          · intro c14; replace hm := hm.ifp c14
            refine RgOK.s (v := VB (true)) rfl rfl rfl (e_mv (ev_t rfl)) ?_
            refine RgOK.sk rfl rfl rfl ?_
            refine RgOK.sk rfl rfl rfl ?_
            refine RgOK.sk rfl rfl rfl ?_
            refine RgOK.s (v := VB (true)) rfl rfl rfl (e_pick (t := true) (ev_t rfl) rfl) ?_
            refine RgOK.s (v := VB (true)) rfl rfl rfl (e_pick (t := true) (ev_t rfl) (ev_t rfl)) ?_
            refine RgOK.s (v := VB (true)) rfl rfl rfl (e_mv (ev_t rfl)) ?_
            refine RgOK.sk rfl rfl rfl ?_
            refine RgOK.sk rfl rfl rfl ?_
            refine RgOK.sk rfl rfl rfl ?_
            refine RgOK.sk rfl rfl rfl ?_
            refine RgOK.sk rfl rfl rfl ?_
            refine RgOK.sk rfl rfl rfl ?_
            refine RgOK.sk rfl rfl rfl ?_
            refine RgOK.sk rfl rfl rfl ?_
            refine RgOK.sk rfl rfl rfl ?_
            refine RgOK.sk rfl rfl rfl ?_
            refine RgOK.sk rfl rfl rfl ?_
            refine RgOK.sk rfl rfl rfl ?_
            refine RgOK.sk rfl rfl rfl ?_
            refine RgOK.sk rfl rfl rfl ?_
            refine RgOK.sk rfl rfl rfl ?_
            refine RgOK.sk rfl rfl rfl ?_
            refine RgOK.sk rfl rfl rfl ?_
            refine RgOK.sk rfl rfl rfl ?_
            refine RgOK.sk rfl rfl rfl ?_
            refine RgOK.sk rfl rfl rfl ?_
            refine RgOK.s (v := VB (true)) rfl rfl rfl (e_pick (t := true) (ev_t rfl) rfl) ?_
            refine RgOK.nil ?_
            show CdOK _ _ _ _ _ _
            refine CdOK.cond_true rfl ?_
            refine CdOK.seq ?_
            refine CdOK.region ?_
            refine RgOK.s (v := VB (false)) rfl rfl rfl (e_as rfl) ?_
            refine RgOK.nil ?_
            show CdOK _ _ _ _ _ _
            refine CdOK.ret ?_
            refine ⟨.inr rfl, _, rfl, h, [], _, rfl, rfl, hC, ((renFlV rfl) : RenV _ _ _ _ (VB (false))), ?_⟩
            have hr := hm.ret
            replace hr := Ev.ret hr
            subst hr
            exact ⟨rfl, rfl⟩
          · intro c15; replace hm := hm.ifn c15
            refine RgOK.s (v := VB (false)) rfl rfl rfl (e_mv (ev_t rfl)) ?_
            refine RgOK.s (v := .o (.c (.L 6 (x12.1.map Tx.cs)))) rfl rfl rfl (e_mv (ev_t rfl)) ?_
            refine RgOK.s (v := VI ((x12.1.length : Int))) rfl rfl rfl (e_lenM (ev_t rfl) is92) ?_
            refine RgOK.sd rfl rfl rfl (e_neK (ev_t rfl) rfl) ?_ ?_
            · intro c16; replace hm := hm.ifp c16
              refine RgOK.s (v := VB (true)) rfl rfl rfl (e_pick (t := false) (ev_t rfl) (ev_t rfl)) ?_
              refine RgOK.s (v := VB (true)) rfl rfl rfl (e_pick (t := true) (ev_t rfl) (ev_t rfl)) ?_
              refine RgOK.s (v := VB (true)) rfl rfl rfl (e_mv (ev_t rfl)) ?_
              refine RgOK.sk rfl rfl rfl ?_
              refine RgOK.sk rfl rfl rfl ?_
              refine RgOK.sk rfl rfl rfl ?_
              refine RgOK.sk rfl rfl rfl ?_
              refine RgOK.sk rfl rfl rfl ?_
              refine RgOK.sk rfl rfl rfl ?_
              refine RgOK.sk rfl rfl rfl ?_
              refine RgOK.sk rfl rfl rfl ?_
              refine RgOK.sk rfl rfl rfl ?_
              refine RgOK.sk rfl rfl rfl ?_
              refine RgOK.sk rfl rfl rfl ?_
              refine RgOK.sk rfl rfl rfl ?_
              refine RgOK.sk rfl rfl rfl ?_
              refine RgOK.sk rfl rfl rfl ?_
              refine RgOK.sk rfl rfl rfl ?_
              refine RgOK.sk rfl rfl rfl ?_
              refine RgOK.sk rfl rfl rfl ?_
              refine RgOK.sk rfl rfl rfl ?_
              refine RgOK.sk rfl rfl rfl ?_
              refine RgOK.sk rfl rfl rfl ?_
              refine RgOK.s (v := VB (true)) rfl rfl rfl (e_pick (t := true) (ev_t rfl) rfl) ?_
              refine RgOK.nil ?_
              show CdOK _ _ _ _ _ _
              refine CdOK.cond_true rfl ?_
              refine CdOK.seq ?_
              refine CdOK.region ?_
              refine RgOK.s (v := VB (false)) rfl rfl rfl (e_as rfl) ?_
              refine RgOK.nil ?_
              show CdOK _ _ _ _ _ _
              refine CdOK.ret ?_
              refine ⟨.inr rfl, _, rfl, h, [], _, rfl, rfl, hC, ((renFlV rfl) : RenV _ _ _ _ (VB (false))), ?_⟩
              have hr := hm.ret
              replace hr := Ev.ret hr
              subst hr
              exact ⟨rfl, rfl⟩
            · intro c17; replace hm := hm.ifn c17
              refine RgOK.s (v := VB (false)) rfl rfl rfl (e_pick (t := false) (ev_t rfl) (ev_t rfl)) ?_
              refine RgOK.s (v := VB (false)) rfl rfl rfl (e_pick (t := true) (ev_t rfl) (ev_t rfl)) ?_
              refine RgOK.s (v := VB (false)) rfl rfl rfl (e_mv (ev_t rfl)) ?_
              refine RgOK.s (v := VI ((w64 (64 - (Int.tmod (w64 less) 2))))) rfl rfl rfl (e_mv (ev_t rfl)) ?_
              refine RgOK.sd rfl rfl rfl (e_bin (ev_t rfl) rfl rfl rfl) ?_ ?_
              · intro c18; replace hm := hm.ifp c18
                refine RgOK.s (v := VB (true)) rfl rfl rfl (e_mv (ev_t rfl)) ?_
                refine RgOK.s (v := VI (x12.2)) rfl rfl rfl (e_mv (ev_t rfl)) ?_
                refine RgOK.sd rfl rfl rfl (e_neK (ev_t rfl) rfl) ?_ ?_
                · intro c19; replace hm := hm.ifp c19
                  refine RgOK.s (v := VB (true)) rfl rfl rfl (e_mv (ev_t rfl)) ?_
                  refine RgOK.sk rfl rfl rfl ?_
                  refine RgOK.sk rfl rfl rfl ?_
                  refine RgOK.sk rfl rfl rfl ?_
                  refine RgOK.sk rfl rfl rfl ?_
                  refine RgOK.sk rfl rfl rfl ?_
                  refine RgOK.s (v := VB (true)) rfl rfl rfl (e_pick (t := true) (ev_t rfl) rfl) ?_
                  refine RgOK.s (v := VB (true)) rfl rfl rfl (e_mv (ev_t rfl)) ?_
                  refine RgOK.sk rfl rfl rfl ?_
                  refine RgOK.sk rfl rfl rfl ?_
                  refine RgOK.sk rfl rfl rfl ?_
                  refine RgOK.sk rfl rfl rfl ?_
                  refine RgOK.sk rfl rfl rfl ?_
                  refine RgOK.s (v := VB (true)) rfl rfl rfl (e_pick (t := true) (ev_t rfl) rfl) ?_
                  refine RgOK.s (v := VB (true)) rfl rfl rfl (e_pick (t := true) (ev_t rfl) (ev_t rfl)) ?_
                  refine RgOK.s (v := VB (true)) rfl rfl rfl (e_pick (t := false) (ev_t rfl) (ev_t rfl)) ?_
                  refine RgOK.nil ?_
                  show CdOK _ _ _ _ _ _
                  refine CdOK.cond_true rfl ?_
                  refine CdOK.seq ?_
                  refine CdOK.region ?_
                  refine RgOK.s (v := VB (false)) rfl rfl rfl (e_as rfl) ?_
                  refine RgOK.nil ?_
                  show CdOK _ _ _ _ _ _
                  refine CdOK.ret ?_
                  refine ⟨.inr rfl, _, rfl, h, [], _, rfl, rfl, hC, ((renFlV rfl) : RenV _ _ _ _ (VB (false))), ?_⟩
                  have hr := hm.ret
                  replace hr := Ev.ret hr
                  subst hr
                  exact ⟨rfl, rfl⟩
                · intro c20; replace hm := hm.ifn c20
                  refine RgOK.s (v := VB (false)) rfl rfl rfl (e_mv (ev_t rfl)) ?_
                  refine RgOK.s (v := .o (.c (.L 6 (x12.1.map Tx.cs)))) rfl rfl rfl (e_mv (ev_t rfl)) ?_
                  refine RgOK.s (v := VI ((x12.1.length : Int))) rfl rfl rfl (e_lenM (ev_t rfl) is92) ?_
                  refine RgOK.s (v := VI ((w64 (64 - (Int.tmod (w64 less) 2))))) rfl rfl rfl (e_mv (ev_t rfl)) ?_
                  refine RgOK.s (v := VI ((w64 ((w64 (64 - (Int.tmod (w64 less) 2))) + 1)))) rfl rfl rfl (e_bin (ev_t rfl) rfl rfl rfl) ?_
                  refine RgOK.sd rfl rfl rfl (e_neK (ev_t rfl) (ev_t rfl)) ?_ ?_
                  · intro c21; replace hm := hm.ifp c21
                    refine RgOK.s (v := VB (true)) rfl rfl rfl (e_pick (t := false) (ev_t rfl) (ev_t rfl)) ?_
                    refine RgOK.s (v := VB (true)) rfl rfl rfl (e_mv (ev_t rfl)) ?_
                    refine RgOK.sk rfl rfl rfl ?_
                    refine RgOK.sk rfl rfl rfl ?_
                    refine RgOK.sk rfl rfl rfl ?_
                    refine RgOK.sk rfl rfl rfl ?_
                    refine RgOK.sk rfl rfl rfl ?_
                    refine RgOK.s (v := VB (true)) rfl rfl rfl (e_pick (t := true) (ev_t rfl) rfl) ?_
                    refine RgOK.s (v := VB (true)) rfl rfl rfl (e_pick (t := true) (ev_t rfl) (ev_t rfl)) ?_
                    refine RgOK.s (v := VB (true)) rfl rfl rfl (e_pick (t := false) (ev_t rfl) (ev_t rfl)) ?_
                    refine RgOK.nil ?_
                    show CdOK _ _ _ _ _ _
                    refine CdOK.cond_true rfl ?_
                    refine CdOK.seq ?_
                    refine CdOK.region ?_
                    refine RgOK.s (v := VB (false)) rfl rfl rfl (e_as rfl) ?_
                    refine RgOK.nil ?_
                    show CdOK _ _ _ _ _ _
                    refine CdOK.ret ?_
                    refine ⟨.inr rfl, _, rfl, h, [], _, rfl, rfl, hC, ((renFlV rfl) : RenV _ _ _ _ (VB (false))), ?_⟩
                    have hr := hm.ret
                    replace hr := Ev.ret hr
                    subst hr
                    exact ⟨rfl, rfl⟩
                  · intro c22; replace hm := hm.ifn c22
                    refine RgOK.s (v := VB (false)) rfl rfl rfl (e_pick (t := false) (ev_t rfl) (ev_t rfl)) ?_
                    refine RgOK.s (v := VB (false)) rfl rfl rfl (e_mv (ev_t rfl)) ?_
                    refine RgOK.s (v := .o (.c (.L 6 (x12.1.map Tx.cs)))) rfl rfl rfl (e_mv (ev_t rfl)) ?_
                    obtain ⟨c23, hm⟩ := hm.ifs
                    refine RgOK.s (v := .o (.c (.rp [I ((gd x12.1 3).id_), I ((gd x12.1 3).state), I ((gd x12.1 3).last), I ((gd x12.1 3).until_), .L 1 (((gd x12.1 3).pending).map cI), .L 1 (((gd x12.1 3).saves).map cI)]))) rfl rfl rfl (e_ixM (f := Tx.cs) (l := x12.1) (i := 3) (ev_t rfl) rfl el92 c23) ?_
                    refine RgOK.s (v := .o (.c (.rp [I ((gd x12.1 3).id_), I ((gd x12.1 3).state), I ((gd x12.1 3).last), I ((gd x12.1 3).until_), .L 1 (((gd x12.1 3).pending).map cI), .L 1 (((gd x12.1 3).saves).map cI)]))) rfl rfl rfl (e_faR fa108_0 (ev_t rfl) rfl) ?_
                    refine RgOK.s (v := VI ((gd x12.1 3).id_)) rfl rfl rfl (e_ldR1 (ev_t rfl) ty3 rfl) ?_
                    refine RgOK.s (v := VB (decide (((gd x12.1 3).id_) ≠ 7))) rfl rfl rfl (e_neK (ev_t rfl) rfl) ?_
                    refine RgOK.s (v := VB (decide (((gd x12.1 3).id_) ≠ 7))) rfl rfl rfl (e_pick (t := false) (ev_t rfl) (ev_t rfl)) ?_
                    refine RgOK.s (v := VB (decide (((gd x12.1 3).id_) ≠ 7))) rfl rfl rfl (e_pick (t := true) (ev_t rfl) (ev_t rfl)) ?_
                    refine RgOK.s (v := VB (decide (((gd x12.1 3).id_) ≠ 7))) rfl rfl rfl (e_pick (t := false) (ev_t rfl) (ev_t rfl)) ?_
                    refine RgOK.nil ?_
                    show CdOK _ _ _ _ _ _
                    refine CdOK.condD (ev_t rfl) ?_ ?_
                    · intro c24; replace hm := hm.ifp c24
                      refine CdOK.seq ?_
                      refine CdOK.region ?_
                      refine RgOK.s (v := VB (false)) rfl rfl rfl (e_as rfl) ?_
                      refine RgOK.nil ?_
                      show CdOK _ _ _ _ _ _
                      refine CdOK.ret ?_
                      refine ⟨.inr rfl, _, rfl, h, [], _, rfl, rfl, hC, ((renFlV rfl) : RenV _ _ _ _ (VB (false))), ?_⟩
                      have hr := hm.ret
                      replace hr := Ev.ret hr
                      subst hr
                      exact ⟨rfl, rfl⟩
                    · intro c25; replace hm := hm.ifn c25
                      refine CdOK.skip ?_
                      refine Told.id ?_
                      exact ⟨(), hm.ret, (.cons rfl (.cons rfl .nil)), rfl⟩
              · intro c26; replace hm := hm.ifn c26
                refine RgOK.s (v := VB (false)) rfl rfl rfl (e_mv (ev_t rfl)) ?_
                refine RgOK.sk rfl rfl rfl ?_
                refine RgOK.sk rfl rfl rfl ?_
                refine RgOK.sk rfl rfl rfl ?_
                refine RgOK.sk rfl rfl rfl ?_
                refine RgOK.sk rfl rfl rfl ?_
                refine RgOK.sk rfl rfl rfl ?_
                refine RgOK.sk rfl rfl rfl ?_
                refine RgOK.sk rfl rfl rfl ?_
                refine RgOK.sk rfl rfl rfl ?_
                refine RgOK.sk rfl rfl rfl ?_
                refine RgOK.sk rfl rfl rfl ?_
                refine RgOK.sk rfl rfl rfl ?_
                refine RgOK.sk rfl rfl rfl ?_
                refine RgOK.sk rfl rfl rfl ?_
                refine RgOK.sk rfl rfl rfl ?_
                refine RgOK.sk rfl rfl rfl ?_
                refine RgOK.s (v := VB (false)) rfl rfl rfl (e_pick (t := false) (ev_t rfl) rfl) ?_
                refine RgOK.s (v := VB (false)) rfl rfl rfl (e_pick (t := false) (ev_t rfl) (ev_t rfl)) ?_
                refine RgOK.nil ?_
                show CdOK _ _ _ _ _ _
                refine CdOK.cond_false rfl ?_
                refine CdOK.skip ?_
                refine Told.id ?_
                exact ⟨(), hm.ret, (.cons rfl (.cons rfl .nil)), rfl⟩
        · intro c27; replace hm := hm.ifn c27
          refine RgOK.s (v := VB (false)) rfl rfl rfl (e_mv (ev_t rfl)) ?_
          refine RgOK.sk rfl rfl rfl ?_
          refine RgOK.sk rfl rfl rfl ?_
          refine RgOK.sk rfl rfl rfl ?_
          refine RgOK.sk rfl rfl rfl ?_
          refine RgOK.sk rfl rfl rfl ?_
          refine RgOK.sk rfl rfl rfl ?_
          refine RgOK.sk rfl rfl rfl ?_
          refine RgOK.s (v := VB (false)) rfl rfl rfl (e_pick (t := false) (ev_t rfl) rfl) ?_
          refine RgOK.s (v := VB (false)) rfl rfl rfl (e_mv (ev_t rfl)) ?_
          refine RgOK.s (v := VI ((w64 (64 - (Int.tmod (w64 less) 2))))) rfl rfl rfl (e_mv (ev_t rfl)) ?_
          refine RgOK.sd rfl rfl rfl (e_bin (ev_t rfl) rfl rfl rfl) ?_ ?_
          · intro c28; replace hm := hm.ifp c28
            refine RgOK.s (v := VB (true)) rfl rfl rfl (e_mv (ev_t rfl)) ?_
            refine RgOK.s (v := VI (x12.2)) rfl rfl rfl (e_mv (ev_t rfl)) ?_
            refine RgOK.sd rfl rfl rfl (e_neK (ev_t rfl) rfl) ?_ ?_
            · intro c29; replace hm := hm.ifp c29
              refine RgOK.s (v := VB (true)) rfl rfl rfl (e_mv (ev_t rfl)) ?_
              refine RgOK.sk rfl rfl rfl ?_
              refine RgOK.sk rfl rfl rfl ?_
              refine RgOK.sk rfl rfl rfl ?_
              refine RgOK.sk rfl rfl rfl ?_
              refine RgOK.sk rfl rfl rfl ?_
              refine RgOK.s (v := VB (true)) rfl rfl rfl (e_pick (t := true) (ev_t rfl) rfl) ?_
              refine RgOK.s (v := VB (true)) rfl rfl rfl (e_mv (ev_t rfl)) ?_
              refine RgOK.sk rfl rfl rfl ?_
              refine RgOK.sk rfl rfl rfl ?_
              refine RgOK.sk rfl rfl rfl ?_
              refine RgOK.sk rfl rfl rfl ?_
              refine RgOK.sk rfl rfl rfl ?_
              refine RgOK.s (v := VB (true)) rfl rfl rfl (e_pick (t := true) (ev_t rfl) rfl) ?_
              refine RgOK.s (v := VB (true)) rfl rfl rfl (e_pick (t := true) (ev_t rfl) (ev_t rfl)) ?_
              refine RgOK.s (v := VB (true)) rfl rfl rfl (e_pick (t := false) (ev_t rfl) (ev_t rfl)) ?_
              refine RgOK.nil ?_
              show CdOK _ _ _ _ _ _
              refine CdOK.cond_true rfl ?_
              refine CdOK.seq ?_
              refine CdOK.region ?_
              refine RgOK.s (v := VB (false)) rfl rfl rfl (e_as rfl) ?_
              refine RgOK.nil ?_
              show CdOK _ _ _ _ _ _
              refine CdOK.ret ?_
              refine ⟨.inr rfl, _, rfl, h, [], _, rfl, rfl, hC, ((renFlV rfl) : RenV _ _ _ _ (VB (false))), ?_⟩
              have hr := hm.ret
              replace hr := Ev.ret hr
              subst hr
              exact ⟨rfl, rfl⟩
            · intro c30; replace hm := hm.ifn c30
              refine RgOK.s (v := VB (false)) rfl rfl rfl (e_mv (ev_t rfl)) ?_
              refine RgOK.s (v := .o (.c (.L 6 (x12.1.map Tx.cs)))) rfl rfl rfl (e_mv (ev_t rfl)) ?_
              refine RgOK.s (v := VI ((x12.1.length : Int))) rfl rfl rfl (e_lenM (ev_t rfl) is92) ?_
              refine RgOK.s (v := VI ((w64 (64 - (Int.tmod (w64 less) 2))))) rfl rfl rfl (e_mv (ev_t rfl)) ?_
              refine RgOK.s (v := VI ((w64 ((w64 (64 - (Int.tmod (w64 less) 2))) + 1)))) rfl rfl rfl (e_bin (ev_t rfl) rfl rfl rfl) ?_
              refine RgOK.sd rfl rfl rfl (e_neK (ev_t rfl) (ev_t rfl)) ?_ ?_
              · intro c31; replace hm := hm.ifp c31
                refine RgOK.s (v := VB (true)) rfl rfl rfl (e_pick (t := false) (ev_t rfl) (ev_t rfl)) ?_
                refine RgOK.s (v := VB (true)) rfl rfl rfl (e_mv (ev_t rfl)) ?_
                refine RgOK.sk rfl rfl rfl ?_
                refine RgOK.sk rfl rfl rfl ?_
                refine RgOK.sk rfl rfl rfl ?_
                refine RgOK.sk rfl rfl rfl ?_
                refine RgOK.sk rfl rfl rfl ?_
                refine RgOK.s (v := VB (true)) rfl rfl rfl (e_pick (t := true) (ev_t rfl) rfl) ?_
                refine RgOK.s (v := VB (true)) rfl rfl rfl (e_pick (t := true) (ev_t rfl) (ev_t rfl)) ?_
                refine RgOK.s (v := VB (true)) rfl rfl rfl (e_pick (t := false) (ev_t rfl) (ev_t rfl)) ?_
                refine RgOK.nil ?_
                show CdOK _ _ _ _ _ _
                refine CdOK.cond_true rfl ?_
                refine CdOK.seq ?_
                refine CdOK.region ?_
                refine RgOK.s (v := VB (false)) rfl rfl rfl (e_as rfl) ?_
                refine RgOK.nil ?_
                show CdOK _ _ _ _ _ _
                refine CdOK.ret ?_
                refine ⟨.inr rfl, _, rfl, h, [], _, rfl, rfl, hC, ((renFlV rfl) : RenV _ _ _ _ (VB (false))), ?_⟩
                have hr := hm.ret
                replace hr := Ev.ret hr
                subst hr
                exact ⟨rfl, rfl⟩
              · intro c32; replace hm := hm.ifn c32
                refine RgOK.s (v := VB (false)) rfl rfl rfl (e_pick (t := false) (ev_t rfl) (ev_t rfl)) ?_
                refine RgOK.s (v := VB (false)) rfl rfl rfl (e_mv (ev_t rfl)) ?_
                refine RgOK.s (v := .o (.c (.L 6 (x12.1.map Tx.cs)))) rfl rfl rfl (e_mv (ev_t rfl)) ?_
                obtain ⟨c33, hm⟩ := hm.ifs
                refine RgOK.s (v := .o (.c (.rp [I ((gd x12.1 3).id_), I ((gd x12.1 3).state), I ((gd x12.1 3).last), I ((gd x12.1 3).until_), .L 1 (((gd x12.1 3).pending).map cI), .L 1 (((gd x12.1 3).saves).map cI)]))) rfl rfl rfl (e_ixM (f := Tx.cs) (l := x12.1) (i := 3) (ev_t rfl) rfl el92 c33) ?_
                refine RgOK.s (v := .o (.c (.rp [I ((gd x12.1 3).id_), I ((gd x12.1 3).state), I ((gd x12.1 3).last), I ((gd x12.1 3).until_), .L 1 (((gd x12.1 3).pending).map cI), .L 1 (((gd x12.1 3).saves).map cI)]))) rfl rfl rfl (e_faR fa108_0 (ev_t rfl) rfl) ?_
                refine RgOK.s (v := VI ((gd x12.1 3).id_)) rfl rfl rfl (e_ldR1 (ev_t rfl) ty3 rfl) ?_
                refine RgOK.s (v := VB (decide (((gd x12.1 3).id_) ≠ 7))) rfl rfl rfl (e_neK (ev_t rfl) rfl) ?_
                refine RgOK.s (v := VB (decide (((gd x12.1 3).id_) ≠ 7))) rfl rfl rfl (e_pick (t := false) (ev_t rfl) (ev_t rfl)) ?_
                refine RgOK.s (v := VB (decide (((gd x12.1 3).id_) ≠ 7))) rfl rfl rfl (e_pick (t := true) (ev_t rfl) (ev_t rfl)) ?_
                refine RgOK.s (v := VB (decide (((gd x12.1 3).id_) ≠ 7))) rfl rfl rfl (e_pick (t := false) (ev_t rfl) (ev_t rfl)) ?_
                refine RgOK.nil ?_
                show CdOK _ _ _ _ _ _
                refine CdOK.condD (ev_t rfl) ?_ ?_
                · intro c34; replace hm := hm.ifp c34
                  refine CdOK.seq ?_
                  refine CdOK.region ?_
                  refine RgOK.s (v := VB (false)) rfl rfl rfl (e_as rfl) ?_
                  refine RgOK.nil ?_
                  show CdOK _ _ _ _ _ _
                  refine CdOK.ret ?_
                  refine ⟨.inr rfl, _, rfl, h, [], _, rfl, rfl, hC, ((renFlV rfl) : RenV _ _ _ _ (VB (false))), ?_⟩
                  have hr := hm.ret
                  replace hr := Ev.ret hr
                  subst hr
                  exact ⟨rfl, rfl⟩
                · intro c35; replace hm := hm.ifn c35
                  refine CdOK.skip ?_
                  refine Told.id ?_
                  exact ⟨(), hm.ret, (.cons rfl (.cons rfl .nil)), rfl⟩
          · intro c36; replace hm := hm.ifn c36
            refine RgOK.s (v := VB (false)) rfl rfl rfl (e_mv (ev_t rfl)) ?_
            refine RgOK.sk rfl rfl rfl ?_
            refine RgOK.sk rfl rfl rfl ?_
            refine RgOK.sk rfl rfl rfl ?_
            refine RgOK.sk rfl rfl rfl ?_
            refine RgOK.sk rfl rfl rfl ?_
            refine RgOK.sk rfl rfl rfl ?_
            refine RgOK.sk rfl rfl rfl ?_
            refine RgOK.sk rfl rfl rfl ?_
            refine RgOK.sk rfl rfl rfl ?_
            refine RgOK.sk rfl rfl rfl ?_
            refine RgOK.sk rfl rfl rfl ?_
            refine RgOK.sk rfl rfl rfl ?_
            refine RgOK.sk rfl rfl rfl ?_
            refine RgOK.sk rfl rfl rfl ?_
            refine RgOK.sk rfl rfl rfl ?_
            refine RgOK.sk rfl rfl rfl ?_
            refine RgOK.s (v := VB (false)) rfl rfl rfl (e_pick (t := false) (ev_t rfl) rfl) ?_
            refine RgOK.s (v := VB (false)) rfl rfl rfl (e_pick (t := false) (ev_t rfl) (ev_t rfl)) ?_
            refine RgOK.nil ?_
            show CdOK _ _ _ _ _ _
            refine CdOK.cond_false rfl ?_
            refine CdOK.skip ?_
            refine Told.id ?_
            exact ⟨(), hm.ret, (.cons rfl (.cons rfl .nil)), rfl⟩
      · intro _ T0 hm
        show CdOK _ _ _ (look T0 [(1, .o (.c (.v (.int .u8 (saves))))), (6, .o (.c (.L 6 (l4.map Tx.cs))))]) (h ++ ([] : Heap)) _
        replace hm : Ev _ _ := hm
        refine CdOK.seq ?_
        refine CdOK.region ?_
        refine RgOK.s (v := .o (.c (.v (.int .u8 (saves))))) rfl rfl rfl (e_mv (ev_t rfl)) ?_
        refine RgOK.s (v := VI ((w64 saves))) rfl rfl rfl (e_cvw cv5_3 (ev_t rfl)) ?_
        refine RgOK.s (v := VI ((Int.tmod (w64 saves) 3))) rfl rfl rfl (e_remK (ev_t rfl) rfl (by decide)) ?_
        refine RgOK.s (v := VI ((w64 (7 + (Int.tmod (w64 saves) 3))))) rfl rfl rfl (e_bin rfl (ev_t rfl) rfl rfl) ?_
        refine RgOK.s (v := VI ((w64 (7 + (Int.tmod (w64 saves) 3))))) rfl rfl rfl (e_as (ev_t rfl)) ?_
        refine RgOK.nil ?_
        show CdOK _ _ _ _ _ _
        refine CdOK.seq ?_
        refine CdOK.seq ?_
        refine CdOK.region ?_
        refine RgOK.s (v := VI (0)) rfl rfl rfl (e_as rfl) ?_
        refine RgOK.nil ?_
        show CdOK _ _ _ _ _ _
        replace hm := hm.bnd
        refine CdOK.joinT (σ := (List Tx)) (fun s => Sum.inl s) hm (fun s => [(6, .o (.c (.L 6 (s.map Tx.cs)))), (10, VI ((w64 (7 + (Int.tmod (w64 saves) 3)))))]) (fun s => h ++ ([] : Heap)) ?_ ?_
        · intro hm
          refine CdOK.block ?_
          refine CdOK.loopE (σ := ((List Tx) × Int)) (fun k s => Ev (law12_TransactionsLimits.l2 saves k s.1 s.2) _) (fun s => [(6, .o (.c (.L 6 (s.1.map Tx.cs)))), (10, VI ((w64 (7 + (Int.tmod (w64 saves) 3))))), (11, VI (s.2))]) (fun s => h ++ ([] : Heap)) FU (l4, 0) hm (.cons rfl (.cons rfl (.cons rfl .nil))) rfl ?_
          rintro kk41 ⟨l39, i40⟩ T0 hm
          replace hm : Ev (law12_TransactionsLimits.l2 saves kk41 l39 i40) _ := hm
          cases kk41 with
          | zero => exact (Ev.non hm).elim
          | succ kk41 =>
          rw [law12_TransactionsLimits.l2_s] at hm
          show CdOK _ _ _ (look T0 [(6, .o (.c (.L 6 (l39.map Tx.cs)))), (10, VI ((w64 (7 + (Int.tmod (w64 saves) 3))))), (11, VI (i40))]) (h ++ ([] : Heap)) _
          refine CdOK.seq ?_
          refine CdOK.seq ?_
          refine CdOK.region ?_
          refine RgOK.s (v := VI (i40)) rfl rfl rfl (e_mv (ev_t rfl)) ?_
          refine RgOK.s (v := VI ((w64 (7 + (Int.tmod (w64 saves) 3))))) rfl rfl rfl (e_mv (ev_t rfl)) ?_
          refine RgOK.s (v := VB (decide (i40 < (w64 (7 + (Int.tmod (w64 saves) 3)))))) rfl rfl rfl (e_bin (ev_t rfl) (ev_t rfl) rfl rfl) ?_
          refine RgOK.nil ?_
          show CdOK _ _ _ _ _ _
          refine CdOK.condD (ev_t rfl) ?_ ?_
          · intro c42; replace hm := hm.ifp c42
            refine CdOK.skip ?_
            show CdOK _ _ _ _ _ _
            refine CdOK.seq ?_
            refine CdOK.block ?_
            refine CdOK.seq ?_
            refine CdOK.region ?_
            refine RgOK.s (v := .o (.c (.L 6 (l39.map Tx.cs)))) rfl rfl rfl (e_mv (ev_t rfl)) ?_
            obtain ⟨x43, e43, hm⟩ := hm.call
            refine RgOK.cl rfl rfl rfl rfl pl77 (R2.wk _) (transactions_Save_ok   e43) ?_
            rintro _ _ ⟨rfl, rfl⟩
            refine RgOK.s (v := .tup [.c (.L 6 (x43.1.map Tx.cs)), .c (I (x43.2))]) rfl rfl rfl (e_mv (ev_t rfl)) ?_
            refine RgOK.s (v := .o (.c (.L 6 (x43.1.map Tx.cs)))) rfl rfl rfl (e_ext (ev_t rfl) rfl) ?_
            refine RgOK.s (v := VI (x43.2)) rfl rfl rfl (e_ext (ev_t rfl) rfl) ?_
            refine RgOK.s (v := .o (.c (.L 6 (x43.1.map Tx.cs)))) rfl rfl rfl (e_as (ev_t rfl)) ?_
            refine RgOK.s (v := VI (x43.2)) rfl rfl rfl (e_as (ev_t rfl)) ?_
            refine RgOK.nil ?_
            show CdOK _ _ _ _ _ _
            replace hm := hm.bnd
            refine CdOK.joinE (σ := Unit) (fun s => Sum.inl ()) hm (fun s => [(6, .o (.c (.L 6 (l39.map Tx.cs)))), (10, VI ((w64 (7 + (Int.tmod (w64 saves) 3))))), (11, VI (i40)), (12, .o (.c (.L 6 (x43.1.map Tx.cs)))), (13, VI (x43.2))]) (fun s => h ++ ([] : Heap)) ?_ ?_
            · intro hm
              refine CdOK.seq ?_
              refine CdOK.region ?_
              refine RgOK.s (v := VI (x43.2)) rfl rfl rfl (e_mv (ev_t rfl)) ?_
              refine RgOK.s (v := VB (decide (x43.2 = 0))) rfl rfl rfl (e_eqK (ev_t rfl) rfl) ?_
              refine RgOK.s (v := VI (i40)) rfl rfl rfl (e_mv (ev_t rfl)) ?_
              refine RgOK.s (v := VB (decide (i40 < 8))) rfl rfl rfl (e_bin (ev_t rfl) rfl rfl rfl) ?_
              refine RgOK.sb rfl rfl rfl (e_neB (ev_t rfl) (ev_t rfl) bo4) ?_ ?_
              · intro c44; replace hm := hm.ifp c44
                refine RgOK.s (v := VB (true)) rfl rfl rfl (e_mv (ev_t rfl)) ?_
                refine RgOK.sk rfl rfl rfl ?_
                refine RgOK.sk rfl rfl rfl ?_
                refine RgOK.sk rfl rfl rfl ?_
                refine RgOK.sk rfl rfl rfl ?_
                refine RgOK.sk rfl rfl rfl ?_
                refine RgOK.sk rfl rfl rfl ?_
                refine RgOK.s (v := VB (true)) rfl rfl rfl (e_pick (t := true) (ev_t rfl) rfl) ?_
                refine RgOK.nil ?_
                show CdOK _ _ _ _ _ _
                refine CdOK.cond_true rfl ?_
                refine CdOK.seq ?_
                refine CdOK.region ?_
                refine RgOK.s (v := VB (false)) rfl rfl rfl (e_as rfl) ?_
                refine RgOK.nil ?_
                show CdOK _ _ _ _ _ _
                refine CdOK.ret ?_
                refine ⟨.inr rfl, _, rfl, h, [], _, rfl, rfl, hC, ((renFlV rfl) : RenV _ _ _ _ (VB (false))), ?_⟩
                have hr := hm.ret
                replace hr := Ev.ret hr
                replace hr := Ev.ret hr
                subst hr
                exact ⟨rfl, rfl⟩
              · intro c45; replace hm := hm.ifn (by rw [c45]; exact Bool.false_ne_true)
                refine RgOK.s (v := VB (false)) rfl rfl rfl (e_mv (ev_t rfl)) ?_
                refine RgOK.s (v := VI (x43.2)) rfl rfl rfl (e_mv (ev_t rfl)) ?_
                refine RgOK.sd rfl rfl rfl (e_neK (ev_t rfl) rfl) ?_ ?_
                · intro c46; replace hm := hm.ifp c46
                  refine RgOK.s (v := VB (true)) rfl rfl rfl (e_mv (ev_t rfl)) ?_
                  refine RgOK.s (v := VI (x43.2)) rfl rfl rfl (e_mv (ev_t rfl)) ?_
                  refine RgOK.s (v := VB (decide (x43.2 ≠ 21))) rfl rfl rfl (e_neK (ev_t rfl) rfl) ?_
                  refine RgOK.s (v := VB (decide (x43.2 ≠ 21))) rfl rfl rfl (e_pick (t := true) (ev_t rfl) (ev_t rfl)) ?_
                  refine RgOK.s (v := VB (decide (x43.2 ≠ 21))) rfl rfl rfl (e_pick (t := false) (ev_t rfl) (ev_t rfl)) ?_
                  refine RgOK.nil ?_
                  show CdOK _ _ _ _ _ _
                  refine CdOK.condD (ev_t rfl) ?_ ?_
                  · intro c47; replace hm := hm.ifp c47
                    refine CdOK.seq ?_
                    refine CdOK.region ?_
                    refine RgOK.s (v := VB (false)) rfl rfl rfl (e_as rfl) ?_
                    refine RgOK.nil ?_
                    show CdOK _ _ _ _ _ _
                    refine CdOK.ret ?_
                    refine ⟨.inr rfl, _, rfl, h, [], _, rfl, rfl, hC, ((renFlV rfl) : RenV _ _ _ _ (VB (false))), ?_⟩
                    have hr := hm.ret
                    replace hr := Ev.ret hr
                    replace hr := Ev.ret hr
                    subst hr
                    exact ⟨rfl, rfl⟩
                  · intro c48; replace hm := hm.ifn c48
                    refine CdOK.skip ?_
                    refine Told.id ?_
                    exact ⟨(), hm.ret, (.cons rfl (.cons rfl (.cons rfl (.cons rfl (.cons rfl .nil))))), rfl⟩
                · intro c49; replace hm := hm.ifn c49
                  refine RgOK.s (v := VB (false)) rfl rfl rfl (e_mv (ev_t rfl)) ?_
                  refine RgOK.sk rfl rfl rfl ?_
                  refine RgOK.sk rfl rfl rfl ?_
                  refine RgOK.s (v := VB (false)) rfl rfl rfl (e_pick (t := false) (ev_t rfl) rfl) ?_
                  refine RgOK.s (v := VB (false)) rfl rfl rfl (e_pick (t := false) (ev_t rfl) (ev_t rfl)) ?_
                  refine RgOK.nil ?_
                  show CdOK _ _ _ _ _ _
                  refine CdOK.cond_false rfl ?_
                  refine CdOK.skip ?_
                  refine Told.id ?_
                  exact ⟨(), hm.ret, (.cons rfl (.cons rfl (.cons rfl (.cons rfl (.cons rfl .nil))))), rfl⟩
            · intro _ T0 hm
              show CdOK _ _ _ (look T0 [(6, .o (.c (.L 6 (l39.map Tx.cs)))), (10, VI ((w64 (7 + (Int.tmod (w64 saves) 3))))), (11, VI (i40)), (12, .o (.c (.L 6 (x43.1.map Tx.cs)))), (13, VI (x43.2))]) (h ++ ([] : Heap)) _
              replace hm : Ev _ _ := hm
              refine CdOK.seq ?_
              refine CdOK.region ?_
              refine RgOK.s (v := VI (x43.2)) rfl rfl rfl (e_mv (ev_t rfl)) ?_
              refine RgOK.s (v := VB (decide (x43.2 = 0))) rfl rfl rfl (e_eqK (ev_t rfl) rfl) ?_
              refine RgOK.nil ?_
              show CdOK _ _ _ _ _ _
              refine CdOK.condD (ev_t rfl) ?_ ?_
              · intro c51; replace hm := hm.ifp c51
                refine CdOK.region ?_
                refine RgOK.s (v := .o (.c (.L 6 (x43.1.map Tx.cs)))) rfl rfl rfl (e_mv (ev_t rfl)) ?_
                refine RgOK.s (v := .o (.c (.L 6 (x43.1.map Tx.cs)))) rfl rfl rfl (e_as (ev_t rfl)) ?_
                refine RgOK.nil ?_
                show CdOK _ _ _ _ _ _
                refine CdOK.region ?_
                refine RgOK.s (v := VI (i40)) rfl rfl rfl (e_mv (ev_t rfl)) ?_
                refine RgOK.s (v := VI ((w64 (i40 + 1)))) rfl rfl rfl (e_bin (ev_t rfl) rfl rfl rfl) ?_
                refine RgOK.s (v := VI ((w64 (i40 + 1)))) rfl rfl rfl (e_as (ev_t rfl)) ?_
                refine RgOK.nil ?_
                refine Told.id ?_
                exact ⟨_, (x43.1, (w64 (i40 + 1))), Nat.lt_succ_self _, hm, (.cons rfl (.cons rfl (.cons rfl .nil))), rfl⟩
              · intro c52; replace hm := hm.ifn c52
                refine CdOK.skip ?_
                show CdOK _ _ _ _ _ _
                refine CdOK.region ?_
                refine RgOK.s (v := VI (i40)) rfl rfl rfl (e_mv (ev_t rfl)) ?_
                refine RgOK.s (v := VI ((w64 (i40 + 1)))) rfl rfl rfl (e_bin (ev_t rfl) rfl rfl rfl) ?_
                refine RgOK.s (v := VI ((w64 (i40 + 1)))) rfl rfl rfl (e_as (ev_t rfl)) ?_
                refine RgOK.nil ?_
                refine Told.id ?_
                exact ⟨_, (l39, (w64 (i40 + 1))), Nat.lt_succ_self _, hm, (.cons rfl (.cons rfl (.cons rfl .nil))), rfl⟩
          · intro c53; replace hm := hm.ifn c53
            refine CdOK.exit ?_
            refine Told.id ?_
            exact ⟨l39, hm.ret, (.cons rfl (.cons rfl .nil)), rfl⟩
        · rintro l38 T0 hm
          show CdOK _ _ _ _ _ _
          refine CdOK.seq ?_
          refine CdOK.region ?_
          refine RgOK.s (v := .o (.c (.L 6 (l38.map Tx.cs)))) rfl rfl rfl (e_mv (ev_t rfl)) ?_
          obtain ⟨x55, e55, hm⟩ := hm.call
          cases x55 with
          | true =>
            replace hm := hm.ifp rfl
            refine RgOK.cl rfl rfl rfl rfl pl66 (R2.wk _) (ref12_Valid_ok   e55) ?_
            rintro _ _ ⟨rfl, rfl⟩
            refine RgOK.s (v := VB (true)) rfl rfl rfl (e_mv (ev_t rfl)) ?_
            refine RgOK.s (v := .o (.c (.L 6 (l38.map Tx.cs)))) rfl rfl rfl (e_mv (ev_t rfl)) ?_
            obtain ⟨c56, hm⟩ := hm.ifs
            refine RgOK.s (v := .o (.c (.rp [I ((gd l38 1).id_), I ((gd l38 1).state), I ((gd l38 1).last), I ((gd l38 1).until_), .L 1 (((gd l38 1).pending).map cI), .L 1 (((gd l38 1).saves).map cI)]))) rfl rfl rfl (e_ixM (f := Tx.cs) (l := l38) (i := 1) (ev_t rfl) rfl el92 c56) ?_
            refine RgOK.s (v := .o (.c (.rp [.L 1 (((gd l38 1).saves).map cI)]))) rfl rfl rfl (e_faR fa108_5 (ev_t rfl) rfl) ?_
            refine RgOK.s (v := .o (.c (.L 1 (((gd l38 1).saves).map cI)))) rfl rfl rfl (e_ldR1 (ev_t rfl) ty27 rfl) ?_
            refine RgOK.s (v := VI ((((gd l38 1).saves).length : Int))) rfl rfl rfl (e_lenM (ev_t rfl) is27) ?_
            refine RgOK.s (v := VI ((w64 (7 + (Int.tmod (w64 saves) 3))))) rfl rfl rfl (e_mv (ev_t rfl)) ?_
            refine RgOK.s (v := VI ((if 8 < (w64 (7 + (Int.tmod (w64 saves) 3))) then 8 else (w64 (7 + (Int.tmod (w64 saves) 3)))))) rfl rfl rfl (e_min (ev_t rfl) rfl) ?_
            refine RgOK.s (v := VB (decide ((((gd l38 1).saves).length : Int) = (if 8 < (w64 (7 + (Int.tmod (w64 saves) 3))) then 8 else (w64 (7 + (Int.tmod (w64 saves) 3))))))) rfl rfl rfl (e_eqK (ev_t rfl) (ev_t rfl)) ?_
            refine RgOK.s (v := VB (decide ((((gd l38 1).saves).length : Int) = (if 8 < (w64 (7 + (Int.tmod (w64 saves) 3))) then 8 else (w64 (7 + (Int.tmod (w64 saves) 3))))))) rfl rfl rfl (e_pick (t := true) (ev_t rfl) (ev_t rfl)) ?_
            refine RgOK.s (v := VB (decide ((((gd l38 1).saves).length : Int) = (if 8 < (w64 (7 + (Int.tmod (w64 saves) 3))) then 8 else (w64 (7 + (Int.tmod (w64 saves) 3))))))) rfl rfl rfl (e_as (ev_t rfl)) ?_
            refine RgOK.nil ?_
            show CdOK _ _ _ _ _ _
            refine CdOK.ret ?_
            refine ⟨.inr rfl, _, rfl, h, [], _, rfl, rfl, hC, ((renFlV rfl) : RenV _ _ _ _ (VB (decide ((((gd l38 1).saves).length : Int) = (if 8 < (w64 (7 + (Int.tmod (w64 saves) 3))) then 8 else (w64 (7 + (Int.tmod (w64 saves) 3)))))))), ?_⟩
            have hr := hm.ret
            subst hr
            exact ⟨rfl, rfl⟩
          | false =>
            replace hm := hm.ifn Bool.false_ne_true
            refine RgOK.cl rfl rfl rfl rfl pl66 (R2.wk _) (ref12_Valid_ok   e55) ?_
            rintro _ _ ⟨rfl, rfl⟩
            refine RgOK.s (v := VB (false)) rfl rfl rfl (e_mv (ev_t rfl)) ?_
            refine RgOK.sk rfl rfl rfl ?_
            refine RgOK.sk rfl rfl rfl ?_
            refine RgOK.sk rfl rfl rfl ?_
            refine RgOK.sk rfl rfl rfl ?_
            refine RgOK.sk rfl rfl rfl ?_
            refine RgOK.sk rfl rfl rfl ?_
            refine RgOK.sk rfl rfl rfl ?_
            refine RgOK.sk rfl rfl rfl ?_
            refine RgOK.s (v := VB (false)) rfl rfl rfl (e_pick (t := false) (ev_t rfl) rfl) ?_
            refine RgOK.s (v := VB (false)) rfl rfl rfl (e_as (ev_t rfl)) ?_
            refine RgOK.nil ?_
            show CdOK _ _ _ _ _ _
            refine CdOK.ret ?_
            refine ⟨.inr rfl, _, rfl, h, [], _, rfl, rfl, hC, ((renFlV rfl) : RenV _ _ _ _ (VB (false))), ?_⟩
            have hr := hm.ret
            subst hr
            exact ⟨rfl, rfl⟩
end Rv
