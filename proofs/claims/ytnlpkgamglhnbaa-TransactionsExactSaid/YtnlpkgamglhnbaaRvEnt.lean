import Derived.Test.YtnlpkgamglhnbaaRvCmp
set_option linter.unusedVariables false
set_option linter.unusedSimpArgs false
namespace Rv
open Go Go.RowKit Go.Proofs
theorem bl57 : bldf Try.prog 57 [(0, 1), (1, 1), (2, 2), (4, 2)] = true := by decide +kernel
theorem bl208 : bldf Try.prog 208 [(0, 1), (1, 1), (2, 1), (3, 1), (4, 1), (5, 1), (6, 1)] = true := by decide +kernel
theorem eqs57_r (x y : Change) : (eqF [some (x.page == y.page), some (x.slot == y.slot), (eqF [some (x.before.set_ == y.before.set_), some (x.before.data == y.before.data)]), (eqF [some (x.after.set_ == y.after.set_), some (x.after.data == y.after.data)])]) = some (decide (x = y)) := by
  have h := (show (eqF [some (x.page == y.page), some (x.slot == y.slot), (eqF [some (x.before.set_ == y.before.set_), some (x.before.data == y.before.data)]), (eqF [some (x.after.set_ == y.after.set_), some (x.after.data == y.after.data)])]) = some _ from (eqF_cons (b := _) (eqF_cons (b := _) (eqF_cons2 (eqF_cons (b := _) (eqF_cons (b := _) rfl)) (eqF_cons2 (eqF_cons (b := _) (eqF_cons (b := _) rfl)) rfl)))))
  rw [h]
  congr 1
  rw [Bool.eq_iff_iff]
  rcases x with ⟨a1, a2, ⟨a3, a4⟩, ⟨a5, a6⟩⟩
  rcases y with ⟨b1, b2, ⟨b3, b4⟩, ⟨b5, b6⟩⟩
  simp only [Bool.and_eq_true, baEq, beq_iff_eq, decide_eq_true_eq, ACell.mk.injEq, Change.mk.injEq, and_true, and_assoc]
theorem eqs57_eql (x y : Change) : eEqAgg Try.prog .eql 57 [.int .i64 (x.page), .int .i64 (x.slot), .bool (x.before.set_), .string (x.before.data), .bool (x.after.set_), .string (x.after.data)].toArray [.int .i64 (y.page), .int .i64 (y.slot), .bool (y.before.set_), .string (y.before.data), .bool (y.after.set_), .string (y.after.data)].toArray = some (.bool (decide (x = y))) := by
  have h : eqS Try.prog Op.maxDepth 57 (.agg [.int .i64 (x.page), .int .i64 (x.slot), .bool (x.before.set_), .string (x.before.data), .bool (x.after.set_), .string (x.after.data)].toArray) (.agg [.int .i64 (y.page), .int .i64 (y.slot), .bool (y.before.set_), .string (y.before.data), .bool (y.after.set_), .string (y.after.data)].toArray) = (eqF [some (x.page == y.page), some (x.slot == y.slot), (eqF [some (x.before.set_ == y.before.set_), some (x.before.data == y.before.data)]), (eqF [some (x.after.set_ == y.after.set_), some (x.after.data == y.after.data)])]) := by kernel_rfl
  unfold eEqAgg
  rw [if_neg (by decide +kernel), h, eqs57_r]
theorem fa55_0 : fadr Try.prog 55 0 0 = true := by decide +kernel
theorem fa55_1 : fadr Try.prog 55 1 1 = true := by decide +kernel
theorem fa57_0 : fadr Try.prog 57 0 0 = true := by decide +kernel
theorem fa57_1 : fadr Try.prog 57 1 1 = true := by decide +kernel
theorem fa57_2 : fadr Try.prog 57 2 2 = true := by decide +kernel
theorem fa57_3 : fadr Try.prog 57 3 4 = true := by decide +kernel
theorem fa59_0 : fadr Try.prog 59 0 0 = true := by decide +kernel
theorem fa59_1 : fadr Try.prog 59 1 1 = true := by decide +kernel
theorem fa59_2 : fadr Try.prog 59 2 2 = true := by decide +kernel
theorem fa59_3 : fadr Try.prog 59 3 3 = true := by decide +kernel
theorem fa59_4 : fadr Try.prog 59 4 4 = true := by decide +kernel
theorem fa59_5 : fadr Try.prog 59 5 5 = true := by decide +kernel
theorem fa59_6 : fadr Try.prog 59 6 6 = true := by decide +kernel
theorem fa59_7 : fadr Try.prog 59 7 12 = true := by decide +kernel
theorem fa208_0 : fadr Try.prog 208 0 0 = true := by decide +kernel
theorem fa208_1 : fadr Try.prog 208 1 1 = true := by decide +kernel
theorem fa208_2 : fadr Try.prog 208 2 2 = true := by decide +kernel
theorem fa208_3 : fadr Try.prog 208 3 3 = true := by decide +kernel
theorem fa208_4 : fadr Try.prog 208 4 4 = true := by decide +kernel
theorem fa208_5 : fadr Try.prog 208 5 5 = true := by decide +kernel
theorem fa208_6 : fadr Try.prog 208 6 6 = true := by decide +kernel
theorem pl187 : plainFn Try.prog 187 = true := by decide +kernel
theorem pl188 : plainFn Try.prog 188 = true := by decide +kernel
theorem pl203 : plainFn Try.prog 203 = true := by decide +kernel
theorem pl204 : plainFn Try.prog 204 = true := by decide +kernel
theorem pl205 : plainFn Try.prog 205 = true := by decide +kernel
theorem pl206 : plainFn Try.prog 206 = true := by decide +kernel
theorem pl207 : plainFn Try.prog 207 = true := by decide +kernel
theorem pl214 : plainFn Try.prog 214 = true := by decide +kernel
theorem pl215 : plainFn Try.prog 215 = true := by decide +kernel
theorem str9 : strT Try.prog 9 = true := by decide +kernel
theorem ty3 : TyF Try.prog 3 false 1 := .of (by decide +kernel)
theorem ty4 : TyF Try.prog 4 false 1 := .of (by decide +kernel)
theorem ty9 : TyF Try.prog 9 false 1 := .of (by decide +kernel)
theorem ty55 : TyF Try.prog 55 true 2 := .of (by decide +kernel)
theorem ty57 : TyF Try.prog 57 true 6 := .of (by decide +kernel)
theorem ty59 : TyF Try.prog 59 true 13 := .of (by decide +kernel)
theorem ty132 : TyF Try.prog 132 false 1 := .of (by decide +kernel)
theorem ty206 : TyF Try.prog 206 false 1 := .of (by decide +kernel)
theorem ty208 : TyF Try.prog 208 true 7 := .of (by decide +kernel)
theorem ty209 : TyF Try.prog 209 true 63 := .of (by decide +kernel)
theorem zo57 : zeroOf Try.prog 57 = some ([.v (.int .i64 0)] ++ [.v (.int .i64 0)] ++ [Bo false] ++ [.v (.string ⟨#[]⟩)] ++ [Bo false] ++ [.v (.string ⟨#[]⟩)]) := by kernel_rfl
theorem zo208 : zeroOf Try.prog 208 = some ([Bo false] ++ [Bo false] ++ [Bo false] ++ [Bo false] ++ [Bo false] ++ [.v .nilFunc] ++ [.v .nilFunc]) := by kernel_rfl
theorem zo209 : zeroOf Try.prog 209 = some ((List.replicate 9 ([Bo false] ++ [Bo false] ++ [Bo false] ++ [Bo false] ++ [Bo false] ++ [.v .nilFunc] ++ [.v .nilFunc])).flatten) := by kernel_rfl
def entry_before (n_ : Int) (e_ : AEntry) : Option Bool := (if 0 ≤ n_ then some (decide (n_ < e_.lsn)) else some false)
theorem entry_before_ok {h : Heap} {n_ : Int} {e_ : AEntry}   {r : Bool} (hm : entry_before n_ e_ = some r) : FnOK Try.prog 187 [VI (n_), .o (.agg [I (e_.lsn), I (e_.kind_), I (e_.tx), I (e_.prevTx), I (e_.prevPage), I (e_.ref), I (e_.change.page), I (e_.change.slot), Bo (e_.change.before.set_), .v (.string e_.change.before.data), Bo (e_.change.after.set_), .v (.string e_.change.after.data), .v (.string e_.blob)])] h (fun v h' => v = VB (r) ∧ h' = h) := by
 refine FnOK.fin ?_
 refine FnOK.bodyC (N := 13) Try.func187 rfl rfl rfl (fun hC => ?_)
 replace hm := Ev.of hm
 rw [entry_before.eq_1] at hm
 show CdOK _ _ _ (look _ [(0, VI (n_)), (1, .o (.agg [I (e_.lsn), I (e_.kind_), I (e_.tx), I (e_.prevTx), I (e_.prevPage), I (e_.ref), I (e_.change.page), I (e_.change.slot), Bo (e_.change.before.set_), .v (.string e_.change.before.data), Bo (e_.change.after.set_), .v (.string e_.change.after.data), .v (.string e_.blob)]))]) (h ++ ([] : Heap)) _
 refine .seq (.region (.t (.o (.c (.ptr (h.length + 0) 0))) (e_boxN (L' := [⟨[I (e_.lsn), I (e_.kind_), I (e_.tx), I (e_.prevTx), I (e_.prevPage), I (e_.ref), I (e_.change.page), I (e_.change.slot), Bo (e_.change.before.set_), .v (.string e_.change.before.data), Bo (e_.change.after.set_), .v (.string e_.change.after.data), .v (.string e_.blob)], true, true⟩]) rfl (ev_t rfl) rfl rfl) ?_))
 refine .t (VB (false)) (e_as rfl) ?_
 refine .nil (CdOK.seq (.region (.m rfl ?_)))
 refine .sd rfl rfl rfl (e_bin (ev_t rfl) rfl rfl rfl) ?_ ?_
 ·intro c1; replace hm := hm.ifp c1
  iterate 2 refine .m rfl ?_
  refine .t _ (e_fa' fa59_0 (ev_t rfl)) ?_
  refine .t _ (e_ldb1 (ev_t rfl) ty3 (bx rfl rfl) rfl) ?_
  refine .t (VB (decide (n_ < e_.lsn))) (e_bin (ev_t rfl) (ev_t rfl) rfl rfl) ?_
  refine .t (VB (decide (n_ < e_.lsn))) (e_pick (t := true) (ev_t rfl) (ev_t rfl)) ?_
  refine .a rfl ?_
  refine .nil ?_
  refine CdOK.ret ?_
  refine ⟨.inr rfl, _, rfl, h, _, _, rfl, rfl, hC, ((renFlV rfl) : RenV _ _ _ _ (VB (decide (n_ < e_.lsn)))), ?_⟩
  cases hm.ret; exact ⟨rfl, rfl⟩
 intro c2; replace hm := hm.ifn c2
 refine .m rfl ?_
 iterate 4 refine .k ?_
 refine .t (VB (false)) (e_pick (t := false) (ev_t rfl) rfl) ?_
 refine .a rfl ?_
 refine .nil ?_
 refine CdOK.ret ?_
 refine ⟨.inr rfl, _, rfl, h, _, _, rfl, rfl, hC, ((renFlV rfl) : RenV _ _ _ _ (VB (false))), ?_⟩
 cases hm.ret; exact ⟨rfl, rfl⟩
abbrev entry_rules_v : AV := .o (.agg [Bo false, Bo false, Bo false, Bo false, Bo false, .v .nilFunc, .v .nilFunc, Bo true, Bo false, Bo true, Bo false, Bo false, .fn 203 [], .fn 205 [], Bo true, Bo true, Bo true, Bo true, Bo false, .fn 206 [], .fn 205 [], Bo true, Bo true, Bo false, Bo false, Bo false, .fn 203 [], .fn 204 [], Bo true, Bo true, Bo false, Bo false, Bo false, .fn 203 [], .fn 204 [], Bo true, Bo true, Bo false, Bo false, Bo false, .fn 203 [], .fn 204 [], Bo false, Bo false, Bo false, Bo false, Bo true, .fn 203 [], .fn 204 [], Bo false, Bo false, Bo false, Bo true, Bo false, .fn 203 [], .fn 207 [], Bo false, Bo false, Bo false, Bo false, Bo true, .fn 203 [], .fn 204 []])
def entry_rules  : Option Unit := some ()
theorem entry_rules_ok {h : Heap}    {r : Unit} (hm : entry_rules  = some r) : FnOK Try.prog 188 [] h (fun v h' => v = entry_rules_v ∧ h' = h) := by
 refine FnOK.fin ?_
 refine FnOK.bodyC (N := 19) Try.func188 rfl rfl rfl (fun hC => ?_)
 replace hm := Ev.of hm
 rw [entry_rules.eq_1] at hm
 show CdOK _ _ _ (look _ []) (h ++ ([] : Heap)) _
 refine .seq (.region (.t (.o (.c (.ptr (h.length + 0) 0))) (e_allocN (L' := [⟨[Bo false, Bo false, Bo false, Bo false, Bo false, .v .nilFunc, .v .nilFunc, Bo false, Bo false, Bo false, Bo false, Bo false, .v .nilFunc, .v .nilFunc, Bo false, Bo false, Bo false, Bo false, Bo false, .v .nilFunc, .v .nilFunc, Bo false, Bo false, Bo false, Bo false, Bo false, .v .nilFunc, .v .nilFunc, Bo false, Bo false, Bo false, Bo false, Bo false, .v .nilFunc, .v .nilFunc, Bo false, Bo false, Bo false, Bo false, Bo false, .v .nilFunc, .v .nilFunc, Bo false, Bo false, Bo false, Bo false, Bo false, .v .nilFunc, .v .nilFunc, Bo false, Bo false, Bo false, Bo false, Bo false, .v .nilFunc, .v .nilFunc, Bo false, Bo false, Bo false, Bo false, Bo false, .v .nilFunc, .v .nilFunc], true, true⟩]) rfl zo209 rfl rfl) ?_))
 refine .nil (CdOK.seq (.region (.t (.o (.c (.fn 203 []))) (e_as rfl) ?_)))
 refine .nil (CdOK.seq (.region (.m rfl ?_)))
 refine .t (.o (.agg [Bo true, Bo true, Bo false, Bo false, Bo false, .fn 203 [], .fn 204 []])) (e_bld (cs := [Bo true, Bo true, Bo false, Bo false, Bo false, .fn 203 [], .fn 204 []]) zo208 bl208 rfl rfl) ?_
 refine .t (.o (.c (.ptr (h.length + 1) 0))) (e_allocN (L' := [⟨[Bo false, Bo false, Bo false, Bo false, Bo false, .v .nilFunc, .v .nilFunc, Bo false, Bo false, Bo false, Bo false, Bo false, .v .nilFunc, .v .nilFunc, Bo false, Bo false, Bo false, Bo false, Bo false, .v .nilFunc, .v .nilFunc, Bo false, Bo false, Bo false, Bo false, Bo false, .v .nilFunc, .v .nilFunc, Bo false, Bo false, Bo false, Bo false, Bo false, .v .nilFunc, .v .nilFunc, Bo false, Bo false, Bo false, Bo false, Bo false, .v .nilFunc, .v .nilFunc, Bo false, Bo false, Bo false, Bo false, Bo false, .v .nilFunc, .v .nilFunc, Bo false, Bo false, Bo false, Bo false, Bo false, .v .nilFunc, .v .nilFunc, Bo false, Bo false, Bo false, Bo false, Bo false, .v .nilFunc, .v .nilFunc], true, true⟩, ⟨[Bo false, Bo false, Bo false, Bo false, Bo false, .v .nilFunc, .v .nilFunc], true, true⟩]) rfl zo208 rfl rfl) ?_
 refine .s0 rfl rfl (e_stN (L' := [⟨[Bo false, Bo false, Bo false, Bo false, Bo false, .v .nilFunc, .v .nilFunc, Bo false, Bo false, Bo false, Bo false, Bo false, .v .nilFunc, .v .nilFunc, Bo false, Bo false, Bo false, Bo false, Bo false, .v .nilFunc, .v .nilFunc, Bo false, Bo false, Bo false, Bo false, Bo false, .v .nilFunc, .v .nilFunc, Bo false, Bo false, Bo false, Bo false, Bo false, .v .nilFunc, .v .nilFunc, Bo false, Bo false, Bo false, Bo false, Bo false, .v .nilFunc, .v .nilFunc, Bo false, Bo false, Bo false, Bo false, Bo false, .v .nilFunc, .v .nilFunc, Bo false, Bo false, Bo false, Bo false, Bo false, .v .nilFunc, .v .nilFunc, Bo false, Bo false, Bo false, Bo false, Bo false, .v .nilFunc, .v .nilFunc], true, true⟩, ⟨[Bo true, Bo true, Bo false, Bo false, Bo false, .fn 203 [], .fn 204 []], true, true⟩]) rfl (ev_t rfl) (ev_t rfl) ty208 rfl rfl rfl rfl rfl) ?_
 refine .nil (CdOK.seq (.region (.m rfl ?_)))
 refine .t (.o (.agg [Bo false, Bo false, Bo false, Bo false, Bo true, .fn 203 [], .fn 204 []])) (e_bld (cs := [Bo false, Bo false, Bo false, Bo false, Bo true, .fn 203 [], .fn 204 []]) zo208 bl208 rfl rfl) ?_
 refine .t (.o (.c (.ptr (h.length + 2) 0))) (e_allocN (L' := [⟨[Bo false, Bo false, Bo false, Bo false, Bo false, .v .nilFunc, .v .nilFunc, Bo false, Bo false, Bo false, Bo false, Bo false, .v .nilFunc, .v .nilFunc, Bo false, Bo false, Bo false, Bo false, Bo false, .v .nilFunc, .v .nilFunc, Bo false, Bo false, Bo false, Bo false, Bo false, .v .nilFunc, .v .nilFunc, Bo false, Bo false, Bo false, Bo false, Bo false, .v .nilFunc, .v .nilFunc, Bo false, Bo false, Bo false, Bo false, Bo false, .v .nilFunc, .v .nilFunc, Bo false, Bo false, Bo false, Bo false, Bo false, .v .nilFunc, .v .nilFunc, Bo false, Bo false, Bo false, Bo false, Bo false, .v .nilFunc, .v .nilFunc, Bo false, Bo false, Bo false, Bo false, Bo false, .v .nilFunc, .v .nilFunc], true, true⟩, ⟨[Bo true, Bo true, Bo false, Bo false, Bo false, .fn 203 [], .fn 204 []], true, true⟩, ⟨[Bo false, Bo false, Bo false, Bo false, Bo false, .v .nilFunc, .v .nilFunc], true, true⟩]) rfl zo208 rfl rfl) ?_
 refine .s0 rfl rfl (e_stN (L' := [⟨[Bo false, Bo false, Bo false, Bo false, Bo false, .v .nilFunc, .v .nilFunc, Bo false, Bo false, Bo false, Bo false, Bo false, .v .nilFunc, .v .nilFunc, Bo false, Bo false, Bo false, Bo false, Bo false, .v .nilFunc, .v .nilFunc, Bo false, Bo false, Bo false, Bo false, Bo false, .v .nilFunc, .v .nilFunc, Bo false, Bo false, Bo false, Bo false, Bo false, .v .nilFunc, .v .nilFunc, Bo false, Bo false, Bo false, Bo false, Bo false, .v .nilFunc, .v .nilFunc, Bo false, Bo false, Bo false, Bo false, Bo false, .v .nilFunc, .v .nilFunc, Bo false, Bo false, Bo false, Bo false, Bo false, .v .nilFunc, .v .nilFunc, Bo false, Bo false, Bo false, Bo false, Bo false, .v .nilFunc, .v .nilFunc], true, true⟩, ⟨[Bo true, Bo true, Bo false, Bo false, Bo false, .fn 203 [], .fn 204 []], true, true⟩, ⟨[Bo false, Bo false, Bo false, Bo false, Bo true, .fn 203 [], .fn 204 []], true, true⟩]) rfl (ev_t rfl) (ev_t rfl) ty208 rfl rfl rfl rfl rfl) ?_
 refine .nil (CdOK.seq (.region (.m rfl ?_)))
 refine .t (.o (.agg [Bo true, Bo false, Bo true, Bo false, Bo false, .fn 203 [], .fn 205 []])) (e_bld (cs := [Bo true, Bo false, Bo true, Bo false, Bo false, .fn 203 [], .fn 205 []]) zo208 bl208 rfl rfl) ?_
 refine .t (.o (.agg [Bo true, Bo true, Bo true, Bo true, Bo false, .fn 206 [], .fn 205 []])) (e_bld (cs := [Bo true, Bo true, Bo true, Bo true, Bo false, .fn 206 [], .fn 205 []]) zo208 bl208 rfl rfl) ?_
 refine .t _ (e_ldbA (ev_t rfl) ty208 (bx rfl rfl) rfl rfl) ?_
 refine .t _ (e_ldbA (ev_t rfl) ty208 (bx rfl rfl) rfl rfl) ?_
 refine .t _ (e_ldbA (ev_t rfl) ty208 (bx rfl rfl) rfl rfl) ?_
 refine .t _ (e_ldbA (ev_t rfl) ty208 (bx rfl rfl) rfl rfl) ?_
 refine .m rfl ?_
 refine .t (.o (.agg [Bo false, Bo false, Bo false, Bo true, Bo false, .fn 203 [], .fn 207 []])) (e_bld (cs := [Bo false, Bo false, Bo false, Bo true, Bo false, .fn 203 [], .fn 207 []]) zo208 bl208 rfl rfl) ?_
 refine .t _ (e_ldbA (ev_t rfl) ty208 (bx rfl rfl) rfl rfl) ?_
 refine .t (.o (.agg [Bo false, Bo false, Bo false, Bo false, Bo false, .v .nilFunc, .v .nilFunc, Bo true, Bo false, Bo true, Bo false, Bo false, .fn 203 [], .fn 205 [], Bo true, Bo true, Bo true, Bo true, Bo false, .fn 206 [], .fn 205 [], Bo true, Bo true, Bo false, Bo false, Bo false, .fn 203 [], .fn 204 [], Bo true, Bo true, Bo false, Bo false, Bo false, .fn 203 [], .fn 204 [], Bo true, Bo true, Bo false, Bo false, Bo false, .fn 203 [], .fn 204 [], Bo false, Bo false, Bo false, Bo false, Bo true, .fn 203 [], .fn 204 [], Bo false, Bo false, Bo false, Bo true, Bo false, .fn 203 [], .fn 207 [], Bo false, Bo false, Bo false, Bo false, Bo true, .fn 203 [], .fn 204 []])) (e_bldK rfl (by kernel_rfl)) ?_
 refine .s0 rfl rfl (e_stN (L' := [⟨[Bo false, Bo false, Bo false, Bo false, Bo false, .v .nilFunc, .v .nilFunc, Bo true, Bo false, Bo true, Bo false, Bo false, .fn 203 [], .fn 205 [], Bo true, Bo true, Bo true, Bo true, Bo false, .fn 206 [], .fn 205 [], Bo true, Bo true, Bo false, Bo false, Bo false, .fn 203 [], .fn 204 [], Bo true, Bo true, Bo false, Bo false, Bo false, .fn 203 [], .fn 204 [], Bo true, Bo true, Bo false, Bo false, Bo false, .fn 203 [], .fn 204 [], Bo false, Bo false, Bo false, Bo false, Bo true, .fn 203 [], .fn 204 [], Bo false, Bo false, Bo false, Bo true, Bo false, .fn 203 [], .fn 207 [], Bo false, Bo false, Bo false, Bo false, Bo true, .fn 203 [], .fn 204 []], true, true⟩, ⟨[Bo true, Bo true, Bo false, Bo false, Bo false, .fn 203 [], .fn 204 []], true, true⟩, ⟨[Bo false, Bo false, Bo false, Bo false, Bo true, .fn 203 [], .fn 204 []], true, true⟩]) rfl (ev_t rfl) (ev_t rfl) ty209 rfl rfl rfl rfl rfl) ?_
 refine .nil ?_
 refine CdOK.ret ?_
 refine ⟨.inr rfl, _, (resA_c (look_find rfl) (eLoad_A ty209 (bx rfl rfl) rfl rfl rfl) resA_n), h, _, _, rfl, rfl, hC, ((.o (.agg (R2.of (.fl _ rfl) (R2.of (.fl _ rfl) (R2.of (.fl _ rfl) (R2.of (.fl _ rfl) (R2.of (.fl _ rfl) (R2.of (.fl _ rfl) (R2.of (.fl _ rfl) (R2.of (.fl _ rfl) (R2.of (.fl _ rfl) (R2.of (.fl _ rfl) (R2.of (.fl _ rfl) (R2.of (.fl _ rfl) (R2.of (.fn _ _ _ (R2.nil _)) (R2.of (.fn _ _ _ (R2.nil _)) (R2.of (.fl _ rfl) (R2.of (.fl _ rfl) (R2.of (.fl _ rfl) (R2.of (.fl _ rfl) (R2.of (.fl _ rfl) (R2.of (.fn _ _ _ (R2.nil _)) (R2.of (.fn _ _ _ (R2.nil _)) (R2.of (.fl _ rfl) (R2.of (.fl _ rfl) (R2.of (.fl _ rfl) (R2.of (.fl _ rfl) (R2.of (.fl _ rfl) (R2.of (.fn _ _ _ (R2.nil _)) (R2.of (.fn _ _ _ (R2.nil _)) (R2.of (.fl _ rfl) (R2.of (.fl _ rfl) (R2.of (.fl _ rfl) (R2.of (.fl _ rfl) (R2.of (.fl _ rfl) (R2.of (.fn _ _ _ (R2.nil _)) (R2.of (.fn _ _ _ (R2.nil _)) (R2.of (.fl _ rfl) (R2.of (.fl _ rfl) (R2.of (.fl _ rfl) (R2.of (.fl _ rfl) (R2.of (.fl _ rfl) (R2.of (.fn _ _ _ (R2.nil _)) (R2.of (.fn _ _ _ (R2.nil _)) (R2.of (.fl _ rfl) (R2.of (.fl _ rfl) (R2.of (.fl _ rfl) (R2.of (.fl _ rfl) (R2.of (.fl _ rfl) (R2.of (.fn _ _ _ (R2.nil _)) (R2.of (.fn _ _ _ (R2.nil _)) (R2.of (.fl _ rfl) (R2.of (.fl _ rfl) (R2.of (.fl _ rfl) (R2.of (.fl _ rfl) (R2.of (.fl _ rfl) (R2.of (.fn _ _ _ (R2.nil _)) (R2.of (.fn _ _ _ (R2.nil _)) (R2.of (.fl _ rfl) (R2.of (.fl _ rfl) (R2.of (.fl _ rfl) (R2.of (.fl _ rfl) (R2.of (.fl _ rfl) (R2.of (.fn _ _ _ (R2.nil _)) (R2.of (.fn _ _ _ (R2.nil _)) (R2.nil _)))))))))))))))))))))))))))))))))))))))))))))))))))))))))))))))))) : RenV _ _ _ _ (.o (.agg [Bo false, Bo false, Bo false, Bo false, Bo false, .v .nilFunc, .v .nilFunc, Bo true, Bo false, Bo true, Bo false, Bo false, .fn 203 [], .fn 205 [], Bo true, Bo true, Bo true, Bo true, Bo false, .fn 206 [], .fn 205 [], Bo true, Bo true, Bo false, Bo false, Bo false, .fn 203 [], .fn 204 [], Bo true, Bo true, Bo false, Bo false, Bo false, .fn 203 [], .fn 204 [], Bo true, Bo true, Bo false, Bo false, Bo false, .fn 203 [], .fn 204 [], Bo false, Bo false, Bo false, Bo false, Bo true, .fn 203 [], .fn 204 [], Bo false, Bo false, Bo false, Bo true, Bo false, .fn 203 [], .fn 207 [], Bo false, Bo false, Bo false, Bo false, Bo true, .fn 203 [], .fn 204 []]))), ?_⟩
 cases hm.ret; exact ⟨rfl, rfl⟩
def entry_rules1 (a0 : AEntry) : Option Bool := some true
theorem entry_rules1_ok {h : Heap} {a0 : AEntry}   {r : Bool} (hm : entry_rules1 a0 = some r) : FnOK Try.prog 203 [.o (.agg [I (a0.lsn), I (a0.kind_), I (a0.tx), I (a0.prevTx), I (a0.prevPage), I (a0.ref), I (a0.change.page), I (a0.change.slot), Bo (a0.change.before.set_), .v (.string a0.change.before.data), Bo (a0.change.after.set_), .v (.string a0.change.after.data), .v (.string a0.blob)])] h (fun v h' => v = VB (r) ∧ h' = h) := by
 refine FnOK.fin ?_
 refine FnOK.bodyC (N := 3) Try.func203 rfl rfl rfl (fun hC => ?_)
 replace hm := Ev.of hm
 rw [entry_rules1.eq_1] at hm
 show CdOK _ _ _ (look _ [(0, .o (.agg [I (a0.lsn), I (a0.kind_), I (a0.tx), I (a0.prevTx), I (a0.prevPage), I (a0.ref), I (a0.change.page), I (a0.change.slot), Bo (a0.change.before.set_), .v (.string a0.change.before.data), Bo (a0.change.after.set_), .v (.string a0.change.after.data), .v (.string a0.blob)]))]) (h ++ ([] : Heap)) _
 refine .seq (.region (.t (.o (.c (.ptr (h.length + 0) 0))) (e_boxN (L' := [⟨[I (a0.lsn), I (a0.kind_), I (a0.tx), I (a0.prevTx), I (a0.prevPage), I (a0.ref), I (a0.change.page), I (a0.change.slot), Bo (a0.change.before.set_), .v (.string a0.change.before.data), Bo (a0.change.after.set_), .v (.string a0.change.after.data), .v (.string a0.blob)], true, true⟩]) rfl (ev_t rfl) rfl rfl) ?_))
 refine .t (VB (false)) (e_as rfl) ?_
 refine .nil (CdOK.seq (.region (.t (VB (true)) (e_as rfl) ?_)))
 refine .nil ?_
 refine CdOK.ret ?_
 refine ⟨.inr rfl, _, rfl, h, _, _, rfl, rfl, hC, ((renFlV rfl) : RenV _ _ _ _ (VB (true))), ?_⟩
 cases hm.ret; exact ⟨rfl, rfl⟩
def entry_rules2 (e_ : AEntry) : Option Bool := (if 1 ≤ e_.ref then some (decide (e_.ref ≤ e_.prevTx)) else some false)
theorem entry_rules2_ok {h : Heap} {e_ : AEntry}   {r : Bool} (hm : entry_rules2 e_ = some r) : FnOK Try.prog 206 [.o (.agg [I (e_.lsn), I (e_.kind_), I (e_.tx), I (e_.prevTx), I (e_.prevPage), I (e_.ref), I (e_.change.page), I (e_.change.slot), Bo (e_.change.before.set_), .v (.string e_.change.before.data), Bo (e_.change.after.set_), .v (.string e_.change.after.data), .v (.string e_.blob)])] h (fun v h' => v = VB (r) ∧ h' = h) := by
 refine FnOK.fin ?_
 refine FnOK.bodyC (N := 13) Try.func206 rfl rfl rfl (fun hC => ?_)
 replace hm := Ev.of hm
 rw [entry_rules2.eq_1] at hm
 show CdOK _ _ _ (look _ [(0, .o (.agg [I (e_.lsn), I (e_.kind_), I (e_.tx), I (e_.prevTx), I (e_.prevPage), I (e_.ref), I (e_.change.page), I (e_.change.slot), Bo (e_.change.before.set_), .v (.string e_.change.before.data), Bo (e_.change.after.set_), .v (.string e_.change.after.data), .v (.string e_.blob)]))]) (h ++ ([] : Heap)) _
 refine .seq (.region (.t (.o (.c (.ptr (h.length + 0) 0))) (e_boxN (L' := [⟨[I (e_.lsn), I (e_.kind_), I (e_.tx), I (e_.prevTx), I (e_.prevPage), I (e_.ref), I (e_.change.page), I (e_.change.slot), Bo (e_.change.before.set_), .v (.string e_.change.before.data), Bo (e_.change.after.set_), .v (.string e_.change.after.data), .v (.string e_.blob)], true, true⟩]) rfl (ev_t rfl) rfl rfl) ?_))
 refine .t (VB (false)) (e_as rfl) ?_
 refine .nil (CdOK.seq (.region (.t _ (e_fa' fa59_5 (ev_t rfl)) ?_)))
 refine .t _ (e_ldb1 (ev_t rfl) ty3 (bx rfl rfl) rfl) ?_
 refine .sd rfl rfl rfl (e_bin (ev_t rfl) rfl rfl rfl) ?_ ?_
 ·intro c1; replace hm := hm.ifp c1
  refine .m rfl ?_
  refine .t _ (e_fa' fa59_5 (ev_t rfl)) ?_
  refine .t _ (e_ldb1 (ev_t rfl) ty3 (bx rfl rfl) rfl) ?_
  refine .t _ (e_fa' fa59_3 (ev_t rfl)) ?_
  refine .t _ (e_ldb1 (ev_t rfl) ty3 (bx rfl rfl) rfl) ?_
  refine .t (VB (decide (e_.ref ≤ e_.prevTx))) (e_bin (ev_t rfl) (ev_t rfl) rfl rfl) ?_
  refine .t (VB (decide (e_.ref ≤ e_.prevTx))) (e_pick (t := true) (ev_t rfl) (ev_t rfl)) ?_
  refine .a rfl ?_
  refine .nil ?_
  refine CdOK.ret ?_
  refine ⟨.inr rfl, _, rfl, h, _, _, rfl, rfl, hC, ((renFlV rfl) : RenV _ _ _ _ (VB (decide (e_.ref ≤ e_.prevTx)))), ?_⟩
  cases hm.ret; exact ⟨rfl, rfl⟩
 intro c2; replace hm := hm.ifn c2
 refine .m rfl ?_
 iterate 5 refine .k ?_
 refine .t (VB (false)) (e_pick (t := false) (ev_t rfl) rfl) ?_
 refine .a rfl ?_
 refine .nil ?_
 refine CdOK.ret ?_
 refine ⟨.inr rfl, _, rfl, h, _, _, rfl, rfl, hC, ((renFlV rfl) : RenV _ _ _ _ (VB (false))), ?_⟩
 cases hm.ret; exact ⟨rfl, rfl⟩
def entry_rules3 (c_ : Change) : Option Bool := (if c_ = (⟨c_.page, 0, (⟨false, (⟨#[]⟩ : ByteArray)⟩ : ACell), (⟨false, (⟨#[]⟩ : ByteArray)⟩ : ACell)⟩ : Change) then (if 0 ≤ c_.page then some (decide (c_.page < 64)) else some false) else some false)
theorem entry_rules3_ok {h : Heap} {c_ : Change}   {r : Bool} (hm : entry_rules3 c_ = some r) : FnOK Try.prog 207 [.o (.agg [I (c_.page), I (c_.slot), Bo (c_.before.set_), .v (.string c_.before.data), Bo (c_.after.set_), .v (.string c_.after.data)])] h (fun v h' => v = VB (r) ∧ h' = h) := by
 refine FnOK.fin ?_
 refine FnOK.bodyC (N := 18) Try.func207 rfl rfl rfl (fun hC => ?_)
 replace hm := Ev.of hm
 rw [entry_rules3.eq_1] at hm
 show CdOK _ _ _ (look _ [(0, .o (.agg [I (c_.page), I (c_.slot), Bo (c_.before.set_), .v (.string c_.before.data), Bo (c_.after.set_), .v (.string c_.after.data)]))]) (h ++ ([] : Heap)) _
 refine .seq (.region (.t (.o (.c (.ptr (h.length + 0) 0))) (e_boxN (L' := [⟨[I (c_.page), I (c_.slot), Bo (c_.before.set_), .v (.string c_.before.data), Bo (c_.after.set_), .v (.string c_.after.data)], true, true⟩]) rfl (ev_t rfl) rfl rfl) ?_))
 refine .t (VB (false)) (e_as rfl) ?_
 refine .nil (CdOK.seq (.region (.t _ (e_ldbA (ev_t rfl) ty57 (bx rfl rfl) rfl rfl) ?_)))
 refine .t _ (e_fa' fa57_0 (ev_t rfl)) ?_
 refine .t _ (e_ldb1 (ev_t rfl) ty3 (bx rfl rfl) rfl) ?_
 refine .t (.o (.agg [I (c_.page), I (0), Bo false, .v (.string (⟨#[]⟩ : ByteArray)), Bo false, .v (.string (⟨#[]⟩ : ByteArray))])) (e_bld (cs := [I (c_.page), I (0), Bo false, .v (.string (⟨#[]⟩ : ByteArray)), Bo false, .v (.string (⟨#[]⟩ : ByteArray))]) zo57 bl57 rfl rfl) ?_
 refine .sd rfl rfl rfl (e_eqA (ev_t rfl) (ev_t rfl) rfl rfl (eqs57_eql c_ (⟨c_.page, 0, (⟨false, (⟨#[]⟩ : ByteArray)⟩ : ACell), (⟨false, (⟨#[]⟩ : ByteArray)⟩ : ACell)⟩ : Change))) ?_ ?_
 ·intro c1; replace hm := hm.ifp c1
  refine .m rfl ?_
  refine .t _ (e_fa' fa57_0 (ev_t rfl)) ?_
  refine .t _ (e_ldb1 (ev_t rfl) ty3 (bx rfl rfl) rfl) ?_
  refine .sd rfl rfl rfl (e_bin (ev_t rfl) rfl rfl rfl) ?_ ?_
  ·intro c2; replace hm := hm.ifp c2
   refine .t (VB (true)) (e_pick (t := true) (ev_t rfl) (ev_t rfl)) ?_
   refine .m rfl ?_
   refine .t _ (e_fa' fa57_0 (ev_t rfl)) ?_
   refine .t _ (e_ldb1 (ev_t rfl) ty3 (bx rfl rfl) rfl) ?_
   refine .t (VB (decide (c_.page < 64))) (e_bin (ev_t rfl) rfl rfl rfl) ?_
   refine .t (VB (decide (c_.page < 64))) (e_pick (t := true) (ev_t rfl) (ev_t rfl)) ?_
   refine .a rfl ?_
   refine .nil ?_
   refine CdOK.ret ?_
   refine ⟨.inr rfl, _, rfl, h, _, _, rfl, rfl, hC, ((renFlV rfl) : RenV _ _ _ _ (VB (decide (c_.page < 64)))), ?_⟩
   cases hm.ret; exact ⟨rfl, rfl⟩
  intro c3; replace hm := hm.ifn c3
  refine .t (VB (false)) (e_pick (t := true) (ev_t rfl) (ev_t rfl)) ?_
  refine .m rfl ?_
  iterate 3 refine .k ?_
  refine .t (VB (false)) (e_pick (t := false) (ev_t rfl) rfl) ?_
  refine .a rfl ?_
  refine .nil ?_
  refine CdOK.ret ?_
  refine ⟨.inr rfl, _, rfl, h, _, _, rfl, rfl, hC, ((renFlV rfl) : RenV _ _ _ _ (VB (false))), ?_⟩
  cases hm.ret; exact ⟨rfl, rfl⟩
 intro c4; replace hm := hm.ifn c4
 refine .m rfl ?_
 iterate 3 refine .k ?_
 refine .t (VB (false)) (e_pick (t := false) (ev_t rfl) rfl) ?_
 refine .m rfl ?_
 iterate 3 refine .k ?_
 refine .t (VB (false)) (e_pick (t := false) (ev_t rfl) rfl) ?_
 refine .a rfl ?_
 refine .nil ?_
 refine CdOK.ret ?_
 refine ⟨.inr rfl, _, rfl, h, _, _, rfl, rfl, hC, ((renFlV rfl) : RenV _ _ _ _ (VB (false))), ?_⟩
 cases hm.ret; exact ⟨rfl, rfl⟩
def entry_none (c_ : Change) : Option Bool := some (decide (c_ = (⟨0, 0, (⟨false, (⟨#[]⟩ : ByteArray)⟩ : ACell), (⟨false, (⟨#[]⟩ : ByteArray)⟩ : ACell)⟩ : Change)))
theorem entry_none_ok {h : Heap} {c_ : Change}   {r : Bool} (hm : entry_none c_ = some r) : FnOK Try.prog 204 [.o (.agg [I (c_.page), I (c_.slot), Bo (c_.before.set_), .v (.string c_.before.data), Bo (c_.after.set_), .v (.string c_.after.data)])] h (fun v h' => v = VB (r) ∧ h' = h) := by
 refine FnOK.fin ?_
 refine FnOK.bodyC (N := 6) Try.func204 rfl rfl rfl (fun hC => ?_)
 replace hm := Ev.of hm
 rw [entry_none.eq_1] at hm
 show CdOK _ _ _ (look _ [(0, .o (.agg [I (c_.page), I (c_.slot), Bo (c_.before.set_), .v (.string c_.before.data), Bo (c_.after.set_), .v (.string c_.after.data)]))]) (h ++ ([] : Heap)) _
 refine .seq (.region (.t (.o (.c (.ptr (h.length + 0) 0))) (e_boxN (L' := [⟨[I (c_.page), I (c_.slot), Bo (c_.before.set_), .v (.string c_.before.data), Bo (c_.after.set_), .v (.string c_.after.data)], true, true⟩]) rfl (ev_t rfl) rfl rfl) ?_))
 refine .t (VB (false)) (e_as rfl) ?_
 refine .nil (CdOK.seq (.region (.t _ (e_ldbA (ev_t rfl) ty57 (bx rfl rfl) rfl rfl) ?_)))
 refine .t (.o (.agg [I (0), I (0), Bo false, .v (.string (⟨#[]⟩ : ByteArray)), Bo false, .v (.string (⟨#[]⟩ : ByteArray))])) (e_bld (cs := [I (0), I (0), Bo false, .v (.string (⟨#[]⟩ : ByteArray)), Bo false, .v (.string (⟨#[]⟩ : ByteArray))]) zo57 bl57 rfl rfl) ?_
 refine .t (VB (decide (c_ = (⟨0, 0, (⟨false, (⟨#[]⟩ : ByteArray)⟩ : ACell), (⟨false, (⟨#[]⟩ : ByteArray)⟩ : ACell)⟩ : Change)))) (e_eqA (ev_t rfl) (ev_t rfl) rfl rfl (eqs57_eql c_ (⟨0, 0, (⟨false, (⟨#[]⟩ : ByteArray)⟩ : ACell), (⟨false, (⟨#[]⟩ : ByteArray)⟩ : ACell)⟩ : Change))) ?_
 refine .a rfl ?_
 refine .nil ?_
 refine CdOK.ret ?_
 refine ⟨.inr rfl, _, rfl, h, _, _, rfl, rfl, hC, ((renFlV rfl) : RenV _ _ _ _ (VB (decide (c_ = (⟨0, 0, (⟨false, (⟨#[]⟩ : ByteArray)⟩ : ACell), (⟨false, (⟨#[]⟩ : ByteArray)⟩ : ACell)⟩ : Change))))), ?_⟩
 cases hm.ret; exact ⟨rfl, rfl⟩
def change_paged (id_ : Int) : Option Bool := (if 0 ≤ id_ then some (decide (id_ < 64)) else some false)
theorem change_paged_ok {h : Heap} {id_ : Int}   {r : Bool} (hm : change_paged id_ = some r) : FnOK Try.prog 214 [VI (id_)] h (fun v h' => v = VB (r) ∧ h' = h) := by
 refine FnOK.fin ?_
 refine FnOK.bodyC (N := 9) Try.func214 rfl rfl rfl (fun hC => ?_)
 replace hm := Ev.of hm
 rw [change_paged.eq_1] at hm
 show CdOK _ _ _ (look _ [(0, VI (id_))]) (h ++ ([] : Heap)) _
 refine .seq (.region (.t (VB (false)) (e_as rfl) ?_))
 refine .nil (CdOK.seq (.region (.m rfl ?_)))
 refine .sd rfl rfl rfl (e_bin (ev_t rfl) rfl rfl rfl) ?_ ?_
 ·intro c1; replace hm := hm.ifp c1
  iterate 2 refine .m rfl ?_
  refine .t (VB (decide (id_ < 64))) (e_bin (ev_t rfl) rfl rfl rfl) ?_
  refine .t (VB (decide (id_ < 64))) (e_pick (t := true) (ev_t rfl) (ev_t rfl)) ?_
  refine .a rfl ?_
  refine .nil ?_
  refine CdOK.ret ?_
  refine ⟨.inr rfl, _, rfl, h, _, _, rfl, rfl, hC, ((renFlV rfl) : RenV _ _ _ _ (VB (decide (id_ < 64)))), ?_⟩
  cases hm.ret; exact ⟨rfl, rfl⟩
 intro c2; replace hm := hm.ifn c2
 refine .m rfl ?_
 iterate 2 refine .k ?_
 refine .t (VB (false)) (e_pick (t := false) (ev_t rfl) rfl) ?_
 refine .a rfl ?_
 refine .nil ?_
 refine CdOK.ret ?_
 refine ⟨.inr rfl, _, rfl, h, _, _, rfl, rfl, hC, ((renFlV rfl) : RenV _ _ _ _ (VB (false))), ?_⟩
 cases hm.ret; exact ⟨rfl, rfl⟩
def change_ValidCell (c_ : ACell) : Option Bool := (if (c_.data.size : Int) ≤ 12 then (if c_.set_ = true then some true else some ((c_.data).toList == (({ data := #[] } : ByteArray)).toList)) else some false)
theorem change_ValidCell_ok {h : Heap} {c_ : ACell}   {r : Bool} (hm : change_ValidCell c_ = some r) : FnOK Try.prog 215 [.o (.agg [Bo (c_.set_), .v (.string c_.data)])] h (fun v h' => v = VB (r) ∧ h' = h) := by
 refine FnOK.fin ?_
 refine FnOK.bodyC (N := 16) Try.func215 rfl rfl rfl (fun hC => ?_)
 replace hm := Ev.of hm
 rw [change_ValidCell.eq_1] at hm
 show CdOK _ _ _ (look _ [(0, .o (.agg [Bo (c_.set_), .v (.string c_.data)]))]) (h ++ ([] : Heap)) _
 refine .seq (.region (.t (.o (.c (.ptr (h.length + 0) 0))) (e_boxN (L' := [⟨[Bo (c_.set_), .v (.string c_.data)], true, true⟩]) rfl (ev_t rfl) rfl rfl) ?_))
 refine .t (VB (false)) (e_as rfl) ?_
 refine .nil (CdOK.seq (.region (.t _ (e_fa' fa55_1 (ev_t rfl)) ?_)))
 refine .t _ (e_ldb1 (ev_t rfl) ty9 (bx rfl rfl) rfl) ?_
 refine .t (VI ((c_.data.size : Int))) (e_lenS' (ev_t rfl) str9) ?_
 refine .sd rfl rfl rfl (e_bin (ev_t rfl) rfl rfl rfl) ?_ ?_
 ·intro c1; replace hm := hm.ifp c1
  refine .m rfl ?_
  refine .t _ (e_fa' fa55_0 (ev_t rfl)) ?_
  refine .sb rfl rfl rfl (e_ldb1 (ev_t rfl) ty4 (bx rfl rfl) rfl) ?_ ?_
  ·intro c2; replace hm := hm.ifp c2
   refine .m rfl ?_
   iterate 3 refine .k ?_
   refine .t (VB (true)) (e_pick (t := true) (ev_t rfl) rfl) ?_
   refine .t (VB (true)) (e_pick (t := true) (ev_t rfl) (ev_t rfl)) ?_
   refine .a rfl ?_
   refine .nil ?_
   refine CdOK.ret ?_
   refine ⟨.inr rfl, _, rfl, h, _, _, rfl, rfl, hC, ((renFlV rfl) : RenV _ _ _ _ (VB (true))), ?_⟩
   cases hm.ret; exact ⟨rfl, rfl⟩
  intro c3; replace hm := hm.ifn (by rw [c3]; exact Bool.false_ne_true)
  refine .m rfl ?_
  refine .t _ (e_fa' fa55_1 (ev_t rfl)) ?_
  refine .t _ (e_ldb1 (ev_t rfl) ty9 (bx rfl rfl) rfl) ?_
  refine .t (VB (((c_.data).toList == (({ data := #[] } : ByteArray)).toList))) (e_bin (ev_t rfl) rfl rfl rfl) ?_
  refine .t (VB (((c_.data).toList == (({ data := #[] } : ByteArray)).toList))) (e_pick (t := false) (ev_t rfl) (ev_t rfl)) ?_
  refine .t (VB (((c_.data).toList == (({ data := #[] } : ByteArray)).toList))) (e_pick (t := true) (ev_t rfl) (ev_t rfl)) ?_
  refine .a rfl ?_
  refine .nil ?_
  refine CdOK.ret ?_
  refine ⟨.inr rfl, _, rfl, h, _, _, rfl, rfl, hC, ((renFlV rfl) : RenV _ _ _ _ (VB (((c_.data).toList == (({ data := #[] } : ByteArray)).toList)))), ?_⟩
  cases hm.ret; exact ⟨rfl, rfl⟩
 intro c4; replace hm := hm.ifn c4
 refine .m rfl ?_
 iterate 7 refine .k ?_
 refine .t (VB (false)) (e_pick (t := false) (ev_t rfl) rfl) ?_
 refine .a rfl ?_
 refine .nil ?_
 refine CdOK.ret ?_
 refine ⟨.inr rfl, _, rfl, h, _, _, rfl, rfl, hC, ((renFlV rfl) : RenV _ _ _ _ (VB (false))), ?_⟩
 cases hm.ret; exact ⟨rfl, rfl⟩
def change_Valid (c_ : Change) : Option Bool := ((change_paged c_.page).bind fun (x1 : Bool) => (if x1 = true then (if 0 ≤ c_.slot then (if c_.slot < 16 then ((change_ValidCell c_.before).bind fun (x4 : Bool) => (if x4 = true then ((change_ValidCell c_.after).bind fun (x5 : Bool) => some x5) else some false)) else some false) else some false) else some false))
theorem change_Valid_ok {h : Heap} {c_ : Change}   {r : Bool} (hm : change_Valid c_ = some r) : FnOK Try.prog 205 [.o (.agg [I (c_.page), I (c_.slot), Bo (c_.before.set_), .v (.string c_.before.data), Bo (c_.after.set_), .v (.string c_.after.data)])] h (fun v h' => v = VB (r) ∧ h' = h) := by
 refine FnOK.fin ?_
 refine FnOK.bodyC (N := 26) Try.func205 rfl rfl rfl (fun hC => ?_)
 replace hm := Ev.of hm
 rw [change_Valid.eq_1] at hm
 show CdOK _ _ _ (look _ [(0, .o (.agg [I (c_.page), I (c_.slot), Bo (c_.before.set_), .v (.string c_.before.data), Bo (c_.after.set_), .v (.string c_.after.data)]))]) (h ++ ([] : Heap)) _
 refine .seq (.region (.t (.o (.c (.ptr (h.length + 0) 0))) (e_boxN (L' := [⟨[I (c_.page), I (c_.slot), Bo (c_.before.set_), .v (.string c_.before.data), Bo (c_.after.set_), .v (.string c_.after.data)], true, true⟩]) rfl (ev_t rfl) rfl rfl) ?_))
 refine .t (VB (false)) (e_as rfl) ?_
 refine .nil (CdOK.seq (.region (.t _ (e_fa' fa57_0 (ev_t rfl)) ?_)))
 refine .t _ (e_ldb1 (ev_t rfl) ty3 (bx rfl rfl) rfl) ?_
 obtain ⟨x1, e1, hm⟩ := hm.call
 cases x1 with
 | true =>
  replace hm := hm.ifp rfl
  refine .cl rfl rfl rfl rfl pl214 (R2.wk _) (change_paged_ok    e1) ?_
  rintro _ _ ⟨rfl, rfl⟩
  refine .m rfl ?_
  refine .t _ (e_fa' fa57_1 (ev_t rfl)) ?_
  refine .t _ (e_ldb1 (ev_t rfl) ty3 (bx rfl rfl) rfl) ?_
  refine .sd rfl rfl rfl (e_bin (ev_t rfl) rfl rfl rfl) ?_ ?_
  ·intro c2; replace hm := hm.ifp c2
   refine .t (VB (true)) (e_pick (t := true) (ev_t rfl) (ev_t rfl)) ?_
   refine .m rfl ?_
   refine .t _ (e_fa' fa57_1 (ev_t rfl)) ?_
   refine .t _ (e_ldb1 (ev_t rfl) ty3 (bx rfl rfl) rfl) ?_
   refine .sd rfl rfl rfl (e_bin (ev_t rfl) rfl rfl rfl) ?_ ?_
   ·intro c3; replace hm := hm.ifp c3
    refine .t (VB (true)) (e_pick (t := true) (ev_t rfl) (ev_t rfl)) ?_
    refine .m rfl ?_
    refine .t _ (e_fa' fa57_2 (ev_t rfl)) ?_
    refine .t _ (e_ldbA (ev_t rfl) ty55 (bx rfl rfl) rfl rfl) ?_
    obtain ⟨x4, e4, hm⟩ := hm.call
    cases x4 with
    | true =>
     replace hm := hm.ifp rfl
     refine .cl rfl rfl rfl rfl pl215 (R2.wk _) (change_ValidCell_ok    e4) ?_
     rintro _ _ ⟨rfl, rfl⟩
     refine .t (VB (true)) (e_pick (t := true) (ev_t rfl) (ev_t rfl)) ?_
     refine .m rfl ?_
     refine .t _ (e_fa' fa57_3 (ev_t rfl)) ?_
     refine .t _ (e_ldbA (ev_t rfl) ty55 (bx rfl rfl) rfl rfl) ?_
     obtain ⟨x5, e5, hm⟩ := hm.call
     refine .cl rfl rfl rfl rfl pl215 (R2.wk _) (change_ValidCell_ok    e5) ?_
     rintro _ _ ⟨rfl, rfl⟩
     refine .t (VB (x5)) (e_pick (t := true) (ev_t rfl) (ev_t rfl)) ?_
     refine .a rfl ?_
     refine .nil ?_
     refine CdOK.ret ?_
     refine ⟨.inr rfl, _, rfl, h, _, _, rfl, rfl, hC, ((renFlV rfl) : RenV _ _ _ _ (VB (x5))), ?_⟩
     cases hm.ret; exact ⟨rfl, rfl⟩
    | false =>
     replace hm := hm.ifn Bool.false_ne_true
     refine .cl rfl rfl rfl rfl pl215 (R2.wk _) (change_ValidCell_ok    e4) ?_
     rintro _ _ ⟨rfl, rfl⟩
     refine .t (VB (false)) (e_pick (t := true) (ev_t rfl) (ev_t rfl)) ?_
     refine .m rfl ?_
     iterate 3 refine .k ?_
     refine .t (VB (false)) (e_pick (t := false) (ev_t rfl) rfl) ?_
     refine .a rfl ?_
     refine .nil ?_
     refine CdOK.ret ?_
     refine ⟨.inr rfl, _, rfl, h, _, _, rfl, rfl, hC, ((renFlV rfl) : RenV _ _ _ _ (VB (false))), ?_⟩
     cases hm.ret; exact ⟨rfl, rfl⟩
   intro c6; replace hm := hm.ifn c6
   refine .t (VB (false)) (e_pick (t := true) (ev_t rfl) (ev_t rfl)) ?_
   refine .m rfl ?_
   iterate 3 refine .k ?_
   refine .t (VB (false)) (e_pick (t := false) (ev_t rfl) rfl) ?_
   refine .m rfl ?_
   iterate 3 refine .k ?_
   refine .t (VB (false)) (e_pick (t := false) (ev_t rfl) rfl) ?_
   refine .a rfl ?_
   refine .nil ?_
   refine CdOK.ret ?_
   refine ⟨.inr rfl, _, rfl, h, _, _, rfl, rfl, hC, ((renFlV rfl) : RenV _ _ _ _ (VB (false))), ?_⟩
   cases hm.ret; exact ⟨rfl, rfl⟩
  intro c7; replace hm := hm.ifn c7
  refine .t (VB (false)) (e_pick (t := true) (ev_t rfl) (ev_t rfl)) ?_
  refine .m rfl ?_
  iterate 3 refine .k ?_
  refine .t (VB (false)) (e_pick (t := false) (ev_t rfl) rfl) ?_
  refine .m rfl ?_
  iterate 3 refine .k ?_
  refine .t (VB (false)) (e_pick (t := false) (ev_t rfl) rfl) ?_
  refine .m rfl ?_
  iterate 3 refine .k ?_
  refine .t (VB (false)) (e_pick (t := false) (ev_t rfl) rfl) ?_
  refine .a rfl ?_
  refine .nil ?_
  refine CdOK.ret ?_
  refine ⟨.inr rfl, _, rfl, h, _, _, rfl, rfl, hC, ((renFlV rfl) : RenV _ _ _ _ (VB (false))), ?_⟩
  cases hm.ret; exact ⟨rfl, rfl⟩
 | false =>
  replace hm := hm.ifn Bool.false_ne_true
  refine .cl rfl rfl rfl rfl pl214 (R2.wk _) (change_paged_ok    e1) ?_
  rintro _ _ ⟨rfl, rfl⟩
  refine .m rfl ?_
  iterate 3 refine .k ?_
  refine .t (VB (false)) (e_pick (t := false) (ev_t rfl) rfl) ?_
  refine .m rfl ?_
  iterate 3 refine .k ?_
  refine .t (VB (false)) (e_pick (t := false) (ev_t rfl) rfl) ?_
  refine .m rfl ?_
  iterate 3 refine .k ?_
  refine .t (VB (false)) (e_pick (t := false) (ev_t rfl) rfl) ?_
  refine .m rfl ?_
  iterate 3 refine .k ?_
  refine .t (VB (false)) (e_pick (t := false) (ev_t rfl) rfl) ?_
  refine .a rfl ?_
  refine .nil ?_
  refine CdOK.ret ?_
  refine ⟨.inr rfl, _, rfl, h, _, _, rfl, rfl, hC, ((renFlV rfl) : RenV _ _ _ _ (VB (false))), ?_⟩
  cases hm.ret; exact ⟨rfl, rfl⟩
def entry_Valid (e_ : AEntry) : Option Bool := (if e_.lsn < 1 then some false else (if 1099511627776 < e_.lsn then some false else (if e_.kind_ < 1 then some false else (if 8 < e_.kind_ then some false else ((entry_before e_.prevTx e_).bind fun (x9 : Bool) => (if x9 = true then ((entry_before e_.prevPage e_).bind fun (x10 : Bool) => (if x10 = true then ((entry_before e_.ref e_).bind fun (x11 : Bool) => (if (!x11) = true then some false else (if e_.kind_ = 1 then (((((if e_.tx < 1 then some true else (if 1073741824 < e_.tx then some (decide (1073741824 < e_.tx)) else some false))).bind fun (s20 : Bool) => (if s20 = true then some (Sum.inr false) else (if e_.ref ≠ 0 then (if e_.ref ≠ 0 then some (Sum.inr false) else some (Sum.inl ())) else (if (!((e_.blob).toList == (({ data := #[] } : ByteArray)).toList)) = true then some (Sum.inr false) else some (Sum.inl ())))))).bind fun (z : Sum Unit Bool) => match z with | .inl (s29 : Unit) => (if (e_.blob.size : Int) ≤ 8192 then ((entry_rules1 e_).bind fun (x31 : Bool) => (if x31 = true then ((change_Valid e_.change).bind fun (x32 : Bool) => some x32) else some false)) else some false) | .inr r => some r) else (if e_.kind_ = 2 then (((((if e_.tx < 1 then some true else (if 1073741824 < e_.tx then some (decide (1073741824 < e_.tx)) else some (decide (e_.prevTx = 0))))).bind fun (s40 : Bool) => (if s40 = true then some (Sum.inr false) else (if (!((e_.blob).toList == (({ data := #[] } : ByteArray)).toList)) = true then some (Sum.inr false) else some (Sum.inl ()))))).bind fun (z : Sum Unit Bool) => match z with | .inl (s45 : Unit) => (if (e_.blob.size : Int) ≤ 8192 then ((entry_rules2 e_).bind fun (x47 : Bool) => (if x47 = true then ((change_Valid e_.change).bind fun (x48 : Bool) => some x48) else some false)) else some false) | .inr r => some r) else (if e_.kind_ = 3 then (((((if e_.tx < 1 then some true else (if 1073741824 < e_.tx then some (decide (1073741824 < e_.tx)) else some (decide (e_.prevTx = 0))))).bind fun (s56 : Bool) => (if s56 = true then some (Sum.inr false) else (if e_.prevPage ≠ 0 then (if e_.prevPage ≠ 0 then some (Sum.inr false) else some (Sum.inl ())) else (if e_.ref ≠ 0 then (if e_.ref ≠ 0 then some (Sum.inr false) else some (Sum.inl ())) else (if (!((e_.blob).toList == (({ data := #[] } : ByteArray)).toList)) = true then some (Sum.inr false) else some (Sum.inl ()))))))).bind fun (z : Sum Unit Bool) => match z with | .inl (s69 : Unit) => (if (e_.blob.size : Int) ≤ 8192 then ((entry_rules1 e_).bind fun (x71 : Bool) => (if x71 = true then ((entry_none e_.change).bind fun (x72 : Bool) => some x72) else some false)) else some false) | .inr r => some r) else (if e_.kind_ = 4 then (((((if e_.tx < 1 then some true else (if 1073741824 < e_.tx then some (decide (1073741824 < e_.tx)) else some (decide (e_.prevTx = 0))))).bind fun (s80 : Bool) => (if s80 = true then some (Sum.inr false) else (if e_.prevPage ≠ 0 then (if e_.prevPage ≠ 0 then some (Sum.inr false) else some (Sum.inl ())) else (if e_.ref ≠ 0 then (if e_.ref ≠ 0 then some (Sum.inr false) else some (Sum.inl ())) else (if (!((e_.blob).toList == (({ data := #[] } : ByteArray)).toList)) = true then some (Sum.inr false) else some (Sum.inl ()))))))).bind fun (z : Sum Unit Bool) => match z with | .inl (s93 : Unit) => (if (e_.blob.size : Int) ≤ 8192 then ((entry_rules1 e_).bind fun (x95 : Bool) => (if x95 = true then ((entry_none e_.change).bind fun (x96 : Bool) => some x96) else some false)) else some false) | .inr r => some r) else (if e_.kind_ = 5 then (((((if e_.tx < 1 then some true else (if 1073741824 < e_.tx then some (decide (1073741824 < e_.tx)) else some (decide (e_.prevTx = 0))))).bind fun (s104 : Bool) => (if s104 = true then some (Sum.inr false) else (if e_.prevPage ≠ 0 then (if e_.prevPage ≠ 0 then some (Sum.inr false) else some (Sum.inl ())) else (if e_.ref ≠ 0 then (if e_.ref ≠ 0 then some (Sum.inr false) else some (Sum.inl ())) else (if (!((e_.blob).toList == (({ data := #[] } : ByteArray)).toList)) = true then some (Sum.inr false) else some (Sum.inl ()))))))).bind fun (z : Sum Unit Bool) => match z with | .inl (s117 : Unit) => (if (e_.blob.size : Int) ≤ 8192 then ((entry_rules1 e_).bind fun (x119 : Bool) => (if x119 = true then ((entry_none e_.change).bind fun (x120 : Bool) => some x120) else some false)) else some false) | .inr r => some r) else (if e_.kind_ = 6 then ((((some false).bind fun (s124 : Bool) => (if s124 = true then some (Sum.inr false) else (if e_.tx ≠ 0 then some (Sum.inr false) else (if e_.prevTx ≠ 0 then (if e_.prevTx ≠ 0 then some (Sum.inr false) else some (Sum.inl ())) else (if e_.prevPage ≠ 0 then (if e_.prevPage ≠ 0 then some (Sum.inr false) else some (Sum.inl ())) else (if e_.ref ≠ 0 then (if e_.ref ≠ 0 then some (Sum.inr false) else some (Sum.inl ())) else some (Sum.inl ())))))))).bind fun (z : Sum Unit Bool) => match z with | .inl (s141 : Unit) => (if (e_.blob.size : Int) ≤ 8192 then ((entry_rules1 e_).bind fun (x143 : Bool) => (if x143 = true then ((entry_none e_.change).bind fun (x144 : Bool) => some x144) else some false)) else some false) | .inr r => some r) else (if e_.kind_ = 7 then ((((some false).bind fun (s148 : Bool) => (if s148 = true then some (Sum.inr false) else (if e_.tx ≠ 0 then some (Sum.inr false) else (if e_.prevTx ≠ 0 then (if e_.prevTx ≠ 0 then some (Sum.inr false) else some (Sum.inl ())) else (if e_.prevPage ≠ 0 then (if e_.prevPage ≠ 0 then some (Sum.inr false) else some (Sum.inl ())) else (if (!((e_.blob).toList == (({ data := #[] } : ByteArray)).toList)) = true then some (Sum.inr false) else some (Sum.inl ())))))))).bind fun (z : Sum Unit Bool) => match z with | .inl (s163 : Unit) => (if (e_.blob.size : Int) ≤ 8192 then ((entry_rules1 e_).bind fun (x165 : Bool) => (if x165 = true then ((entry_rules3 e_.change).bind fun (x166 : Bool) => some x166) else some false)) else some false) | .inr r => some r) else (if e_.kind_ = 8 then ((((some false).bind fun (s170 : Bool) => (if s170 = true then some (Sum.inr false) else (if e_.tx ≠ 0 then some (Sum.inr false) else (if e_.prevTx ≠ 0 then (if e_.prevTx ≠ 0 then some (Sum.inr false) else some (Sum.inl ())) else (if e_.prevPage ≠ 0 then (if e_.prevPage ≠ 0 then some (Sum.inr false) else some (Sum.inl ())) else (if e_.ref ≠ 0 then (if e_.ref ≠ 0 then some (Sum.inr false) else some (Sum.inl ())) else some (Sum.inl ())))))))).bind fun (z : Sum Unit Bool) => match z with | .inl (s187 : Unit) => (if (e_.blob.size : Int) ≤ 8192 then ((entry_rules1 e_).bind fun (x189 : Bool) => (if x189 = true then ((entry_none e_.change).bind fun (x190 : Bool) => some x190) else some false)) else some false) | .inr r => some r) else none)))))))))) else some false)) else some false))))))
theorem entry_Valid_ok {h : Heap} {e_ : AEntry}   {r : Bool} (hm : entry_Valid e_ = some r) : FnOK Try.prog 135 [.o (.agg [I (e_.lsn), I (e_.kind_), I (e_.tx), I (e_.prevTx), I (e_.prevPage), I (e_.ref), I (e_.change.page), I (e_.change.slot), Bo (e_.change.before.set_), .v (.string e_.change.before.data), Bo (e_.change.after.set_), .v (.string e_.change.after.data), .v (.string e_.blob)])] h (fun v h' => v = VB (r) ∧ h' = h) := by
 refine FnOK.fin ?_
 refine FnOK.bodyC (N := 122) Try.func135 rfl rfl rfl (fun hC => ?_)
 replace hm := Ev.of hm
 rw [entry_Valid.eq_1] at hm
 show CdOK _ _ _ (look _ [(0, .o (.agg [I (e_.lsn), I (e_.kind_), I (e_.tx), I (e_.prevTx), I (e_.prevPage), I (e_.ref), I (e_.change.page), I (e_.change.slot), Bo (e_.change.before.set_), .v (.string e_.change.before.data), Bo (e_.change.after.set_), .v (.string e_.change.after.data), .v (.string e_.blob)]))]) (h ++ ([] : Heap)) _
 refine .seq (.region (.t (.o (.c (.ptr (h.length + 0) 0))) (e_boxN (L' := [⟨[I (e_.lsn), I (e_.kind_), I (e_.tx), I (e_.prevTx), I (e_.prevPage), I (e_.ref), I (e_.change.page), I (e_.change.slot), Bo (e_.change.before.set_), .v (.string e_.change.before.data), Bo (e_.change.after.set_), .v (.string e_.change.after.data), .v (.string e_.blob)], true, true⟩]) rfl (ev_t rfl) rfl rfl) ?_))
 refine .t (VB (false)) (e_as rfl) ?_
 refine .nil (CdOK.seq (.seq (.region (.t _ (e_fa' fa59_0 (ev_t rfl)) ?_))))
 refine .t _ (e_ldb1 (ev_t rfl) ty3 (bx rfl rfl) rfl) ?_
 refine .sd rfl rfl rfl (e_bin (ev_t rfl) rfl rfl rfl) ?_ ?_
 ·intro c1; replace hm := hm.ifp c1
  refine .m rfl ?_
  iterate 3 refine .k ?_
  refine .t (VB (true)) (e_pick (t := true) (ev_t rfl) rfl) ?_
  refine .m rfl ?_
  iterate 3 refine .k ?_
  refine .t (VB (true)) (e_pick (t := true) (ev_t rfl) rfl) ?_
  refine .m rfl ?_
  iterate 3 refine .k ?_
  refine .t (VB (true)) (e_pick (t := true) (ev_t rfl) rfl) ?_
  refine .m rfl ?_
  iterate 5 refine .k ?_
  refine .t (VB (true)) (e_pick (t := true) (ev_t rfl) rfl) ?_
  refine .m rfl ?_
  iterate 5 refine .k ?_
  refine .t (VB (true)) (e_pick (t := true) (ev_t rfl) rfl) ?_
  refine .m rfl ?_
  iterate 5 refine .k ?_
  refine .t (VB (true)) (e_pick (t := true) (ev_t rfl) rfl) ?_
  refine .nil ?_
  refine CdOK.cond_true rfl ?_
  refine .seq (.region (.t (VB (false)) (e_as rfl) ?_))
  refine .nil ?_
  refine CdOK.ret ?_
  refine ⟨.inr rfl, _, rfl, h, _, _, rfl, rfl, hC, ((renFlV rfl) : RenV _ _ _ _ (VB (false))), ?_⟩
  cases hm.ret; exact ⟨rfl, rfl⟩
 intro c2; replace hm := hm.ifn c2
 refine .m rfl ?_
 refine .t _ (e_fa' fa59_0 (ev_t rfl)) ?_
 refine .t _ (e_ldb1 (ev_t rfl) ty3 (bx rfl rfl) rfl) ?_
 refine .sd rfl rfl rfl (e_bin (ev_t rfl) rfl rfl rfl) ?_ ?_
 ·intro c3; replace hm := hm.ifp c3
  refine .t (VB (true)) (e_pick (t := false) (ev_t rfl) (ev_t rfl)) ?_
  refine .m rfl ?_
  iterate 3 refine .k ?_
  refine .t (VB (true)) (e_pick (t := true) (ev_t rfl) rfl) ?_
  refine .m rfl ?_
  iterate 3 refine .k ?_
  refine .t (VB (true)) (e_pick (t := true) (ev_t rfl) rfl) ?_
  refine .m rfl ?_
  iterate 5 refine .k ?_
  refine .t (VB (true)) (e_pick (t := true) (ev_t rfl) rfl) ?_
  refine .m rfl ?_
  iterate 5 refine .k ?_
  refine .t (VB (true)) (e_pick (t := true) (ev_t rfl) rfl) ?_
  refine .m rfl ?_
  iterate 5 refine .k ?_
  refine .t (VB (true)) (e_pick (t := true) (ev_t rfl) rfl) ?_
  refine .nil ?_
  refine CdOK.cond_true rfl ?_
  refine .seq (.region (.t (VB (false)) (e_as rfl) ?_))
  refine .nil ?_
  refine CdOK.ret ?_
  refine ⟨.inr rfl, _, rfl, h, _, _, rfl, rfl, hC, ((renFlV rfl) : RenV _ _ _ _ (VB (false))), ?_⟩
  cases hm.ret; exact ⟨rfl, rfl⟩
 intro c4; replace hm := hm.ifn c4
 refine .t (VB (false)) (e_pick (t := false) (ev_t rfl) (ev_t rfl)) ?_
 refine .m rfl ?_
 refine .t _ (e_fa' fa59_1 (ev_t rfl)) ?_
 refine .t _ (e_ldb1 (ev_t rfl) ty3 (bx rfl rfl) rfl) ?_
 refine .sd rfl rfl rfl (e_bin (ev_t rfl) rfl rfl rfl) ?_ ?_
 ·intro c5; replace hm := hm.ifp c5
  refine .t (VB (true)) (e_pick (t := false) (ev_t rfl) (ev_t rfl)) ?_
  refine .m rfl ?_
  iterate 3 refine .k ?_
  refine .t (VB (true)) (e_pick (t := true) (ev_t rfl) rfl) ?_
  refine .m rfl ?_
  iterate 5 refine .k ?_
  refine .t (VB (true)) (e_pick (t := true) (ev_t rfl) rfl) ?_
  refine .m rfl ?_
  iterate 5 refine .k ?_
  refine .t (VB (true)) (e_pick (t := true) (ev_t rfl) rfl) ?_
  refine .m rfl ?_
  iterate 5 refine .k ?_
  refine .t (VB (true)) (e_pick (t := true) (ev_t rfl) rfl) ?_
  refine .nil ?_
  refine CdOK.cond_true rfl ?_
  refine .seq (.region (.t (VB (false)) (e_as rfl) ?_))
  refine .nil ?_
  refine CdOK.ret ?_
  refine ⟨.inr rfl, _, rfl, h, _, _, rfl, rfl, hC, ((renFlV rfl) : RenV _ _ _ _ (VB (false))), ?_⟩
  cases hm.ret; exact ⟨rfl, rfl⟩
 intro c6; replace hm := hm.ifn c6
 refine .t (VB (false)) (e_pick (t := false) (ev_t rfl) (ev_t rfl)) ?_
 refine .m rfl ?_
 refine .t _ (e_fa' fa59_1 (ev_t rfl)) ?_
 refine .t _ (e_ldb1 (ev_t rfl) ty3 (bx rfl rfl) rfl) ?_
 refine .sd rfl rfl rfl (e_bin (ev_t rfl) rfl rfl rfl) ?_ ?_
 ·intro c7; replace hm := hm.ifp c7
  refine .t (VB (true)) (e_pick (t := false) (ev_t rfl) (ev_t rfl)) ?_
  refine .m rfl ?_
  iterate 5 refine .k ?_
  refine .t (VB (true)) (e_pick (t := true) (ev_t rfl) rfl) ?_
  refine .m rfl ?_
  iterate 5 refine .k ?_
  refine .t (VB (true)) (e_pick (t := true) (ev_t rfl) rfl) ?_
  refine .m rfl ?_
  iterate 5 refine .k ?_
  refine .t (VB (true)) (e_pick (t := true) (ev_t rfl) rfl) ?_
  refine .nil ?_
  refine CdOK.cond_true rfl ?_
  refine .seq (.region (.t (VB (false)) (e_as rfl) ?_))
  refine .nil ?_
  refine CdOK.ret ?_
  refine ⟨.inr rfl, _, rfl, h, _, _, rfl, rfl, hC, ((renFlV rfl) : RenV _ _ _ _ (VB (false))), ?_⟩
  cases hm.ret; exact ⟨rfl, rfl⟩
 intro c8; replace hm := hm.ifn c8
 refine .t (VB (false)) (e_pick (t := false) (ev_t rfl) (ev_t rfl)) ?_
 refine .m rfl ?_
 refine .t _ (e_fa' fa59_3 (ev_t rfl)) ?_
 refine .t _ (e_ldb1 (ev_t rfl) ty3 (bx rfl rfl) rfl) ?_
 refine .t _ (e_ldbA (ev_t rfl) ty59 (bx rfl rfl) rfl rfl) ?_
 obtain ⟨x9, e9, hm⟩ := hm.call
 cases x9 with
 | true =>
  replace hm := hm.ifp rfl
  refine .cl rfl rfl rfl rfl pl187 (R2.wk _) (entry_before_ok    e9) ?_
  rintro _ _ ⟨rfl, rfl⟩
  refine .t (VB (false)) (e_un (ev_t rfl) rfl) ?_
  refine .t (VB (false)) (e_pick (t := false) (ev_t rfl) (ev_t rfl)) ?_
  refine .m rfl ?_
  refine .t _ (e_fa' fa59_4 (ev_t rfl)) ?_
  refine .t _ (e_ldb1 (ev_t rfl) ty3 (bx rfl rfl) rfl) ?_
  refine .t _ (e_ldbA (ev_t rfl) ty59 (bx rfl rfl) rfl rfl) ?_
  obtain ⟨x10, e10, hm⟩ := hm.call
  cases x10 with
  | true =>
   replace hm := hm.ifp rfl
   refine .cl rfl rfl rfl rfl pl187 (R2.wk _) (entry_before_ok    e10) ?_
   rintro _ _ ⟨rfl, rfl⟩
   refine .t (VB (false)) (e_un (ev_t rfl) rfl) ?_
   refine .t (VB (false)) (e_pick (t := false) (ev_t rfl) (ev_t rfl)) ?_
   refine .m rfl ?_
   refine .t _ (e_fa' fa59_5 (ev_t rfl)) ?_
   refine .t _ (e_ldb1 (ev_t rfl) ty3 (bx rfl rfl) rfl) ?_
   refine .t _ (e_ldbA (ev_t rfl) ty59 (bx rfl rfl) rfl rfl) ?_
   obtain ⟨x11, e11, hm⟩ := hm.call
   refine .cl rfl rfl rfl rfl pl187 (R2.wk _) (entry_before_ok    e11) ?_
   rintro _ _ ⟨rfl, rfl⟩
   refine .t (VB ((!x11))) (e_un (ev_t rfl) rfl) ?_
   refine .t (VB ((!x11))) (e_pick (t := false) (ev_t rfl) (ev_t rfl)) ?_
   refine .nil ?_
   refine CdOK.condB (ev_t rfl) ?_ ?_
   ·intro c12; replace hm := hm.ifp c12
    refine .seq (.region (.t (VB (false)) (e_as rfl) ?_))
    refine .nil ?_
    refine CdOK.ret ?_
    refine ⟨.inr rfl, _, rfl, h, _, _, rfl, rfl, hC, ((renFlV rfl) : RenV _ _ _ _ (VB (false))), ?_⟩
    cases hm.ret; exact ⟨rfl, rfl⟩
   intro c13; replace hm := hm.ifn c13
   refine .skip ?_
   refine CdOK.seq ?_
   refine .draw2 (ord := [0, 1, 2, 3, 4, 5]) (chain := [4, 5]) fol (by decide +kernel) (by decide +kernel) ?_
   refine .fc (v := entry_rules_v) rfl rfl rfl rfl rfl rfl rfl pl188 (R2.wk _) (entry_rules_ok rfl) ?_
   refine .p _ (e_fa' fa59_1 (ev_t rfl)) ?_
   refine .q _ (e_ldb1 (ev_t rfl) ty3 (bx rfl rfl) rfl) ?_
   by_cases c14 : e_.kind_ = 1
   ·replace hm := hm.ifp c14
    refine .p (.o (.agg [Bo true, Bo false, Bo true, Bo false, Bo false, .fn 203 [], .fn 205 []])) (e_ixK (n := 1) (ev_t rfl) (ev_t rfl) c14 (by kernel_rfl)) ?_
    refine .c (v := .o (.c (.ptr (h.length + 1) 0))) rfl rfl rfl rfl rfl (e_allocN (L' := [⟨[I (e_.lsn), I (e_.kind_), I (e_.tx), I (e_.prevTx), I (e_.prevPage), I (e_.ref), I (e_.change.page), I (e_.change.slot), Bo (e_.change.before.set_), .v (.string e_.change.before.data), Bo (e_.change.after.set_), .v (.string e_.change.after.data), .v (.string e_.blob)], true, true⟩, ⟨[Bo false, Bo false, Bo false, Bo false, Bo false, .v .nilFunc, .v .nilFunc], true, true⟩]) rfl zo208 rfl rfl) (.e rfl rfl (e_ldb1 (ev_t rfl) ty3 (bx rfl rfl) rfl) (.c rfl rfl rfl pl188 (R2.wk _) (entry_rules_ok rfl) .nil)) ?_
    refine .c0 rfl rfl rfl rfl (e_stN (L' := [⟨[I (e_.lsn), I (e_.kind_), I (e_.tx), I (e_.prevTx), I (e_.prevPage), I (e_.ref), I (e_.change.page), I (e_.change.slot), Bo (e_.change.before.set_), .v (.string e_.change.before.data), Bo (e_.change.after.set_), .v (.string e_.change.after.data), .v (.string e_.blob)], true, true⟩, ⟨[Bo true, Bo false, Bo true, Bo false, Bo false, .fn 203 [], .fn 205 []], true, true⟩]) rfl (ev_t rfl) (ev_t rfl) ty208 rfl rfl rfl rfl rfl) (.m (by decide +kernel) (.m (by decide +kernel) .nil)) ?_
    refine .nil ?_
    replace hm := hm.bnd
    refine CdOK.joinE (σ := Unit) (fun s => Sum.inl ()) hm (fun s => [(1, .o (.c (.ptr (h.length + 0) 0))), (3, .o (.c (.ptr (h.length + 1) 0)))]) (fun s => h ++ ([⟨[I (e_.lsn), I (e_.kind_), I (e_.tx), I (e_.prevTx), I (e_.prevPage), I (e_.ref), I (e_.change.page), I (e_.change.slot), Bo (e_.change.before.set_), .v (.string e_.change.before.data), Bo (e_.change.after.set_), .v (.string e_.change.after.data), .v (.string e_.blob)], true, true⟩, ⟨[Bo true, Bo false, Bo true, Bo false, Bo false, .fn 203 [], .fn 205 []], true, true⟩] : Heap)) ?_ ?_
    ·intro hm
     refine .block ?_
     replace hm := hm.bnd
     refine .joinE (σ := Bool) (fun s => s) hm (fun s => [(1, .o (.c (.ptr (h.length + 0) 0))), (3, .o (.c (.ptr (h.length + 1) 0))), (47, VB (s))]) (fun s => h ++ ([⟨[I (e_.lsn), I (e_.kind_), I (e_.tx), I (e_.prevTx), I (e_.prevPage), I (e_.ref), I (e_.change.page), I (e_.change.slot), Bo (e_.change.before.set_), .v (.string e_.change.before.data), Bo (e_.change.after.set_), .v (.string e_.change.after.data), .v (.string e_.blob)], true, true⟩, ⟨[Bo true, Bo false, Bo true, Bo false, Bo false, .fn 203 [], .fn 205 []], true, true⟩] : Heap)) ?_ ?_
     ·intro hm
      refine .seq (.region (.t _ (e_fa' fa208_0 (ev_t rfl)) ?_))
      refine .t _ (e_ldb1 (ev_t rfl) ty4 (bx rfl rfl) rfl) ?_
      refine .m rfl ?_
      refine .t _ (e_fa' fa59_2 (ev_t rfl)) ?_
      refine .t _ (e_ldb1 (ev_t rfl) ty3 (bx rfl rfl) rfl) ?_
      refine .sd rfl rfl rfl (e_bin (ev_t rfl) rfl rfl rfl) ?_ ?_
      ·intro c16; replace hm := hm.ifp c16
       refine .m rfl ?_
       iterate 3 refine .k ?_
       refine .t (VB (true)) (e_pick (t := true) (ev_t rfl) rfl) ?_
       refine .t (VB (true)) (e_pick (t := true) (ev_t rfl) (ev_t rfl)) ?_
       refine .a rfl ?_
       refine .nil ?_
       refine CdOK.cond_true rfl ?_
       refine .skip ?_
       refine .id ?_
       exact ⟨true, hm.ret, (.cons rfl (.cons rfl (.cons rfl .nil))), rfl⟩
      intro c17; replace hm := hm.ifn c17
      refine .m rfl ?_
      refine .t _ (e_fa' fa59_2 (ev_t rfl)) ?_
      refine .t _ (e_ldb1 (ev_t rfl) ty3 (bx rfl rfl) rfl) ?_
      refine .t (VB (decide (1073741824 < e_.tx))) (e_bin (ev_t rfl) rfl rfl rfl) ?_
      refine .t (VB (decide (1073741824 < e_.tx))) (e_pick (t := false) (ev_t rfl) (ev_t rfl)) ?_
      refine .t (VB (decide (1073741824 < e_.tx))) (e_pick (t := true) (ev_t rfl) (ev_t rfl)) ?_
      refine .a rfl ?_
      refine .nil ?_
      refine CdOK.condD (ev_t rfl) ?_ ?_
      ·intro c18; replace hm := hm.ifp c18
       refine .skip ?_
       refine .id ?_
       exact ⟨(decide (1073741824 < e_.tx)), hm.ret, (.cons rfl (.cons rfl (.cons rfl .nil))), rfl⟩
      intro c19; replace hm := hm.ifn c19
      refine .region (.t _ (e_fa' fa208_1 (ev_t rfl)) ?_)
      refine .t _ (e_ldb1 (ev_t rfl) ty4 (bx rfl rfl) rfl) ?_
      refine .m rfl ?_
      iterate 3 refine .k ?_
      refine .t (VB (false)) (e_pick (t := false) (ev_t rfl) rfl) ?_
      refine .a rfl ?_
      refine .nil (.id ?_)
      exact ⟨false, hm.ret, (.cons rfl (.cons rfl (.cons rfl .nil))), rfl⟩
     rintro t4715 T0 hm
     show CdOK _ _ _ (look T0 [(1, .o (.c (.ptr (h.length + 0) 0))), (3, .o (.c (.ptr (h.length + 1) 0))), (47, VB (t4715))]) (h ++ ([⟨[I (e_.lsn), I (e_.kind_), I (e_.tx), I (e_.prevTx), I (e_.prevPage), I (e_.ref), I (e_.change.page), I (e_.change.slot), Bo (e_.change.before.set_), .v (.string e_.change.before.data), Bo (e_.change.after.set_), .v (.string e_.change.after.data), .v (.string e_.blob)], true, true⟩, ⟨[Bo true, Bo false, Bo true, Bo false, Bo false, .fn 203 [], .fn 205 []], true, true⟩] : Heap)) _
     refine .condB (ev_t rfl) ?_ ?_
     ·intro c21; replace hm := hm.ifp c21
      refine .seq (.region (.t (VB (false)) (e_as rfl) ?_))
      refine .nil ?_
      refine CdOK.ret ?_
      refine ⟨.inr rfl, _, rfl, h, _, _, rfl, rfl, hC, ((renFlV rfl) : RenV _ _ _ _ (VB (false))), ?_⟩
      have hr := hm.ret; replace hr := Ev.ret hr; cases hr; exact ⟨rfl, rfl⟩
     intro c22; replace hm := hm.ifn c22
     iterate 2 refine .seq ?_
     refine .region (.t _ (e_fa' fa208_0 (ev_t rfl)) ?_)
     refine .t _ (e_ldb1 (ev_t rfl) ty4 (bx rfl rfl) rfl) ?_
     refine .t (VB (false)) (e_un (ev_t rfl) rfl) ?_
     refine .m rfl ?_
     iterate 8 refine .k ?_
     refine .t (VB (false)) (e_pick (t := false) (ev_t rfl) rfl) ?_
     refine .a rfl ?_
     refine .nil ?_
     refine CdOK.cond_false rfl ?_
     refine .seq (.region (.t _ (e_fa' fa208_2 (ev_t rfl)) ?_))
     refine .t _ (e_ldb1 (ev_t rfl) ty4 (bx rfl rfl) rfl) ?_
     refine .t (VB (false)) (e_un (ev_t rfl) rfl) ?_
     refine .m rfl ?_
     iterate 3 refine .k ?_
     refine .t (VB (false)) (e_pick (t := false) (ev_t rfl) rfl) ?_
     refine .a rfl ?_
     refine .nil ?_
     refine CdOK.cond_false rfl ?_
     refine .seq (.region (.t _ (e_fa' fa208_3 (ev_t rfl)) ?_))
     refine .t _ (e_ldb1 (ev_t rfl) ty4 (bx rfl rfl) rfl) ?_
     refine .t (VB (true)) (e_un (ev_t rfl) rfl) ?_
     refine .m rfl ?_
     refine .t _ (e_fa' fa59_5 (ev_t rfl)) ?_
     refine .t _ (e_ldb1 (ev_t rfl) ty3 (bx rfl rfl) rfl) ?_
     refine .t (VB (decide (e_.ref ≠ 0))) (e_neK (ev_t rfl) rfl) ?_
     refine .t (VB (decide (e_.ref ≠ 0))) (e_pick (t := true) (ev_t rfl) (ev_t rfl)) ?_
     refine .a rfl ?_
     refine .nil ?_
     refine CdOK.condD (ev_t rfl) ?_ ?_
     ·intro c23; replace hm := hm.ifp c23
      refine .skip ?_
      refine CdOK.condD (ev_t rfl) ?_ ?_
      ·intro c24; replace hm := hm.ifp c24
       refine .seq (.region (.t (VB (false)) (e_as rfl) ?_))
       refine .nil ?_
       refine CdOK.ret ?_
       refine ⟨.inr rfl, _, rfl, h, _, _, rfl, rfl, hC, ((renFlV rfl) : RenV _ _ _ _ (VB (false))), ?_⟩
       have hr := hm.ret; replace hr := Ev.ret hr; cases hr; exact ⟨rfl, rfl⟩
      intro c25; replace hm := hm.ifn c25
      refine .skip ?_
      refine .id ?_
      exact ⟨(), hm.ret, (.cons rfl (.cons rfl .nil)), rfl⟩
     intro c26; replace hm := hm.ifn c26
     refine .region (.t _ (e_fa' fa208_4 (ev_t rfl)) ?_)
     refine .t _ (e_ldb1 (ev_t rfl) ty4 (bx rfl rfl) rfl) ?_
     refine .t (VB (true)) (e_un (ev_t rfl) rfl) ?_
     refine .m rfl ?_
     refine .t _ (e_fa' fa59_7 (ev_t rfl)) ?_
     refine .t _ (e_ldb1 (ev_t rfl) ty9 (bx rfl rfl) rfl) ?_
     refine .t (VB ((!((e_.blob).toList == (({ data := #[] } : ByteArray)).toList)))) (e_bin (ev_t rfl) rfl rfl rfl) ?_
     refine .t (VB ((!((e_.blob).toList == (({ data := #[] } : ByteArray)).toList)))) (e_pick (t := true) (ev_t rfl) (ev_t rfl)) ?_
     refine .a rfl ?_
     refine .nil ?_
     refine CdOK.condB (ev_t rfl) ?_ ?_
     ·intro c27; replace hm := hm.ifp c27
      refine .seq (.region (.t (VB (false)) (e_as rfl) ?_))
      refine .nil ?_
      refine CdOK.ret ?_
      refine ⟨.inr rfl, _, rfl, h, _, _, rfl, rfl, hC, ((renFlV rfl) : RenV _ _ _ _ (VB (false))), ?_⟩
      have hr := hm.ret; replace hr := Ev.ret hr; cases hr; exact ⟨rfl, rfl⟩
     intro c28; replace hm := hm.ifn c28
     refine .skip ?_
     refine .id ?_
     exact ⟨(), hm.ret, (.cons rfl (.cons rfl .nil)), rfl⟩
    intro _ T0 hm
    show CdOK _ _ _ (look T0 [(1, .o (.c (.ptr (h.length + 0) 0))), (3, .o (.c (.ptr (h.length + 1) 0)))]) (h ++ ([⟨[I (e_.lsn), I (e_.kind_), I (e_.tx), I (e_.prevTx), I (e_.prevPage), I (e_.ref), I (e_.change.page), I (e_.change.slot), Bo (e_.change.before.set_), .v (.string e_.change.before.data), Bo (e_.change.after.set_), .v (.string e_.change.after.data), .v (.string e_.blob)], true, true⟩, ⟨[Bo true, Bo false, Bo true, Bo false, Bo false, .fn 203 [], .fn 205 []], true, true⟩] : Heap)) _
    replace hm : Ev _ _ := hm
    refine .seq (.region (.t _ (e_fa' fa59_7 (ev_t rfl)) ?_))
    refine .t _ (e_ldb1 (ev_t rfl) ty9 (bx rfl rfl) rfl) ?_
    refine .t (VI ((e_.blob.size : Int))) (e_lenS' (ev_t rfl) str9) ?_
    refine .sd rfl rfl rfl (e_bin (ev_t rfl) rfl rfl rfl) ?_ ?_
    ·intro c30; replace hm := hm.ifp c30
     refine .m rfl ?_
     refine .t _ (e_fa' fa208_5 (ev_t rfl)) ?_
     refine .t _ (e_ldb1 (ev_t rfl) ty132 (bx rfl rfl) rfl) ?_
     refine .t _ (e_ldbA (ev_t rfl) ty59 (bx rfl rfl) rfl rfl) ?_
     obtain ⟨x31, e31, hm⟩ := hm.call
     cases x31 with
     | true =>
      replace hm := hm.ifp rfl
      refine .cl rfl rfl rfl rfl pl203 (R2.wk _) (entry_rules1_ok    e31) ?_
      rintro _ _ ⟨rfl, rfl⟩
      refine .t (VB (true)) (e_pick (t := true) (ev_t rfl) (ev_t rfl)) ?_
      refine .m rfl ?_
      refine .t _ (e_fa' fa208_6 (ev_t rfl)) ?_
      refine .t _ (e_ldb1 (ev_t rfl) ty206 (bx rfl rfl) rfl) ?_
      refine .t _ (e_fa' fa59_6 (ev_t rfl)) ?_
      refine .t _ (e_ldbA (ev_t rfl) ty57 (bx rfl rfl) rfl rfl) ?_
      obtain ⟨x32, e32, hm⟩ := hm.call
      refine .cl rfl rfl rfl rfl pl205 (R2.wk _) (change_Valid_ok    e32) ?_
      rintro _ _ ⟨rfl, rfl⟩
      refine .t (VB (x32)) (e_pick (t := true) (ev_t rfl) (ev_t rfl)) ?_
      refine .a rfl ?_
      refine .nil ?_
      refine CdOK.ret ?_
      refine ⟨.inr rfl, _, rfl, h, _, _, rfl, rfl, hC, ((renFlV rfl) : RenV _ _ _ _ (VB (x32))), ?_⟩
      cases hm.ret; exact ⟨rfl, rfl⟩
     | false =>
      replace hm := hm.ifn Bool.false_ne_true
      refine .cl rfl rfl rfl rfl pl203 (R2.wk _) (entry_rules1_ok    e31) ?_
      rintro _ _ ⟨rfl, rfl⟩
      refine .t (VB (false)) (e_pick (t := true) (ev_t rfl) (ev_t rfl)) ?_
      refine .m rfl ?_
      iterate 5 refine .k ?_
      refine .t (VB (false)) (e_pick (t := false) (ev_t rfl) rfl) ?_
      refine .a rfl ?_
      refine .nil ?_
      refine CdOK.ret ?_
      refine ⟨.inr rfl, _, rfl, h, _, _, rfl, rfl, hC, ((renFlV rfl) : RenV _ _ _ _ (VB (false))), ?_⟩
      cases hm.ret; exact ⟨rfl, rfl⟩
    intro c33; replace hm := hm.ifn c33
    refine .m rfl ?_
    iterate 4 refine .k ?_
    refine .t (VB (false)) (e_pick (t := false) (ev_t rfl) rfl) ?_
    refine .m rfl ?_
    iterate 5 refine .k ?_
    refine .t (VB (false)) (e_pick (t := false) (ev_t rfl) rfl) ?_
    refine .a rfl ?_
    refine .nil ?_
    refine CdOK.ret ?_
    refine ⟨.inr rfl, _, rfl, h, _, _, rfl, rfl, hC, ((renFlV rfl) : RenV _ _ _ _ (VB (false))), ?_⟩
    cases hm.ret; exact ⟨rfl, rfl⟩
   replace hm := hm.ifn c14
   by_cases c34 : e_.kind_ = 2
   ·replace hm := hm.ifp c34
    refine .p (.o (.agg [Bo true, Bo true, Bo true, Bo true, Bo false, .fn 206 [], .fn 205 []])) (e_ixK (n := 2) (ev_t rfl) (ev_t rfl) c34 (by kernel_rfl)) ?_
    refine .c (v := .o (.c (.ptr (h.length + 1) 0))) rfl rfl rfl rfl rfl (e_allocN (L' := [⟨[I (e_.lsn), I (e_.kind_), I (e_.tx), I (e_.prevTx), I (e_.prevPage), I (e_.ref), I (e_.change.page), I (e_.change.slot), Bo (e_.change.before.set_), .v (.string e_.change.before.data), Bo (e_.change.after.set_), .v (.string e_.change.after.data), .v (.string e_.blob)], true, true⟩, ⟨[Bo false, Bo false, Bo false, Bo false, Bo false, .v .nilFunc, .v .nilFunc], true, true⟩]) rfl zo208 rfl rfl) (.e rfl rfl (e_ldb1 (ev_t rfl) ty3 (bx rfl rfl) rfl) (.c rfl rfl rfl pl188 (R2.wk _) (entry_rules_ok rfl) .nil)) ?_
    refine .c0 rfl rfl rfl rfl (e_stN (L' := [⟨[I (e_.lsn), I (e_.kind_), I (e_.tx), I (e_.prevTx), I (e_.prevPage), I (e_.ref), I (e_.change.page), I (e_.change.slot), Bo (e_.change.before.set_), .v (.string e_.change.before.data), Bo (e_.change.after.set_), .v (.string e_.change.after.data), .v (.string e_.blob)], true, true⟩, ⟨[Bo true, Bo true, Bo true, Bo true, Bo false, .fn 206 [], .fn 205 []], true, true⟩]) rfl (ev_t rfl) (ev_t rfl) ty208 rfl rfl rfl rfl rfl) (.m (by decide +kernel) (.m (by decide +kernel) .nil)) ?_
    refine .nil ?_
    replace hm := hm.bnd
    refine CdOK.joinE (σ := Unit) (fun s => Sum.inl ()) hm (fun s => [(1, .o (.c (.ptr (h.length + 0) 0))), (3, .o (.c (.ptr (h.length + 1) 0)))]) (fun s => h ++ ([⟨[I (e_.lsn), I (e_.kind_), I (e_.tx), I (e_.prevTx), I (e_.prevPage), I (e_.ref), I (e_.change.page), I (e_.change.slot), Bo (e_.change.before.set_), .v (.string e_.change.before.data), Bo (e_.change.after.set_), .v (.string e_.change.after.data), .v (.string e_.blob)], true, true⟩, ⟨[Bo true, Bo true, Bo true, Bo true, Bo false, .fn 206 [], .fn 205 []], true, true⟩] : Heap)) ?_ ?_
    ·intro hm
     refine .block ?_
     replace hm := hm.bnd
     refine .joinE (σ := Bool) (fun s => s) hm (fun s => [(1, .o (.c (.ptr (h.length + 0) 0))), (3, .o (.c (.ptr (h.length + 1) 0))), (47, VB (s))]) (fun s => h ++ ([⟨[I (e_.lsn), I (e_.kind_), I (e_.tx), I (e_.prevTx), I (e_.prevPage), I (e_.ref), I (e_.change.page), I (e_.change.slot), Bo (e_.change.before.set_), .v (.string e_.change.before.data), Bo (e_.change.after.set_), .v (.string e_.change.after.data), .v (.string e_.blob)], true, true⟩, ⟨[Bo true, Bo true, Bo true, Bo true, Bo false, .fn 206 [], .fn 205 []], true, true⟩] : Heap)) ?_ ?_
     ·intro hm
      refine .seq (.region (.t _ (e_fa' fa208_0 (ev_t rfl)) ?_))
      refine .t _ (e_ldb1 (ev_t rfl) ty4 (bx rfl rfl) rfl) ?_
      refine .m rfl ?_
      refine .t _ (e_fa' fa59_2 (ev_t rfl)) ?_
      refine .t _ (e_ldb1 (ev_t rfl) ty3 (bx rfl rfl) rfl) ?_
      refine .sd rfl rfl rfl (e_bin (ev_t rfl) rfl rfl rfl) ?_ ?_
      ·intro c36; replace hm := hm.ifp c36
       refine .m rfl ?_
       iterate 3 refine .k ?_
       refine .t (VB (true)) (e_pick (t := true) (ev_t rfl) rfl) ?_
       refine .t (VB (true)) (e_pick (t := true) (ev_t rfl) (ev_t rfl)) ?_
       refine .a rfl ?_
       refine .nil ?_
       refine CdOK.cond_true rfl ?_
       refine .skip ?_
       refine .id ?_
       exact ⟨true, hm.ret, (.cons rfl (.cons rfl (.cons rfl .nil))), rfl⟩
      intro c37; replace hm := hm.ifn c37
      refine .m rfl ?_
      refine .t _ (e_fa' fa59_2 (ev_t rfl)) ?_
      refine .t _ (e_ldb1 (ev_t rfl) ty3 (bx rfl rfl) rfl) ?_
      refine .t (VB (decide (1073741824 < e_.tx))) (e_bin (ev_t rfl) rfl rfl rfl) ?_
      refine .t (VB (decide (1073741824 < e_.tx))) (e_pick (t := false) (ev_t rfl) (ev_t rfl)) ?_
      refine .t (VB (decide (1073741824 < e_.tx))) (e_pick (t := true) (ev_t rfl) (ev_t rfl)) ?_
      refine .a rfl ?_
      refine .nil ?_
      refine CdOK.condD (ev_t rfl) ?_ ?_
      ·intro c38; replace hm := hm.ifp c38
       refine .skip ?_
       refine .id ?_
       exact ⟨(decide (1073741824 < e_.tx)), hm.ret, (.cons rfl (.cons rfl (.cons rfl .nil))), rfl⟩
      intro c39; replace hm := hm.ifn c39
      refine .region (.t _ (e_fa' fa208_1 (ev_t rfl)) ?_)
      refine .t _ (e_ldb1 (ev_t rfl) ty4 (bx rfl rfl) rfl) ?_
      refine .m rfl ?_
      refine .t _ (e_fa' fa59_3 (ev_t rfl)) ?_
      refine .t _ (e_ldb1 (ev_t rfl) ty3 (bx rfl rfl) rfl) ?_
      refine .t (VB (decide (e_.prevTx = 0))) (e_eqK (ev_t rfl) rfl) ?_
      refine .t (VB (decide (e_.prevTx = 0))) (e_pick (t := true) (ev_t rfl) (ev_t rfl)) ?_
      refine .a rfl ?_
      refine .nil (.id ?_)
      exact ⟨(decide (e_.prevTx = 0)), hm.ret, (.cons rfl (.cons rfl (.cons rfl .nil))), rfl⟩
     rintro t4735 T0 hm
     show CdOK _ _ _ (look T0 [(1, .o (.c (.ptr (h.length + 0) 0))), (3, .o (.c (.ptr (h.length + 1) 0))), (47, VB (t4735))]) (h ++ ([⟨[I (e_.lsn), I (e_.kind_), I (e_.tx), I (e_.prevTx), I (e_.prevPage), I (e_.ref), I (e_.change.page), I (e_.change.slot), Bo (e_.change.before.set_), .v (.string e_.change.before.data), Bo (e_.change.after.set_), .v (.string e_.change.after.data), .v (.string e_.blob)], true, true⟩, ⟨[Bo true, Bo true, Bo true, Bo true, Bo false, .fn 206 [], .fn 205 []], true, true⟩] : Heap)) _
     refine .condB (ev_t rfl) ?_ ?_
     ·intro c41; replace hm := hm.ifp c41
      refine .seq (.region (.t (VB (false)) (e_as rfl) ?_))
      refine .nil ?_
      refine CdOK.ret ?_
      refine ⟨.inr rfl, _, rfl, h, _, _, rfl, rfl, hC, ((renFlV rfl) : RenV _ _ _ _ (VB (false))), ?_⟩
      have hr := hm.ret; replace hr := Ev.ret hr; cases hr; exact ⟨rfl, rfl⟩
     intro c42; replace hm := hm.ifn c42
     iterate 2 refine .seq ?_
     refine .region (.t _ (e_fa' fa208_0 (ev_t rfl)) ?_)
     refine .t _ (e_ldb1 (ev_t rfl) ty4 (bx rfl rfl) rfl) ?_
     refine .t (VB (false)) (e_un (ev_t rfl) rfl) ?_
     refine .m rfl ?_
     iterate 8 refine .k ?_
     refine .t (VB (false)) (e_pick (t := false) (ev_t rfl) rfl) ?_
     refine .a rfl ?_
     refine .nil ?_
     refine CdOK.cond_false rfl ?_
     refine .seq (.region (.t _ (e_fa' fa208_2 (ev_t rfl)) ?_))
     refine .t _ (e_ldb1 (ev_t rfl) ty4 (bx rfl rfl) rfl) ?_
     refine .t (VB (false)) (e_un (ev_t rfl) rfl) ?_
     refine .m rfl ?_
     iterate 3 refine .k ?_
     refine .t (VB (false)) (e_pick (t := false) (ev_t rfl) rfl) ?_
     refine .a rfl ?_
     refine .nil ?_
     refine CdOK.cond_false rfl ?_
     refine .seq (.region (.t _ (e_fa' fa208_3 (ev_t rfl)) ?_))
     refine .t _ (e_ldb1 (ev_t rfl) ty4 (bx rfl rfl) rfl) ?_
     refine .t (VB (false)) (e_un (ev_t rfl) rfl) ?_
     refine .m rfl ?_
     iterate 3 refine .k ?_
     refine .t (VB (false)) (e_pick (t := false) (ev_t rfl) rfl) ?_
     refine .a rfl ?_
     refine .nil ?_
     refine CdOK.cond_false rfl ?_
     refine .region (.t _ (e_fa' fa208_4 (ev_t rfl)) ?_)
     refine .t _ (e_ldb1 (ev_t rfl) ty4 (bx rfl rfl) rfl) ?_
     refine .t (VB (true)) (e_un (ev_t rfl) rfl) ?_
     refine .m rfl ?_
     refine .t _ (e_fa' fa59_7 (ev_t rfl)) ?_
     refine .t _ (e_ldb1 (ev_t rfl) ty9 (bx rfl rfl) rfl) ?_
     refine .t (VB ((!((e_.blob).toList == (({ data := #[] } : ByteArray)).toList)))) (e_bin (ev_t rfl) rfl rfl rfl) ?_
     refine .t (VB ((!((e_.blob).toList == (({ data := #[] } : ByteArray)).toList)))) (e_pick (t := true) (ev_t rfl) (ev_t rfl)) ?_
     refine .a rfl ?_
     refine .nil ?_
     refine CdOK.condB (ev_t rfl) ?_ ?_
     ·intro c43; replace hm := hm.ifp c43
      refine .seq (.region (.t (VB (false)) (e_as rfl) ?_))
      refine .nil ?_
      refine CdOK.ret ?_
      refine ⟨.inr rfl, _, rfl, h, _, _, rfl, rfl, hC, ((renFlV rfl) : RenV _ _ _ _ (VB (false))), ?_⟩
      have hr := hm.ret; replace hr := Ev.ret hr; cases hr; exact ⟨rfl, rfl⟩
     intro c44; replace hm := hm.ifn c44
     refine .skip ?_
     refine .id ?_
     exact ⟨(), hm.ret, (.cons rfl (.cons rfl .nil)), rfl⟩
    intro _ T0 hm
    show CdOK _ _ _ (look T0 [(1, .o (.c (.ptr (h.length + 0) 0))), (3, .o (.c (.ptr (h.length + 1) 0)))]) (h ++ ([⟨[I (e_.lsn), I (e_.kind_), I (e_.tx), I (e_.prevTx), I (e_.prevPage), I (e_.ref), I (e_.change.page), I (e_.change.slot), Bo (e_.change.before.set_), .v (.string e_.change.before.data), Bo (e_.change.after.set_), .v (.string e_.change.after.data), .v (.string e_.blob)], true, true⟩, ⟨[Bo true, Bo true, Bo true, Bo true, Bo false, .fn 206 [], .fn 205 []], true, true⟩] : Heap)) _
    replace hm : Ev _ _ := hm
    refine .seq (.region (.t _ (e_fa' fa59_7 (ev_t rfl)) ?_))
    refine .t _ (e_ldb1 (ev_t rfl) ty9 (bx rfl rfl) rfl) ?_
    refine .t (VI ((e_.blob.size : Int))) (e_lenS' (ev_t rfl) str9) ?_
    refine .sd rfl rfl rfl (e_bin (ev_t rfl) rfl rfl rfl) ?_ ?_
    ·intro c46; replace hm := hm.ifp c46
     refine .m rfl ?_
     refine .t _ (e_fa' fa208_5 (ev_t rfl)) ?_
     refine .t _ (e_ldb1 (ev_t rfl) ty132 (bx rfl rfl) rfl) ?_
     refine .t _ (e_ldbA (ev_t rfl) ty59 (bx rfl rfl) rfl rfl) ?_
     obtain ⟨x47, e47, hm⟩ := hm.call
     cases x47 with
     | true =>
      replace hm := hm.ifp rfl
      refine .cl rfl rfl rfl rfl pl206 (R2.wk _) (entry_rules2_ok    e47) ?_
      rintro _ _ ⟨rfl, rfl⟩
      refine .t (VB (true)) (e_pick (t := true) (ev_t rfl) (ev_t rfl)) ?_
      refine .m rfl ?_
      refine .t _ (e_fa' fa208_6 (ev_t rfl)) ?_
      refine .t _ (e_ldb1 (ev_t rfl) ty206 (bx rfl rfl) rfl) ?_
      refine .t _ (e_fa' fa59_6 (ev_t rfl)) ?_
      refine .t _ (e_ldbA (ev_t rfl) ty57 (bx rfl rfl) rfl rfl) ?_
      obtain ⟨x48, e48, hm⟩ := hm.call
      refine .cl rfl rfl rfl rfl pl205 (R2.wk _) (change_Valid_ok    e48) ?_
      rintro _ _ ⟨rfl, rfl⟩
      refine .t (VB (x48)) (e_pick (t := true) (ev_t rfl) (ev_t rfl)) ?_
      refine .a rfl ?_
      refine .nil ?_
      refine CdOK.ret ?_
      refine ⟨.inr rfl, _, rfl, h, _, _, rfl, rfl, hC, ((renFlV rfl) : RenV _ _ _ _ (VB (x48))), ?_⟩
      cases hm.ret; exact ⟨rfl, rfl⟩
     | false =>
      replace hm := hm.ifn Bool.false_ne_true
      refine .cl rfl rfl rfl rfl pl206 (R2.wk _) (entry_rules2_ok    e47) ?_
      rintro _ _ ⟨rfl, rfl⟩
      refine .t (VB (false)) (e_pick (t := true) (ev_t rfl) (ev_t rfl)) ?_
      refine .m rfl ?_
      iterate 5 refine .k ?_
      refine .t (VB (false)) (e_pick (t := false) (ev_t rfl) rfl) ?_
      refine .a rfl ?_
      refine .nil ?_
      refine CdOK.ret ?_
      refine ⟨.inr rfl, _, rfl, h, _, _, rfl, rfl, hC, ((renFlV rfl) : RenV _ _ _ _ (VB (false))), ?_⟩
      cases hm.ret; exact ⟨rfl, rfl⟩
    intro c49; replace hm := hm.ifn c49
    refine .m rfl ?_
    iterate 4 refine .k ?_
    refine .t (VB (false)) (e_pick (t := false) (ev_t rfl) rfl) ?_
    refine .m rfl ?_
    iterate 5 refine .k ?_
    refine .t (VB (false)) (e_pick (t := false) (ev_t rfl) rfl) ?_
    refine .a rfl ?_
    refine .nil ?_
    refine CdOK.ret ?_
    refine ⟨.inr rfl, _, rfl, h, _, _, rfl, rfl, hC, ((renFlV rfl) : RenV _ _ _ _ (VB (false))), ?_⟩
    cases hm.ret; exact ⟨rfl, rfl⟩
   replace hm := hm.ifn c34
   by_cases c50 : e_.kind_ = 3
   ·replace hm := hm.ifp c50
    refine .p (.o (.agg [Bo true, Bo true, Bo false, Bo false, Bo false, .fn 203 [], .fn 204 []])) (e_ixK (n := 3) (ev_t rfl) (ev_t rfl) c50 (by kernel_rfl)) ?_
    refine .c (v := .o (.c (.ptr (h.length + 1) 0))) rfl rfl rfl rfl rfl (e_allocN (L' := [⟨[I (e_.lsn), I (e_.kind_), I (e_.tx), I (e_.prevTx), I (e_.prevPage), I (e_.ref), I (e_.change.page), I (e_.change.slot), Bo (e_.change.before.set_), .v (.string e_.change.before.data), Bo (e_.change.after.set_), .v (.string e_.change.after.data), .v (.string e_.blob)], true, true⟩, ⟨[Bo false, Bo false, Bo false, Bo false, Bo false, .v .nilFunc, .v .nilFunc], true, true⟩]) rfl zo208 rfl rfl) (.e rfl rfl (e_ldb1 (ev_t rfl) ty3 (bx rfl rfl) rfl) (.c rfl rfl rfl pl188 (R2.wk _) (entry_rules_ok rfl) .nil)) ?_
    refine .c0 rfl rfl rfl rfl (e_stN (L' := [⟨[I (e_.lsn), I (e_.kind_), I (e_.tx), I (e_.prevTx), I (e_.prevPage), I (e_.ref), I (e_.change.page), I (e_.change.slot), Bo (e_.change.before.set_), .v (.string e_.change.before.data), Bo (e_.change.after.set_), .v (.string e_.change.after.data), .v (.string e_.blob)], true, true⟩, ⟨[Bo true, Bo true, Bo false, Bo false, Bo false, .fn 203 [], .fn 204 []], true, true⟩]) rfl (ev_t rfl) (ev_t rfl) ty208 rfl rfl rfl rfl rfl) (.m (by decide +kernel) (.m (by decide +kernel) .nil)) ?_
    refine .nil ?_
    replace hm := hm.bnd
    refine CdOK.joinE (σ := Unit) (fun s => Sum.inl ()) hm (fun s => [(1, .o (.c (.ptr (h.length + 0) 0))), (3, .o (.c (.ptr (h.length + 1) 0)))]) (fun s => h ++ ([⟨[I (e_.lsn), I (e_.kind_), I (e_.tx), I (e_.prevTx), I (e_.prevPage), I (e_.ref), I (e_.change.page), I (e_.change.slot), Bo (e_.change.before.set_), .v (.string e_.change.before.data), Bo (e_.change.after.set_), .v (.string e_.change.after.data), .v (.string e_.blob)], true, true⟩, ⟨[Bo true, Bo true, Bo false, Bo false, Bo false, .fn 203 [], .fn 204 []], true, true⟩] : Heap)) ?_ ?_
    ·intro hm
     refine .block ?_
     replace hm := hm.bnd
     refine .joinE (σ := Bool) (fun s => s) hm (fun s => [(1, .o (.c (.ptr (h.length + 0) 0))), (3, .o (.c (.ptr (h.length + 1) 0))), (47, VB (s))]) (fun s => h ++ ([⟨[I (e_.lsn), I (e_.kind_), I (e_.tx), I (e_.prevTx), I (e_.prevPage), I (e_.ref), I (e_.change.page), I (e_.change.slot), Bo (e_.change.before.set_), .v (.string e_.change.before.data), Bo (e_.change.after.set_), .v (.string e_.change.after.data), .v (.string e_.blob)], true, true⟩, ⟨[Bo true, Bo true, Bo false, Bo false, Bo false, .fn 203 [], .fn 204 []], true, true⟩] : Heap)) ?_ ?_
     ·intro hm
      refine .seq (.region (.t _ (e_fa' fa208_0 (ev_t rfl)) ?_))
      refine .t _ (e_ldb1 (ev_t rfl) ty4 (bx rfl rfl) rfl) ?_
      refine .m rfl ?_
      refine .t _ (e_fa' fa59_2 (ev_t rfl)) ?_
      refine .t _ (e_ldb1 (ev_t rfl) ty3 (bx rfl rfl) rfl) ?_
      refine .sd rfl rfl rfl (e_bin (ev_t rfl) rfl rfl rfl) ?_ ?_
      ·intro c52; replace hm := hm.ifp c52
       refine .m rfl ?_
       iterate 3 refine .k ?_
       refine .t (VB (true)) (e_pick (t := true) (ev_t rfl) rfl) ?_
       refine .t (VB (true)) (e_pick (t := true) (ev_t rfl) (ev_t rfl)) ?_
       refine .a rfl ?_
       refine .nil ?_
       refine CdOK.cond_true rfl ?_
       refine .skip ?_
       refine .id ?_
       exact ⟨true, hm.ret, (.cons rfl (.cons rfl (.cons rfl .nil))), rfl⟩
      intro c53; replace hm := hm.ifn c53
      refine .m rfl ?_
      refine .t _ (e_fa' fa59_2 (ev_t rfl)) ?_
      refine .t _ (e_ldb1 (ev_t rfl) ty3 (bx rfl rfl) rfl) ?_
      refine .t (VB (decide (1073741824 < e_.tx))) (e_bin (ev_t rfl) rfl rfl rfl) ?_
      refine .t (VB (decide (1073741824 < e_.tx))) (e_pick (t := false) (ev_t rfl) (ev_t rfl)) ?_
      refine .t (VB (decide (1073741824 < e_.tx))) (e_pick (t := true) (ev_t rfl) (ev_t rfl)) ?_
      refine .a rfl ?_
      refine .nil ?_
      refine CdOK.condD (ev_t rfl) ?_ ?_
      ·intro c54; replace hm := hm.ifp c54
       refine .skip ?_
       refine .id ?_
       exact ⟨(decide (1073741824 < e_.tx)), hm.ret, (.cons rfl (.cons rfl (.cons rfl .nil))), rfl⟩
      intro c55; replace hm := hm.ifn c55
      refine .region (.t _ (e_fa' fa208_1 (ev_t rfl)) ?_)
      refine .t _ (e_ldb1 (ev_t rfl) ty4 (bx rfl rfl) rfl) ?_
      refine .m rfl ?_
      refine .t _ (e_fa' fa59_3 (ev_t rfl)) ?_
      refine .t _ (e_ldb1 (ev_t rfl) ty3 (bx rfl rfl) rfl) ?_
      refine .t (VB (decide (e_.prevTx = 0))) (e_eqK (ev_t rfl) rfl) ?_
      refine .t (VB (decide (e_.prevTx = 0))) (e_pick (t := true) (ev_t rfl) (ev_t rfl)) ?_
      refine .a rfl ?_
      refine .nil (.id ?_)
      exact ⟨(decide (e_.prevTx = 0)), hm.ret, (.cons rfl (.cons rfl (.cons rfl .nil))), rfl⟩
     rintro t4751 T0 hm
     show CdOK _ _ _ (look T0 [(1, .o (.c (.ptr (h.length + 0) 0))), (3, .o (.c (.ptr (h.length + 1) 0))), (47, VB (t4751))]) (h ++ ([⟨[I (e_.lsn), I (e_.kind_), I (e_.tx), I (e_.prevTx), I (e_.prevPage), I (e_.ref), I (e_.change.page), I (e_.change.slot), Bo (e_.change.before.set_), .v (.string e_.change.before.data), Bo (e_.change.after.set_), .v (.string e_.change.after.data), .v (.string e_.blob)], true, true⟩, ⟨[Bo true, Bo true, Bo false, Bo false, Bo false, .fn 203 [], .fn 204 []], true, true⟩] : Heap)) _
     refine .condB (ev_t rfl) ?_ ?_
     ·intro c57; replace hm := hm.ifp c57
      refine .seq (.region (.t (VB (false)) (e_as rfl) ?_))
      refine .nil ?_
      refine CdOK.ret ?_
      refine ⟨.inr rfl, _, rfl, h, _, _, rfl, rfl, hC, ((renFlV rfl) : RenV _ _ _ _ (VB (false))), ?_⟩
      have hr := hm.ret; replace hr := Ev.ret hr; cases hr; exact ⟨rfl, rfl⟩
     intro c58; replace hm := hm.ifn c58
     iterate 2 refine .seq ?_
     refine .region (.t _ (e_fa' fa208_0 (ev_t rfl)) ?_)
     refine .t _ (e_ldb1 (ev_t rfl) ty4 (bx rfl rfl) rfl) ?_
     refine .t (VB (false)) (e_un (ev_t rfl) rfl) ?_
     refine .m rfl ?_
     iterate 8 refine .k ?_
     refine .t (VB (false)) (e_pick (t := false) (ev_t rfl) rfl) ?_
     refine .a rfl ?_
     refine .nil ?_
     refine CdOK.cond_false rfl ?_
     refine .seq (.region (.t _ (e_fa' fa208_2 (ev_t rfl)) ?_))
     refine .t _ (e_ldb1 (ev_t rfl) ty4 (bx rfl rfl) rfl) ?_
     refine .t (VB (true)) (e_un (ev_t rfl) rfl) ?_
     refine .m rfl ?_
     refine .t _ (e_fa' fa59_4 (ev_t rfl)) ?_
     refine .t _ (e_ldb1 (ev_t rfl) ty3 (bx rfl rfl) rfl) ?_
     refine .t (VB (decide (e_.prevPage ≠ 0))) (e_neK (ev_t rfl) rfl) ?_
     refine .t (VB (decide (e_.prevPage ≠ 0))) (e_pick (t := true) (ev_t rfl) (ev_t rfl)) ?_
     refine .a rfl ?_
     refine .nil ?_
     refine CdOK.condD (ev_t rfl) ?_ ?_
     ·intro c59; replace hm := hm.ifp c59
      refine .skip ?_
      refine CdOK.condD (ev_t rfl) ?_ ?_
      ·intro c60; replace hm := hm.ifp c60
       refine .seq (.region (.t (VB (false)) (e_as rfl) ?_))
       refine .nil ?_
       refine CdOK.ret ?_
       refine ⟨.inr rfl, _, rfl, h, _, _, rfl, rfl, hC, ((renFlV rfl) : RenV _ _ _ _ (VB (false))), ?_⟩
       have hr := hm.ret; replace hr := Ev.ret hr; cases hr; exact ⟨rfl, rfl⟩
      intro c61; replace hm := hm.ifn c61
      refine .skip ?_
      refine .id ?_
      exact ⟨(), hm.ret, (.cons rfl (.cons rfl .nil)), rfl⟩
     intro c62; replace hm := hm.ifn c62
     refine .seq (.region (.t _ (e_fa' fa208_3 (ev_t rfl)) ?_))
     refine .t _ (e_ldb1 (ev_t rfl) ty4 (bx rfl rfl) rfl) ?_
     refine .t (VB (true)) (e_un (ev_t rfl) rfl) ?_
     refine .m rfl ?_
     refine .t _ (e_fa' fa59_5 (ev_t rfl)) ?_
     refine .t _ (e_ldb1 (ev_t rfl) ty3 (bx rfl rfl) rfl) ?_
     refine .t (VB (decide (e_.ref ≠ 0))) (e_neK (ev_t rfl) rfl) ?_
     refine .t (VB (decide (e_.ref ≠ 0))) (e_pick (t := true) (ev_t rfl) (ev_t rfl)) ?_
     refine .a rfl ?_
     refine .nil ?_
     refine CdOK.condD (ev_t rfl) ?_ ?_
     ·intro c63; replace hm := hm.ifp c63
      refine .skip ?_
      refine CdOK.condD (ev_t rfl) ?_ ?_
      ·intro c64; replace hm := hm.ifp c64
       refine .seq (.region (.t (VB (false)) (e_as rfl) ?_))
       refine .nil ?_
       refine CdOK.ret ?_
       refine ⟨.inr rfl, _, rfl, h, _, _, rfl, rfl, hC, ((renFlV rfl) : RenV _ _ _ _ (VB (false))), ?_⟩
       have hr := hm.ret; replace hr := Ev.ret hr; cases hr; exact ⟨rfl, rfl⟩
      intro c65; replace hm := hm.ifn c65
      refine .skip ?_
      refine .id ?_
      exact ⟨(), hm.ret, (.cons rfl (.cons rfl .nil)), rfl⟩
     intro c66; replace hm := hm.ifn c66
     refine .region (.t _ (e_fa' fa208_4 (ev_t rfl)) ?_)
     refine .t _ (e_ldb1 (ev_t rfl) ty4 (bx rfl rfl) rfl) ?_
     refine .t (VB (true)) (e_un (ev_t rfl) rfl) ?_
     refine .m rfl ?_
     refine .t _ (e_fa' fa59_7 (ev_t rfl)) ?_
     refine .t _ (e_ldb1 (ev_t rfl) ty9 (bx rfl rfl) rfl) ?_
     refine .t (VB ((!((e_.blob).toList == (({ data := #[] } : ByteArray)).toList)))) (e_bin (ev_t rfl) rfl rfl rfl) ?_
     refine .t (VB ((!((e_.blob).toList == (({ data := #[] } : ByteArray)).toList)))) (e_pick (t := true) (ev_t rfl) (ev_t rfl)) ?_
     refine .a rfl ?_
     refine .nil ?_
     refine CdOK.condB (ev_t rfl) ?_ ?_
     ·intro c67; replace hm := hm.ifp c67
      refine .seq (.region (.t (VB (false)) (e_as rfl) ?_))
      refine .nil ?_
      refine CdOK.ret ?_
      refine ⟨.inr rfl, _, rfl, h, _, _, rfl, rfl, hC, ((renFlV rfl) : RenV _ _ _ _ (VB (false))), ?_⟩
      have hr := hm.ret; replace hr := Ev.ret hr; cases hr; exact ⟨rfl, rfl⟩
     intro c68; replace hm := hm.ifn c68
     refine .skip ?_
     refine .id ?_
     exact ⟨(), hm.ret, (.cons rfl (.cons rfl .nil)), rfl⟩
    intro _ T0 hm
    show CdOK _ _ _ (look T0 [(1, .o (.c (.ptr (h.length + 0) 0))), (3, .o (.c (.ptr (h.length + 1) 0)))]) (h ++ ([⟨[I (e_.lsn), I (e_.kind_), I (e_.tx), I (e_.prevTx), I (e_.prevPage), I (e_.ref), I (e_.change.page), I (e_.change.slot), Bo (e_.change.before.set_), .v (.string e_.change.before.data), Bo (e_.change.after.set_), .v (.string e_.change.after.data), .v (.string e_.blob)], true, true⟩, ⟨[Bo true, Bo true, Bo false, Bo false, Bo false, .fn 203 [], .fn 204 []], true, true⟩] : Heap)) _
    replace hm : Ev _ _ := hm
    refine .seq (.region (.t _ (e_fa' fa59_7 (ev_t rfl)) ?_))
    refine .t _ (e_ldb1 (ev_t rfl) ty9 (bx rfl rfl) rfl) ?_
    refine .t (VI ((e_.blob.size : Int))) (e_lenS' (ev_t rfl) str9) ?_
    refine .sd rfl rfl rfl (e_bin (ev_t rfl) rfl rfl rfl) ?_ ?_
    ·intro c70; replace hm := hm.ifp c70
     refine .m rfl ?_
     refine .t _ (e_fa' fa208_5 (ev_t rfl)) ?_
     refine .t _ (e_ldb1 (ev_t rfl) ty132 (bx rfl rfl) rfl) ?_
     refine .t _ (e_ldbA (ev_t rfl) ty59 (bx rfl rfl) rfl rfl) ?_
     obtain ⟨x71, e71, hm⟩ := hm.call
     cases x71 with
     | true =>
      replace hm := hm.ifp rfl
      refine .cl rfl rfl rfl rfl pl203 (R2.wk _) (entry_rules1_ok    e71) ?_
      rintro _ _ ⟨rfl, rfl⟩
      refine .t (VB (true)) (e_pick (t := true) (ev_t rfl) (ev_t rfl)) ?_
      refine .m rfl ?_
      refine .t _ (e_fa' fa208_6 (ev_t rfl)) ?_
      refine .t _ (e_ldb1 (ev_t rfl) ty206 (bx rfl rfl) rfl) ?_
      refine .t _ (e_fa' fa59_6 (ev_t rfl)) ?_
      refine .t _ (e_ldbA (ev_t rfl) ty57 (bx rfl rfl) rfl rfl) ?_
      obtain ⟨x72, e72, hm⟩ := hm.call
      refine .cl rfl rfl rfl rfl pl204 (R2.wk _) (entry_none_ok    e72) ?_
      rintro _ _ ⟨rfl, rfl⟩
      refine .t (VB (x72)) (e_pick (t := true) (ev_t rfl) (ev_t rfl)) ?_
      refine .a rfl ?_
      refine .nil ?_
      refine CdOK.ret ?_
      refine ⟨.inr rfl, _, rfl, h, _, _, rfl, rfl, hC, ((renFlV rfl) : RenV _ _ _ _ (VB (x72))), ?_⟩
      cases hm.ret; exact ⟨rfl, rfl⟩
     | false =>
      replace hm := hm.ifn Bool.false_ne_true
      refine .cl rfl rfl rfl rfl pl203 (R2.wk _) (entry_rules1_ok    e71) ?_
      rintro _ _ ⟨rfl, rfl⟩
      refine .t (VB (false)) (e_pick (t := true) (ev_t rfl) (ev_t rfl)) ?_
      refine .m rfl ?_
      iterate 5 refine .k ?_
      refine .t (VB (false)) (e_pick (t := false) (ev_t rfl) rfl) ?_
      refine .a rfl ?_
      refine .nil ?_
      refine CdOK.ret ?_
      refine ⟨.inr rfl, _, rfl, h, _, _, rfl, rfl, hC, ((renFlV rfl) : RenV _ _ _ _ (VB (false))), ?_⟩
      cases hm.ret; exact ⟨rfl, rfl⟩
    intro c73; replace hm := hm.ifn c73
    refine .m rfl ?_
    iterate 4 refine .k ?_
    refine .t (VB (false)) (e_pick (t := false) (ev_t rfl) rfl) ?_
    refine .m rfl ?_
    iterate 5 refine .k ?_
    refine .t (VB (false)) (e_pick (t := false) (ev_t rfl) rfl) ?_
    refine .a rfl ?_
    refine .nil ?_
    refine CdOK.ret ?_
    refine ⟨.inr rfl, _, rfl, h, _, _, rfl, rfl, hC, ((renFlV rfl) : RenV _ _ _ _ (VB (false))), ?_⟩
    cases hm.ret; exact ⟨rfl, rfl⟩
   replace hm := hm.ifn c50
   by_cases c74 : e_.kind_ = 4
   ·replace hm := hm.ifp c74
    refine .p (.o (.agg [Bo true, Bo true, Bo false, Bo false, Bo false, .fn 203 [], .fn 204 []])) (e_ixK (n := 4) (ev_t rfl) (ev_t rfl) c74 (by kernel_rfl)) ?_
    refine .c (v := .o (.c (.ptr (h.length + 1) 0))) rfl rfl rfl rfl rfl (e_allocN (L' := [⟨[I (e_.lsn), I (e_.kind_), I (e_.tx), I (e_.prevTx), I (e_.prevPage), I (e_.ref), I (e_.change.page), I (e_.change.slot), Bo (e_.change.before.set_), .v (.string e_.change.before.data), Bo (e_.change.after.set_), .v (.string e_.change.after.data), .v (.string e_.blob)], true, true⟩, ⟨[Bo false, Bo false, Bo false, Bo false, Bo false, .v .nilFunc, .v .nilFunc], true, true⟩]) rfl zo208 rfl rfl) (.e rfl rfl (e_ldb1 (ev_t rfl) ty3 (bx rfl rfl) rfl) (.c rfl rfl rfl pl188 (R2.wk _) (entry_rules_ok rfl) .nil)) ?_
    refine .c0 rfl rfl rfl rfl (e_stN (L' := [⟨[I (e_.lsn), I (e_.kind_), I (e_.tx), I (e_.prevTx), I (e_.prevPage), I (e_.ref), I (e_.change.page), I (e_.change.slot), Bo (e_.change.before.set_), .v (.string e_.change.before.data), Bo (e_.change.after.set_), .v (.string e_.change.after.data), .v (.string e_.blob)], true, true⟩, ⟨[Bo true, Bo true, Bo false, Bo false, Bo false, .fn 203 [], .fn 204 []], true, true⟩]) rfl (ev_t rfl) (ev_t rfl) ty208 rfl rfl rfl rfl rfl) (.m (by decide +kernel) (.m (by decide +kernel) .nil)) ?_
    refine .nil ?_
    replace hm := hm.bnd
    refine CdOK.joinE (σ := Unit) (fun s => Sum.inl ()) hm (fun s => [(1, .o (.c (.ptr (h.length + 0) 0))), (3, .o (.c (.ptr (h.length + 1) 0)))]) (fun s => h ++ ([⟨[I (e_.lsn), I (e_.kind_), I (e_.tx), I (e_.prevTx), I (e_.prevPage), I (e_.ref), I (e_.change.page), I (e_.change.slot), Bo (e_.change.before.set_), .v (.string e_.change.before.data), Bo (e_.change.after.set_), .v (.string e_.change.after.data), .v (.string e_.blob)], true, true⟩, ⟨[Bo true, Bo true, Bo false, Bo false, Bo false, .fn 203 [], .fn 204 []], true, true⟩] : Heap)) ?_ ?_
    ·intro hm
     refine .block ?_
     replace hm := hm.bnd
     refine .joinE (σ := Bool) (fun s => s) hm (fun s => [(1, .o (.c (.ptr (h.length + 0) 0))), (3, .o (.c (.ptr (h.length + 1) 0))), (47, VB (s))]) (fun s => h ++ ([⟨[I (e_.lsn), I (e_.kind_), I (e_.tx), I (e_.prevTx), I (e_.prevPage), I (e_.ref), I (e_.change.page), I (e_.change.slot), Bo (e_.change.before.set_), .v (.string e_.change.before.data), Bo (e_.change.after.set_), .v (.string e_.change.after.data), .v (.string e_.blob)], true, true⟩, ⟨[Bo true, Bo true, Bo false, Bo false, Bo false, .fn 203 [], .fn 204 []], true, true⟩] : Heap)) ?_ ?_
     ·intro hm
      refine .seq (.region (.t _ (e_fa' fa208_0 (ev_t rfl)) ?_))
      refine .t _ (e_ldb1 (ev_t rfl) ty4 (bx rfl rfl) rfl) ?_
      refine .m rfl ?_
      refine .t _ (e_fa' fa59_2 (ev_t rfl)) ?_
      refine .t _ (e_ldb1 (ev_t rfl) ty3 (bx rfl rfl) rfl) ?_
      refine .sd rfl rfl rfl (e_bin (ev_t rfl) rfl rfl rfl) ?_ ?_
      ·intro c76; replace hm := hm.ifp c76
       refine .m rfl ?_
       iterate 3 refine .k ?_
       refine .t (VB (true)) (e_pick (t := true) (ev_t rfl) rfl) ?_
       refine .t (VB (true)) (e_pick (t := true) (ev_t rfl) (ev_t rfl)) ?_
       refine .a rfl ?_
       refine .nil ?_
       refine CdOK.cond_true rfl ?_
       refine .skip ?_
       refine .id ?_
       exact ⟨true, hm.ret, (.cons rfl (.cons rfl (.cons rfl .nil))), rfl⟩
      intro c77; replace hm := hm.ifn c77
      refine .m rfl ?_
      refine .t _ (e_fa' fa59_2 (ev_t rfl)) ?_
      refine .t _ (e_ldb1 (ev_t rfl) ty3 (bx rfl rfl) rfl) ?_
      refine .t (VB (decide (1073741824 < e_.tx))) (e_bin (ev_t rfl) rfl rfl rfl) ?_
      refine .t (VB (decide (1073741824 < e_.tx))) (e_pick (t := false) (ev_t rfl) (ev_t rfl)) ?_
      refine .t (VB (decide (1073741824 < e_.tx))) (e_pick (t := true) (ev_t rfl) (ev_t rfl)) ?_
      refine .a rfl ?_
      refine .nil ?_
      refine CdOK.condD (ev_t rfl) ?_ ?_
      ·intro c78; replace hm := hm.ifp c78
       refine .skip ?_
       refine .id ?_
       exact ⟨(decide (1073741824 < e_.tx)), hm.ret, (.cons rfl (.cons rfl (.cons rfl .nil))), rfl⟩
      intro c79; replace hm := hm.ifn c79
      refine .region (.t _ (e_fa' fa208_1 (ev_t rfl)) ?_)
      refine .t _ (e_ldb1 (ev_t rfl) ty4 (bx rfl rfl) rfl) ?_
      refine .m rfl ?_
      refine .t _ (e_fa' fa59_3 (ev_t rfl)) ?_
      refine .t _ (e_ldb1 (ev_t rfl) ty3 (bx rfl rfl) rfl) ?_
      refine .t (VB (decide (e_.prevTx = 0))) (e_eqK (ev_t rfl) rfl) ?_
      refine .t (VB (decide (e_.prevTx = 0))) (e_pick (t := true) (ev_t rfl) (ev_t rfl)) ?_
      refine .a rfl ?_
      refine .nil (.id ?_)
      exact ⟨(decide (e_.prevTx = 0)), hm.ret, (.cons rfl (.cons rfl (.cons rfl .nil))), rfl⟩
     rintro t4775 T0 hm
     show CdOK _ _ _ (look T0 [(1, .o (.c (.ptr (h.length + 0) 0))), (3, .o (.c (.ptr (h.length + 1) 0))), (47, VB (t4775))]) (h ++ ([⟨[I (e_.lsn), I (e_.kind_), I (e_.tx), I (e_.prevTx), I (e_.prevPage), I (e_.ref), I (e_.change.page), I (e_.change.slot), Bo (e_.change.before.set_), .v (.string e_.change.before.data), Bo (e_.change.after.set_), .v (.string e_.change.after.data), .v (.string e_.blob)], true, true⟩, ⟨[Bo true, Bo true, Bo false, Bo false, Bo false, .fn 203 [], .fn 204 []], true, true⟩] : Heap)) _
     refine .condB (ev_t rfl) ?_ ?_
     ·intro c81; replace hm := hm.ifp c81
      refine .seq (.region (.t (VB (false)) (e_as rfl) ?_))
      refine .nil ?_
      refine CdOK.ret ?_
      refine ⟨.inr rfl, _, rfl, h, _, _, rfl, rfl, hC, ((renFlV rfl) : RenV _ _ _ _ (VB (false))), ?_⟩
      have hr := hm.ret; replace hr := Ev.ret hr; cases hr; exact ⟨rfl, rfl⟩
     intro c82; replace hm := hm.ifn c82
     iterate 2 refine .seq ?_
     refine .region (.t _ (e_fa' fa208_0 (ev_t rfl)) ?_)
     refine .t _ (e_ldb1 (ev_t rfl) ty4 (bx rfl rfl) rfl) ?_
     refine .t (VB (false)) (e_un (ev_t rfl) rfl) ?_
     refine .m rfl ?_
     iterate 8 refine .k ?_
     refine .t (VB (false)) (e_pick (t := false) (ev_t rfl) rfl) ?_
     refine .a rfl ?_
     refine .nil ?_
     refine CdOK.cond_false rfl ?_
     refine .seq (.region (.t _ (e_fa' fa208_2 (ev_t rfl)) ?_))
     refine .t _ (e_ldb1 (ev_t rfl) ty4 (bx rfl rfl) rfl) ?_
     refine .t (VB (true)) (e_un (ev_t rfl) rfl) ?_
     refine .m rfl ?_
     refine .t _ (e_fa' fa59_4 (ev_t rfl)) ?_
     refine .t _ (e_ldb1 (ev_t rfl) ty3 (bx rfl rfl) rfl) ?_
     refine .t (VB (decide (e_.prevPage ≠ 0))) (e_neK (ev_t rfl) rfl) ?_
     refine .t (VB (decide (e_.prevPage ≠ 0))) (e_pick (t := true) (ev_t rfl) (ev_t rfl)) ?_
     refine .a rfl ?_
     refine .nil ?_
     refine CdOK.condD (ev_t rfl) ?_ ?_
     ·intro c83; replace hm := hm.ifp c83
      refine .skip ?_
      refine CdOK.condD (ev_t rfl) ?_ ?_
      ·intro c84; replace hm := hm.ifp c84
       refine .seq (.region (.t (VB (false)) (e_as rfl) ?_))
       refine .nil ?_
       refine CdOK.ret ?_
       refine ⟨.inr rfl, _, rfl, h, _, _, rfl, rfl, hC, ((renFlV rfl) : RenV _ _ _ _ (VB (false))), ?_⟩
       have hr := hm.ret; replace hr := Ev.ret hr; cases hr; exact ⟨rfl, rfl⟩
      intro c85; replace hm := hm.ifn c85
      refine .skip ?_
      refine .id ?_
      exact ⟨(), hm.ret, (.cons rfl (.cons rfl .nil)), rfl⟩
     intro c86; replace hm := hm.ifn c86
     refine .seq (.region (.t _ (e_fa' fa208_3 (ev_t rfl)) ?_))
     refine .t _ (e_ldb1 (ev_t rfl) ty4 (bx rfl rfl) rfl) ?_
     refine .t (VB (true)) (e_un (ev_t rfl) rfl) ?_
     refine .m rfl ?_
     refine .t _ (e_fa' fa59_5 (ev_t rfl)) ?_
     refine .t _ (e_ldb1 (ev_t rfl) ty3 (bx rfl rfl) rfl) ?_
     refine .t (VB (decide (e_.ref ≠ 0))) (e_neK (ev_t rfl) rfl) ?_
     refine .t (VB (decide (e_.ref ≠ 0))) (e_pick (t := true) (ev_t rfl) (ev_t rfl)) ?_
     refine .a rfl ?_
     refine .nil ?_
     refine CdOK.condD (ev_t rfl) ?_ ?_
     ·intro c87; replace hm := hm.ifp c87
      refine .skip ?_
      refine CdOK.condD (ev_t rfl) ?_ ?_
      ·intro c88; replace hm := hm.ifp c88
       refine .seq (.region (.t (VB (false)) (e_as rfl) ?_))
       refine .nil ?_
       refine CdOK.ret ?_
       refine ⟨.inr rfl, _, rfl, h, _, _, rfl, rfl, hC, ((renFlV rfl) : RenV _ _ _ _ (VB (false))), ?_⟩
       have hr := hm.ret; replace hr := Ev.ret hr; cases hr; exact ⟨rfl, rfl⟩
      intro c89; replace hm := hm.ifn c89
      refine .skip ?_
      refine .id ?_
      exact ⟨(), hm.ret, (.cons rfl (.cons rfl .nil)), rfl⟩
     intro c90; replace hm := hm.ifn c90
     refine .region (.t _ (e_fa' fa208_4 (ev_t rfl)) ?_)
     refine .t _ (e_ldb1 (ev_t rfl) ty4 (bx rfl rfl) rfl) ?_
     refine .t (VB (true)) (e_un (ev_t rfl) rfl) ?_
     refine .m rfl ?_
     refine .t _ (e_fa' fa59_7 (ev_t rfl)) ?_
     refine .t _ (e_ldb1 (ev_t rfl) ty9 (bx rfl rfl) rfl) ?_
     refine .t (VB ((!((e_.blob).toList == (({ data := #[] } : ByteArray)).toList)))) (e_bin (ev_t rfl) rfl rfl rfl) ?_
     refine .t (VB ((!((e_.blob).toList == (({ data := #[] } : ByteArray)).toList)))) (e_pick (t := true) (ev_t rfl) (ev_t rfl)) ?_
     refine .a rfl ?_
     refine .nil ?_
     refine CdOK.condB (ev_t rfl) ?_ ?_
     ·intro c91; replace hm := hm.ifp c91
      refine .seq (.region (.t (VB (false)) (e_as rfl) ?_))
      refine .nil ?_
      refine CdOK.ret ?_
      refine ⟨.inr rfl, _, rfl, h, _, _, rfl, rfl, hC, ((renFlV rfl) : RenV _ _ _ _ (VB (false))), ?_⟩
      have hr := hm.ret; replace hr := Ev.ret hr; cases hr; exact ⟨rfl, rfl⟩
     intro c92; replace hm := hm.ifn c92
     refine .skip ?_
     refine .id ?_
     exact ⟨(), hm.ret, (.cons rfl (.cons rfl .nil)), rfl⟩
    intro _ T0 hm
    show CdOK _ _ _ (look T0 [(1, .o (.c (.ptr (h.length + 0) 0))), (3, .o (.c (.ptr (h.length + 1) 0)))]) (h ++ ([⟨[I (e_.lsn), I (e_.kind_), I (e_.tx), I (e_.prevTx), I (e_.prevPage), I (e_.ref), I (e_.change.page), I (e_.change.slot), Bo (e_.change.before.set_), .v (.string e_.change.before.data), Bo (e_.change.after.set_), .v (.string e_.change.after.data), .v (.string e_.blob)], true, true⟩, ⟨[Bo true, Bo true, Bo false, Bo false, Bo false, .fn 203 [], .fn 204 []], true, true⟩] : Heap)) _
    replace hm : Ev _ _ := hm
    refine .seq (.region (.t _ (e_fa' fa59_7 (ev_t rfl)) ?_))
    refine .t _ (e_ldb1 (ev_t rfl) ty9 (bx rfl rfl) rfl) ?_
    refine .t (VI ((e_.blob.size : Int))) (e_lenS' (ev_t rfl) str9) ?_
    refine .sd rfl rfl rfl (e_bin (ev_t rfl) rfl rfl rfl) ?_ ?_
    ·intro c94; replace hm := hm.ifp c94
     refine .m rfl ?_
     refine .t _ (e_fa' fa208_5 (ev_t rfl)) ?_
     refine .t _ (e_ldb1 (ev_t rfl) ty132 (bx rfl rfl) rfl) ?_
     refine .t _ (e_ldbA (ev_t rfl) ty59 (bx rfl rfl) rfl rfl) ?_
     obtain ⟨x95, e95, hm⟩ := hm.call
     cases x95 with
     | true =>
      replace hm := hm.ifp rfl
      refine .cl rfl rfl rfl rfl pl203 (R2.wk _) (entry_rules1_ok    e95) ?_
      rintro _ _ ⟨rfl, rfl⟩
      refine .t (VB (true)) (e_pick (t := true) (ev_t rfl) (ev_t rfl)) ?_
      refine .m rfl ?_
      refine .t _ (e_fa' fa208_6 (ev_t rfl)) ?_
      refine .t _ (e_ldb1 (ev_t rfl) ty206 (bx rfl rfl) rfl) ?_
      refine .t _ (e_fa' fa59_6 (ev_t rfl)) ?_
      refine .t _ (e_ldbA (ev_t rfl) ty57 (bx rfl rfl) rfl rfl) ?_
      obtain ⟨x96, e96, hm⟩ := hm.call
      refine .cl rfl rfl rfl rfl pl204 (R2.wk _) (entry_none_ok    e96) ?_
      rintro _ _ ⟨rfl, rfl⟩
      refine .t (VB (x96)) (e_pick (t := true) (ev_t rfl) (ev_t rfl)) ?_
      refine .a rfl ?_
      refine .nil ?_
      refine CdOK.ret ?_
      refine ⟨.inr rfl, _, rfl, h, _, _, rfl, rfl, hC, ((renFlV rfl) : RenV _ _ _ _ (VB (x96))), ?_⟩
      cases hm.ret; exact ⟨rfl, rfl⟩
     | false =>
      replace hm := hm.ifn Bool.false_ne_true
      refine .cl rfl rfl rfl rfl pl203 (R2.wk _) (entry_rules1_ok    e95) ?_
      rintro _ _ ⟨rfl, rfl⟩
      refine .t (VB (false)) (e_pick (t := true) (ev_t rfl) (ev_t rfl)) ?_
      refine .m rfl ?_
      iterate 5 refine .k ?_
      refine .t (VB (false)) (e_pick (t := false) (ev_t rfl) rfl) ?_
      refine .a rfl ?_
      refine .nil ?_
      refine CdOK.ret ?_
      refine ⟨.inr rfl, _, rfl, h, _, _, rfl, rfl, hC, ((renFlV rfl) : RenV _ _ _ _ (VB (false))), ?_⟩
      cases hm.ret; exact ⟨rfl, rfl⟩
    intro c97; replace hm := hm.ifn c97
    refine .m rfl ?_
    iterate 4 refine .k ?_
    refine .t (VB (false)) (e_pick (t := false) (ev_t rfl) rfl) ?_
    refine .m rfl ?_
    iterate 5 refine .k ?_
    refine .t (VB (false)) (e_pick (t := false) (ev_t rfl) rfl) ?_
    refine .a rfl ?_
    refine .nil ?_
    refine CdOK.ret ?_
    refine ⟨.inr rfl, _, rfl, h, _, _, rfl, rfl, hC, ((renFlV rfl) : RenV _ _ _ _ (VB (false))), ?_⟩
    cases hm.ret; exact ⟨rfl, rfl⟩
   replace hm := hm.ifn c74
   by_cases c98 : e_.kind_ = 5
   ·replace hm := hm.ifp c98
    refine .p (.o (.agg [Bo true, Bo true, Bo false, Bo false, Bo false, .fn 203 [], .fn 204 []])) (e_ixK (n := 5) (ev_t rfl) (ev_t rfl) c98 (by kernel_rfl)) ?_
    refine .c (v := .o (.c (.ptr (h.length + 1) 0))) rfl rfl rfl rfl rfl (e_allocN (L' := [⟨[I (e_.lsn), I (e_.kind_), I (e_.tx), I (e_.prevTx), I (e_.prevPage), I (e_.ref), I (e_.change.page), I (e_.change.slot), Bo (e_.change.before.set_), .v (.string e_.change.before.data), Bo (e_.change.after.set_), .v (.string e_.change.after.data), .v (.string e_.blob)], true, true⟩, ⟨[Bo false, Bo false, Bo false, Bo false, Bo false, .v .nilFunc, .v .nilFunc], true, true⟩]) rfl zo208 rfl rfl) (.e rfl rfl (e_ldb1 (ev_t rfl) ty3 (bx rfl rfl) rfl) (.c rfl rfl rfl pl188 (R2.wk _) (entry_rules_ok rfl) .nil)) ?_
    refine .c0 rfl rfl rfl rfl (e_stN (L' := [⟨[I (e_.lsn), I (e_.kind_), I (e_.tx), I (e_.prevTx), I (e_.prevPage), I (e_.ref), I (e_.change.page), I (e_.change.slot), Bo (e_.change.before.set_), .v (.string e_.change.before.data), Bo (e_.change.after.set_), .v (.string e_.change.after.data), .v (.string e_.blob)], true, true⟩, ⟨[Bo true, Bo true, Bo false, Bo false, Bo false, .fn 203 [], .fn 204 []], true, true⟩]) rfl (ev_t rfl) (ev_t rfl) ty208 rfl rfl rfl rfl rfl) (.m (by decide +kernel) (.m (by decide +kernel) .nil)) ?_
    refine .nil ?_
    replace hm := hm.bnd
    refine CdOK.joinE (σ := Unit) (fun s => Sum.inl ()) hm (fun s => [(1, .o (.c (.ptr (h.length + 0) 0))), (3, .o (.c (.ptr (h.length + 1) 0)))]) (fun s => h ++ ([⟨[I (e_.lsn), I (e_.kind_), I (e_.tx), I (e_.prevTx), I (e_.prevPage), I (e_.ref), I (e_.change.page), I (e_.change.slot), Bo (e_.change.before.set_), .v (.string e_.change.before.data), Bo (e_.change.after.set_), .v (.string e_.change.after.data), .v (.string e_.blob)], true, true⟩, ⟨[Bo true, Bo true, Bo false, Bo false, Bo false, .fn 203 [], .fn 204 []], true, true⟩] : Heap)) ?_ ?_
    ·intro hm
     refine .block ?_
     replace hm := hm.bnd
     refine .joinE (σ := Bool) (fun s => s) hm (fun s => [(1, .o (.c (.ptr (h.length + 0) 0))), (3, .o (.c (.ptr (h.length + 1) 0))), (47, VB (s))]) (fun s => h ++ ([⟨[I (e_.lsn), I (e_.kind_), I (e_.tx), I (e_.prevTx), I (e_.prevPage), I (e_.ref), I (e_.change.page), I (e_.change.slot), Bo (e_.change.before.set_), .v (.string e_.change.before.data), Bo (e_.change.after.set_), .v (.string e_.change.after.data), .v (.string e_.blob)], true, true⟩, ⟨[Bo true, Bo true, Bo false, Bo false, Bo false, .fn 203 [], .fn 204 []], true, true⟩] : Heap)) ?_ ?_
     ·intro hm
      refine .seq (.region (.t _ (e_fa' fa208_0 (ev_t rfl)) ?_))
      refine .t _ (e_ldb1 (ev_t rfl) ty4 (bx rfl rfl) rfl) ?_
      refine .m rfl ?_
      refine .t _ (e_fa' fa59_2 (ev_t rfl)) ?_
      refine .t _ (e_ldb1 (ev_t rfl) ty3 (bx rfl rfl) rfl) ?_
      refine .sd rfl rfl rfl (e_bin (ev_t rfl) rfl rfl rfl) ?_ ?_
      ·intro c100; replace hm := hm.ifp c100
       refine .m rfl ?_
       iterate 3 refine .k ?_
       refine .t (VB (true)) (e_pick (t := true) (ev_t rfl) rfl) ?_
       refine .t (VB (true)) (e_pick (t := true) (ev_t rfl) (ev_t rfl)) ?_
       refine .a rfl ?_
       refine .nil ?_
       refine CdOK.cond_true rfl ?_
       refine .skip ?_
       refine .id ?_
       exact ⟨true, hm.ret, (.cons rfl (.cons rfl (.cons rfl .nil))), rfl⟩
      intro c101; replace hm := hm.ifn c101
      refine .m rfl ?_
      refine .t _ (e_fa' fa59_2 (ev_t rfl)) ?_
      refine .t _ (e_ldb1 (ev_t rfl) ty3 (bx rfl rfl) rfl) ?_
      refine .t (VB (decide (1073741824 < e_.tx))) (e_bin (ev_t rfl) rfl rfl rfl) ?_
      refine .t (VB (decide (1073741824 < e_.tx))) (e_pick (t := false) (ev_t rfl) (ev_t rfl)) ?_
      refine .t (VB (decide (1073741824 < e_.tx))) (e_pick (t := true) (ev_t rfl) (ev_t rfl)) ?_
      refine .a rfl ?_
      refine .nil ?_
      refine CdOK.condD (ev_t rfl) ?_ ?_
      ·intro c102; replace hm := hm.ifp c102
       refine .skip ?_
       refine .id ?_
       exact ⟨(decide (1073741824 < e_.tx)), hm.ret, (.cons rfl (.cons rfl (.cons rfl .nil))), rfl⟩
      intro c103; replace hm := hm.ifn c103
      refine .region (.t _ (e_fa' fa208_1 (ev_t rfl)) ?_)
      refine .t _ (e_ldb1 (ev_t rfl) ty4 (bx rfl rfl) rfl) ?_
      refine .m rfl ?_
      refine .t _ (e_fa' fa59_3 (ev_t rfl)) ?_
      refine .t _ (e_ldb1 (ev_t rfl) ty3 (bx rfl rfl) rfl) ?_
      refine .t (VB (decide (e_.prevTx = 0))) (e_eqK (ev_t rfl) rfl) ?_
      refine .t (VB (decide (e_.prevTx = 0))) (e_pick (t := true) (ev_t rfl) (ev_t rfl)) ?_
      refine .a rfl ?_
      refine .nil (.id ?_)
      exact ⟨(decide (e_.prevTx = 0)), hm.ret, (.cons rfl (.cons rfl (.cons rfl .nil))), rfl⟩
     rintro t4799 T0 hm
     show CdOK _ _ _ (look T0 [(1, .o (.c (.ptr (h.length + 0) 0))), (3, .o (.c (.ptr (h.length + 1) 0))), (47, VB (t4799))]) (h ++ ([⟨[I (e_.lsn), I (e_.kind_), I (e_.tx), I (e_.prevTx), I (e_.prevPage), I (e_.ref), I (e_.change.page), I (e_.change.slot), Bo (e_.change.before.set_), .v (.string e_.change.before.data), Bo (e_.change.after.set_), .v (.string e_.change.after.data), .v (.string e_.blob)], true, true⟩, ⟨[Bo true, Bo true, Bo false, Bo false, Bo false, .fn 203 [], .fn 204 []], true, true⟩] : Heap)) _
     refine .condB (ev_t rfl) ?_ ?_
     ·intro c105; replace hm := hm.ifp c105
      refine .seq (.region (.t (VB (false)) (e_as rfl) ?_))
      refine .nil ?_
      refine CdOK.ret ?_
      refine ⟨.inr rfl, _, rfl, h, _, _, rfl, rfl, hC, ((renFlV rfl) : RenV _ _ _ _ (VB (false))), ?_⟩
      have hr := hm.ret; replace hr := Ev.ret hr; cases hr; exact ⟨rfl, rfl⟩
     intro c106; replace hm := hm.ifn c106
     iterate 2 refine .seq ?_
     refine .region (.t _ (e_fa' fa208_0 (ev_t rfl)) ?_)
     refine .t _ (e_ldb1 (ev_t rfl) ty4 (bx rfl rfl) rfl) ?_
     refine .t (VB (false)) (e_un (ev_t rfl) rfl) ?_
     refine .m rfl ?_
     iterate 8 refine .k ?_
     refine .t (VB (false)) (e_pick (t := false) (ev_t rfl) rfl) ?_
     refine .a rfl ?_
     refine .nil ?_
     refine CdOK.cond_false rfl ?_
     refine .seq (.region (.t _ (e_fa' fa208_2 (ev_t rfl)) ?_))
     refine .t _ (e_ldb1 (ev_t rfl) ty4 (bx rfl rfl) rfl) ?_
     refine .t (VB (true)) (e_un (ev_t rfl) rfl) ?_
     refine .m rfl ?_
     refine .t _ (e_fa' fa59_4 (ev_t rfl)) ?_
     refine .t _ (e_ldb1 (ev_t rfl) ty3 (bx rfl rfl) rfl) ?_
     refine .t (VB (decide (e_.prevPage ≠ 0))) (e_neK (ev_t rfl) rfl) ?_
     refine .t (VB (decide (e_.prevPage ≠ 0))) (e_pick (t := true) (ev_t rfl) (ev_t rfl)) ?_
     refine .a rfl ?_
     refine .nil ?_
     refine CdOK.condD (ev_t rfl) ?_ ?_
     ·intro c107; replace hm := hm.ifp c107
      refine .skip ?_
      refine CdOK.condD (ev_t rfl) ?_ ?_
      ·intro c108; replace hm := hm.ifp c108
       refine .seq (.region (.t (VB (false)) (e_as rfl) ?_))
       refine .nil ?_
       refine CdOK.ret ?_
       refine ⟨.inr rfl, _, rfl, h, _, _, rfl, rfl, hC, ((renFlV rfl) : RenV _ _ _ _ (VB (false))), ?_⟩
       have hr := hm.ret; replace hr := Ev.ret hr; cases hr; exact ⟨rfl, rfl⟩
      intro c109; replace hm := hm.ifn c109
      refine .skip ?_
      refine .id ?_
      exact ⟨(), hm.ret, (.cons rfl (.cons rfl .nil)), rfl⟩
     intro c110; replace hm := hm.ifn c110
     refine .seq (.region (.t _ (e_fa' fa208_3 (ev_t rfl)) ?_))
     refine .t _ (e_ldb1 (ev_t rfl) ty4 (bx rfl rfl) rfl) ?_
     refine .t (VB (true)) (e_un (ev_t rfl) rfl) ?_
     refine .m rfl ?_
     refine .t _ (e_fa' fa59_5 (ev_t rfl)) ?_
     refine .t _ (e_ldb1 (ev_t rfl) ty3 (bx rfl rfl) rfl) ?_
     refine .t (VB (decide (e_.ref ≠ 0))) (e_neK (ev_t rfl) rfl) ?_
     refine .t (VB (decide (e_.ref ≠ 0))) (e_pick (t := true) (ev_t rfl) (ev_t rfl)) ?_
     refine .a rfl ?_
     refine .nil ?_
     refine CdOK.condD (ev_t rfl) ?_ ?_
     ·intro c111; replace hm := hm.ifp c111
      refine .skip ?_
      refine CdOK.condD (ev_t rfl) ?_ ?_
      ·intro c112; replace hm := hm.ifp c112
       refine .seq (.region (.t (VB (false)) (e_as rfl) ?_))
       refine .nil ?_
       refine CdOK.ret ?_
       refine ⟨.inr rfl, _, rfl, h, _, _, rfl, rfl, hC, ((renFlV rfl) : RenV _ _ _ _ (VB (false))), ?_⟩
       have hr := hm.ret; replace hr := Ev.ret hr; cases hr; exact ⟨rfl, rfl⟩
      intro c113; replace hm := hm.ifn c113
      refine .skip ?_
      refine .id ?_
      exact ⟨(), hm.ret, (.cons rfl (.cons rfl .nil)), rfl⟩
     intro c114; replace hm := hm.ifn c114
     refine .region (.t _ (e_fa' fa208_4 (ev_t rfl)) ?_)
     refine .t _ (e_ldb1 (ev_t rfl) ty4 (bx rfl rfl) rfl) ?_
     refine .t (VB (true)) (e_un (ev_t rfl) rfl) ?_
     refine .m rfl ?_
     refine .t _ (e_fa' fa59_7 (ev_t rfl)) ?_
     refine .t _ (e_ldb1 (ev_t rfl) ty9 (bx rfl rfl) rfl) ?_
     refine .t (VB ((!((e_.blob).toList == (({ data := #[] } : ByteArray)).toList)))) (e_bin (ev_t rfl) rfl rfl rfl) ?_
     refine .t (VB ((!((e_.blob).toList == (({ data := #[] } : ByteArray)).toList)))) (e_pick (t := true) (ev_t rfl) (ev_t rfl)) ?_
     refine .a rfl ?_
     refine .nil ?_
     refine CdOK.condB (ev_t rfl) ?_ ?_
     ·intro c115; replace hm := hm.ifp c115
      refine .seq (.region (.t (VB (false)) (e_as rfl) ?_))
      refine .nil ?_
      refine CdOK.ret ?_
      refine ⟨.inr rfl, _, rfl, h, _, _, rfl, rfl, hC, ((renFlV rfl) : RenV _ _ _ _ (VB (false))), ?_⟩
      have hr := hm.ret; replace hr := Ev.ret hr; cases hr; exact ⟨rfl, rfl⟩
     intro c116; replace hm := hm.ifn c116
     refine .skip ?_
     refine .id ?_
     exact ⟨(), hm.ret, (.cons rfl (.cons rfl .nil)), rfl⟩
    intro _ T0 hm
    show CdOK _ _ _ (look T0 [(1, .o (.c (.ptr (h.length + 0) 0))), (3, .o (.c (.ptr (h.length + 1) 0)))]) (h ++ ([⟨[I (e_.lsn), I (e_.kind_), I (e_.tx), I (e_.prevTx), I (e_.prevPage), I (e_.ref), I (e_.change.page), I (e_.change.slot), Bo (e_.change.before.set_), .v (.string e_.change.before.data), Bo (e_.change.after.set_), .v (.string e_.change.after.data), .v (.string e_.blob)], true, true⟩, ⟨[Bo true, Bo true, Bo false, Bo false, Bo false, .fn 203 [], .fn 204 []], true, true⟩] : Heap)) _
    replace hm : Ev _ _ := hm
    refine .seq (.region (.t _ (e_fa' fa59_7 (ev_t rfl)) ?_))
    refine .t _ (e_ldb1 (ev_t rfl) ty9 (bx rfl rfl) rfl) ?_
    refine .t (VI ((e_.blob.size : Int))) (e_lenS' (ev_t rfl) str9) ?_
    refine .sd rfl rfl rfl (e_bin (ev_t rfl) rfl rfl rfl) ?_ ?_
    ·intro c118; replace hm := hm.ifp c118
     refine .m rfl ?_
     refine .t _ (e_fa' fa208_5 (ev_t rfl)) ?_
     refine .t _ (e_ldb1 (ev_t rfl) ty132 (bx rfl rfl) rfl) ?_
     refine .t _ (e_ldbA (ev_t rfl) ty59 (bx rfl rfl) rfl rfl) ?_
     obtain ⟨x119, e119, hm⟩ := hm.call
     cases x119 with
     | true =>
      replace hm := hm.ifp rfl
      refine .cl rfl rfl rfl rfl pl203 (R2.wk _) (entry_rules1_ok    e119) ?_
      rintro _ _ ⟨rfl, rfl⟩
      refine .t (VB (true)) (e_pick (t := true) (ev_t rfl) (ev_t rfl)) ?_
      refine .m rfl ?_
      refine .t _ (e_fa' fa208_6 (ev_t rfl)) ?_
      refine .t _ (e_ldb1 (ev_t rfl) ty206 (bx rfl rfl) rfl) ?_
      refine .t _ (e_fa' fa59_6 (ev_t rfl)) ?_
      refine .t _ (e_ldbA (ev_t rfl) ty57 (bx rfl rfl) rfl rfl) ?_
      obtain ⟨x120, e120, hm⟩ := hm.call
      refine .cl rfl rfl rfl rfl pl204 (R2.wk _) (entry_none_ok    e120) ?_
      rintro _ _ ⟨rfl, rfl⟩
      refine .t (VB (x120)) (e_pick (t := true) (ev_t rfl) (ev_t rfl)) ?_
      refine .a rfl ?_
      refine .nil ?_
      refine CdOK.ret ?_
      refine ⟨.inr rfl, _, rfl, h, _, _, rfl, rfl, hC, ((renFlV rfl) : RenV _ _ _ _ (VB (x120))), ?_⟩
      cases hm.ret; exact ⟨rfl, rfl⟩
     | false =>
      replace hm := hm.ifn Bool.false_ne_true
      refine .cl rfl rfl rfl rfl pl203 (R2.wk _) (entry_rules1_ok    e119) ?_
      rintro _ _ ⟨rfl, rfl⟩
      refine .t (VB (false)) (e_pick (t := true) (ev_t rfl) (ev_t rfl)) ?_
      refine .m rfl ?_
      iterate 5 refine .k ?_
      refine .t (VB (false)) (e_pick (t := false) (ev_t rfl) rfl) ?_
      refine .a rfl ?_
      refine .nil ?_
      refine CdOK.ret ?_
      refine ⟨.inr rfl, _, rfl, h, _, _, rfl, rfl, hC, ((renFlV rfl) : RenV _ _ _ _ (VB (false))), ?_⟩
      cases hm.ret; exact ⟨rfl, rfl⟩
    intro c121; replace hm := hm.ifn c121
    refine .m rfl ?_
    iterate 4 refine .k ?_
    refine .t (VB (false)) (e_pick (t := false) (ev_t rfl) rfl) ?_
    refine .m rfl ?_
    iterate 5 refine .k ?_
    refine .t (VB (false)) (e_pick (t := false) (ev_t rfl) rfl) ?_
    refine .a rfl ?_
    refine .nil ?_
    refine CdOK.ret ?_
    refine ⟨.inr rfl, _, rfl, h, _, _, rfl, rfl, hC, ((renFlV rfl) : RenV _ _ _ _ (VB (false))), ?_⟩
    cases hm.ret; exact ⟨rfl, rfl⟩
   replace hm := hm.ifn c98
   by_cases c122 : e_.kind_ = 6
   ·replace hm := hm.ifp c122
    refine .p (.o (.agg [Bo false, Bo false, Bo false, Bo false, Bo true, .fn 203 [], .fn 204 []])) (e_ixK (n := 6) (ev_t rfl) (ev_t rfl) c122 (by kernel_rfl)) ?_
    refine .c (v := .o (.c (.ptr (h.length + 1) 0))) rfl rfl rfl rfl rfl (e_allocN (L' := [⟨[I (e_.lsn), I (e_.kind_), I (e_.tx), I (e_.prevTx), I (e_.prevPage), I (e_.ref), I (e_.change.page), I (e_.change.slot), Bo (e_.change.before.set_), .v (.string e_.change.before.data), Bo (e_.change.after.set_), .v (.string e_.change.after.data), .v (.string e_.blob)], true, true⟩, ⟨[Bo false, Bo false, Bo false, Bo false, Bo false, .v .nilFunc, .v .nilFunc], true, true⟩]) rfl zo208 rfl rfl) (.e rfl rfl (e_ldb1 (ev_t rfl) ty3 (bx rfl rfl) rfl) (.c rfl rfl rfl pl188 (R2.wk _) (entry_rules_ok rfl) .nil)) ?_
    refine .c0 rfl rfl rfl rfl (e_stN (L' := [⟨[I (e_.lsn), I (e_.kind_), I (e_.tx), I (e_.prevTx), I (e_.prevPage), I (e_.ref), I (e_.change.page), I (e_.change.slot), Bo (e_.change.before.set_), .v (.string e_.change.before.data), Bo (e_.change.after.set_), .v (.string e_.change.after.data), .v (.string e_.blob)], true, true⟩, ⟨[Bo false, Bo false, Bo false, Bo false, Bo true, .fn 203 [], .fn 204 []], true, true⟩]) rfl (ev_t rfl) (ev_t rfl) ty208 rfl rfl rfl rfl rfl) (.m (by decide +kernel) (.m (by decide +kernel) .nil)) ?_
    refine .nil ?_
    replace hm := hm.bnd
    refine CdOK.joinE (σ := Unit) (fun s => Sum.inl ()) hm (fun s => [(1, .o (.c (.ptr (h.length + 0) 0))), (3, .o (.c (.ptr (h.length + 1) 0)))]) (fun s => h ++ ([⟨[I (e_.lsn), I (e_.kind_), I (e_.tx), I (e_.prevTx), I (e_.prevPage), I (e_.ref), I (e_.change.page), I (e_.change.slot), Bo (e_.change.before.set_), .v (.string e_.change.before.data), Bo (e_.change.after.set_), .v (.string e_.change.after.data), .v (.string e_.blob)], true, true⟩, ⟨[Bo false, Bo false, Bo false, Bo false, Bo true, .fn 203 [], .fn 204 []], true, true⟩] : Heap)) ?_ ?_
    ·intro hm
     refine .block ?_
     replace hm := hm.bnd
     refine .joinE (σ := Bool) (fun s => s) hm (fun s => [(1, .o (.c (.ptr (h.length + 0) 0))), (3, .o (.c (.ptr (h.length + 1) 0))), (47, VB (s))]) (fun s => h ++ ([⟨[I (e_.lsn), I (e_.kind_), I (e_.tx), I (e_.prevTx), I (e_.prevPage), I (e_.ref), I (e_.change.page), I (e_.change.slot), Bo (e_.change.before.set_), .v (.string e_.change.before.data), Bo (e_.change.after.set_), .v (.string e_.change.after.data), .v (.string e_.blob)], true, true⟩, ⟨[Bo false, Bo false, Bo false, Bo false, Bo true, .fn 203 [], .fn 204 []], true, true⟩] : Heap)) ?_ ?_
     ·intro hm
      refine .seq (.region (.t _ (e_fa' fa208_0 (ev_t rfl)) ?_))
      refine .t _ (e_ldb1 (ev_t rfl) ty4 (bx rfl rfl) rfl) ?_
      refine .m rfl ?_
      iterate 8 refine .k ?_
      refine .t (VB (false)) (e_pick (t := false) (ev_t rfl) rfl) ?_
      refine .a rfl ?_
      refine .nil ?_
      refine CdOK.cond_false rfl ?_
      refine .region (.t _ (e_fa' fa208_1 (ev_t rfl)) ?_)
      refine .t _ (e_ldb1 (ev_t rfl) ty4 (bx rfl rfl) rfl) ?_
      refine .m rfl ?_
      iterate 3 refine .k ?_
      refine .t (VB (false)) (e_pick (t := false) (ev_t rfl) rfl) ?_
      refine .a rfl ?_
      refine .nil (.id ?_)
      exact ⟨false, hm.ret, (.cons rfl (.cons rfl (.cons rfl .nil))), rfl⟩
     rintro t47123 T0 hm
     show CdOK _ _ _ (look T0 [(1, .o (.c (.ptr (h.length + 0) 0))), (3, .o (.c (.ptr (h.length + 1) 0))), (47, VB (t47123))]) (h ++ ([⟨[I (e_.lsn), I (e_.kind_), I (e_.tx), I (e_.prevTx), I (e_.prevPage), I (e_.ref), I (e_.change.page), I (e_.change.slot), Bo (e_.change.before.set_), .v (.string e_.change.before.data), Bo (e_.change.after.set_), .v (.string e_.change.after.data), .v (.string e_.blob)], true, true⟩, ⟨[Bo false, Bo false, Bo false, Bo false, Bo true, .fn 203 [], .fn 204 []], true, true⟩] : Heap)) _
     refine .condB (ev_t rfl) ?_ ?_
     ·intro c125; replace hm := hm.ifp c125
      refine .seq (.region (.t (VB (false)) (e_as rfl) ?_))
      refine .nil ?_
      refine CdOK.ret ?_
      refine ⟨.inr rfl, _, rfl, h, _, _, rfl, rfl, hC, ((renFlV rfl) : RenV _ _ _ _ (VB (false))), ?_⟩
      have hr := hm.ret; replace hr := Ev.ret hr; cases hr; exact ⟨rfl, rfl⟩
     intro c126; replace hm := hm.ifn c126
     iterate 2 refine .seq ?_
     refine .region (.t _ (e_fa' fa208_0 (ev_t rfl)) ?_)
     refine .t _ (e_ldb1 (ev_t rfl) ty4 (bx rfl rfl) rfl) ?_
     refine .t (VB (true)) (e_un (ev_t rfl) rfl) ?_
     refine .m rfl ?_
     refine .t _ (e_fa' fa59_2 (ev_t rfl)) ?_
     refine .t _ (e_ldb1 (ev_t rfl) ty3 (bx rfl rfl) rfl) ?_
     refine .sd rfl rfl rfl (e_neK (ev_t rfl) rfl) ?_ ?_
     ·intro c127; replace hm := hm.ifp c127
      refine .m rfl ?_
      iterate 3 refine .k ?_
      refine .t (VB (true)) (e_pick (t := true) (ev_t rfl) rfl) ?_
      refine .t (VB (true)) (e_pick (t := true) (ev_t rfl) (ev_t rfl)) ?_
      refine .a rfl ?_
      refine .nil ?_
      refine CdOK.cond_true rfl ?_
      refine .skip ?_
      refine CdOK.cond_true rfl ?_
      refine .seq (.region (.t (VB (false)) (e_as rfl) ?_))
      refine .nil ?_
      refine CdOK.ret ?_
      refine ⟨.inr rfl, _, rfl, h, _, _, rfl, rfl, hC, ((renFlV rfl) : RenV _ _ _ _ (VB (false))), ?_⟩
      have hr := hm.ret; replace hr := Ev.ret hr; cases hr; exact ⟨rfl, rfl⟩
     intro c128; replace hm := hm.ifn c128
     refine .m rfl ?_
     refine .t _ (e_fa' fa59_3 (ev_t rfl)) ?_
     refine .t _ (e_ldb1 (ev_t rfl) ty3 (bx rfl rfl) rfl) ?_
     refine .t (VB (decide (e_.prevTx ≠ 0))) (e_neK (ev_t rfl) rfl) ?_
     refine .t (VB (decide (e_.prevTx ≠ 0))) (e_pick (t := false) (ev_t rfl) (ev_t rfl)) ?_
     refine .t (VB (decide (e_.prevTx ≠ 0))) (e_pick (t := true) (ev_t rfl) (ev_t rfl)) ?_
     refine .a rfl ?_
     refine .nil ?_
     refine CdOK.condD (ev_t rfl) ?_ ?_
     ·intro c129; replace hm := hm.ifp c129
      refine .skip ?_
      refine CdOK.condD (ev_t rfl) ?_ ?_
      ·intro c130; replace hm := hm.ifp c130
       refine .seq (.region (.t (VB (false)) (e_as rfl) ?_))
       refine .nil ?_
       refine CdOK.ret ?_
       refine ⟨.inr rfl, _, rfl, h, _, _, rfl, rfl, hC, ((renFlV rfl) : RenV _ _ _ _ (VB (false))), ?_⟩
       have hr := hm.ret; replace hr := Ev.ret hr; cases hr; exact ⟨rfl, rfl⟩
      intro c131; replace hm := hm.ifn c131
      refine .skip ?_
      refine .id ?_
      exact ⟨(), hm.ret, (.cons rfl (.cons rfl .nil)), rfl⟩
     intro c132; replace hm := hm.ifn c132
     refine .seq (.region (.t _ (e_fa' fa208_2 (ev_t rfl)) ?_))
     refine .t _ (e_ldb1 (ev_t rfl) ty4 (bx rfl rfl) rfl) ?_
     refine .t (VB (true)) (e_un (ev_t rfl) rfl) ?_
     refine .m rfl ?_
     refine .t _ (e_fa' fa59_4 (ev_t rfl)) ?_
     refine .t _ (e_ldb1 (ev_t rfl) ty3 (bx rfl rfl) rfl) ?_
     refine .t (VB (decide (e_.prevPage ≠ 0))) (e_neK (ev_t rfl) rfl) ?_
     refine .t (VB (decide (e_.prevPage ≠ 0))) (e_pick (t := true) (ev_t rfl) (ev_t rfl)) ?_
     refine .a rfl ?_
     refine .nil ?_
     refine CdOK.condD (ev_t rfl) ?_ ?_
     ·intro c133; replace hm := hm.ifp c133
      refine .skip ?_
      refine CdOK.condD (ev_t rfl) ?_ ?_
      ·intro c134; replace hm := hm.ifp c134
       refine .seq (.region (.t (VB (false)) (e_as rfl) ?_))
       refine .nil ?_
       refine CdOK.ret ?_
       refine ⟨.inr rfl, _, rfl, h, _, _, rfl, rfl, hC, ((renFlV rfl) : RenV _ _ _ _ (VB (false))), ?_⟩
       have hr := hm.ret; replace hr := Ev.ret hr; cases hr; exact ⟨rfl, rfl⟩
      intro c135; replace hm := hm.ifn c135
      refine .skip ?_
      refine .id ?_
      exact ⟨(), hm.ret, (.cons rfl (.cons rfl .nil)), rfl⟩
     intro c136; replace hm := hm.ifn c136
     refine .seq (.region (.t _ (e_fa' fa208_3 (ev_t rfl)) ?_))
     refine .t _ (e_ldb1 (ev_t rfl) ty4 (bx rfl rfl) rfl) ?_
     refine .t (VB (true)) (e_un (ev_t rfl) rfl) ?_
     refine .m rfl ?_
     refine .t _ (e_fa' fa59_5 (ev_t rfl)) ?_
     refine .t _ (e_ldb1 (ev_t rfl) ty3 (bx rfl rfl) rfl) ?_
     refine .t (VB (decide (e_.ref ≠ 0))) (e_neK (ev_t rfl) rfl) ?_
     refine .t (VB (decide (e_.ref ≠ 0))) (e_pick (t := true) (ev_t rfl) (ev_t rfl)) ?_
     refine .a rfl ?_
     refine .nil ?_
     refine CdOK.condD (ev_t rfl) ?_ ?_
     ·intro c137; replace hm := hm.ifp c137
      refine .skip ?_
      refine CdOK.condD (ev_t rfl) ?_ ?_
      ·intro c138; replace hm := hm.ifp c138
       refine .seq (.region (.t (VB (false)) (e_as rfl) ?_))
       refine .nil ?_
       refine CdOK.ret ?_
       refine ⟨.inr rfl, _, rfl, h, _, _, rfl, rfl, hC, ((renFlV rfl) : RenV _ _ _ _ (VB (false))), ?_⟩
       have hr := hm.ret; replace hr := Ev.ret hr; cases hr; exact ⟨rfl, rfl⟩
      intro c139; replace hm := hm.ifn c139
      refine .skip ?_
      refine .id ?_
      exact ⟨(), hm.ret, (.cons rfl (.cons rfl .nil)), rfl⟩
     intro c140; replace hm := hm.ifn c140
     refine .region (.t _ (e_fa' fa208_4 (ev_t rfl)) ?_)
     refine .t _ (e_ldb1 (ev_t rfl) ty4 (bx rfl rfl) rfl) ?_
     refine .t (VB (false)) (e_un (ev_t rfl) rfl) ?_
     refine .m rfl ?_
     iterate 3 refine .k ?_
     refine .t (VB (false)) (e_pick (t := false) (ev_t rfl) rfl) ?_
     refine .a rfl ?_
     refine .nil ?_
     refine CdOK.cond_false rfl ?_
     refine .skip ?_
     refine .id ?_
     exact ⟨(), hm.ret, (.cons rfl (.cons rfl .nil)), rfl⟩
    intro _ T0 hm
    show CdOK _ _ _ (look T0 [(1, .o (.c (.ptr (h.length + 0) 0))), (3, .o (.c (.ptr (h.length + 1) 0)))]) (h ++ ([⟨[I (e_.lsn), I (e_.kind_), I (e_.tx), I (e_.prevTx), I (e_.prevPage), I (e_.ref), I (e_.change.page), I (e_.change.slot), Bo (e_.change.before.set_), .v (.string e_.change.before.data), Bo (e_.change.after.set_), .v (.string e_.change.after.data), .v (.string e_.blob)], true, true⟩, ⟨[Bo false, Bo false, Bo false, Bo false, Bo true, .fn 203 [], .fn 204 []], true, true⟩] : Heap)) _
    replace hm : Ev _ _ := hm
    refine .seq (.region (.t _ (e_fa' fa59_7 (ev_t rfl)) ?_))
    refine .t _ (e_ldb1 (ev_t rfl) ty9 (bx rfl rfl) rfl) ?_
    refine .t (VI ((e_.blob.size : Int))) (e_lenS' (ev_t rfl) str9) ?_
    refine .sd rfl rfl rfl (e_bin (ev_t rfl) rfl rfl rfl) ?_ ?_
    ·intro c142; replace hm := hm.ifp c142
     refine .m rfl ?_
     refine .t _ (e_fa' fa208_5 (ev_t rfl)) ?_
     refine .t _ (e_ldb1 (ev_t rfl) ty132 (bx rfl rfl) rfl) ?_
     refine .t _ (e_ldbA (ev_t rfl) ty59 (bx rfl rfl) rfl rfl) ?_
     obtain ⟨x143, e143, hm⟩ := hm.call
     cases x143 with
     | true =>
      replace hm := hm.ifp rfl
      refine .cl rfl rfl rfl rfl pl203 (R2.wk _) (entry_rules1_ok    e143) ?_
      rintro _ _ ⟨rfl, rfl⟩
      refine .t (VB (true)) (e_pick (t := true) (ev_t rfl) (ev_t rfl)) ?_
      refine .m rfl ?_
      refine .t _ (e_fa' fa208_6 (ev_t rfl)) ?_
      refine .t _ (e_ldb1 (ev_t rfl) ty206 (bx rfl rfl) rfl) ?_
      refine .t _ (e_fa' fa59_6 (ev_t rfl)) ?_
      refine .t _ (e_ldbA (ev_t rfl) ty57 (bx rfl rfl) rfl rfl) ?_
      obtain ⟨x144, e144, hm⟩ := hm.call
      refine .cl rfl rfl rfl rfl pl204 (R2.wk _) (entry_none_ok    e144) ?_
      rintro _ _ ⟨rfl, rfl⟩
      refine .t (VB (x144)) (e_pick (t := true) (ev_t rfl) (ev_t rfl)) ?_
      refine .a rfl ?_
      refine .nil ?_
      refine CdOK.ret ?_
      refine ⟨.inr rfl, _, rfl, h, _, _, rfl, rfl, hC, ((renFlV rfl) : RenV _ _ _ _ (VB (x144))), ?_⟩
      cases hm.ret; exact ⟨rfl, rfl⟩
     | false =>
      replace hm := hm.ifn Bool.false_ne_true
      refine .cl rfl rfl rfl rfl pl203 (R2.wk _) (entry_rules1_ok    e143) ?_
      rintro _ _ ⟨rfl, rfl⟩
      refine .t (VB (false)) (e_pick (t := true) (ev_t rfl) (ev_t rfl)) ?_
      refine .m rfl ?_
      iterate 5 refine .k ?_
      refine .t (VB (false)) (e_pick (t := false) (ev_t rfl) rfl) ?_
      refine .a rfl ?_
      refine .nil ?_
      refine CdOK.ret ?_
      refine ⟨.inr rfl, _, rfl, h, _, _, rfl, rfl, hC, ((renFlV rfl) : RenV _ _ _ _ (VB (false))), ?_⟩
      cases hm.ret; exact ⟨rfl, rfl⟩
    intro c145; replace hm := hm.ifn c145
    refine .m rfl ?_
    iterate 4 refine .k ?_
    refine .t (VB (false)) (e_pick (t := false) (ev_t rfl) rfl) ?_
    refine .m rfl ?_
    iterate 5 refine .k ?_
    refine .t (VB (false)) (e_pick (t := false) (ev_t rfl) rfl) ?_
    refine .a rfl ?_
    refine .nil ?_
    refine CdOK.ret ?_
    refine ⟨.inr rfl, _, rfl, h, _, _, rfl, rfl, hC, ((renFlV rfl) : RenV _ _ _ _ (VB (false))), ?_⟩
    cases hm.ret; exact ⟨rfl, rfl⟩
   replace hm := hm.ifn c122
   by_cases c146 : e_.kind_ = 7
   ·replace hm := hm.ifp c146
    refine .p (.o (.agg [Bo false, Bo false, Bo false, Bo true, Bo false, .fn 203 [], .fn 207 []])) (e_ixK (n := 7) (ev_t rfl) (ev_t rfl) c146 (by kernel_rfl)) ?_
    refine .c (v := .o (.c (.ptr (h.length + 1) 0))) rfl rfl rfl rfl rfl (e_allocN (L' := [⟨[I (e_.lsn), I (e_.kind_), I (e_.tx), I (e_.prevTx), I (e_.prevPage), I (e_.ref), I (e_.change.page), I (e_.change.slot), Bo (e_.change.before.set_), .v (.string e_.change.before.data), Bo (e_.change.after.set_), .v (.string e_.change.after.data), .v (.string e_.blob)], true, true⟩, ⟨[Bo false, Bo false, Bo false, Bo false, Bo false, .v .nilFunc, .v .nilFunc], true, true⟩]) rfl zo208 rfl rfl) (.e rfl rfl (e_ldb1 (ev_t rfl) ty3 (bx rfl rfl) rfl) (.c rfl rfl rfl pl188 (R2.wk _) (entry_rules_ok rfl) .nil)) ?_
    refine .c0 rfl rfl rfl rfl (e_stN (L' := [⟨[I (e_.lsn), I (e_.kind_), I (e_.tx), I (e_.prevTx), I (e_.prevPage), I (e_.ref), I (e_.change.page), I (e_.change.slot), Bo (e_.change.before.set_), .v (.string e_.change.before.data), Bo (e_.change.after.set_), .v (.string e_.change.after.data), .v (.string e_.blob)], true, true⟩, ⟨[Bo false, Bo false, Bo false, Bo true, Bo false, .fn 203 [], .fn 207 []], true, true⟩]) rfl (ev_t rfl) (ev_t rfl) ty208 rfl rfl rfl rfl rfl) (.m (by decide +kernel) (.m (by decide +kernel) .nil)) ?_
    refine .nil ?_
    replace hm := hm.bnd
    refine CdOK.joinE (σ := Unit) (fun s => Sum.inl ()) hm (fun s => [(1, .o (.c (.ptr (h.length + 0) 0))), (3, .o (.c (.ptr (h.length + 1) 0)))]) (fun s => h ++ ([⟨[I (e_.lsn), I (e_.kind_), I (e_.tx), I (e_.prevTx), I (e_.prevPage), I (e_.ref), I (e_.change.page), I (e_.change.slot), Bo (e_.change.before.set_), .v (.string e_.change.before.data), Bo (e_.change.after.set_), .v (.string e_.change.after.data), .v (.string e_.blob)], true, true⟩, ⟨[Bo false, Bo false, Bo false, Bo true, Bo false, .fn 203 [], .fn 207 []], true, true⟩] : Heap)) ?_ ?_
    ·intro hm
     refine .block ?_
     replace hm := hm.bnd
     refine .joinE (σ := Bool) (fun s => s) hm (fun s => [(1, .o (.c (.ptr (h.length + 0) 0))), (3, .o (.c (.ptr (h.length + 1) 0))), (47, VB (s))]) (fun s => h ++ ([⟨[I (e_.lsn), I (e_.kind_), I (e_.tx), I (e_.prevTx), I (e_.prevPage), I (e_.ref), I (e_.change.page), I (e_.change.slot), Bo (e_.change.before.set_), .v (.string e_.change.before.data), Bo (e_.change.after.set_), .v (.string e_.change.after.data), .v (.string e_.blob)], true, true⟩, ⟨[Bo false, Bo false, Bo false, Bo true, Bo false, .fn 203 [], .fn 207 []], true, true⟩] : Heap)) ?_ ?_
     ·intro hm
      refine .seq (.region (.t _ (e_fa' fa208_0 (ev_t rfl)) ?_))
      refine .t _ (e_ldb1 (ev_t rfl) ty4 (bx rfl rfl) rfl) ?_
      refine .m rfl ?_
      iterate 8 refine .k ?_
      refine .t (VB (false)) (e_pick (t := false) (ev_t rfl) rfl) ?_
      refine .a rfl ?_
      refine .nil ?_
      refine CdOK.cond_false rfl ?_
      refine .region (.t _ (e_fa' fa208_1 (ev_t rfl)) ?_)
      refine .t _ (e_ldb1 (ev_t rfl) ty4 (bx rfl rfl) rfl) ?_
      refine .m rfl ?_
      iterate 3 refine .k ?_
      refine .t (VB (false)) (e_pick (t := false) (ev_t rfl) rfl) ?_
      refine .a rfl ?_
      refine .nil (.id ?_)
      exact ⟨false, hm.ret, (.cons rfl (.cons rfl (.cons rfl .nil))), rfl⟩
     rintro t47147 T0 hm
     show CdOK _ _ _ (look T0 [(1, .o (.c (.ptr (h.length + 0) 0))), (3, .o (.c (.ptr (h.length + 1) 0))), (47, VB (t47147))]) (h ++ ([⟨[I (e_.lsn), I (e_.kind_), I (e_.tx), I (e_.prevTx), I (e_.prevPage), I (e_.ref), I (e_.change.page), I (e_.change.slot), Bo (e_.change.before.set_), .v (.string e_.change.before.data), Bo (e_.change.after.set_), .v (.string e_.change.after.data), .v (.string e_.blob)], true, true⟩, ⟨[Bo false, Bo false, Bo false, Bo true, Bo false, .fn 203 [], .fn 207 []], true, true⟩] : Heap)) _
     refine .condB (ev_t rfl) ?_ ?_
     ·intro c149; replace hm := hm.ifp c149
      refine .seq (.region (.t (VB (false)) (e_as rfl) ?_))
      refine .nil ?_
      refine CdOK.ret ?_
      refine ⟨.inr rfl, _, rfl, h, _, _, rfl, rfl, hC, ((renFlV rfl) : RenV _ _ _ _ (VB (false))), ?_⟩
      have hr := hm.ret; replace hr := Ev.ret hr; cases hr; exact ⟨rfl, rfl⟩
     intro c150; replace hm := hm.ifn c150
     iterate 2 refine .seq ?_
     refine .region (.t _ (e_fa' fa208_0 (ev_t rfl)) ?_)
     refine .t _ (e_ldb1 (ev_t rfl) ty4 (bx rfl rfl) rfl) ?_
     refine .t (VB (true)) (e_un (ev_t rfl) rfl) ?_
     refine .m rfl ?_
     refine .t _ (e_fa' fa59_2 (ev_t rfl)) ?_
     refine .t _ (e_ldb1 (ev_t rfl) ty3 (bx rfl rfl) rfl) ?_
     refine .sd rfl rfl rfl (e_neK (ev_t rfl) rfl) ?_ ?_
     ·intro c151; replace hm := hm.ifp c151
      refine .m rfl ?_
      iterate 3 refine .k ?_
      refine .t (VB (true)) (e_pick (t := true) (ev_t rfl) rfl) ?_
      refine .t (VB (true)) (e_pick (t := true) (ev_t rfl) (ev_t rfl)) ?_
      refine .a rfl ?_
      refine .nil ?_
      refine CdOK.cond_true rfl ?_
      refine .skip ?_
      refine CdOK.cond_true rfl ?_
      refine .seq (.region (.t (VB (false)) (e_as rfl) ?_))
      refine .nil ?_
      refine CdOK.ret ?_
      refine ⟨.inr rfl, _, rfl, h, _, _, rfl, rfl, hC, ((renFlV rfl) : RenV _ _ _ _ (VB (false))), ?_⟩
      have hr := hm.ret; replace hr := Ev.ret hr; cases hr; exact ⟨rfl, rfl⟩
     intro c152; replace hm := hm.ifn c152
     refine .m rfl ?_
     refine .t _ (e_fa' fa59_3 (ev_t rfl)) ?_
     refine .t _ (e_ldb1 (ev_t rfl) ty3 (bx rfl rfl) rfl) ?_
     refine .t (VB (decide (e_.prevTx ≠ 0))) (e_neK (ev_t rfl) rfl) ?_
     refine .t (VB (decide (e_.prevTx ≠ 0))) (e_pick (t := false) (ev_t rfl) (ev_t rfl)) ?_
     refine .t (VB (decide (e_.prevTx ≠ 0))) (e_pick (t := true) (ev_t rfl) (ev_t rfl)) ?_
     refine .a rfl ?_
     refine .nil ?_
     refine CdOK.condD (ev_t rfl) ?_ ?_
     ·intro c153; replace hm := hm.ifp c153
      refine .skip ?_
      refine CdOK.condD (ev_t rfl) ?_ ?_
      ·intro c154; replace hm := hm.ifp c154
       refine .seq (.region (.t (VB (false)) (e_as rfl) ?_))
       refine .nil ?_
       refine CdOK.ret ?_
       refine ⟨.inr rfl, _, rfl, h, _, _, rfl, rfl, hC, ((renFlV rfl) : RenV _ _ _ _ (VB (false))), ?_⟩
       have hr := hm.ret; replace hr := Ev.ret hr; cases hr; exact ⟨rfl, rfl⟩
      intro c155; replace hm := hm.ifn c155
      refine .skip ?_
      refine .id ?_
      exact ⟨(), hm.ret, (.cons rfl (.cons rfl .nil)), rfl⟩
     intro c156; replace hm := hm.ifn c156
     refine .seq (.region (.t _ (e_fa' fa208_2 (ev_t rfl)) ?_))
     refine .t _ (e_ldb1 (ev_t rfl) ty4 (bx rfl rfl) rfl) ?_
     refine .t (VB (true)) (e_un (ev_t rfl) rfl) ?_
     refine .m rfl ?_
     refine .t _ (e_fa' fa59_4 (ev_t rfl)) ?_
     refine .t _ (e_ldb1 (ev_t rfl) ty3 (bx rfl rfl) rfl) ?_
     refine .t (VB (decide (e_.prevPage ≠ 0))) (e_neK (ev_t rfl) rfl) ?_
     refine .t (VB (decide (e_.prevPage ≠ 0))) (e_pick (t := true) (ev_t rfl) (ev_t rfl)) ?_
     refine .a rfl ?_
     refine .nil ?_
     refine CdOK.condD (ev_t rfl) ?_ ?_
     ·intro c157; replace hm := hm.ifp c157
      refine .skip ?_
      refine CdOK.condD (ev_t rfl) ?_ ?_
      ·intro c158; replace hm := hm.ifp c158
       refine .seq (.region (.t (VB (false)) (e_as rfl) ?_))
       refine .nil ?_
       refine CdOK.ret ?_
       refine ⟨.inr rfl, _, rfl, h, _, _, rfl, rfl, hC, ((renFlV rfl) : RenV _ _ _ _ (VB (false))), ?_⟩
       have hr := hm.ret; replace hr := Ev.ret hr; cases hr; exact ⟨rfl, rfl⟩
      intro c159; replace hm := hm.ifn c159
      refine .skip ?_
      refine .id ?_
      exact ⟨(), hm.ret, (.cons rfl (.cons rfl .nil)), rfl⟩
     intro c160; replace hm := hm.ifn c160
     refine .seq (.region (.t _ (e_fa' fa208_3 (ev_t rfl)) ?_))
     refine .t _ (e_ldb1 (ev_t rfl) ty4 (bx rfl rfl) rfl) ?_
     refine .t (VB (false)) (e_un (ev_t rfl) rfl) ?_
     refine .m rfl ?_
     iterate 3 refine .k ?_
     refine .t (VB (false)) (e_pick (t := false) (ev_t rfl) rfl) ?_
     refine .a rfl ?_
     refine .nil ?_
     refine CdOK.cond_false rfl ?_
     refine .region (.t _ (e_fa' fa208_4 (ev_t rfl)) ?_)
     refine .t _ (e_ldb1 (ev_t rfl) ty4 (bx rfl rfl) rfl) ?_
     refine .t (VB (true)) (e_un (ev_t rfl) rfl) ?_
     refine .m rfl ?_
     refine .t _ (e_fa' fa59_7 (ev_t rfl)) ?_
     refine .t _ (e_ldb1 (ev_t rfl) ty9 (bx rfl rfl) rfl) ?_
     refine .t (VB ((!((e_.blob).toList == (({ data := #[] } : ByteArray)).toList)))) (e_bin (ev_t rfl) rfl rfl rfl) ?_
     refine .t (VB ((!((e_.blob).toList == (({ data := #[] } : ByteArray)).toList)))) (e_pick (t := true) (ev_t rfl) (ev_t rfl)) ?_
     refine .a rfl ?_
     refine .nil ?_
     refine CdOK.condB (ev_t rfl) ?_ ?_
     ·intro c161; replace hm := hm.ifp c161
      refine .seq (.region (.t (VB (false)) (e_as rfl) ?_))
      refine .nil ?_
      refine CdOK.ret ?_
      refine ⟨.inr rfl, _, rfl, h, _, _, rfl, rfl, hC, ((renFlV rfl) : RenV _ _ _ _ (VB (false))), ?_⟩
      have hr := hm.ret; replace hr := Ev.ret hr; cases hr; exact ⟨rfl, rfl⟩
     intro c162; replace hm := hm.ifn c162
     refine .skip ?_
     refine .id ?_
     exact ⟨(), hm.ret, (.cons rfl (.cons rfl .nil)), rfl⟩
    intro _ T0 hm
    show CdOK _ _ _ (look T0 [(1, .o (.c (.ptr (h.length + 0) 0))), (3, .o (.c (.ptr (h.length + 1) 0)))]) (h ++ ([⟨[I (e_.lsn), I (e_.kind_), I (e_.tx), I (e_.prevTx), I (e_.prevPage), I (e_.ref), I (e_.change.page), I (e_.change.slot), Bo (e_.change.before.set_), .v (.string e_.change.before.data), Bo (e_.change.after.set_), .v (.string e_.change.after.data), .v (.string e_.blob)], true, true⟩, ⟨[Bo false, Bo false, Bo false, Bo true, Bo false, .fn 203 [], .fn 207 []], true, true⟩] : Heap)) _
    replace hm : Ev _ _ := hm
    refine .seq (.region (.t _ (e_fa' fa59_7 (ev_t rfl)) ?_))
    refine .t _ (e_ldb1 (ev_t rfl) ty9 (bx rfl rfl) rfl) ?_
    refine .t (VI ((e_.blob.size : Int))) (e_lenS' (ev_t rfl) str9) ?_
    refine .sd rfl rfl rfl (e_bin (ev_t rfl) rfl rfl rfl) ?_ ?_
    ·intro c164; replace hm := hm.ifp c164
     refine .m rfl ?_
     refine .t _ (e_fa' fa208_5 (ev_t rfl)) ?_
     refine .t _ (e_ldb1 (ev_t rfl) ty132 (bx rfl rfl) rfl) ?_
     refine .t _ (e_ldbA (ev_t rfl) ty59 (bx rfl rfl) rfl rfl) ?_
     obtain ⟨x165, e165, hm⟩ := hm.call
     cases x165 with
     | true =>
      replace hm := hm.ifp rfl
      refine .cl rfl rfl rfl rfl pl203 (R2.wk _) (entry_rules1_ok    e165) ?_
      rintro _ _ ⟨rfl, rfl⟩
      refine .t (VB (true)) (e_pick (t := true) (ev_t rfl) (ev_t rfl)) ?_
      refine .m rfl ?_
      refine .t _ (e_fa' fa208_6 (ev_t rfl)) ?_
      refine .t _ (e_ldb1 (ev_t rfl) ty206 (bx rfl rfl) rfl) ?_
      refine .t _ (e_fa' fa59_6 (ev_t rfl)) ?_
      refine .t _ (e_ldbA (ev_t rfl) ty57 (bx rfl rfl) rfl rfl) ?_
      obtain ⟨x166, e166, hm⟩ := hm.call
      refine .cl rfl rfl rfl rfl pl207 (R2.wk _) (entry_rules3_ok    e166) ?_
      rintro _ _ ⟨rfl, rfl⟩
      refine .t (VB (x166)) (e_pick (t := true) (ev_t rfl) (ev_t rfl)) ?_
      refine .a rfl ?_
      refine .nil ?_
      refine CdOK.ret ?_
      refine ⟨.inr rfl, _, rfl, h, _, _, rfl, rfl, hC, ((renFlV rfl) : RenV _ _ _ _ (VB (x166))), ?_⟩
      cases hm.ret; exact ⟨rfl, rfl⟩
     | false =>
      replace hm := hm.ifn Bool.false_ne_true
      refine .cl rfl rfl rfl rfl pl203 (R2.wk _) (entry_rules1_ok    e165) ?_
      rintro _ _ ⟨rfl, rfl⟩
      refine .t (VB (false)) (e_pick (t := true) (ev_t rfl) (ev_t rfl)) ?_
      refine .m rfl ?_
      iterate 5 refine .k ?_
      refine .t (VB (false)) (e_pick (t := false) (ev_t rfl) rfl) ?_
      refine .a rfl ?_
      refine .nil ?_
      refine CdOK.ret ?_
      refine ⟨.inr rfl, _, rfl, h, _, _, rfl, rfl, hC, ((renFlV rfl) : RenV _ _ _ _ (VB (false))), ?_⟩
      cases hm.ret; exact ⟨rfl, rfl⟩
    intro c167; replace hm := hm.ifn c167
    refine .m rfl ?_
    iterate 4 refine .k ?_
    refine .t (VB (false)) (e_pick (t := false) (ev_t rfl) rfl) ?_
    refine .m rfl ?_
    iterate 5 refine .k ?_
    refine .t (VB (false)) (e_pick (t := false) (ev_t rfl) rfl) ?_
    refine .a rfl ?_
    refine .nil ?_
    refine CdOK.ret ?_
    refine ⟨.inr rfl, _, rfl, h, _, _, rfl, rfl, hC, ((renFlV rfl) : RenV _ _ _ _ (VB (false))), ?_⟩
    cases hm.ret; exact ⟨rfl, rfl⟩
   replace hm := hm.ifn c146
   by_cases c168 : e_.kind_ = 8
   ·replace hm := hm.ifp c168
    refine .p (.o (.agg [Bo false, Bo false, Bo false, Bo false, Bo true, .fn 203 [], .fn 204 []])) (e_ixK (n := 8) (ev_t rfl) (ev_t rfl) c168 (by kernel_rfl)) ?_
    refine .c (v := .o (.c (.ptr (h.length + 1) 0))) rfl rfl rfl rfl rfl (e_allocN (L' := [⟨[I (e_.lsn), I (e_.kind_), I (e_.tx), I (e_.prevTx), I (e_.prevPage), I (e_.ref), I (e_.change.page), I (e_.change.slot), Bo (e_.change.before.set_), .v (.string e_.change.before.data), Bo (e_.change.after.set_), .v (.string e_.change.after.data), .v (.string e_.blob)], true, true⟩, ⟨[Bo false, Bo false, Bo false, Bo false, Bo false, .v .nilFunc, .v .nilFunc], true, true⟩]) rfl zo208 rfl rfl) (.e rfl rfl (e_ldb1 (ev_t rfl) ty3 (bx rfl rfl) rfl) (.c rfl rfl rfl pl188 (R2.wk _) (entry_rules_ok rfl) .nil)) ?_
    refine .c0 rfl rfl rfl rfl (e_stN (L' := [⟨[I (e_.lsn), I (e_.kind_), I (e_.tx), I (e_.prevTx), I (e_.prevPage), I (e_.ref), I (e_.change.page), I (e_.change.slot), Bo (e_.change.before.set_), .v (.string e_.change.before.data), Bo (e_.change.after.set_), .v (.string e_.change.after.data), .v (.string e_.blob)], true, true⟩, ⟨[Bo false, Bo false, Bo false, Bo false, Bo true, .fn 203 [], .fn 204 []], true, true⟩]) rfl (ev_t rfl) (ev_t rfl) ty208 rfl rfl rfl rfl rfl) (.m (by decide +kernel) (.m (by decide +kernel) .nil)) ?_
    refine .nil ?_
    replace hm := hm.bnd
    refine CdOK.joinE (σ := Unit) (fun s => Sum.inl ()) hm (fun s => [(1, .o (.c (.ptr (h.length + 0) 0))), (3, .o (.c (.ptr (h.length + 1) 0)))]) (fun s => h ++ ([⟨[I (e_.lsn), I (e_.kind_), I (e_.tx), I (e_.prevTx), I (e_.prevPage), I (e_.ref), I (e_.change.page), I (e_.change.slot), Bo (e_.change.before.set_), .v (.string e_.change.before.data), Bo (e_.change.after.set_), .v (.string e_.change.after.data), .v (.string e_.blob)], true, true⟩, ⟨[Bo false, Bo false, Bo false, Bo false, Bo true, .fn 203 [], .fn 204 []], true, true⟩] : Heap)) ?_ ?_
    ·intro hm
     refine .block ?_
     replace hm := hm.bnd
     refine .joinE (σ := Bool) (fun s => s) hm (fun s => [(1, .o (.c (.ptr (h.length + 0) 0))), (3, .o (.c (.ptr (h.length + 1) 0))), (47, VB (s))]) (fun s => h ++ ([⟨[I (e_.lsn), I (e_.kind_), I (e_.tx), I (e_.prevTx), I (e_.prevPage), I (e_.ref), I (e_.change.page), I (e_.change.slot), Bo (e_.change.before.set_), .v (.string e_.change.before.data), Bo (e_.change.after.set_), .v (.string e_.change.after.data), .v (.string e_.blob)], true, true⟩, ⟨[Bo false, Bo false, Bo false, Bo false, Bo true, .fn 203 [], .fn 204 []], true, true⟩] : Heap)) ?_ ?_
     ·intro hm
      refine .seq (.region (.t _ (e_fa' fa208_0 (ev_t rfl)) ?_))
      refine .t _ (e_ldb1 (ev_t rfl) ty4 (bx rfl rfl) rfl) ?_
      refine .m rfl ?_
      iterate 8 refine .k ?_
      refine .t (VB (false)) (e_pick (t := false) (ev_t rfl) rfl) ?_
      refine .a rfl ?_
      refine .nil ?_
      refine CdOK.cond_false rfl ?_
      refine .region (.t _ (e_fa' fa208_1 (ev_t rfl)) ?_)
      refine .t _ (e_ldb1 (ev_t rfl) ty4 (bx rfl rfl) rfl) ?_
      refine .m rfl ?_
      iterate 3 refine .k ?_
      refine .t (VB (false)) (e_pick (t := false) (ev_t rfl) rfl) ?_
      refine .a rfl ?_
      refine .nil (.id ?_)
      exact ⟨false, hm.ret, (.cons rfl (.cons rfl (.cons rfl .nil))), rfl⟩
     rintro t47169 T0 hm
     show CdOK _ _ _ (look T0 [(1, .o (.c (.ptr (h.length + 0) 0))), (3, .o (.c (.ptr (h.length + 1) 0))), (47, VB (t47169))]) (h ++ ([⟨[I (e_.lsn), I (e_.kind_), I (e_.tx), I (e_.prevTx), I (e_.prevPage), I (e_.ref), I (e_.change.page), I (e_.change.slot), Bo (e_.change.before.set_), .v (.string e_.change.before.data), Bo (e_.change.after.set_), .v (.string e_.change.after.data), .v (.string e_.blob)], true, true⟩, ⟨[Bo false, Bo false, Bo false, Bo false, Bo true, .fn 203 [], .fn 204 []], true, true⟩] : Heap)) _
     refine .condB (ev_t rfl) ?_ ?_
     ·intro c171; replace hm := hm.ifp c171
      refine .seq (.region (.t (VB (false)) (e_as rfl) ?_))
      refine .nil ?_
      refine CdOK.ret ?_
      refine ⟨.inr rfl, _, rfl, h, _, _, rfl, rfl, hC, ((renFlV rfl) : RenV _ _ _ _ (VB (false))), ?_⟩
      have hr := hm.ret; replace hr := Ev.ret hr; cases hr; exact ⟨rfl, rfl⟩
     intro c172; replace hm := hm.ifn c172
     iterate 2 refine .seq ?_
     refine .region (.t _ (e_fa' fa208_0 (ev_t rfl)) ?_)
     refine .t _ (e_ldb1 (ev_t rfl) ty4 (bx rfl rfl) rfl) ?_
     refine .t (VB (true)) (e_un (ev_t rfl) rfl) ?_
     refine .m rfl ?_
     refine .t _ (e_fa' fa59_2 (ev_t rfl)) ?_
     refine .t _ (e_ldb1 (ev_t rfl) ty3 (bx rfl rfl) rfl) ?_
     refine .sd rfl rfl rfl (e_neK (ev_t rfl) rfl) ?_ ?_
     ·intro c173; replace hm := hm.ifp c173
      refine .m rfl ?_
      iterate 3 refine .k ?_
      refine .t (VB (true)) (e_pick (t := true) (ev_t rfl) rfl) ?_
      refine .t (VB (true)) (e_pick (t := true) (ev_t rfl) (ev_t rfl)) ?_
      refine .a rfl ?_
      refine .nil ?_
      refine CdOK.cond_true rfl ?_
      refine .skip ?_
      refine CdOK.cond_true rfl ?_
      refine .seq (.region (.t (VB (false)) (e_as rfl) ?_))
      refine .nil ?_
      refine CdOK.ret ?_
      refine ⟨.inr rfl, _, rfl, h, _, _, rfl, rfl, hC, ((renFlV rfl) : RenV _ _ _ _ (VB (false))), ?_⟩
      have hr := hm.ret; replace hr := Ev.ret hr; cases hr; exact ⟨rfl, rfl⟩
     intro c174; replace hm := hm.ifn c174
     refine .m rfl ?_
     refine .t _ (e_fa' fa59_3 (ev_t rfl)) ?_
     refine .t _ (e_ldb1 (ev_t rfl) ty3 (bx rfl rfl) rfl) ?_
     refine .t (VB (decide (e_.prevTx ≠ 0))) (e_neK (ev_t rfl) rfl) ?_
     refine .t (VB (decide (e_.prevTx ≠ 0))) (e_pick (t := false) (ev_t rfl) (ev_t rfl)) ?_
     refine .t (VB (decide (e_.prevTx ≠ 0))) (e_pick (t := true) (ev_t rfl) (ev_t rfl)) ?_
     refine .a rfl ?_
     refine .nil ?_
     refine CdOK.condD (ev_t rfl) ?_ ?_
     ·intro c175; replace hm := hm.ifp c175
      refine .skip ?_
      refine CdOK.condD (ev_t rfl) ?_ ?_
      ·intro c176; replace hm := hm.ifp c176
       refine .seq (.region (.t (VB (false)) (e_as rfl) ?_))
       refine .nil ?_
       refine CdOK.ret ?_
       refine ⟨.inr rfl, _, rfl, h, _, _, rfl, rfl, hC, ((renFlV rfl) : RenV _ _ _ _ (VB (false))), ?_⟩
       have hr := hm.ret; replace hr := Ev.ret hr; cases hr; exact ⟨rfl, rfl⟩
      intro c177; replace hm := hm.ifn c177
      refine .skip ?_
      refine .id ?_
      exact ⟨(), hm.ret, (.cons rfl (.cons rfl .nil)), rfl⟩
     intro c178; replace hm := hm.ifn c178
     refine .seq (.region (.t _ (e_fa' fa208_2 (ev_t rfl)) ?_))
     refine .t _ (e_ldb1 (ev_t rfl) ty4 (bx rfl rfl) rfl) ?_
     refine .t (VB (true)) (e_un (ev_t rfl) rfl) ?_
     refine .m rfl ?_
     refine .t _ (e_fa' fa59_4 (ev_t rfl)) ?_
     refine .t _ (e_ldb1 (ev_t rfl) ty3 (bx rfl rfl) rfl) ?_
     refine .t (VB (decide (e_.prevPage ≠ 0))) (e_neK (ev_t rfl) rfl) ?_
     refine .t (VB (decide (e_.prevPage ≠ 0))) (e_pick (t := true) (ev_t rfl) (ev_t rfl)) ?_
     refine .a rfl ?_
     refine .nil ?_
     refine CdOK.condD (ev_t rfl) ?_ ?_
     ·intro c179; replace hm := hm.ifp c179
      refine .skip ?_
      refine CdOK.condD (ev_t rfl) ?_ ?_
      ·intro c180; replace hm := hm.ifp c180
       refine .seq (.region (.t (VB (false)) (e_as rfl) ?_))
       refine .nil ?_
       refine CdOK.ret ?_
       refine ⟨.inr rfl, _, rfl, h, _, _, rfl, rfl, hC, ((renFlV rfl) : RenV _ _ _ _ (VB (false))), ?_⟩
       have hr := hm.ret; replace hr := Ev.ret hr; cases hr; exact ⟨rfl, rfl⟩
      intro c181; replace hm := hm.ifn c181
      refine .skip ?_
      refine .id ?_
      exact ⟨(), hm.ret, (.cons rfl (.cons rfl .nil)), rfl⟩
     intro c182; replace hm := hm.ifn c182
     refine .seq (.region (.t _ (e_fa' fa208_3 (ev_t rfl)) ?_))
     refine .t _ (e_ldb1 (ev_t rfl) ty4 (bx rfl rfl) rfl) ?_
     refine .t (VB (true)) (e_un (ev_t rfl) rfl) ?_
     refine .m rfl ?_
     refine .t _ (e_fa' fa59_5 (ev_t rfl)) ?_
     refine .t _ (e_ldb1 (ev_t rfl) ty3 (bx rfl rfl) rfl) ?_
     refine .t (VB (decide (e_.ref ≠ 0))) (e_neK (ev_t rfl) rfl) ?_
     refine .t (VB (decide (e_.ref ≠ 0))) (e_pick (t := true) (ev_t rfl) (ev_t rfl)) ?_
     refine .a rfl ?_
     refine .nil ?_
     refine CdOK.condD (ev_t rfl) ?_ ?_
     ·intro c183; replace hm := hm.ifp c183
      refine .skip ?_
      refine CdOK.condD (ev_t rfl) ?_ ?_
      ·intro c184; replace hm := hm.ifp c184
       refine .seq (.region (.t (VB (false)) (e_as rfl) ?_))
       refine .nil ?_
       refine CdOK.ret ?_
       refine ⟨.inr rfl, _, rfl, h, _, _, rfl, rfl, hC, ((renFlV rfl) : RenV _ _ _ _ (VB (false))), ?_⟩
       have hr := hm.ret; replace hr := Ev.ret hr; cases hr; exact ⟨rfl, rfl⟩
      intro c185; replace hm := hm.ifn c185
      refine .skip ?_
      refine .id ?_
      exact ⟨(), hm.ret, (.cons rfl (.cons rfl .nil)), rfl⟩
     intro c186; replace hm := hm.ifn c186
     refine .region (.t _ (e_fa' fa208_4 (ev_t rfl)) ?_)
     refine .t _ (e_ldb1 (ev_t rfl) ty4 (bx rfl rfl) rfl) ?_
     refine .t (VB (false)) (e_un (ev_t rfl) rfl) ?_
     refine .m rfl ?_
     iterate 3 refine .k ?_
     refine .t (VB (false)) (e_pick (t := false) (ev_t rfl) rfl) ?_
     refine .a rfl ?_
     refine .nil ?_
     refine CdOK.cond_false rfl ?_
     refine .skip ?_
     refine .id ?_
     exact ⟨(), hm.ret, (.cons rfl (.cons rfl .nil)), rfl⟩
    intro _ T0 hm
    show CdOK _ _ _ (look T0 [(1, .o (.c (.ptr (h.length + 0) 0))), (3, .o (.c (.ptr (h.length + 1) 0)))]) (h ++ ([⟨[I (e_.lsn), I (e_.kind_), I (e_.tx), I (e_.prevTx), I (e_.prevPage), I (e_.ref), I (e_.change.page), I (e_.change.slot), Bo (e_.change.before.set_), .v (.string e_.change.before.data), Bo (e_.change.after.set_), .v (.string e_.change.after.data), .v (.string e_.blob)], true, true⟩, ⟨[Bo false, Bo false, Bo false, Bo false, Bo true, .fn 203 [], .fn 204 []], true, true⟩] : Heap)) _
    replace hm : Ev _ _ := hm
    refine .seq (.region (.t _ (e_fa' fa59_7 (ev_t rfl)) ?_))
    refine .t _ (e_ldb1 (ev_t rfl) ty9 (bx rfl rfl) rfl) ?_
    refine .t (VI ((e_.blob.size : Int))) (e_lenS' (ev_t rfl) str9) ?_
    refine .sd rfl rfl rfl (e_bin (ev_t rfl) rfl rfl rfl) ?_ ?_
    ·intro c188; replace hm := hm.ifp c188
     refine .m rfl ?_
     refine .t _ (e_fa' fa208_5 (ev_t rfl)) ?_
     refine .t _ (e_ldb1 (ev_t rfl) ty132 (bx rfl rfl) rfl) ?_
     refine .t _ (e_ldbA (ev_t rfl) ty59 (bx rfl rfl) rfl rfl) ?_
     obtain ⟨x189, e189, hm⟩ := hm.call
     cases x189 with
     | true =>
      replace hm := hm.ifp rfl
      refine .cl rfl rfl rfl rfl pl203 (R2.wk _) (entry_rules1_ok    e189) ?_
      rintro _ _ ⟨rfl, rfl⟩
      refine .t (VB (true)) (e_pick (t := true) (ev_t rfl) (ev_t rfl)) ?_
      refine .m rfl ?_
      refine .t _ (e_fa' fa208_6 (ev_t rfl)) ?_
      refine .t _ (e_ldb1 (ev_t rfl) ty206 (bx rfl rfl) rfl) ?_
      refine .t _ (e_fa' fa59_6 (ev_t rfl)) ?_
      refine .t _ (e_ldbA (ev_t rfl) ty57 (bx rfl rfl) rfl rfl) ?_
      obtain ⟨x190, e190, hm⟩ := hm.call
      refine .cl rfl rfl rfl rfl pl204 (R2.wk _) (entry_none_ok    e190) ?_
      rintro _ _ ⟨rfl, rfl⟩
      refine .t (VB (x190)) (e_pick (t := true) (ev_t rfl) (ev_t rfl)) ?_
      refine .a rfl ?_
      refine .nil ?_
      refine CdOK.ret ?_
      refine ⟨.inr rfl, _, rfl, h, _, _, rfl, rfl, hC, ((renFlV rfl) : RenV _ _ _ _ (VB (x190))), ?_⟩
      cases hm.ret; exact ⟨rfl, rfl⟩
     | false =>
      replace hm := hm.ifn Bool.false_ne_true
      refine .cl rfl rfl rfl rfl pl203 (R2.wk _) (entry_rules1_ok    e189) ?_
      rintro _ _ ⟨rfl, rfl⟩
      refine .t (VB (false)) (e_pick (t := true) (ev_t rfl) (ev_t rfl)) ?_
      refine .m rfl ?_
      iterate 5 refine .k ?_
      refine .t (VB (false)) (e_pick (t := false) (ev_t rfl) rfl) ?_
      refine .a rfl ?_
      refine .nil ?_
      refine CdOK.ret ?_
      refine ⟨.inr rfl, _, rfl, h, _, _, rfl, rfl, hC, ((renFlV rfl) : RenV _ _ _ _ (VB (false))), ?_⟩
      cases hm.ret; exact ⟨rfl, rfl⟩
    intro c191; replace hm := hm.ifn c191
    refine .m rfl ?_
    iterate 4 refine .k ?_
    refine .t (VB (false)) (e_pick (t := false) (ev_t rfl) rfl) ?_
    refine .m rfl ?_
    iterate 5 refine .k ?_
    refine .t (VB (false)) (e_pick (t := false) (ev_t rfl) rfl) ?_
    refine .a rfl ?_
    refine .nil ?_
    refine CdOK.ret ?_
    refine ⟨.inr rfl, _, rfl, h, _, _, rfl, rfl, hC, ((renFlV rfl) : RenV _ _ _ _ (VB (false))), ?_⟩
    cases hm.ret; exact ⟨rfl, rfl⟩
   replace hm := hm.ifn c168
   exact (Ev.non hm).elim
  | false =>
   replace hm := hm.ifn Bool.false_ne_true
   refine .cl rfl rfl rfl rfl pl187 (R2.wk _) (entry_before_ok    e10) ?_
   rintro _ _ ⟨rfl, rfl⟩
   refine .t (VB (true)) (e_un (ev_t rfl) rfl) ?_
   refine .t (VB (true)) (e_pick (t := false) (ev_t rfl) (ev_t rfl)) ?_
   refine .m rfl ?_
   iterate 5 refine .k ?_
   refine .t (VB (true)) (e_pick (t := true) (ev_t rfl) rfl) ?_
   refine .nil ?_
   refine CdOK.cond_true rfl ?_
   refine .seq (.region (.t (VB (false)) (e_as rfl) ?_))
   refine .nil ?_
   refine CdOK.ret ?_
   refine ⟨.inr rfl, _, rfl, h, _, _, rfl, rfl, hC, ((renFlV rfl) : RenV _ _ _ _ (VB (false))), ?_⟩
   cases hm.ret; exact ⟨rfl, rfl⟩
 | false =>
  replace hm := hm.ifn Bool.false_ne_true
  refine .cl rfl rfl rfl rfl pl187 (R2.wk _) (entry_before_ok    e9) ?_
  rintro _ _ ⟨rfl, rfl⟩
  refine .t (VB (true)) (e_un (ev_t rfl) rfl) ?_
  refine .t (VB (true)) (e_pick (t := false) (ev_t rfl) (ev_t rfl)) ?_
  refine .m rfl ?_
  iterate 5 refine .k ?_
  refine .t (VB (true)) (e_pick (t := true) (ev_t rfl) rfl) ?_
  refine .m rfl ?_
  iterate 5 refine .k ?_
  refine .t (VB (true)) (e_pick (t := true) (ev_t rfl) rfl) ?_
  refine .nil ?_
  refine CdOK.cond_true rfl ?_
  refine .seq (.region (.t (VB (false)) (e_as rfl) ?_))
  refine .nil ?_
  refine CdOK.ret ?_
  refine ⟨.inr rfl, _, rfl, h, _, _, rfl, rfl, hC, ((renFlV rfl) : RenV _ _ _ _ (VB (false))), ?_⟩
  cases hm.ret; exact ⟨rfl, rfl⟩
end Rv
