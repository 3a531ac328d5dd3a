import Derived.Test.YtnlpkgamglhnbaaRvCmp
set_option linter.unusedVariables false
set_option linter.unusedSimpArgs false
namespace Rv
open Go Go.RowKit Go.Proofs
theorem bl59 : bldf Try.prog 59 [(0, 1), (1, 1), (2, 1), (3, 1), (4, 1), (5, 1), (6, 6), (12, 1)] = true := by decide +kernel
theorem eqs59_r (x y : AEntry) : (eqF [some (x.lsn == y.lsn), some (x.kind_ == y.kind_), some (x.tx == y.tx), some (x.prevTx == y.prevTx), some (x.prevPage == y.prevPage), some (x.ref == y.ref), (eqF [some (x.change.page == y.change.page), some (x.change.slot == y.change.slot), (eqF [some (x.change.before.set_ == y.change.before.set_), some (x.change.before.data == y.change.before.data)]), (eqF [some (x.change.after.set_ == y.change.after.set_), some (x.change.after.data == y.change.after.data)])]), some (x.blob == y.blob)]) = some (decide (x = y)) := by
  have h := (show (eqF [some (x.lsn == y.lsn), some (x.kind_ == y.kind_), some (x.tx == y.tx), some (x.prevTx == y.prevTx), some (x.prevPage == y.prevPage), some (x.ref == y.ref), (eqF [some (x.change.page == y.change.page), some (x.change.slot == y.change.slot), (eqF [some (x.change.before.set_ == y.change.before.set_), some (x.change.before.data == y.change.before.data)]), (eqF [some (x.change.after.set_ == y.change.after.set_), some (x.change.after.data == y.change.after.data)])]), some (x.blob == y.blob)]) = some _ from (eqF_cons (b := _) (eqF_cons (b := _) (eqF_cons (b := _) (eqF_cons (b := _) (eqF_cons (b := _) (eqF_cons (b := _) (eqF_cons2 (eqF_cons (b := _) (eqF_cons (b := _) (eqF_cons2 (eqF_cons (b := _) (eqF_cons (b := _) rfl)) (eqF_cons2 (eqF_cons (b := _) (eqF_cons (b := _) rfl)) rfl)))) (eqF_cons (b := _) rfl)))))))))
  rw [h]
  congr 1
  rw [Bool.eq_iff_iff]
  rcases x with ⟨a1, a2, a3, a4, a5, a6, ⟨a7, a8, ⟨a9, a10⟩, ⟨a11, a12⟩⟩, a13⟩
  rcases y with ⟨b1, b2, b3, b4, b5, b6, ⟨b7, b8, ⟨b9, b10⟩, ⟨b11, b12⟩⟩, b13⟩
  simp only [Bool.and_eq_true, baEq, beq_iff_eq, decide_eq_true_eq, ACell.mk.injEq, AEntry.mk.injEq, Change.mk.injEq, and_true, and_assoc]
theorem eqs59_eql (x y : AEntry) : eEqAgg Try.prog .eql 59 [.int .i64 (x.lsn), .int .i64 (x.kind_), .int .i64 (x.tx), .int .i64 (x.prevTx), .int .i64 (x.prevPage), .int .i64 (x.ref), .int .i64 (x.change.page), .int .i64 (x.change.slot), .bool (x.change.before.set_), .string (x.change.before.data), .bool (x.change.after.set_), .string (x.change.after.data), .string (x.blob)].toArray [.int .i64 (y.lsn), .int .i64 (y.kind_), .int .i64 (y.tx), .int .i64 (y.prevTx), .int .i64 (y.prevPage), .int .i64 (y.ref), .int .i64 (y.change.page), .int .i64 (y.change.slot), .bool (y.change.before.set_), .string (y.change.before.data), .bool (y.change.after.set_), .string (y.change.after.data), .string (y.blob)].toArray = some (.bool (decide (x = y))) := by
  have h : eqS Try.prog Op.maxDepth 59 (.agg [.int .i64 (x.lsn), .int .i64 (x.kind_), .int .i64 (x.tx), .int .i64 (x.prevTx), .int .i64 (x.prevPage), .int .i64 (x.ref), .int .i64 (x.change.page), .int .i64 (x.change.slot), .bool (x.change.before.set_), .string (x.change.before.data), .bool (x.change.after.set_), .string (x.change.after.data), .string (x.blob)].toArray) (.agg [.int .i64 (y.lsn), .int .i64 (y.kind_), .int .i64 (y.tx), .int .i64 (y.prevTx), .int .i64 (y.prevPage), .int .i64 (y.ref), .int .i64 (y.change.page), .int .i64 (y.change.slot), .bool (y.change.before.set_), .string (y.change.before.data), .bool (y.change.after.set_), .string (y.change.after.data), .string (y.blob)].toArray) = (eqF [some (x.lsn == y.lsn), some (x.kind_ == y.kind_), some (x.tx == y.tx), some (x.prevTx == y.prevTx), some (x.prevPage == y.prevPage), some (x.ref == y.ref), (eqF [some (x.change.page == y.change.page), some (x.change.slot == y.change.slot), (eqF [some (x.change.before.set_ == y.change.before.set_), some (x.change.before.data == y.change.before.data)]), (eqF [some (x.change.after.set_ == y.change.after.set_), some (x.change.after.data == y.change.after.data)])]), some (x.blob == y.blob)]) := by kernel_rfl
  unfold eEqAgg
  rw [if_neg (by decide +kernel), h, eqs59_r]
theorem fa55_0 : fadr Try.prog 55 0 0 = true := by decide +kernel
theorem fa55_1 : fadr Try.prog 55 1 1 = true := by decide +kernel
theorem fa57_0 : fadr Try.prog 57 0 0 = true := by decide +kernel
theorem fa57_1 : fadr Try.prog 57 1 1 = true := by decide +kernel
theorem fa57_2 : fadr Try.prog 57 2 2 = true := by decide +kernel
theorem fa57_3 : fadr Try.prog 57 3 4 = true := by decide +kernel
theorem fa59_0 : fadr Try.prog 59 0 0 = true := by decide +kernel
theorem fa59_1 : fadr Try.prog 59 1 1 = true := by decide +kernel
theorem fa59_2 : fadr Try.prog 59 2 2 = true := by decide +kernel
theorem fa59_3 : fadr Try.prog 59 3 3 = true := by decide +kernel
theorem fa59_4 : fadr Try.prog 59 4 4 = true := by decide +kernel
theorem fa59_5 : fadr Try.prog 59 5 5 = true := by decide +kernel
theorem fa59_6 : fadr Try.prog 59 6 6 = true := by decide +kernel
theorem fa59_7 : fadr Try.prog 59 7 12 = true := by decide +kernel
theorem pl170 : plainFn Try.prog 170 = true := by decide +kernel
theorem pl171 : plainFn Try.prog 171 = true := by decide +kernel
theorem pl199 : plainFn Try.prog 199 = true := by decide +kernel
theorem pl212 : plainFn Try.prog 212 = true := by decide +kernel
theorem str9 : strT Try.prog 9 = true := by decide +kernel
theorem ty3 : TyF Try.prog 3 false 1 := .of (by decide +kernel)
theorem ty4 : TyF Try.prog 4 false 1 := .of (by decide +kernel)
theorem ty9 : TyF Try.prog 9 false 1 := .of (by decide +kernel)
theorem ty55 : TyF Try.prog 55 true 2 := .of (by decide +kernel)
theorem ty57 : TyF Try.prog 57 true 6 := .of (by decide +kernel)
theorem ty59 : TyF Try.prog 59 true 13 := .of (by decide +kernel)
theorem zo59 : zeroOf Try.prog 59 = some ([.v (.int .i64 0)] ++ [.v (.int .i64 0)] ++ [.v (.int .i64 0)] ++ [.v (.int .i64 0)] ++ [.v (.int .i64 0)] ++ [.v (.int .i64 0)] ++ [.v (.int .i64 0)] ++ [.v (.int .i64 0)] ++ [Bo false] ++ [.v (.string ⟨#[]⟩)] ++ [Bo false] ++ [.v (.string ⟨#[]⟩)] ++ [.v (.string ⟨#[]⟩)]) := by kernel_rfl
def ref02_ValidCell (c_ : ACell) : Option Bool := (if (c_.data.size : Int) ≤ 12 then (if c_.set_ = true then some true else some ((c_.data).toList == (({ data := #[] } : ByteArray)).toList)) else some false)
theorem ref02_ValidCell_ok {h : Heap} {c_ : ACell}   {r : Bool} (hm : ref02_ValidCell c_ = some r) : FnOK Try.prog 212 [.o (.agg [Bo (c_.set_), .v (.string c_.data)])] h (fun v h' => v = VB (r) ∧ h' = h) := by
 refine FnOK.fin ?_
 refine FnOK.bodyC (N := 16) Try.func212 rfl rfl rfl (fun hC => ?_)
 replace hm := Ev.of hm
 rw [ref02_ValidCell.eq_1] at hm
 show CdOK _ _ _ (look _ [(0, .o (.agg [Bo (c_.set_), .v (.string c_.data)]))]) (h ++ ([] : Heap)) _
 refine .seq (.region (.t (.o (.c (.ptr (h.length + 0) 0))) (e_boxN (L' := [⟨[Bo (c_.set_), .v (.string c_.data)], true, true⟩]) rfl (ev_t rfl) rfl rfl) ?_))
 refine .t (VB (false)) (e_as rfl) ?_
 refine .nil (CdOK.seq (.region (.t _ (e_fa' fa55_1 (ev_t rfl)) ?_)))
 refine .t _ (e_ldb1 (ev_t rfl) ty9 (bx rfl rfl) rfl) ?_
 refine .t (VI ((c_.data.size : Int))) (e_lenS' (ev_t rfl) str9) ?_
 refine .sd rfl rfl rfl (e_bin (ev_t rfl) rfl rfl rfl) ?_ ?_
 ·intro c1; replace hm := hm.ifp c1
  refine .m rfl ?_
  refine .t _ (e_fa' fa55_0 (ev_t rfl)) ?_
  refine .sb rfl rfl rfl (e_ldb1 (ev_t rfl) ty4 (bx rfl rfl) rfl) ?_ ?_
  ·intro c2; replace hm := hm.ifp c2
   refine .m rfl ?_
   iterate 3 refine .k ?_
   refine .t (VB (true)) (e_pick (t := true) (ev_t rfl) rfl) ?_
   refine .t (VB (true)) (e_pick (t := true) (ev_t rfl) (ev_t rfl)) ?_
   refine .a rfl ?_
   refine .nil ?_
   refine CdOK.ret ?_
   refine ⟨.inr rfl, _, rfl, h, _, _, rfl, rfl, hC, ((renFlV rfl) : RenV _ _ _ _ (VB (true))), ?_⟩
   cases hm.ret; exact ⟨rfl, rfl⟩
  intro c3; replace hm := hm.ifn (by rw [c3]; exact Bool.false_ne_true)
  refine .m rfl ?_
  refine .t _ (e_fa' fa55_1 (ev_t rfl)) ?_
  refine .t _ (e_ldb1 (ev_t rfl) ty9 (bx rfl rfl) rfl) ?_
  refine .t (VB (((c_.data).toList == (({ data := #[] } : ByteArray)).toList))) (e_bin (ev_t rfl) rfl rfl rfl) ?_
  refine .t (VB (((c_.data).toList == (({ data := #[] } : ByteArray)).toList))) (e_pick (t := false) (ev_t rfl) (ev_t rfl)) ?_
  refine .t (VB (((c_.data).toList == (({ data := #[] } : ByteArray)).toList))) (e_pick (t := true) (ev_t rfl) (ev_t rfl)) ?_
  refine .a rfl ?_
  refine .nil ?_
  refine CdOK.ret ?_
  refine ⟨.inr rfl, _, rfl, h, _, _, rfl, rfl, hC, ((renFlV rfl) : RenV _ _ _ _ (VB (((c_.data).toList == (({ data := #[] } : ByteArray)).toList)))), ?_⟩
  cases hm.ret; exact ⟨rfl, rfl⟩
 intro c4; replace hm := hm.ifn c4
 refine .m rfl ?_
 iterate 7 refine .k ?_
 refine .t (VB (false)) (e_pick (t := false) (ev_t rfl) rfl) ?_
 refine .a rfl ?_
 refine .nil ?_
 refine CdOK.ret ?_
 refine ⟨.inr rfl, _, rfl, h, _, _, rfl, rfl, hC, ((renFlV rfl) : RenV _ _ _ _ (VB (false))), ?_⟩
 cases hm.ret; exact ⟨rfl, rfl⟩
def ref03_Valid (c_ : Change) : Option Bool := (if 0 ≤ c_.page then (if c_.page < 64 then (if 0 ≤ c_.slot then (if c_.slot < 16 then ((ref02_ValidCell c_.before).bind fun (x5 : Bool) => (if x5 = true then ((ref02_ValidCell c_.after).bind fun (x6 : Bool) => some x6) else some false)) else some false) else some false) else some false) else some false)
theorem ref03_Valid_ok {h : Heap} {c_ : Change}   {r : Bool} (hm : ref03_Valid c_ = some r) : FnOK Try.prog 199 [.o (.agg [I (c_.page), I (c_.slot), Bo (c_.before.set_), .v (.string c_.before.data), Bo (c_.after.set_), .v (.string c_.after.data)])] h (fun v h' => v = VB (r) ∧ h' = h) := by
 refine FnOK.fin ?_
 refine FnOK.bodyC (N := 31) Try.func199 rfl rfl rfl (fun hC => ?_)
 replace hm := Ev.of hm
 rw [ref03_Valid.eq_1] at hm
 show CdOK _ _ _ (look _ [(0, .o (.agg [I (c_.page), I (c_.slot), Bo (c_.before.set_), .v (.string c_.before.data), Bo (c_.after.set_), .v (.string c_.after.data)]))]) (h ++ ([] : Heap)) _
 refine .seq (.region (.t (.o (.c (.ptr (h.length + 0) 0))) (e_boxN (L' := [⟨[I (c_.page), I (c_.slot), Bo (c_.before.set_), .v (.string c_.before.data), Bo (c_.after.set_), .v (.string c_.after.data)], true, true⟩]) rfl (ev_t rfl) rfl rfl) ?_))
 refine .t (VB (false)) (e_as rfl) ?_
 refine .nil (CdOK.seq (.region (.t _ (e_fa' fa57_0 (ev_t rfl)) ?_)))
 refine .t _ (e_ldb1 (ev_t rfl) ty3 (bx rfl rfl) rfl) ?_
 refine .sd rfl rfl rfl (e_bin (ev_t rfl) rfl rfl rfl) ?_ ?_
 ·intro c1; replace hm := hm.ifp c1
  refine .m rfl ?_
  refine .t _ (e_fa' fa57_0 (ev_t rfl)) ?_
  refine .t _ (e_ldb1 (ev_t rfl) ty3 (bx rfl rfl) rfl) ?_
  refine .sd rfl rfl rfl (e_bin (ev_t rfl) rfl rfl rfl) ?_ ?_
  ·intro c2; replace hm := hm.ifp c2
   refine .t (VB (true)) (e_pick (t := true) (ev_t rfl) (ev_t rfl)) ?_
   refine .m rfl ?_
   refine .t _ (e_fa' fa57_1 (ev_t rfl)) ?_
   refine .t _ (e_ldb1 (ev_t rfl) ty3 (bx rfl rfl) rfl) ?_
   refine .sd rfl rfl rfl (e_bin (ev_t rfl) rfl rfl rfl) ?_ ?_
   ·intro c3; replace hm := hm.ifp c3
    refine .t (VB (true)) (e_pick (t := true) (ev_t rfl) (ev_t rfl)) ?_
    refine .m rfl ?_
    refine .t _ (e_fa' fa57_1 (ev_t rfl)) ?_
    refine .t _ (e_ldb1 (ev_t rfl) ty3 (bx rfl rfl) rfl) ?_
    refine .sd rfl rfl rfl (e_bin (ev_t rfl) rfl rfl rfl) ?_ ?_
    ·intro c4; replace hm := hm.ifp c4
     refine .t (VB (true)) (e_pick (t := true) (ev_t rfl) (ev_t rfl)) ?_
     refine .m rfl ?_
     refine .t _ (e_fa' fa57_2 (ev_t rfl)) ?_
     refine .t _ (e_ldbA (ev_t rfl) ty55 (bx rfl rfl) rfl rfl) ?_
     obtain ⟨x5, e5, hm⟩ := hm.call
     cases x5 with
     | true =>
      replace hm := hm.ifp rfl
      refine .cl rfl rfl rfl rfl pl212 (R2.wk _) (ref02_ValidCell_ok    e5) ?_
      rintro _ _ ⟨rfl, rfl⟩
      refine .t (VB (true)) (e_pick (t := true) (ev_t rfl) (ev_t rfl)) ?_
      refine .m rfl ?_
      refine .t _ (e_fa' fa57_3 (ev_t rfl)) ?_
      refine .t _ (e_ldbA (ev_t rfl) ty55 (bx rfl rfl) rfl rfl) ?_
      obtain ⟨x6, e6, hm⟩ := hm.call
      refine .cl rfl rfl rfl rfl pl212 (R2.wk _) (ref02_ValidCell_ok    e6) ?_
      rintro _ _ ⟨rfl, rfl⟩
      refine .t (VB (x6)) (e_pick (t := true) (ev_t rfl) (ev_t rfl)) ?_
      refine .a rfl ?_
      refine .nil ?_
      refine CdOK.ret ?_
      refine ⟨.inr rfl, _, rfl, h, _, _, rfl, rfl, hC, ((renFlV rfl) : RenV _ _ _ _ (VB (x6))), ?_⟩
      cases hm.ret; exact ⟨rfl, rfl⟩
     | false =>
      replace hm := hm.ifn Bool.false_ne_true
      refine .cl rfl rfl rfl rfl pl212 (R2.wk _) (ref02_ValidCell_ok    e5) ?_
      rintro _ _ ⟨rfl, rfl⟩
      refine .t (VB (false)) (e_pick (t := true) (ev_t rfl) (ev_t rfl)) ?_
      refine .m rfl ?_
      iterate 3 refine .k ?_
      refine .t (VB (false)) (e_pick (t := false) (ev_t rfl) rfl) ?_
      refine .a rfl ?_
      refine .nil ?_
      refine CdOK.ret ?_
      refine ⟨.inr rfl, _, rfl, h, _, _, rfl, rfl, hC, ((renFlV rfl) : RenV _ _ _ _ (VB (false))), ?_⟩
      cases hm.ret; exact ⟨rfl, rfl⟩
    intro c7; replace hm := hm.ifn c7
    refine .t (VB (false)) (e_pick (t := true) (ev_t rfl) (ev_t rfl)) ?_
    refine .m rfl ?_
    iterate 3 refine .k ?_
    refine .t (VB (false)) (e_pick (t := false) (ev_t rfl) rfl) ?_
    refine .m rfl ?_
    iterate 3 refine .k ?_
    refine .t (VB (false)) (e_pick (t := false) (ev_t rfl) rfl) ?_
    refine .a rfl ?_
    refine .nil ?_
    refine CdOK.ret ?_
    refine ⟨.inr rfl, _, rfl, h, _, _, rfl, rfl, hC, ((renFlV rfl) : RenV _ _ _ _ (VB (false))), ?_⟩
    cases hm.ret; exact ⟨rfl, rfl⟩
   intro c8; replace hm := hm.ifn c8
   refine .t (VB (false)) (e_pick (t := true) (ev_t rfl) (ev_t rfl)) ?_
   refine .m rfl ?_
   iterate 3 refine .k ?_
   refine .t (VB (false)) (e_pick (t := false) (ev_t rfl) rfl) ?_
   refine .m rfl ?_
   iterate 3 refine .k ?_
   refine .t (VB (false)) (e_pick (t := false) (ev_t rfl) rfl) ?_
   refine .m rfl ?_
   iterate 3 refine .k ?_
   refine .t (VB (false)) (e_pick (t := false) (ev_t rfl) rfl) ?_
   refine .a rfl ?_
   refine .nil ?_
   refine CdOK.ret ?_
   refine ⟨.inr rfl, _, rfl, h, _, _, rfl, rfl, hC, ((renFlV rfl) : RenV _ _ _ _ (VB (false))), ?_⟩
   cases hm.ret; exact ⟨rfl, rfl⟩
  intro c9; replace hm := hm.ifn c9
  refine .t (VB (false)) (e_pick (t := true) (ev_t rfl) (ev_t rfl)) ?_
  refine .m rfl ?_
  iterate 3 refine .k ?_
  refine .t (VB (false)) (e_pick (t := false) (ev_t rfl) rfl) ?_
  refine .m rfl ?_
  iterate 3 refine .k ?_
  refine .t (VB (false)) (e_pick (t := false) (ev_t rfl) rfl) ?_
  refine .m rfl ?_
  iterate 3 refine .k ?_
  refine .t (VB (false)) (e_pick (t := false) (ev_t rfl) rfl) ?_
  refine .m rfl ?_
  iterate 3 refine .k ?_
  refine .t (VB (false)) (e_pick (t := false) (ev_t rfl) rfl) ?_
  refine .a rfl ?_
  refine .nil ?_
  refine CdOK.ret ?_
  refine ⟨.inr rfl, _, rfl, h, _, _, rfl, rfl, hC, ((renFlV rfl) : RenV _ _ _ _ (VB (false))), ?_⟩
  cases hm.ret; exact ⟨rfl, rfl⟩
 intro c10; replace hm := hm.ifn c10
 refine .m rfl ?_
 iterate 3 refine .k ?_
 refine .t (VB (false)) (e_pick (t := false) (ev_t rfl) rfl) ?_
 refine .m rfl ?_
 iterate 3 refine .k ?_
 refine .t (VB (false)) (e_pick (t := false) (ev_t rfl) rfl) ?_
 refine .m rfl ?_
 iterate 3 refine .k ?_
 refine .t (VB (false)) (e_pick (t := false) (ev_t rfl) rfl) ?_
 refine .m rfl ?_
 iterate 3 refine .k ?_
 refine .t (VB (false)) (e_pick (t := false) (ev_t rfl) rfl) ?_
 refine .m rfl ?_
 iterate 3 refine .k ?_
 refine .t (VB (false)) (e_pick (t := false) (ev_t rfl) rfl) ?_
 refine .a rfl ?_
 refine .nil ?_
 refine CdOK.ret ?_
 refine ⟨.inr rfl, _, rfl, h, _, _, rfl, rfl, hC, ((renFlV rfl) : RenV _ _ _ _ (VB (false))), ?_⟩
 cases hm.ret; exact ⟨rfl, rfl⟩
def ref05_before (n_ : Int) (lsn : Int) : Option Bool := (if 0 ≤ n_ then some (decide (n_ < lsn)) else some false)
theorem ref05_before_ok {h : Heap} {n_ : Int} {lsn : Int}   {r : Bool} (hm : ref05_before n_ lsn = some r) : FnOK Try.prog 171 [VI (n_), VI (lsn)] h (fun v h' => v = VB (r) ∧ h' = h) := by
 refine FnOK.fin ?_
 refine FnOK.bodyC (N := 12) Try.func171 rfl rfl rfl (fun hC => ?_)
 replace hm := Ev.of hm
 rw [ref05_before.eq_1] at hm
 show CdOK _ _ _ (look _ [(0, VI (n_)), (1, VI (lsn))]) (h ++ ([] : Heap)) _
 refine .seq (.region (.t (VB (false)) (e_as rfl) ?_))
 refine .nil (CdOK.seq (.region (.m rfl ?_)))
 refine .sd rfl rfl rfl (e_bin (ev_t rfl) rfl rfl rfl) ?_ ?_
 ·intro c1; replace hm := hm.ifp c1
  iterate 3 refine .m rfl ?_
  refine .t (VB (decide (n_ < lsn))) (e_bin (ev_t rfl) (ev_t rfl) rfl rfl) ?_
  refine .t (VB (decide (n_ < lsn))) (e_pick (t := true) (ev_t rfl) (ev_t rfl)) ?_
  refine .a rfl ?_
  refine .nil ?_
  refine CdOK.ret ?_
  refine ⟨.inr rfl, _, rfl, h, _, _, rfl, rfl, hC, ((renFlV rfl) : RenV _ _ _ _ (VB (decide (n_ < lsn)))), ?_⟩
  cases hm.ret; exact ⟨rfl, rfl⟩
 intro c2; replace hm := hm.ifn c2
 refine .m rfl ?_
 iterate 3 refine .k ?_
 refine .t (VB (false)) (e_pick (t := false) (ev_t rfl) rfl) ?_
 refine .a rfl ?_
 refine .nil ?_
 refine CdOK.ret ?_
 refine ⟨.inr rfl, _, rfl, h, _, _, rfl, rfl, hC, ((renFlV rfl) : RenV _ _ _ _ (VB (false))), ?_⟩
 cases hm.ret; exact ⟨rfl, rfl⟩
def ref05_shape (e_ : AEntry) : Option (AEntry × Bool) := (((if e_.kind_ = 1 then some (decide (e_.kind_ = 1)) else some (decide (e_.kind_ = 2)))).bind fun (s4 : Bool) => (if s4 = true then ((((ref03_Valid e_.change).bind fun (x7 : Bool) => (if x7 = true then some true else some false))).bind fun (s8 : Bool) => (((if e_.kind_ = 2 then (if s8 = true then (if 0 < e_.prevTx then (if 1 ≤ e_.ref then (if e_.ref ≤ e_.prevTx then some (true, (⟨e_.lsn, e_.kind_, e_.tx, e_.prevTx, e_.prevPage, e_.ref, e_.change, (⟨#[]⟩ : ByteArray)⟩ : AEntry)) else some (false, (⟨e_.lsn, e_.kind_, e_.tx, e_.prevTx, e_.prevPage, e_.ref, e_.change, (⟨#[]⟩ : ByteArray)⟩ : AEntry))) else some (false, (⟨e_.lsn, e_.kind_, e_.tx, e_.prevTx, e_.prevPage, e_.ref, e_.change, (⟨#[]⟩ : ByteArray)⟩ : AEntry))) else some (false, (⟨e_.lsn, e_.kind_, e_.tx, e_.prevTx, e_.prevPage, e_.ref, e_.change, (⟨#[]⟩ : ByteArray)⟩ : AEntry))) else some (false, (⟨e_.lsn, e_.kind_, e_.tx, e_.prevTx, e_.prevPage, e_.ref, e_.change, (⟨#[]⟩ : ByteArray)⟩ : AEntry))) else some (s8, (⟨e_.lsn, e_.kind_, e_.tx, e_.prevTx, e_.prevPage, 0, e_.change, (⟨#[]⟩ : ByteArray)⟩ : AEntry)))).bind fun (s21 : (Bool × AEntry)) => (if s21.1 = true then (if 1 ≤ e_.tx then some (s21.2, (decide (e_.tx ≤ 1073741824))) else some (s21.2, false)) else some (s21.2, false)))) else (((if e_.kind_ = 3 then some (decide (e_.kind_ = 3)) else (if e_.kind_ = 4 then some (decide (e_.kind_ = 4)) else some (decide (e_.kind_ = 5))))).bind fun (s32 : Bool) => (if s32 = true then (if 1 ≤ e_.tx then (if e_.tx ≤ 1073741824 then some ((⟨e_.lsn, e_.kind_, e_.tx, e_.prevTx, 0, 0, (⟨0, 0, (⟨false, (⟨#[]⟩ : ByteArray)⟩ : ACell), (⟨false, (⟨#[]⟩ : ByteArray)⟩ : ACell)⟩ : Change), (⟨#[]⟩ : ByteArray)⟩ : AEntry), (decide (0 < e_.prevTx))) else some ((⟨e_.lsn, e_.kind_, e_.tx, e_.prevTx, 0, 0, (⟨0, 0, (⟨false, (⟨#[]⟩ : ByteArray)⟩ : ACell), (⟨false, (⟨#[]⟩ : ByteArray)⟩ : ACell)⟩ : Change), (⟨#[]⟩ : ByteArray)⟩ : AEntry), false)) else some ((⟨e_.lsn, e_.kind_, e_.tx, e_.prevTx, 0, 0, (⟨0, 0, (⟨false, (⟨#[]⟩ : ByteArray)⟩ : ACell), (⟨false, (⟨#[]⟩ : ByteArray)⟩ : ACell)⟩ : Change), (⟨#[]⟩ : ByteArray)⟩ : AEntry), false)) else (((if e_.kind_ = 6 then some (decide (e_.kind_ = 6)) else some (decide (e_.kind_ = 8)))).bind fun (s42 : Bool) => (if s42 = true then some ((⟨e_.lsn, e_.kind_, 0, 0, 0, 0, (⟨0, 0, (⟨false, (⟨#[]⟩ : ByteArray)⟩ : ACell), (⟨false, (⟨#[]⟩ : ByteArray)⟩ : ACell)⟩ : Change), e_.blob⟩ : AEntry), (decide ((e_.blob.size : Int) ≤ 8192))) else (if e_.kind_ = 7 then (if 0 ≤ e_.change.page then some ((⟨e_.lsn, e_.kind_, 0, 0, 0, e_.ref, (⟨e_.change.page, 0, (⟨false, (⟨#[]⟩ : ByteArray)⟩ : ACell), (⟨false, (⟨#[]⟩ : ByteArray)⟩ : ACell)⟩ : Change), (⟨#[]⟩ : ByteArray)⟩ : AEntry), (decide (e_.change.page < 64))) else some ((⟨e_.lsn, e_.kind_, 0, 0, 0, e_.ref, (⟨e_.change.page, 0, (⟨false, (⟨#[]⟩ : ByteArray)⟩ : ACell), (⟨false, (⟨#[]⟩ : ByteArray)⟩ : ACell)⟩ : Change), (⟨#[]⟩ : ByteArray)⟩ : AEntry), false)) else some ((⟨e_.lsn, e_.kind_, 0, 0, 0, 0, (⟨0, 0, (⟨false, (⟨#[]⟩ : ByteArray)⟩ : ACell), (⟨false, (⟨#[]⟩ : ByteArray)⟩ : ACell)⟩ : Change), (⟨#[]⟩ : ByteArray)⟩ : AEntry), false))))))))
theorem ref05_shape_ok {h : Heap} {e_ : AEntry}   {r : (AEntry × Bool)} (hm : ref05_shape e_ = some r) : FnOK Try.prog 170 [.o (.agg [I (e_.lsn), I (e_.kind_), I (e_.tx), I (e_.prevTx), I (e_.prevPage), I (e_.ref), I (e_.change.page), I (e_.change.slot), Bo (e_.change.before.set_), .v (.string e_.change.before.data), Bo (e_.change.after.set_), .v (.string e_.change.after.data), .v (.string e_.blob)])] h (fun v h' => v = .tup [.agg [I (r.1.lsn), I (r.1.kind_), I (r.1.tx), I (r.1.prevTx), I (r.1.prevPage), I (r.1.ref), I (r.1.change.page), I (r.1.change.slot), Bo (r.1.change.before.set_), .v (.string r.1.change.before.data), Bo (r.1.change.after.set_), .v (.string r.1.change.after.data), .v (.string r.1.blob)], .c (Bo (r.2))] ∧ h' = h) := by
 refine FnOK.fin ?_
 refine FnOK.bodyC (N := 124) Try.func170 rfl rfl rfl (fun hC => ?_)
 replace hm := Ev.of hm
 rw [ref05_shape.eq_1] at hm
 show CdOK _ _ _ (look _ [(0, .o (.agg [I (e_.lsn), I (e_.kind_), I (e_.tx), I (e_.prevTx), I (e_.prevPage), I (e_.ref), I (e_.change.page), I (e_.change.slot), Bo (e_.change.before.set_), .v (.string e_.change.before.data), Bo (e_.change.after.set_), .v (.string e_.change.after.data), .v (.string e_.blob)]))]) (h ++ ([] : Heap)) _
 refine .seq (.region (.t (.o (.c (.ptr (h.length + 0) 0))) (e_boxN (L' := [⟨[I (e_.lsn), I (e_.kind_), I (e_.tx), I (e_.prevTx), I (e_.prevPage), I (e_.ref), I (e_.change.page), I (e_.change.slot), Bo (e_.change.before.set_), .v (.string e_.change.before.data), Bo (e_.change.after.set_), .v (.string e_.change.after.data), .v (.string e_.blob)], true, true⟩]) rfl (ev_t rfl) rfl rfl) ?_))
 refine .t (.o (.c (.ptr (h.length + 1) 0))) (e_allocN (L' := [⟨[I (e_.lsn), I (e_.kind_), I (e_.tx), I (e_.prevTx), I (e_.prevPage), I (e_.ref), I (e_.change.page), I (e_.change.slot), Bo (e_.change.before.set_), .v (.string e_.change.before.data), Bo (e_.change.after.set_), .v (.string e_.change.after.data), .v (.string e_.blob)], true, true⟩, ⟨[I (0), I (0), I (0), I (0), I (0), I (0), I (0), I (0), Bo false, .v (.string (⟨#[]⟩ : ByteArray)), Bo false, .v (.string (⟨#[]⟩ : ByteArray)), .v (.string (⟨#[]⟩ : ByteArray))], true, true⟩]) rfl zo59 rfl rfl) ?_
 refine .t (VB (false)) (e_as rfl) ?_
 refine .nil (CdOK.seq (.region (.t _ (e_fa' fa59_0 (ev_t rfl)) ?_)))
 refine .t _ (e_ldb1 (ev_t rfl) ty3 (bx rfl rfl) rfl) ?_
 refine .t _ (e_fa' fa59_1 (ev_t rfl)) ?_
 refine .t _ (e_ldb1 (ev_t rfl) ty3 (bx rfl rfl) rfl) ?_
 refine .t (.o (.agg [I (e_.lsn), I (e_.kind_), I (0), I (0), I (0), I (0), I (0), I (0), Bo false, .v (.string (⟨#[]⟩ : ByteArray)), Bo false, .v (.string (⟨#[]⟩ : ByteArray)), .v (.string (⟨#[]⟩ : ByteArray))])) (e_bld (cs := [I (e_.lsn), I (e_.kind_), I (0), I (0), I (0), I (0), I (0), I (0), Bo false, .v (.string (⟨#[]⟩ : ByteArray)), Bo false, .v (.string (⟨#[]⟩ : ByteArray)), .v (.string (⟨#[]⟩ : ByteArray))]) zo59 bl59 rfl rfl) ?_
 refine .t (.o (.c (.ptr (h.length + 2) 0))) (e_allocN (L' := [⟨[I (e_.lsn), I (e_.kind_), I (e_.tx), I (e_.prevTx), I (e_.prevPage), I (e_.ref), I (e_.change.page), I (e_.change.slot), Bo (e_.change.before.set_), .v (.string e_.change.before.data), Bo (e_.change.after.set_), .v (.string e_.change.after.data), .v (.string e_.blob)], true, true⟩, ⟨[I (0), I (0), I (0), I (0), I (0), I (0), I (0), I (0), Bo false, .v (.string (⟨#[]⟩ : ByteArray)), Bo false, .v (.string (⟨#[]⟩ : ByteArray)), .v (.string (⟨#[]⟩ : ByteArray))], true, true⟩, ⟨[I (0), I (0), I (0), I (0), I (0), I (0), I (0), I (0), Bo false, .v (.string (⟨#[]⟩ : ByteArray)), Bo false, .v (.string (⟨#[]⟩ : ByteArray)), .v (.string (⟨#[]⟩ : ByteArray))], true, true⟩]) rfl zo59 rfl rfl) ?_
 refine .s0 rfl rfl (e_stN (L' := [⟨[I (e_.lsn), I (e_.kind_), I (e_.tx), I (e_.prevTx), I (e_.prevPage), I (e_.ref), I (e_.change.page), I (e_.change.slot), Bo (e_.change.before.set_), .v (.string e_.change.before.data), Bo (e_.change.after.set_), .v (.string e_.change.after.data), .v (.string e_.blob)], true, true⟩, ⟨[I (0), I (0), I (0), I (0), I (0), I (0), I (0), I (0), Bo false, .v (.string (⟨#[]⟩ : ByteArray)), Bo false, .v (.string (⟨#[]⟩ : ByteArray)), .v (.string (⟨#[]⟩ : ByteArray))], true, true⟩, ⟨[I (e_.lsn), I (e_.kind_), I (0), I (0), I (0), I (0), I (0), I (0), Bo false, .v (.string (⟨#[]⟩ : ByteArray)), Bo false, .v (.string (⟨#[]⟩ : ByteArray)), .v (.string (⟨#[]⟩ : ByteArray))], true, true⟩]) rfl (ev_t rfl) (ev_t rfl) ty59 rfl rfl rfl rfl rfl) ?_
 refine .nil (CdOK.seq (.seq (.region (.t _ (e_fa' fa59_1 (ev_t rfl)) ?_))))
 refine .t _ (e_ldb1 (ev_t rfl) ty3 (bx rfl rfl) rfl) ?_
 refine .nil ?_
 refine CdOK.block ?_
 replace hm := hm.bnd
 refine .joinE (σ := Bool) (fun s => s) hm (fun s => [(1, .o (.c (.ptr (h.length + 0) 0))), (2, .o (.c (.ptr (h.length + 1) 0))), (4, .o (.c (.ptr (h.length + 2) 0))), (12, VI (e_.kind_)), (13, VB (s))]) (fun s => h ++ ([⟨[I (e_.lsn), I (e_.kind_), I (e_.tx), I (e_.prevTx), I (e_.prevPage), I (e_.ref), I (e_.change.page), I (e_.change.slot), Bo (e_.change.before.set_), .v (.string e_.change.before.data), Bo (e_.change.after.set_), .v (.string e_.change.after.data), .v (.string e_.blob)], true, true⟩, ⟨[I (0), I (0), I (0), I (0), I (0), I (0), I (0), I (0), Bo false, .v (.string (⟨#[]⟩ : ByteArray)), Bo false, .v (.string (⟨#[]⟩ : ByteArray)), .v (.string (⟨#[]⟩ : ByteArray))], true, true⟩, ⟨[I (e_.lsn), I (e_.kind_), I (0), I (0), I (0), I (0), I (0), I (0), Bo false, .v (.string (⟨#[]⟩ : ByteArray)), Bo false, .v (.string (⟨#[]⟩ : ByteArray)), .v (.string (⟨#[]⟩ : ByteArray))], true, true⟩] : Heap)) ?_ ?_
 ·intro hm
  refine .seq (.region (.t (VB (decide (e_.kind_ = 1))) (e_eqK (ev_t rfl) rfl) ?_))
  refine .a rfl ?_
  refine .nil ?_
  refine CdOK.condD (ev_t rfl) ?_ ?_
  ·intro c2; replace hm := hm.ifp c2
   refine .skip ?_
   refine .id ?_
   exact ⟨(decide (e_.kind_ = 1)), hm.ret, (.cons rfl (.cons rfl (.cons rfl (.cons rfl (.cons rfl .nil))))), rfl⟩
  intro c3; replace hm := hm.ifn c3
  refine .region (.t (VB (decide (e_.kind_ = 2))) (e_eqK (ev_t rfl) rfl) ?_)
  refine .a rfl ?_
  refine .nil (.id ?_)
  exact ⟨(decide (e_.kind_ = 2)), hm.ret, (.cons rfl (.cons rfl (.cons rfl (.cons rfl (.cons rfl .nil))))), rfl⟩
 rintro t131 T0 hm
 show CdOK _ _ _ (look T0 [(1, .o (.c (.ptr (h.length + 0) 0))), (2, .o (.c (.ptr (h.length + 1) 0))), (4, .o (.c (.ptr (h.length + 2) 0))), (12, VI (e_.kind_)), (13, VB (t131))]) (h ++ ([⟨[I (e_.lsn), I (e_.kind_), I (e_.tx), I (e_.prevTx), I (e_.prevPage), I (e_.ref), I (e_.change.page), I (e_.change.slot), Bo (e_.change.before.set_), .v (.string e_.change.before.data), Bo (e_.change.after.set_), .v (.string e_.change.after.data), .v (.string e_.blob)], true, true⟩, ⟨[I (0), I (0), I (0), I (0), I (0), I (0), I (0), I (0), Bo false, .v (.string (⟨#[]⟩ : ByteArray)), Bo false, .v (.string (⟨#[]⟩ : ByteArray)), .v (.string (⟨#[]⟩ : ByteArray))], true, true⟩, ⟨[I (e_.lsn), I (e_.kind_), I (0), I (0), I (0), I (0), I (0), I (0), Bo false, .v (.string (⟨#[]⟩ : ByteArray)), Bo false, .v (.string (⟨#[]⟩ : ByteArray)), .v (.string (⟨#[]⟩ : ByteArray))], true, true⟩] : Heap)) _
 refine .condB (ev_t rfl) ?_ ?_
 ·intro c5; replace hm := hm.ifp c5
  refine .seq ?_
  refine .draw2 (ord := [0, 1, 2, 3, 4, 5, 6, 7, 8, 9, 10, 11, 12, 13, 14, 15]) (chain := [9, 11, 13, 15]) fol (by decide +kernel) (by decide +kernel) ?_
  refine .p _ (e_fa' fa59_2 (ev_t rfl)) ?_
  refine .q _ (e_ldb1 (ev_t rfl) ty3 (bx rfl rfl) rfl) ?_
  refine .p _ (e_fa' fa59_3 (ev_t rfl)) ?_
  refine .q _ (e_ldb1 (ev_t rfl) ty3 (bx rfl rfl) rfl) ?_
  refine .p _ (e_fa' fa59_4 (ev_t rfl)) ?_
  refine .q _ (e_ldb1 (ev_t rfl) ty3 (bx rfl rfl) rfl) ?_
  refine .p _ (e_fa' fa59_6 (ev_t rfl)) ?_
  refine .q _ (e_ldbA (ev_t rfl) ty57 (bx rfl rfl) rfl rfl) ?_
  refine .p _ (e_fa' fa59_2 (ev_t rfl)) ?_
  refine .c0 rfl rfl rfl rfl (e_stN (L' := [⟨[I (e_.lsn), I (e_.kind_), I (e_.tx), I (e_.prevTx), I (e_.prevPage), I (e_.ref), I (e_.change.page), I (e_.change.slot), Bo (e_.change.before.set_), .v (.string e_.change.before.data), Bo (e_.change.after.set_), .v (.string e_.change.after.data), .v (.string e_.blob)], true, true⟩, ⟨[I (0), I (0), I (0), I (0), I (0), I (0), I (0), I (0), Bo false, .v (.string (⟨#[]⟩ : ByteArray)), Bo false, .v (.string (⟨#[]⟩ : ByteArray)), .v (.string (⟨#[]⟩ : ByteArray))], true, true⟩, ⟨[I (e_.lsn), I (e_.kind_), I (e_.tx), I (0), I (0), I (0), I (0), I (0), Bo false, .v (.string (⟨#[]⟩ : ByteArray)), Bo false, .v (.string (⟨#[]⟩ : ByteArray)), .v (.string (⟨#[]⟩ : ByteArray))], true, true⟩]) rfl (ev_t rfl) (ev_t rfl) ty3 rfl rfl rfl rfl rfl) (.e rfl rfl (e_ldbA (ev_t rfl) ty57 (bx rfl rfl) rfl rfl) (.e rfl rfl (e_ldb1 (ev_t rfl) ty3 (bx rfl rfl) rfl) (.e rfl rfl (e_ldb1 (ev_t rfl) ty3 (bx rfl rfl) rfl) (.m (by decide +kernel) .nil)))) ?_
  refine .p _ (e_fa' fa59_3 (ev_t rfl)) ?_
  refine .c0 rfl rfl rfl rfl (e_stN (L' := [⟨[I (e_.lsn), I (e_.kind_), I (e_.tx), I (e_.prevTx), I (e_.prevPage), I (e_.ref), I (e_.change.page), I (e_.change.slot), Bo (e_.change.before.set_), .v (.string e_.change.before.data), Bo (e_.change.after.set_), .v (.string e_.change.after.data), .v (.string e_.blob)], true, true⟩, ⟨[I (0), I (0), I (0), I (0), I (0), I (0), I (0), I (0), Bo false, .v (.string (⟨#[]⟩ : ByteArray)), Bo false, .v (.string (⟨#[]⟩ : ByteArray)), .v (.string (⟨#[]⟩ : ByteArray))], true, true⟩, ⟨[I (e_.lsn), I (e_.kind_), I (e_.tx), I (e_.prevTx), I (0), I (0), I (0), I (0), Bo false, .v (.string (⟨#[]⟩ : ByteArray)), Bo false, .v (.string (⟨#[]⟩ : ByteArray)), .v (.string (⟨#[]⟩ : ByteArray))], true, true⟩]) rfl (ev_t rfl) (ev_t rfl) ty3 rfl rfl rfl rfl rfl) (.e rfl rfl (e_ldbA (ev_t rfl) ty57 (bx rfl rfl) rfl rfl) (.e rfl rfl (e_ldb1 (ev_t rfl) ty3 (bx rfl rfl) rfl) (.m (by decide +kernel) (.m (by decide +kernel) .nil)))) ?_
  refine .p _ (e_fa' fa59_4 (ev_t rfl)) ?_
  refine .c0 rfl rfl rfl rfl (e_stN (L' := [⟨[I (e_.lsn), I (e_.kind_), I (e_.tx), I (e_.prevTx), I (e_.prevPage), I (e_.ref), I (e_.change.page), I (e_.change.slot), Bo (e_.change.before.set_), .v (.string e_.change.before.data), Bo (e_.change.after.set_), .v (.string e_.change.after.data), .v (.string e_.blob)], true, true⟩, ⟨[I (0), I (0), I (0), I (0), I (0), I (0), I (0), I (0), Bo false, .v (.string (⟨#[]⟩ : ByteArray)), Bo false, .v (.string (⟨#[]⟩ : ByteArray)), .v (.string (⟨#[]⟩ : ByteArray))], true, true⟩, ⟨[I (e_.lsn), I (e_.kind_), I (e_.tx), I (e_.prevTx), I (e_.prevPage), I (0), I (0), I (0), Bo false, .v (.string (⟨#[]⟩ : ByteArray)), Bo false, .v (.string (⟨#[]⟩ : ByteArray)), .v (.string (⟨#[]⟩ : ByteArray))], true, true⟩]) rfl (ev_t rfl) (ev_t rfl) ty3 rfl rfl rfl rfl rfl) (.e rfl rfl (e_ldbA (ev_t rfl) ty57 (bx rfl rfl) rfl rfl) (.m (by decide +kernel) (.m (by decide +kernel) (.m (by decide +kernel) .nil)))) ?_
  refine .p _ (e_fa' fa59_6 (ev_t rfl)) ?_
  refine .c0 rfl rfl rfl rfl (e_stN (L' := [⟨[I (e_.lsn), I (e_.kind_), I (e_.tx), I (e_.prevTx), I (e_.prevPage), I (e_.ref), I (e_.change.page), I (e_.change.slot), Bo (e_.change.before.set_), .v (.string e_.change.before.data), Bo (e_.change.after.set_), .v (.string e_.change.after.data), .v (.string e_.blob)], true, true⟩, ⟨[I (0), I (0), I (0), I (0), I (0), I (0), I (0), I (0), Bo false, .v (.string (⟨#[]⟩ : ByteArray)), Bo false, .v (.string (⟨#[]⟩ : ByteArray)), .v (.string (⟨#[]⟩ : ByteArray))], true, true⟩, ⟨[I (e_.lsn), I (e_.kind_), I (e_.tx), I (e_.prevTx), I (e_.prevPage), I (0), I (e_.change.page), I (e_.change.slot), Bo (e_.change.before.set_), .v (.string e_.change.before.data), Bo (e_.change.after.set_), .v (.string e_.change.after.data), .v (.string (⟨#[]⟩ : ByteArray))], true, true⟩]) rfl (ev_t rfl) (ev_t rfl) ty57 rfl rfl rfl rfl rfl) (.m (by decide +kernel) (.m (by decide +kernel) (.m (by decide +kernel) (.m (by decide +kernel) .nil)))) ?_
  refine .nil ?_
  replace hm := hm.bnd
  refine CdOK.joinE (σ := Bool) (fun s => s) hm (fun s => [(1, .o (.c (.ptr (h.length + 0) 0))), (2, .o (.c (.ptr (h.length + 1) 0))), (4, .o (.c (.ptr (h.length + 2) 0))), (5, VB (s))]) (fun s => h ++ ([⟨[I (e_.lsn), I (e_.kind_), I (e_.tx), I (e_.prevTx), I (e_.prevPage), I (e_.ref), I (e_.change.page), I (e_.change.slot), Bo (e_.change.before.set_), .v (.string e_.change.before.data), Bo (e_.change.after.set_), .v (.string e_.change.after.data), .v (.string e_.blob)], true, true⟩, ⟨[I (0), I (0), I (0), I (0), I (0), I (0), I (0), I (0), Bo false, .v (.string (⟨#[]⟩ : ByteArray)), Bo false, .v (.string (⟨#[]⟩ : ByteArray)), .v (.string (⟨#[]⟩ : ByteArray))], true, true⟩, ⟨[I (e_.lsn), I (e_.kind_), I (e_.tx), I (e_.prevTx), I (e_.prevPage), I (0), I (e_.change.page), I (e_.change.slot), Bo (e_.change.before.set_), .v (.string e_.change.before.data), Bo (e_.change.after.set_), .v (.string e_.change.after.data), .v (.string (⟨#[]⟩ : ByteArray))], true, true⟩] : Heap)) ?_ ?_
  ·intro hm
   refine .region (.t _ (e_fa' fa59_6 (ev_t rfl)) ?_)
   refine .t _ (e_ldbA (ev_t rfl) ty57 (bx rfl rfl) rfl rfl) ?_
   obtain ⟨x7, e7, hm⟩ := hm.call
   cases x7 with
   | true =>
    replace hm := hm.ifp rfl
    refine .cl rfl rfl rfl rfl pl199 (R2.wk _) (ref03_Valid_ok    e7) ?_
    rintro _ _ ⟨rfl, rfl⟩
    refine .a rfl ?_
    refine .nil (.id ?_)
    exact ⟨true, hm.ret, (.cons rfl (.cons rfl (.cons rfl (.cons rfl .nil)))), rfl⟩
   | false =>
    replace hm := hm.ifn Bool.false_ne_true
    refine .cl rfl rfl rfl rfl pl199 (R2.wk _) (ref03_Valid_ok    e7) ?_
    rintro _ _ ⟨rfl, rfl⟩
    refine .a rfl ?_
    refine .nil (.id ?_)
    exact ⟨false, hm.ret, (.cons rfl (.cons rfl (.cons rfl (.cons rfl .nil)))), rfl⟩
  rintro ok6 T0 hm
  show CdOK _ _ _ (look T0 [(1, .o (.c (.ptr (h.length + 0) 0))), (2, .o (.c (.ptr (h.length + 1) 0))), (4, .o (.c (.ptr (h.length + 2) 0))), (5, VB (ok6))]) (h ++ ([⟨[I (e_.lsn), I (e_.kind_), I (e_.tx), I (e_.prevTx), I (e_.prevPage), I (e_.ref), I (e_.change.page), I (e_.change.slot), Bo (e_.change.before.set_), .v (.string e_.change.before.data), Bo (e_.change.after.set_), .v (.string e_.change.after.data), .v (.string e_.blob)], true, true⟩, ⟨[I (0), I (0), I (0), I (0), I (0), I (0), I (0), I (0), Bo false, .v (.string (⟨#[]⟩ : ByteArray)), Bo false, .v (.string (⟨#[]⟩ : ByteArray)), .v (.string (⟨#[]⟩ : ByteArray))], true, true⟩, ⟨[I (e_.lsn), I (e_.kind_), I (e_.tx), I (e_.prevTx), I (e_.prevPage), I (0), I (e_.change.page), I (e_.change.slot), Bo (e_.change.before.set_), .v (.string e_.change.before.data), Bo (e_.change.after.set_), .v (.string e_.change.after.data), .v (.string (⟨#[]⟩ : ByteArray))], true, true⟩] : Heap)) _
  replace hm := hm.bnd
  refine .joinE (σ := (Bool × AEntry)) (fun s => (s.1, s.2)) hm (fun s => [(1, .o (.c (.ptr (h.length + 0) 0))), (2, .o (.c (.ptr (h.length + 1) 0))), (4, .o (.c (.ptr (h.length + 2) 0))), (5, VB (s.1))]) (fun s => h ++ ([⟨[I (e_.lsn), I (e_.kind_), I (e_.tx), I (e_.prevTx), I (e_.prevPage), I (e_.ref), I (e_.change.page), I (e_.change.slot), Bo (e_.change.before.set_), .v (.string e_.change.before.data), Bo (e_.change.after.set_), .v (.string e_.change.after.data), .v (.string e_.blob)], true, true⟩, ⟨[I (0), I (0), I (0), I (0), I (0), I (0), I (0), I (0), Bo false, .v (.string (⟨#[]⟩ : ByteArray)), Bo false, .v (.string (⟨#[]⟩ : ByteArray)), .v (.string (⟨#[]⟩ : ByteArray))], true, true⟩, ⟨[I (s.2.lsn), I (s.2.kind_), I (s.2.tx), I (s.2.prevTx), I (s.2.prevPage), I (s.2.ref), I (s.2.change.page), I (s.2.change.slot), Bo (s.2.change.before.set_), .v (.string s.2.change.before.data), Bo (s.2.change.after.set_), .v (.string s.2.change.after.data), .v (.string s.2.blob)], true, true⟩] : Heap)) ?_ ?_
  ·intro hm
   refine .seq (.region (.t _ (e_fa' fa59_1 (ev_t rfl)) ?_))
   refine .t _ (e_ldb1 (ev_t rfl) ty3 (bx rfl rfl) rfl) ?_
   refine .t (VB (decide (e_.kind_ = 2))) (e_eqK (ev_t rfl) rfl) ?_
   refine .nil ?_
   refine CdOK.condD (ev_t rfl) ?_ ?_
   ·intro c11; replace hm := hm.ifp c11
    refine .seq (.region (.t _ (e_fa' fa59_5 (ev_t rfl)) ?_))
    refine .t _ (e_ldb1 (ev_t rfl) ty3 (bx rfl rfl) rfl) ?_
    refine .t _ (e_fa' fa59_5 (ev_t rfl)) ?_
    refine .s0 rfl rfl (e_stN (L' := [⟨[I (e_.lsn), I (e_.kind_), I (e_.tx), I (e_.prevTx), I (e_.prevPage), I (e_.ref), I (e_.change.page), I (e_.change.slot), Bo (e_.change.before.set_), .v (.string e_.change.before.data), Bo (e_.change.after.set_), .v (.string e_.change.after.data), .v (.string e_.blob)], true, true⟩, ⟨[I (0), I (0), I (0), I (0), I (0), I (0), I (0), I (0), Bo false, .v (.string (⟨#[]⟩ : ByteArray)), Bo false, .v (.string (⟨#[]⟩ : ByteArray)), .v (.string (⟨#[]⟩ : ByteArray))], true, true⟩, ⟨[I (e_.lsn), I (e_.kind_), I (e_.tx), I (e_.prevTx), I (e_.prevPage), I (e_.ref), I (e_.change.page), I (e_.change.slot), Bo (e_.change.before.set_), .v (.string e_.change.before.data), Bo (e_.change.after.set_), .v (.string e_.change.after.data), .v (.string (⟨#[]⟩ : ByteArray))], true, true⟩]) rfl (ev_t rfl) (ev_t rfl) ty3 rfl rfl rfl rfl rfl) ?_
    refine .nil (CdOK.region ?_)
    refine .sb rfl rfl rfl (e_mv (ev_t rfl)) ?_ ?_
    ·intro c12; replace hm := hm.ifp c12
     refine .m rfl ?_
     refine .t _ (e_fa' fa59_3 (ev_t rfl)) ?_
     refine .t _ (e_ldb1 (ev_t rfl) ty3 (bx rfl rfl) rfl) ?_
     refine .sd rfl rfl rfl (e_bin (ev_t rfl) rfl rfl rfl) ?_ ?_
     ·intro c13; replace hm := hm.ifp c13
      refine .t (VB (true)) (e_pick (t := true) (ev_t rfl) (ev_t rfl)) ?_
      refine .m rfl ?_
      refine .t _ (e_fa' fa59_5 (ev_t rfl)) ?_
      refine .t _ (e_ldb1 (ev_t rfl) ty3 (bx rfl rfl) rfl) ?_
      refine .sd rfl rfl rfl (e_bin (ev_t rfl) rfl rfl rfl) ?_ ?_
      ·intro c14; replace hm := hm.ifp c14
       refine .t (VB (true)) (e_pick (t := true) (ev_t rfl) (ev_t rfl)) ?_
       refine .m rfl ?_
       refine .t _ (e_fa' fa59_5 (ev_t rfl)) ?_
       refine .t _ (e_ldb1 (ev_t rfl) ty3 (bx rfl rfl) rfl) ?_
       refine .t _ (e_fa' fa59_3 (ev_t rfl)) ?_
       refine .t _ (e_ldb1 (ev_t rfl) ty3 (bx rfl rfl) rfl) ?_
       refine .sd rfl rfl rfl (e_bin (ev_t rfl) (ev_t rfl) rfl rfl) ?_ ?_
       ·intro c15; replace hm := hm.ifp c15
        refine .t (VB (true)) (e_pick (t := true) (ev_t rfl) (ev_t rfl)) ?_
        refine .a rfl ?_
        refine .nil (.id ?_)
        exact ⟨(true, (⟨e_.lsn, e_.kind_, e_.tx, e_.prevTx, e_.prevPage, e_.ref, e_.change, (⟨#[]⟩ : ByteArray)⟩ : AEntry)), hm.ret, (.cons rfl (.cons rfl (.cons rfl (.cons rfl .nil)))), rfl⟩
       intro c16; replace hm := hm.ifn c16
       refine .t (VB (false)) (e_pick (t := true) (ev_t rfl) (ev_t rfl)) ?_
       refine .a rfl ?_
       refine .nil (.id ?_)
       exact ⟨(false, (⟨e_.lsn, e_.kind_, e_.tx, e_.prevTx, e_.prevPage, e_.ref, e_.change, (⟨#[]⟩ : ByteArray)⟩ : AEntry)), hm.ret, (.cons rfl (.cons rfl (.cons rfl (.cons rfl .nil)))), rfl⟩
      intro c17; replace hm := hm.ifn c17
      refine .t (VB (false)) (e_pick (t := true) (ev_t rfl) (ev_t rfl)) ?_
      refine .m rfl ?_
      iterate 5 refine .k ?_
      refine .t (VB (false)) (e_pick (t := false) (ev_t rfl) rfl) ?_
      refine .a rfl ?_
      refine .nil (.id ?_)
      exact ⟨(false, (⟨e_.lsn, e_.kind_, e_.tx, e_.prevTx, e_.prevPage, e_.ref, e_.change, (⟨#[]⟩ : ByteArray)⟩ : AEntry)), hm.ret, (.cons rfl (.cons rfl (.cons rfl (.cons rfl .nil)))), rfl⟩
     intro c18; replace hm := hm.ifn c18
     refine .t (VB (false)) (e_pick (t := true) (ev_t rfl) (ev_t rfl)) ?_
     refine .m rfl ?_
     iterate 3 refine .k ?_
     refine .t (VB (false)) (e_pick (t := false) (ev_t rfl) rfl) ?_
     refine .m rfl ?_
     iterate 5 refine .k ?_
     refine .t (VB (false)) (e_pick (t := false) (ev_t rfl) rfl) ?_
     refine .a rfl ?_
     refine .nil (.id ?_)
     exact ⟨(false, (⟨e_.lsn, e_.kind_, e_.tx, e_.prevTx, e_.prevPage, e_.ref, e_.change, (⟨#[]⟩ : ByteArray)⟩ : AEntry)), hm.ret, (.cons rfl (.cons rfl (.cons rfl (.cons rfl .nil)))), rfl⟩
    intro c19; replace hm := hm.ifn (by rw [c19]; exact Bool.false_ne_true)
    refine .m rfl ?_
    iterate 3 refine .k ?_
    refine .t (VB (false)) (e_pick (t := false) (ev_t rfl) rfl) ?_
    refine .m rfl ?_
    iterate 3 refine .k ?_
    refine .t (VB (false)) (e_pick (t := false) (ev_t rfl) rfl) ?_
    refine .m rfl ?_
    iterate 5 refine .k ?_
    refine .t (VB (false)) (e_pick (t := false) (ev_t rfl) rfl) ?_
    refine .a rfl ?_
    refine .nil (.id ?_)
    exact ⟨(false, (⟨e_.lsn, e_.kind_, e_.tx, e_.prevTx, e_.prevPage, e_.ref, e_.change, (⟨#[]⟩ : ByteArray)⟩ : AEntry)), hm.ret, (.cons rfl (.cons rfl (.cons rfl (.cons rfl .nil)))), rfl⟩
   intro c20; replace hm := hm.ifn c20
   refine .skip ?_
   refine .id ?_
   exact ⟨(ok6, (⟨e_.lsn, e_.kind_, e_.tx, e_.prevTx, e_.prevPage, 0, e_.change, (⟨#[]⟩ : ByteArray)⟩ : AEntry)), hm.ret, (.cons rfl (.cons rfl (.cons rfl (.cons rfl .nil)))), rfl⟩
  rintro ⟨ok9, bx10⟩ T0 hm
  show CdOK _ _ _ (look T0 [(1, .o (.c (.ptr (h.length + 0) 0))), (2, .o (.c (.ptr (h.length + 1) 0))), (4, .o (.c (.ptr (h.length + 2) 0))), (5, VB (ok9))]) (h ++ ([⟨[I (e_.lsn), I (e_.kind_), I (e_.tx), I (e_.prevTx), I (e_.prevPage), I (e_.ref), I (e_.change.page), I (e_.change.slot), Bo (e_.change.before.set_), .v (.string e_.change.before.data), Bo (e_.change.after.set_), .v (.string e_.change.after.data), .v (.string e_.blob)], true, true⟩, ⟨[I (0), I (0), I (0), I (0), I (0), I (0), I (0), I (0), Bo false, .v (.string (⟨#[]⟩ : ByteArray)), Bo false, .v (.string (⟨#[]⟩ : ByteArray)), .v (.string (⟨#[]⟩ : ByteArray))], true, true⟩, ⟨[I (bx10.lsn), I (bx10.kind_), I (bx10.tx), I (bx10.prevTx), I (bx10.prevPage), I (bx10.ref), I (bx10.change.page), I (bx10.change.slot), Bo (bx10.change.before.set_), .v (.string bx10.change.before.data), Bo (bx10.change.after.set_), .v (.string bx10.change.after.data), .v (.string bx10.blob)], true, true⟩] : Heap)) _
  refine .seq ?_
  refine .draw2 (ord := [0, 1, 2, 3, 4, 5, 6, 7, 8, 9, 10, 11, 12, 13]) (chain := [12]) fol (by decide +kernel) (by decide +kernel) ?_
  refine .q _ (e_ldbA (ev_t rfl) ty59 (bx rfl rfl) rfl rfl) ?_
  refine .sb rfl rfl rfl rfl rfl rfl (e_mv (ev_t rfl)) ?_ ?_
  ·intro c22; replace hm := hm.ifp c22
   refine .p (VB (true)) (e_mv (ev_t rfl)) ?_
   refine .p _ (e_fa' fa59_2 (ev_t rfl)) ?_
   refine .q _ (e_ldb1 (ev_t rfl) ty3 (bx rfl rfl) rfl) ?_
   refine .sd rfl rfl rfl rfl rfl rfl (e_bin (ev_t rfl) rfl rfl rfl) ?_ ?_
   ·intro c23; replace hm := hm.ifp c23
    refine .p (VB (true)) (e_pick (t := true) (ev_t rfl) (ev_t rfl)) ?_
    refine .p (VB (true)) (e_mv (ev_t rfl)) ?_
    refine .p _ (e_fa' fa59_2 (ev_t rfl)) ?_
    refine .q _ (e_ldb1 (ev_t rfl) ty3 (bx rfl rfl) rfl) ?_
    refine .p (VB (decide (e_.tx ≤ 1073741824))) (e_bin (ev_t rfl) rfl rfl rfl) ?_
    refine .p (VB (decide (e_.tx ≤ 1073741824))) (e_pick (t := true) (ev_t rfl) (ev_t rfl)) ?_
    refine .c0 rfl rfl rfl rfl (e_stN (L' := [⟨[I (e_.lsn), I (e_.kind_), I (e_.tx), I (e_.prevTx), I (e_.prevPage), I (e_.ref), I (e_.change.page), I (e_.change.slot), Bo (e_.change.before.set_), .v (.string e_.change.before.data), Bo (e_.change.after.set_), .v (.string e_.change.after.data), .v (.string e_.blob)], true, true⟩, ⟨[I (bx10.lsn), I (bx10.kind_), I (bx10.tx), I (bx10.prevTx), I (bx10.prevPage), I (bx10.ref), I (bx10.change.page), I (bx10.change.slot), Bo (bx10.change.before.set_), .v (.string bx10.change.before.data), Bo (bx10.change.after.set_), .v (.string bx10.change.after.data), .v (.string bx10.blob)], true, true⟩, ⟨[I (bx10.lsn), I (bx10.kind_), I (bx10.tx), I (bx10.prevTx), I (bx10.prevPage), I (bx10.ref), I (bx10.change.page), I (bx10.change.slot), Bo (bx10.change.before.set_), .v (.string bx10.change.before.data), Bo (bx10.change.after.set_), .v (.string bx10.change.after.data), .v (.string bx10.blob)], true, true⟩]) rfl (ev_t rfl) (ev_t rfl) ty59 rfl rfl rfl rfl rfl) (.e rfl rfl (e_ldb1 (ev_t rfl) ty3 (bx rfl rfl) rfl) (.m (by decide +kernel) (.m (by decide +kernel) .nil))) ?_
    refine .p (VB (decide (e_.tx ≤ 1073741824))) (e_as (ev_t rfl)) ?_
    refine .nil ?_
    refine CdOK.ret ?_
    refine ⟨.inr rfl, _, (resA_c (look_find rfl) (eLoad_A ty59 (bx rfl rfl) rfl rfl rfl) (resA_t (look_find rfl) resA_n)), h, _, _, rfl, rfl, hC, ((renFlV rfl) : RenV _ _ _ _ (.tup [.agg [I (bx10.lsn), I (bx10.kind_), I (bx10.tx), I (bx10.prevTx), I (bx10.prevPage), I (bx10.ref), I (bx10.change.page), I (bx10.change.slot), Bo (bx10.change.before.set_), .v (.string bx10.change.before.data), Bo (bx10.change.after.set_), .v (.string bx10.change.after.data), .v (.string bx10.blob)], .c (Bo (decide (e_.tx ≤ 1073741824)))])), ?_⟩
    cases hm.ret; exact ⟨rfl, rfl⟩
   intro c24; replace hm := hm.ifn c24
   refine .p (VB (false)) (e_pick (t := true) (ev_t rfl) (ev_t rfl)) ?_
   refine .p (VB (false)) (e_mv (ev_t rfl)) ?_
   refine .sk rfl rfl rfl rfl rfl rfl ?_
   refine .skf rfl rfl rfl rfl rfl rfl ?_
   refine .sk rfl rfl rfl rfl rfl rfl ?_
   refine .p (VB (false)) (e_pick (t := false) (ev_t rfl) rfl) ?_
   refine .c0 rfl rfl rfl rfl (e_stN (L' := [⟨[I (e_.lsn), I (e_.kind_), I (e_.tx), I (e_.prevTx), I (e_.prevPage), I (e_.ref), I (e_.change.page), I (e_.change.slot), Bo (e_.change.before.set_), .v (.string e_.change.before.data), Bo (e_.change.after.set_), .v (.string e_.change.after.data), .v (.string e_.blob)], true, true⟩, ⟨[I (bx10.lsn), I (bx10.kind_), I (bx10.tx), I (bx10.prevTx), I (bx10.prevPage), I (bx10.ref), I (bx10.change.page), I (bx10.change.slot), Bo (bx10.change.before.set_), .v (.string bx10.change.before.data), Bo (bx10.change.after.set_), .v (.string bx10.change.after.data), .v (.string bx10.blob)], true, true⟩, ⟨[I (bx10.lsn), I (bx10.kind_), I (bx10.tx), I (bx10.prevTx), I (bx10.prevPage), I (bx10.ref), I (bx10.change.page), I (bx10.change.slot), Bo (bx10.change.before.set_), .v (.string bx10.change.before.data), Bo (bx10.change.after.set_), .v (.string bx10.change.after.data), .v (.string bx10.blob)], true, true⟩]) rfl (ev_t rfl) (ev_t rfl) ty59 rfl rfl rfl rfl rfl) (.sk rfl rfl (.m (by decide +kernel) (.m (by decide +kernel) .nil))) ?_
   refine .p (VB (false)) (e_as (ev_t rfl)) ?_
   refine .nil ?_
   refine CdOK.ret ?_
   refine ⟨.inr rfl, _, (resA_c (look_find rfl) (eLoad_A ty59 (bx rfl rfl) rfl rfl rfl) (resA_t (look_find rfl) resA_n)), h, _, _, rfl, rfl, hC, ((renFlV rfl) : RenV _ _ _ _ (.tup [.agg [I (bx10.lsn), I (bx10.kind_), I (bx10.tx), I (bx10.prevTx), I (bx10.prevPage), I (bx10.ref), I (bx10.change.page), I (bx10.change.slot), Bo (bx10.change.before.set_), .v (.string bx10.change.before.data), Bo (bx10.change.after.set_), .v (.string bx10.change.after.data), .v (.string bx10.blob)], .c (Bo false)])), ?_⟩
   cases hm.ret; exact ⟨rfl, rfl⟩
  intro c25; replace hm := hm.ifn (by rw [c25]; exact Bool.false_ne_true)
  refine .p (VB (false)) (e_mv (ev_t rfl)) ?_
  refine .sk rfl rfl rfl rfl rfl rfl ?_
  refine .skf rfl rfl rfl rfl rfl rfl ?_
  refine .sk rfl rfl rfl rfl rfl rfl ?_
  refine .p (VB (false)) (e_pick (t := false) (ev_t rfl) rfl) ?_
  refine .p (VB (false)) (e_mv (ev_t rfl)) ?_
  refine .sk rfl rfl rfl rfl rfl rfl ?_
  refine .skf rfl rfl rfl rfl rfl rfl ?_
  refine .sk rfl rfl rfl rfl rfl rfl ?_
  refine .p (VB (false)) (e_pick (t := false) (ev_t rfl) rfl) ?_
  refine .c0 rfl rfl rfl rfl (e_stN (L' := [⟨[I (e_.lsn), I (e_.kind_), I (e_.tx), I (e_.prevTx), I (e_.prevPage), I (e_.ref), I (e_.change.page), I (e_.change.slot), Bo (e_.change.before.set_), .v (.string e_.change.before.data), Bo (e_.change.after.set_), .v (.string e_.change.after.data), .v (.string e_.blob)], true, true⟩, ⟨[I (bx10.lsn), I (bx10.kind_), I (bx10.tx), I (bx10.prevTx), I (bx10.prevPage), I (bx10.ref), I (bx10.change.page), I (bx10.change.slot), Bo (bx10.change.before.set_), .v (.string bx10.change.before.data), Bo (bx10.change.after.set_), .v (.string bx10.change.after.data), .v (.string bx10.blob)], true, true⟩, ⟨[I (bx10.lsn), I (bx10.kind_), I (bx10.tx), I (bx10.prevTx), I (bx10.prevPage), I (bx10.ref), I (bx10.change.page), I (bx10.change.slot), Bo (bx10.change.before.set_), .v (.string bx10.change.before.data), Bo (bx10.change.after.set_), .v (.string bx10.change.after.data), .v (.string bx10.blob)], true, true⟩]) rfl (ev_t rfl) (ev_t rfl) ty59 rfl rfl rfl rfl rfl) (.sk rfl rfl (.m (by decide +kernel) (.m (by decide +kernel) .nil))) ?_
  refine .p (VB (false)) (e_as (ev_t rfl)) ?_
  refine .nil ?_
  refine CdOK.ret ?_
  refine ⟨.inr rfl, _, (resA_c (look_find rfl) (eLoad_A ty59 (bx rfl rfl) rfl rfl rfl) (resA_t (look_find rfl) resA_n)), h, _, _, rfl, rfl, hC, ((renFlV rfl) : RenV _ _ _ _ (.tup [.agg [I (bx10.lsn), I (bx10.kind_), I (bx10.tx), I (bx10.prevTx), I (bx10.prevPage), I (bx10.ref), I (bx10.change.page), I (bx10.change.slot), Bo (bx10.change.before.set_), .v (.string bx10.change.before.data), Bo (bx10.change.after.set_), .v (.string bx10.change.after.data), .v (.string bx10.blob)], .c (Bo false)])), ?_⟩
  cases hm.ret; exact ⟨rfl, rfl⟩
 intro c26; replace hm := hm.ifn c26
 replace hm := hm.bnd
 refine .joinE (σ := Bool) (fun s => s) hm (fun s => [(1, .o (.c (.ptr (h.length + 0) 0))), (2, .o (.c (.ptr (h.length + 1) 0))), (4, .o (.c (.ptr (h.length + 2) 0))), (12, VI (e_.kind_)), (67, VB (s))]) (fun s => h ++ ([⟨[I (e_.lsn), I (e_.kind_), I (e_.tx), I (e_.prevTx), I (e_.prevPage), I (e_.ref), I (e_.change.page), I (e_.change.slot), Bo (e_.change.before.set_), .v (.string e_.change.before.data), Bo (e_.change.after.set_), .v (.string e_.change.after.data), .v (.string e_.blob)], true, true⟩, ⟨[I (0), I (0), I (0), I (0), I (0), I (0), I (0), I (0), Bo false, .v (.string (⟨#[]⟩ : ByteArray)), Bo false, .v (.string (⟨#[]⟩ : ByteArray)), .v (.string (⟨#[]⟩ : ByteArray))], true, true⟩, ⟨[I (e_.lsn), I (e_.kind_), I (0), I (0), I (0), I (0), I (0), I (0), Bo false, .v (.string (⟨#[]⟩ : ByteArray)), Bo false, .v (.string (⟨#[]⟩ : ByteArray)), .v (.string (⟨#[]⟩ : ByteArray))], true, true⟩] : Heap)) ?_ ?_
 ·intro hm
  refine .seq (.region (.t (VB (decide (e_.kind_ = 3))) (e_eqK (ev_t rfl) rfl) ?_))
  refine .a rfl ?_
  refine .nil ?_
  refine CdOK.condD (ev_t rfl) ?_ ?_
  ·intro c28; replace hm := hm.ifp c28
   refine .skip ?_
   refine .id ?_
   exact ⟨(decide (e_.kind_ = 3)), hm.ret, (.cons rfl (.cons rfl (.cons rfl (.cons rfl (.cons rfl .nil))))), rfl⟩
  intro c29; replace hm := hm.ifn c29
  refine .seq (.region (.t (VB (decide (e_.kind_ = 4))) (e_eqK (ev_t rfl) rfl) ?_))
  refine .a rfl ?_
  refine .nil ?_
  refine CdOK.condD (ev_t rfl) ?_ ?_
  ·intro c30; replace hm := hm.ifp c30
   refine .skip ?_
   refine .id ?_
   exact ⟨(decide (e_.kind_ = 4)), hm.ret, (.cons rfl (.cons rfl (.cons rfl (.cons rfl (.cons rfl .nil))))), rfl⟩
  intro c31; replace hm := hm.ifn c31
  refine .region (.t (VB (decide (e_.kind_ = 5))) (e_eqK (ev_t rfl) rfl) ?_)
  refine .a rfl ?_
  refine .nil (.id ?_)
  exact ⟨(decide (e_.kind_ = 5)), hm.ret, (.cons rfl (.cons rfl (.cons rfl (.cons rfl (.cons rfl .nil))))), rfl⟩
 rintro t6727 T0 hm
 show CdOK _ _ _ (look T0 [(1, .o (.c (.ptr (h.length + 0) 0))), (2, .o (.c (.ptr (h.length + 1) 0))), (4, .o (.c (.ptr (h.length + 2) 0))), (12, VI (e_.kind_)), (67, VB (t6727))]) (h ++ ([⟨[I (e_.lsn), I (e_.kind_), I (e_.tx), I (e_.prevTx), I (e_.prevPage), I (e_.ref), I (e_.change.page), I (e_.change.slot), Bo (e_.change.before.set_), .v (.string e_.change.before.data), Bo (e_.change.after.set_), .v (.string e_.change.after.data), .v (.string e_.blob)], true, true⟩, ⟨[I (0), I (0), I (0), I (0), I (0), I (0), I (0), I (0), Bo false, .v (.string (⟨#[]⟩ : ByteArray)), Bo false, .v (.string (⟨#[]⟩ : ByteArray)), .v (.string (⟨#[]⟩ : ByteArray))], true, true⟩, ⟨[I (e_.lsn), I (e_.kind_), I (0), I (0), I (0), I (0), I (0), I (0), Bo false, .v (.string (⟨#[]⟩ : ByteArray)), Bo false, .v (.string (⟨#[]⟩ : ByteArray)), .v (.string (⟨#[]⟩ : ByteArray))], true, true⟩] : Heap)) _
 refine .condB (ev_t rfl) ?_ ?_
 ·intro c33; replace hm := hm.ifp c33
  refine .seq ?_
  refine .draw2 (ord := [0, 1, 2, 3, 4, 5, 6, 7]) (chain := [5, 7]) fol (by decide +kernel) (by decide +kernel) ?_
  refine .p _ (e_fa' fa59_2 (ev_t rfl)) ?_
  refine .q _ (e_ldb1 (ev_t rfl) ty3 (bx rfl rfl) rfl) ?_
  refine .p _ (e_fa' fa59_3 (ev_t rfl)) ?_
  refine .q _ (e_ldb1 (ev_t rfl) ty3 (bx rfl rfl) rfl) ?_
  refine .p _ (e_fa' fa59_2 (ev_t rfl)) ?_
  refine .c0 rfl rfl rfl rfl (e_stN (L' := [⟨[I (e_.lsn), I (e_.kind_), I (e_.tx), I (e_.prevTx), I (e_.prevPage), I (e_.ref), I (e_.change.page), I (e_.change.slot), Bo (e_.change.before.set_), .v (.string e_.change.before.data), Bo (e_.change.after.set_), .v (.string e_.change.after.data), .v (.string e_.blob)], true, true⟩, ⟨[I (0), I (0), I (0), I (0), I (0), I (0), I (0), I (0), Bo false, .v (.string (⟨#[]⟩ : ByteArray)), Bo false, .v (.string (⟨#[]⟩ : ByteArray)), .v (.string (⟨#[]⟩ : ByteArray))], true, true⟩, ⟨[I (e_.lsn), I (e_.kind_), I (e_.tx), I (0), I (0), I (0), I (0), I (0), Bo false, .v (.string (⟨#[]⟩ : ByteArray)), Bo false, .v (.string (⟨#[]⟩ : ByteArray)), .v (.string (⟨#[]⟩ : ByteArray))], true, true⟩]) rfl (ev_t rfl) (ev_t rfl) ty3 rfl rfl rfl rfl rfl) (.e rfl rfl (e_ldb1 (ev_t rfl) ty3 (bx rfl rfl) rfl) (.m (by decide +kernel) .nil)) ?_
  refine .p _ (e_fa' fa59_3 (ev_t rfl)) ?_
  refine .c0 rfl rfl rfl rfl (e_stN (L' := [⟨[I (e_.lsn), I (e_.kind_), I (e_.tx), I (e_.prevTx), I (e_.prevPage), I (e_.ref), I (e_.change.page), I (e_.change.slot), Bo (e_.change.before.set_), .v (.string e_.change.before.data), Bo (e_.change.after.set_), .v (.string e_.change.after.data), .v (.string e_.blob)], true, true⟩, ⟨[I (0), I (0), I (0), I (0), I (0), I (0), I (0), I (0), Bo false, .v (.string (⟨#[]⟩ : ByteArray)), Bo false, .v (.string (⟨#[]⟩ : ByteArray)), .v (.string (⟨#[]⟩ : ByteArray))], true, true⟩, ⟨[I (e_.lsn), I (e_.kind_), I (e_.tx), I (e_.prevTx), I (0), I (0), I (0), I (0), Bo false, .v (.string (⟨#[]⟩ : ByteArray)), Bo false, .v (.string (⟨#[]⟩ : ByteArray)), .v (.string (⟨#[]⟩ : ByteArray))], true, true⟩]) rfl (ev_t rfl) (ev_t rfl) ty3 rfl rfl rfl rfl rfl) (.m (by decide +kernel) (.m (by decide +kernel) .nil)) ?_
  refine .nil (CdOK.seq ?_)
  refine .draw2 (ord := [0, 1, 2, 3, 4, 5, 6, 7, 8, 9, 10, 11, 12, 13, 14, 15]) (chain := [14]) fol (by decide +kernel) (by decide +kernel) ?_
  refine .q _ (e_ldbA (ev_t rfl) ty59 (bx rfl rfl) rfl rfl) ?_
  refine .p _ (e_fa' fa59_2 (ev_t rfl)) ?_
  refine .q _ (e_ldb1 (ev_t rfl) ty3 (bx rfl rfl) rfl) ?_
  refine .sd rfl rfl rfl rfl rfl rfl (e_bin (ev_t rfl) rfl rfl rfl) ?_ ?_
  ·intro c34; replace hm := hm.ifp c34
   refine .p (VB (true)) (e_mv (ev_t rfl)) ?_
   refine .p _ (e_fa' fa59_2 (ev_t rfl)) ?_
   refine .q _ (e_ldb1 (ev_t rfl) ty3 (bx rfl rfl) rfl) ?_
   refine .sd rfl rfl rfl rfl rfl rfl (e_bin (ev_t rfl) rfl rfl rfl) ?_ ?_
   ·intro c35; replace hm := hm.ifp c35
    refine .p (VB (true)) (e_pick (t := true) (ev_t rfl) (ev_t rfl)) ?_
    refine .p (VB (true)) (e_mv (ev_t rfl)) ?_
    refine .p _ (e_fa' fa59_3 (ev_t rfl)) ?_
    refine .q _ (e_ldb1 (ev_t rfl) ty3 (bx rfl rfl) rfl) ?_
    refine .p (VB (decide (0 < e_.prevTx))) (e_bin (ev_t rfl) rfl rfl rfl) ?_
    refine .p (VB (decide (0 < e_.prevTx))) (e_pick (t := true) (ev_t rfl) (ev_t rfl)) ?_
    refine .c0 rfl rfl rfl rfl (e_stN (L' := [⟨[I (e_.lsn), I (e_.kind_), I (e_.tx), I (e_.prevTx), I (e_.prevPage), I (e_.ref), I (e_.change.page), I (e_.change.slot), Bo (e_.change.before.set_), .v (.string e_.change.before.data), Bo (e_.change.after.set_), .v (.string e_.change.after.data), .v (.string e_.blob)], true, true⟩, ⟨[I (e_.lsn), I (e_.kind_), I (e_.tx), I (e_.prevTx), I (0), I (0), I (0), I (0), Bo false, .v (.string (⟨#[]⟩ : ByteArray)), Bo false, .v (.string (⟨#[]⟩ : ByteArray)), .v (.string (⟨#[]⟩ : ByteArray))], true, true⟩, ⟨[I (e_.lsn), I (e_.kind_), I (e_.tx), I (e_.prevTx), I (0), I (0), I (0), I (0), Bo false, .v (.string (⟨#[]⟩ : ByteArray)), Bo false, .v (.string (⟨#[]⟩ : ByteArray)), .v (.string (⟨#[]⟩ : ByteArray))], true, true⟩]) rfl (ev_t rfl) (ev_t rfl) ty59 rfl rfl rfl rfl rfl) (.e rfl rfl (e_ldb1 (ev_t rfl) ty3 (bx rfl rfl) rfl) (.m (by decide +kernel) (.m (by decide +kernel) (.m (by decide +kernel) .nil)))) ?_
    refine .p (VB (decide (0 < e_.prevTx))) (e_as (ev_t rfl)) ?_
    refine .nil ?_
    refine CdOK.ret ?_
    refine ⟨.inr rfl, _, (resA_c (look_find rfl) (eLoad_A ty59 (bx rfl rfl) rfl rfl rfl) (resA_t (look_find rfl) resA_n)), h, _, _, rfl, rfl, hC, ((renFlV rfl) : RenV _ _ _ _ (.tup [.agg [I (e_.lsn), I (e_.kind_), I (e_.tx), I (e_.prevTx), I (0), I (0), I (0), I (0), Bo false, .v (.string (⟨#[]⟩ : ByteArray)), Bo false, .v (.string (⟨#[]⟩ : ByteArray)), .v (.string (⟨#[]⟩ : ByteArray))], .c (Bo (decide (0 < e_.prevTx)))])), ?_⟩
    cases hm.ret; exact ⟨rfl, rfl⟩
   intro c36; replace hm := hm.ifn c36
   refine .p (VB (false)) (e_pick (t := true) (ev_t rfl) (ev_t rfl)) ?_
   refine .p (VB (false)) (e_mv (ev_t rfl)) ?_
   refine .sk rfl rfl rfl rfl rfl rfl ?_
   refine .skf rfl rfl rfl rfl rfl rfl ?_
   refine .sk rfl rfl rfl rfl rfl rfl ?_
   refine .p (VB (false)) (e_pick (t := false) (ev_t rfl) rfl) ?_
   refine .c0 rfl rfl rfl rfl (e_stN (L' := [⟨[I (e_.lsn), I (e_.kind_), I (e_.tx), I (e_.prevTx), I (e_.prevPage), I (e_.ref), I (e_.change.page), I (e_.change.slot), Bo (e_.change.before.set_), .v (.string e_.change.before.data), Bo (e_.change.after.set_), .v (.string e_.change.after.data), .v (.string e_.blob)], true, true⟩, ⟨[I (e_.lsn), I (e_.kind_), I (e_.tx), I (e_.prevTx), I (0), I (0), I (0), I (0), Bo false, .v (.string (⟨#[]⟩ : ByteArray)), Bo false, .v (.string (⟨#[]⟩ : ByteArray)), .v (.string (⟨#[]⟩ : ByteArray))], true, true⟩, ⟨[I (e_.lsn), I (e_.kind_), I (e_.tx), I (e_.prevTx), I (0), I (0), I (0), I (0), Bo false, .v (.string (⟨#[]⟩ : ByteArray)), Bo false, .v (.string (⟨#[]⟩ : ByteArray)), .v (.string (⟨#[]⟩ : ByteArray))], true, true⟩]) rfl (ev_t rfl) (ev_t rfl) ty59 rfl rfl rfl rfl rfl) (.sk rfl rfl (.m (by decide +kernel) (.m (by decide +kernel) (.m (by decide +kernel) .nil)))) ?_
   refine .p (VB (false)) (e_as (ev_t rfl)) ?_
   refine .nil ?_
   refine CdOK.ret ?_
   refine ⟨.inr rfl, _, (resA_c (look_find rfl) (eLoad_A ty59 (bx rfl rfl) rfl rfl rfl) (resA_t (look_find rfl) resA_n)), h, _, _, rfl, rfl, hC, ((renFlV rfl) : RenV _ _ _ _ (.tup [.agg [I (e_.lsn), I (e_.kind_), I (e_.tx), I (e_.prevTx), I (0), I (0), I (0), I (0), Bo false, .v (.string (⟨#[]⟩ : ByteArray)), Bo false, .v (.string (⟨#[]⟩ : ByteArray)), .v (.string (⟨#[]⟩ : ByteArray))], .c (Bo false)])), ?_⟩
   cases hm.ret; exact ⟨rfl, rfl⟩
  intro c37; replace hm := hm.ifn c37
  refine .p (VB (false)) (e_mv (ev_t rfl)) ?_
  refine .sk rfl rfl rfl rfl rfl rfl ?_
  refine .skf rfl rfl rfl rfl rfl rfl ?_
  refine .sk rfl rfl rfl rfl rfl rfl ?_
  refine .p (VB (false)) (e_pick (t := false) (ev_t rfl) rfl) ?_
  refine .p (VB (false)) (e_mv (ev_t rfl)) ?_
  refine .sk rfl rfl rfl rfl rfl rfl ?_
  refine .skf rfl rfl rfl rfl rfl rfl ?_
  refine .sk rfl rfl rfl rfl rfl rfl ?_
  refine .p (VB (false)) (e_pick (t := false) (ev_t rfl) rfl) ?_
  refine .c0 rfl rfl rfl rfl (e_stN (L' := [⟨[I (e_.lsn), I (e_.kind_), I (e_.tx), I (e_.prevTx), I (e_.prevPage), I (e_.ref), I (e_.change.page), I (e_.change.slot), Bo (e_.change.before.set_), .v (.string e_.change.before.data), Bo (e_.change.after.set_), .v (.string e_.change.after.data), .v (.string e_.blob)], true, true⟩, ⟨[I (e_.lsn), I (e_.kind_), I (e_.tx), I (e_.prevTx), I (0), I (0), I (0), I (0), Bo false, .v (.string (⟨#[]⟩ : ByteArray)), Bo false, .v (.string (⟨#[]⟩ : ByteArray)), .v (.string (⟨#[]⟩ : ByteArray))], true, true⟩, ⟨[I (e_.lsn), I (e_.kind_), I (e_.tx), I (e_.prevTx), I (0), I (0), I (0), I (0), Bo false, .v (.string (⟨#[]⟩ : ByteArray)), Bo false, .v (.string (⟨#[]⟩ : ByteArray)), .v (.string (⟨#[]⟩ : ByteArray))], true, true⟩]) rfl (ev_t rfl) (ev_t rfl) ty59 rfl rfl rfl rfl rfl) (.sk rfl rfl (.m (by decide +kernel) (.m (by decide +kernel) (.m (by decide +kernel) .nil)))) ?_
  refine .p (VB (false)) (e_as (ev_t rfl)) ?_
  refine .nil ?_
  refine CdOK.ret ?_
  refine ⟨.inr rfl, _, (resA_c (look_find rfl) (eLoad_A ty59 (bx rfl rfl) rfl rfl rfl) (resA_t (look_find rfl) resA_n)), h, _, _, rfl, rfl, hC, ((renFlV rfl) : RenV _ _ _ _ (.tup [.agg [I (e_.lsn), I (e_.kind_), I (e_.tx), I (e_.prevTx), I (0), I (0), I (0), I (0), Bo false, .v (.string (⟨#[]⟩ : ByteArray)), Bo false, .v (.string (⟨#[]⟩ : ByteArray)), .v (.string (⟨#[]⟩ : ByteArray))], .c (Bo false)])), ?_⟩
  cases hm.ret; exact ⟨rfl, rfl⟩
 intro c38; replace hm := hm.ifn c38
 replace hm := hm.bnd
 refine .joinE (σ := Bool) (fun s => s) hm (fun s => [(1, .o (.c (.ptr (h.length + 0) 0))), (2, .o (.c (.ptr (h.length + 1) 0))), (4, .o (.c (.ptr (h.length + 2) 0))), (12, VI (e_.kind_)), (91, VB (s))]) (fun s => h ++ ([⟨[I (e_.lsn), I (e_.kind_), I (e_.tx), I (e_.prevTx), I (e_.prevPage), I (e_.ref), I (e_.change.page), I (e_.change.slot), Bo (e_.change.before.set_), .v (.string e_.change.before.data), Bo (e_.change.after.set_), .v (.string e_.change.after.data), .v (.string e_.blob)], true, true⟩, ⟨[I (0), I (0), I (0), I (0), I (0), I (0), I (0), I (0), Bo false, .v (.string (⟨#[]⟩ : ByteArray)), Bo false, .v (.string (⟨#[]⟩ : ByteArray)), .v (.string (⟨#[]⟩ : ByteArray))], true, true⟩, ⟨[I (e_.lsn), I (e_.kind_), I (0), I (0), I (0), I (0), I (0), I (0), Bo false, .v (.string (⟨#[]⟩ : ByteArray)), Bo false, .v (.string (⟨#[]⟩ : ByteArray)), .v (.string (⟨#[]⟩ : ByteArray))], true, true⟩] : Heap)) ?_ ?_
 ·intro hm
  refine .seq (.region (.t (VB (decide (e_.kind_ = 6))) (e_eqK (ev_t rfl) rfl) ?_))
  refine .a rfl ?_
  refine .nil ?_
  refine CdOK.condD (ev_t rfl) ?_ ?_
  ·intro c40; replace hm := hm.ifp c40
   refine .skip ?_
   refine .id ?_
   exact ⟨(decide (e_.kind_ = 6)), hm.ret, (.cons rfl (.cons rfl (.cons rfl (.cons rfl (.cons rfl .nil))))), rfl⟩
  intro c41; replace hm := hm.ifn c41
  refine .region (.t (VB (decide (e_.kind_ = 8))) (e_eqK (ev_t rfl) rfl) ?_)
  refine .a rfl ?_
  refine .nil (.id ?_)
  exact ⟨(decide (e_.kind_ = 8)), hm.ret, (.cons rfl (.cons rfl (.cons rfl (.cons rfl (.cons rfl .nil))))), rfl⟩
 rintro t9139 T0 hm
 show CdOK _ _ _ (look T0 [(1, .o (.c (.ptr (h.length + 0) 0))), (2, .o (.c (.ptr (h.length + 1) 0))), (4, .o (.c (.ptr (h.length + 2) 0))), (12, VI (e_.kind_)), (91, VB (t9139))]) (h ++ ([⟨[I (e_.lsn), I (e_.kind_), I (e_.tx), I (e_.prevTx), I (e_.prevPage), I (e_.ref), I (e_.change.page), I (e_.change.slot), Bo (e_.change.before.set_), .v (.string e_.change.before.data), Bo (e_.change.after.set_), .v (.string e_.change.after.data), .v (.string e_.blob)], true, true⟩, ⟨[I (0), I (0), I (0), I (0), I (0), I (0), I (0), I (0), Bo false, .v (.string (⟨#[]⟩ : ByteArray)), Bo false, .v (.string (⟨#[]⟩ : ByteArray)), .v (.string (⟨#[]⟩ : ByteArray))], true, true⟩, ⟨[I (e_.lsn), I (e_.kind_), I (0), I (0), I (0), I (0), I (0), I (0), Bo false, .v (.string (⟨#[]⟩ : ByteArray)), Bo false, .v (.string (⟨#[]⟩ : ByteArray)), .v (.string (⟨#[]⟩ : ByteArray))], true, true⟩] : Heap)) _
 refine .condB (ev_t rfl) ?_ ?_
 ·intro c43; replace hm := hm.ifp c43
  refine .seq (.region (.t _ (e_fa' fa59_7 (ev_t rfl)) ?_))
  refine .t _ (e_ldb1 (ev_t rfl) ty9 (bx rfl rfl) rfl) ?_
  refine .t _ (e_fa' fa59_7 (ev_t rfl)) ?_
  refine .s0 rfl rfl (e_stN (L' := [⟨[I (e_.lsn), I (e_.kind_), I (e_.tx), I (e_.prevTx), I (e_.prevPage), I (e_.ref), I (e_.change.page), I (e_.change.slot), Bo (e_.change.before.set_), .v (.string e_.change.before.data), Bo (e_.change.after.set_), .v (.string e_.change.after.data), .v (.string e_.blob)], true, true⟩, ⟨[I (0), I (0), I (0), I (0), I (0), I (0), I (0), I (0), Bo false, .v (.string (⟨#[]⟩ : ByteArray)), Bo false, .v (.string (⟨#[]⟩ : ByteArray)), .v (.string (⟨#[]⟩ : ByteArray))], true, true⟩, ⟨[I (e_.lsn), I (e_.kind_), I (0), I (0), I (0), I (0), I (0), I (0), Bo false, .v (.string (⟨#[]⟩ : ByteArray)), Bo false, .v (.string (⟨#[]⟩ : ByteArray)), .v (.string e_.blob)], true, true⟩]) rfl (ev_t rfl) (ev_t rfl) ty9 rfl rfl rfl rfl rfl) ?_
  refine .nil (CdOK.seq ?_)
  refine .draw2 (ord := [0, 1, 2, 3, 4, 5, 6]) (chain := [5]) fol (by decide +kernel) (by decide +kernel) ?_
  refine .q _ (e_ldbA (ev_t rfl) ty59 (bx rfl rfl) rfl rfl) ?_
  refine .p _ (e_fa' fa59_7 (ev_t rfl)) ?_
  refine .q _ (e_ldb1 (ev_t rfl) ty9 (bx rfl rfl) rfl) ?_
  refine .p (VI ((e_.blob.size : Int))) (e_lenS' (ev_t rfl) str9) ?_
  refine .p (VB (decide ((e_.blob.size : Int) ≤ 8192))) (e_bin (ev_t rfl) rfl rfl rfl) ?_
  refine .c0 rfl rfl rfl rfl (e_stN (L' := [⟨[I (e_.lsn), I (e_.kind_), I (e_.tx), I (e_.prevTx), I (e_.prevPage), I (e_.ref), I (e_.change.page), I (e_.change.slot), Bo (e_.change.before.set_), .v (.string e_.change.before.data), Bo (e_.change.after.set_), .v (.string e_.change.after.data), .v (.string e_.blob)], true, true⟩, ⟨[I (e_.lsn), I (e_.kind_), I (0), I (0), I (0), I (0), I (0), I (0), Bo false, .v (.string (⟨#[]⟩ : ByteArray)), Bo false, .v (.string (⟨#[]⟩ : ByteArray)), .v (.string e_.blob)], true, true⟩, ⟨[I (e_.lsn), I (e_.kind_), I (0), I (0), I (0), I (0), I (0), I (0), Bo false, .v (.string (⟨#[]⟩ : ByteArray)), Bo false, .v (.string (⟨#[]⟩ : ByteArray)), .v (.string e_.blob)], true, true⟩]) rfl (ev_t rfl) (ev_t rfl) ty59 rfl rfl rfl rfl rfl) (.e rfl rfl (e_ldb1 (ev_t rfl) ty9 (bx rfl rfl) rfl) (.m (by decide +kernel) .nil)) ?_
  refine .p (VB (decide ((e_.blob.size : Int) ≤ 8192))) (e_as (ev_t rfl)) ?_
  refine .nil ?_
  refine CdOK.ret ?_
  refine ⟨.inr rfl, _, (resA_c (look_find rfl) (eLoad_A ty59 (bx rfl rfl) rfl rfl rfl) (resA_t (look_find rfl) resA_n)), h, _, _, rfl, rfl, hC, ((renFlV rfl) : RenV _ _ _ _ (.tup [.agg [I (e_.lsn), I (e_.kind_), I (0), I (0), I (0), I (0), I (0), I (0), Bo false, .v (.string (⟨#[]⟩ : ByteArray)), Bo false, .v (.string (⟨#[]⟩ : ByteArray)), .v (.string e_.blob)], .c (Bo (decide ((e_.blob.size : Int) ≤ 8192)))])), ?_⟩
  cases hm.ret; exact ⟨rfl, rfl⟩
 intro c44; replace hm := hm.ifn c44
 refine .seq (.region (.t (VB (decide (e_.kind_ = 7))) (e_eqK (ev_t rfl) rfl) ?_))
 refine .a rfl ?_
 refine .nil ?_
 refine CdOK.condD (ev_t rfl) ?_ ?_
 ·intro c45; replace hm := hm.ifp c45
  refine .seq ?_
  refine .draw2 (ord := [0, 1, 2, 3, 4, 5, 6, 7, 8, 9]) (chain := [6, 9]) fol (by decide +kernel) (by decide +kernel) ?_
  refine .p _ (e_fa' fa59_5 (ev_t rfl)) ?_
  refine .q _ (e_ldb1 (ev_t rfl) ty3 (bx rfl rfl) rfl) ?_
  refine .p _ (e_fa' fa59_6 (ev_t rfl)) ?_
  refine .p _ (e_fa' fa57_0 (ev_t rfl)) ?_
  refine .q _ (e_ldb1 (ev_t rfl) ty3 (bx rfl rfl) rfl) ?_
  refine .p _ (e_fa' fa59_5 (ev_t rfl)) ?_
  refine .c0 rfl rfl rfl rfl (e_stN (L' := [⟨[I (e_.lsn), I (e_.kind_), I (e_.tx), I (e_.prevTx), I (e_.prevPage), I (e_.ref), I (e_.change.page), I (e_.change.slot), Bo (e_.change.before.set_), .v (.string e_.change.before.data), Bo (e_.change.after.set_), .v (.string e_.change.after.data), .v (.string e_.blob)], true, true⟩, ⟨[I (0), I (0), I (0), I (0), I (0), I (0), I (0), I (0), Bo false, .v (.string (⟨#[]⟩ : ByteArray)), Bo false, .v (.string (⟨#[]⟩ : ByteArray)), .v (.string (⟨#[]⟩ : ByteArray))], true, true⟩, ⟨[I (e_.lsn), I (e_.kind_), I (0), I (0), I (0), I (e_.ref), I (0), I (0), Bo false, .v (.string (⟨#[]⟩ : ByteArray)), Bo false, .v (.string (⟨#[]⟩ : ByteArray)), .v (.string (⟨#[]⟩ : ByteArray))], true, true⟩]) rfl (ev_t rfl) (ev_t rfl) ty3 rfl rfl rfl rfl rfl) (.e rfl rfl (e_ldb1 (ev_t rfl) ty3 (bx rfl rfl) rfl) (.m (by decide +kernel) .nil)) ?_
  refine .p _ (e_fa' fa59_6 (ev_t rfl)) ?_
  refine .p _ (e_fa' fa57_0 (ev_t rfl)) ?_
  refine .c0 rfl rfl rfl rfl (e_stN (L' := [⟨[I (e_.lsn), I (e_.kind_), I (e_.tx), I (e_.prevTx), I (e_.prevPage), I (e_.ref), I (e_.change.page), I (e_.change.slot), Bo (e_.change.before.set_), .v (.string e_.change.before.data), Bo (e_.change.after.set_), .v (.string e_.change.after.data), .v (.string e_.blob)], true, true⟩, ⟨[I (0), I (0), I (0), I (0), I (0), I (0), I (0), I (0), Bo false, .v (.string (⟨#[]⟩ : ByteArray)), Bo false, .v (.string (⟨#[]⟩ : ByteArray)), .v (.string (⟨#[]⟩ : ByteArray))], true, true⟩, ⟨[I (e_.lsn), I (e_.kind_), I (0), I (0), I (0), I (e_.ref), I (e_.change.page), I (0), Bo false, .v (.string (⟨#[]⟩ : ByteArray)), Bo false, .v (.string (⟨#[]⟩ : ByteArray)), .v (.string (⟨#[]⟩ : ByteArray))], true, true⟩]) rfl (ev_t rfl) (ev_t rfl) ty3 rfl rfl rfl rfl rfl) (.m (by decide +kernel) (.m (by decide +kernel) .nil)) ?_
  refine .nil (CdOK.seq ?_)
  refine .draw2 (ord := [0, 1, 2, 3, 4, 5, 6, 7, 8, 9, 10, 11, 12]) (chain := [11]) fol (by decide +kernel) (by decide +kernel) ?_
  refine .q _ (e_ldbA (ev_t rfl) ty59 (bx rfl rfl) rfl rfl) ?_
  refine .p _ (e_fa' fa59_6 (ev_t rfl)) ?_
  refine .p _ (e_fa' fa57_0 (ev_t rfl)) ?_
  refine .q _ (e_ldb1 (ev_t rfl) ty3 (bx rfl rfl) rfl) ?_
  refine .sd rfl rfl rfl rfl rfl rfl (e_bin (ev_t rfl) rfl rfl rfl) ?_ ?_
  ·intro c46; replace hm := hm.ifp c46
   refine .p (VB (true)) (e_mv (ev_t rfl)) ?_
   refine .p _ (e_fa' fa59_6 (ev_t rfl)) ?_
   refine .p _ (e_fa' fa57_0 (ev_t rfl)) ?_
   refine .q _ (e_ldb1 (ev_t rfl) ty3 (bx rfl rfl) rfl) ?_
   refine .p (VB (decide (e_.change.page < 64))) (e_bin (ev_t rfl) rfl rfl rfl) ?_
   refine .p (VB (decide (e_.change.page < 64))) (e_pick (t := true) (ev_t rfl) (ev_t rfl)) ?_
   refine .c0 rfl rfl rfl rfl (e_stN (L' := [⟨[I (e_.lsn), I (e_.kind_), I (e_.tx), I (e_.prevTx), I (e_.prevPage), I (e_.ref), I (e_.change.page), I (e_.change.slot), Bo (e_.change.before.set_), .v (.string e_.change.before.data), Bo (e_.change.after.set_), .v (.string e_.change.after.data), .v (.string e_.blob)], true, true⟩, ⟨[I (e_.lsn), I (e_.kind_), I (0), I (0), I (0), I (e_.ref), I (e_.change.page), I (0), Bo false, .v (.string (⟨#[]⟩ : ByteArray)), Bo false, .v (.string (⟨#[]⟩ : ByteArray)), .v (.string (⟨#[]⟩ : ByteArray))], true, true⟩, ⟨[I (e_.lsn), I (e_.kind_), I (0), I (0), I (0), I (e_.ref), I (e_.change.page), I (0), Bo false, .v (.string (⟨#[]⟩ : ByteArray)), Bo false, .v (.string (⟨#[]⟩ : ByteArray)), .v (.string (⟨#[]⟩ : ByteArray))], true, true⟩]) rfl (ev_t rfl) (ev_t rfl) ty59 rfl rfl rfl rfl rfl) (.e rfl rfl (e_ldb1 (ev_t rfl) ty3 (bx rfl rfl) rfl) (.m (by decide +kernel) (.m (by decide +kernel) .nil))) ?_
   refine .p (VB (decide (e_.change.page < 64))) (e_as (ev_t rfl)) ?_
   refine .nil ?_
   refine CdOK.ret ?_
   refine ⟨.inr rfl, _, (resA_c (look_find rfl) (eLoad_A ty59 (bx rfl rfl) rfl rfl rfl) (resA_t (look_find rfl) resA_n)), h, _, _, rfl, rfl, hC, ((renFlV rfl) : RenV _ _ _ _ (.tup [.agg [I (e_.lsn), I (e_.kind_), I (0), I (0), I (0), I (e_.ref), I (e_.change.page), I (0), Bo false, .v (.string (⟨#[]⟩ : ByteArray)), Bo false, .v (.string (⟨#[]⟩ : ByteArray)), .v (.string (⟨#[]⟩ : ByteArray))], .c (Bo (decide (e_.change.page < 64)))])), ?_⟩
   cases hm.ret; exact ⟨rfl, rfl⟩
  intro c47; replace hm := hm.ifn c47
  refine .p (VB (false)) (e_mv (ev_t rfl)) ?_
  refine .sk rfl rfl rfl rfl rfl rfl ?_
  refine .sk rfl rfl rfl rfl rfl rfl ?_
  refine .skf rfl rfl rfl rfl rfl rfl ?_
  refine .sk rfl rfl rfl rfl rfl rfl ?_
  refine .p (VB (false)) (e_pick (t := false) (ev_t rfl) rfl) ?_
  refine .c0 rfl rfl rfl rfl (e_stN (L' := [⟨[I (e_.lsn), I (e_.kind_), I (e_.tx), I (e_.prevTx), I (e_.prevPage), I (e_.ref), I (e_.change.page), I (e_.change.slot), Bo (e_.change.before.set_), .v (.string e_.change.before.data), Bo (e_.change.after.set_), .v (.string e_.change.after.data), .v (.string e_.blob)], true, true⟩, ⟨[I (e_.lsn), I (e_.kind_), I (0), I (0), I (0), I (e_.ref), I (e_.change.page), I (0), Bo false, .v (.string (⟨#[]⟩ : ByteArray)), Bo false, .v (.string (⟨#[]⟩ : ByteArray)), .v (.string (⟨#[]⟩ : ByteArray))], true, true⟩, ⟨[I (e_.lsn), I (e_.kind_), I (0), I (0), I (0), I (e_.ref), I (e_.change.page), I (0), Bo false, .v (.string (⟨#[]⟩ : ByteArray)), Bo false, .v (.string (⟨#[]⟩ : ByteArray)), .v (.string (⟨#[]⟩ : ByteArray))], true, true⟩]) rfl (ev_t rfl) (ev_t rfl) ty59 rfl rfl rfl rfl rfl) (.sk rfl rfl (.m (by decide +kernel) (.m (by decide +kernel) .nil))) ?_
  refine .p (VB (false)) (e_as (ev_t rfl)) ?_
  refine .nil ?_
  refine CdOK.ret ?_
  refine ⟨.inr rfl, _, (resA_c (look_find rfl) (eLoad_A ty59 (bx rfl rfl) rfl rfl rfl) (resA_t (look_find rfl) resA_n)), h, _, _, rfl, rfl, hC, ((renFlV rfl) : RenV _ _ _ _ (.tup [.agg [I (e_.lsn), I (e_.kind_), I (0), I (0), I (0), I (e_.ref), I (e_.change.page), I (0), Bo false, .v (.string (⟨#[]⟩ : ByteArray)), Bo false, .v (.string (⟨#[]⟩ : ByteArray)), .v (.string (⟨#[]⟩ : ByteArray))], .c (Bo false)])), ?_⟩
  cases hm.ret; exact ⟨rfl, rfl⟩
 intro c48; replace hm := hm.ifn c48
 refine .skip ?_
 refine CdOK.seq (.region (.t _ (e_ldbA (ev_t rfl) ty59 (bx rfl rfl) rfl rfl) ?_))
 refine .s0 rfl rfl (e_stN (L' := [⟨[I (e_.lsn), I (e_.kind_), I (e_.tx), I (e_.prevTx), I (e_.prevPage), I (e_.ref), I (e_.change.page), I (e_.change.slot), Bo (e_.change.before.set_), .v (.string e_.change.before.data), Bo (e_.change.after.set_), .v (.string e_.change.after.data), .v (.string e_.blob)], true, true⟩, ⟨[I (e_.lsn), I (e_.kind_), I (0), I (0), I (0), I (0), I (0), I (0), Bo false, .v (.string (⟨#[]⟩ : ByteArray)), Bo false, .v (.string (⟨#[]⟩ : ByteArray)), .v (.string (⟨#[]⟩ : ByteArray))], true, true⟩, ⟨[I (e_.lsn), I (e_.kind_), I (0), I (0), I (0), I (0), I (0), I (0), Bo false, .v (.string (⟨#[]⟩ : ByteArray)), Bo false, .v (.string (⟨#[]⟩ : ByteArray)), .v (.string (⟨#[]⟩ : ByteArray))], true, true⟩]) rfl (ev_t rfl) (ev_t rfl) ty59 rfl rfl rfl rfl rfl) ?_
 refine .t (VB (false)) (e_as rfl) ?_
 refine .nil ?_
 refine CdOK.ret ?_
 refine ⟨.inr rfl, _, (resA_c (look_find rfl) (eLoad_A ty59 (bx rfl rfl) rfl rfl rfl) (resA_t (look_find rfl) resA_n)), h, _, _, rfl, rfl, hC, ((renFlV rfl) : RenV _ _ _ _ (.tup [.agg [I (e_.lsn), I (e_.kind_), I (0), I (0), I (0), I (0), I (0), I (0), Bo false, .v (.string (⟨#[]⟩ : ByteArray)), Bo false, .v (.string (⟨#[]⟩ : ByteArray)), .v (.string (⟨#[]⟩ : ByteArray))], .c (Bo false)])), ?_⟩
 cases hm.ret; exact ⟨rfl, rfl⟩
def ref05_Valid (e_ : AEntry) : Option Bool := ((((ref05_shape e_).bind fun (x3 : (AEntry × Bool)) => (if x3.2 = true then some (x3.1, true) else some (x3.1, false)))).bind fun (s6 : (AEntry × Bool)) => (if s6.2 = true then (if s6.1 = e_ then (if 1 ≤ e_.lsn then (if e_.lsn ≤ 1099511627776 then ((ref05_before e_.prevTx e_.lsn).bind fun (x11 : Bool) => (if x11 = true then ((ref05_before e_.prevPage e_.lsn).bind fun (x12 : Bool) => (if x12 = true then ((ref05_before e_.ref e_.lsn).bind fun (x13 : Bool) => some x13) else some false)) else some false)) else some false) else some false) else some false) else some false))
theorem ref05_Valid_ok {h : Heap} {e_ : AEntry}   {r : Bool} (hm : ref05_Valid e_ = some r) : FnOK Try.prog 100 [.o (.agg [I (e_.lsn), I (e_.kind_), I (e_.tx), I (e_.prevTx), I (e_.prevPage), I (e_.ref), I (e_.change.page), I (e_.change.slot), Bo (e_.change.before.set_), .v (.string e_.change.before.data), Bo (e_.change.after.set_), .v (.string e_.change.after.data), .v (.string e_.blob)])] h (fun v h' => v = VB (r) ∧ h' = h) := by
 refine FnOK.fin ?_
 refine FnOK.bodyC (N := 47) Try.func100 rfl rfl rfl (fun hC => ?_)
 replace hm := Ev.of hm
 rw [ref05_Valid.eq_1] at hm
 show CdOK _ _ _ (look _ [(0, .o (.agg [I (e_.lsn), I (e_.kind_), I (e_.tx), I (e_.prevTx), I (e_.prevPage), I (e_.ref), I (e_.change.page), I (e_.change.slot), Bo (e_.change.before.set_), .v (.string e_.change.before.data), Bo (e_.change.after.set_), .v (.string e_.change.after.data), .v (.string e_.blob)]))]) (h ++ ([] : Heap)) _
 refine .seq (.region (.t (.o (.c (.ptr (h.length + 0) 0))) (e_boxN (L' := [⟨[I (e_.lsn), I (e_.kind_), I (e_.tx), I (e_.prevTx), I (e_.prevPage), I (e_.ref), I (e_.change.page), I (e_.change.slot), Bo (e_.change.before.set_), .v (.string e_.change.before.data), Bo (e_.change.after.set_), .v (.string e_.change.after.data), .v (.string e_.blob)], true, true⟩]) rfl (ev_t rfl) rfl rfl) ?_))
 refine .t (VB (false)) (e_as rfl) ?_
 refine .nil ?_
 replace hm := hm.bnd
 refine CdOK.joinE (σ := (AEntry × Bool)) (fun s => (s.1, s.2)) hm (fun s => [(1, .o (.c (.ptr (h.length + 0) 0))), (3, .o (.c (.ptr (h.length + 1) 0))), (4, VB (s.2))]) (fun s => h ++ ([⟨[I (e_.lsn), I (e_.kind_), I (e_.tx), I (e_.prevTx), I (e_.prevPage), I (e_.ref), I (e_.change.page), I (e_.change.slot), Bo (e_.change.before.set_), .v (.string e_.change.before.data), Bo (e_.change.after.set_), .v (.string e_.change.after.data), .v (.string e_.blob)], true, true⟩, ⟨[I (s.1.lsn), I (s.1.kind_), I (s.1.tx), I (s.1.prevTx), I (s.1.prevPage), I (s.1.ref), I (s.1.change.page), I (s.1.change.slot), Bo (s.1.change.before.set_), .v (.string s.1.change.before.data), Bo (s.1.change.after.set_), .v (.string s.1.change.after.data), .v (.string s.1.blob)], true, true⟩] : Heap)) ?_ ?_
 ·intro hm
  refine .region (.t _ (e_ldbA (ev_t rfl) ty59 (bx rfl rfl) rfl rfl) ?_)
  obtain ⟨x3, e3, hm⟩ := hm.call
  refine .cl rfl rfl rfl rfl pl170 (R2.wk _) (ref05_shape_ok    e3) ?_
  rintro _ _ ⟨rfl, rfl⟩
  refine .m rfl ?_
  refine .t (.o (.agg [I (x3.1.lsn), I (x3.1.kind_), I (x3.1.tx), I (x3.1.prevTx), I (x3.1.prevPage), I (x3.1.ref), I (x3.1.change.page), I (x3.1.change.slot), Bo (x3.1.change.before.set_), .v (.string x3.1.change.before.data), Bo (x3.1.change.after.set_), .v (.string x3.1.change.after.data), .v (.string x3.1.blob)])) (e_ext (ev_t rfl) rfl) ?_
  refine .sb rfl rfl rfl (e_ext (ev_t rfl) rfl) ?_ ?_
  ·intro c4; replace hm := hm.ifp c4
   refine .t (.o (.c (.ptr (h.length + 1) 0))) (e_allocN (L' := [⟨[I (e_.lsn), I (e_.kind_), I (e_.tx), I (e_.prevTx), I (e_.prevPage), I (e_.ref), I (e_.change.page), I (e_.change.slot), Bo (e_.change.before.set_), .v (.string e_.change.before.data), Bo (e_.change.after.set_), .v (.string e_.change.after.data), .v (.string e_.blob)], true, true⟩, ⟨[I (0), I (0), I (0), I (0), I (0), I (0), I (0), I (0), Bo false, .v (.string (⟨#[]⟩ : ByteArray)), Bo false, .v (.string (⟨#[]⟩ : ByteArray)), .v (.string (⟨#[]⟩ : ByteArray))], true, true⟩]) rfl zo59 rfl rfl) ?_
   refine .s0 rfl rfl (e_stN (L' := [⟨[I (e_.lsn), I (e_.kind_), I (e_.tx), I (e_.prevTx), I (e_.prevPage), I (e_.ref), I (e_.change.page), I (e_.change.slot), Bo (e_.change.before.set_), .v (.string e_.change.before.data), Bo (e_.change.after.set_), .v (.string e_.change.after.data), .v (.string e_.blob)], true, true⟩, ⟨[I (x3.1.lsn), I (x3.1.kind_), I (x3.1.tx), I (x3.1.prevTx), I (x3.1.prevPage), I (x3.1.ref), I (x3.1.change.page), I (x3.1.change.slot), Bo (x3.1.change.before.set_), .v (.string x3.1.change.before.data), Bo (x3.1.change.after.set_), .v (.string x3.1.change.after.data), .v (.string x3.1.blob)], true, true⟩]) rfl (ev_t rfl) (ev_t rfl) ty59 rfl rfl rfl rfl rfl) ?_
   refine .a rfl ?_
   refine .nil (.id ?_)
   exact ⟨(x3.1, true), hm.ret, (.cons rfl (.cons rfl (.cons rfl .nil))), rfl⟩
  intro c5; replace hm := hm.ifn (by rw [c5]; exact Bool.false_ne_true)
  refine .t (.o (.c (.ptr (h.length + 1) 0))) (e_allocN (L' := [⟨[I (e_.lsn), I (e_.kind_), I (e_.tx), I (e_.prevTx), I (e_.prevPage), I (e_.ref), I (e_.change.page), I (e_.change.slot), Bo (e_.change.before.set_), .v (.string e_.change.before.data), Bo (e_.change.after.set_), .v (.string e_.change.after.data), .v (.string e_.blob)], true, true⟩, ⟨[I (0), I (0), I (0), I (0), I (0), I (0), I (0), I (0), Bo false, .v (.string (⟨#[]⟩ : ByteArray)), Bo false, .v (.string (⟨#[]⟩ : ByteArray)), .v (.string (⟨#[]⟩ : ByteArray))], true, true⟩]) rfl zo59 rfl rfl) ?_
  refine .s0 rfl rfl (e_stN (L' := [⟨[I (e_.lsn), I (e_.kind_), I (e_.tx), I (e_.prevTx), I (e_.prevPage), I (e_.ref), I (e_.change.page), I (e_.change.slot), Bo (e_.change.before.set_), .v (.string e_.change.before.data), Bo (e_.change.after.set_), .v (.string e_.change.after.data), .v (.string e_.blob)], true, true⟩, ⟨[I (x3.1.lsn), I (x3.1.kind_), I (x3.1.tx), I (x3.1.prevTx), I (x3.1.prevPage), I (x3.1.ref), I (x3.1.change.page), I (x3.1.change.slot), Bo (x3.1.change.before.set_), .v (.string x3.1.change.before.data), Bo (x3.1.change.after.set_), .v (.string x3.1.change.after.data), .v (.string x3.1.blob)], true, true⟩]) rfl (ev_t rfl) (ev_t rfl) ty59 rfl rfl rfl rfl rfl) ?_
  refine .a rfl ?_
  refine .nil (.id ?_)
  exact ⟨(x3.1, false), hm.ret, (.cons rfl (.cons rfl (.cons rfl .nil))), rfl⟩
 rintro ⟨s1, ok2⟩ T0 hm
 show CdOK _ _ _ (look T0 [(1, .o (.c (.ptr (h.length + 0) 0))), (3, .o (.c (.ptr (h.length + 1) 0))), (4, VB (ok2))]) (h ++ ([⟨[I (e_.lsn), I (e_.kind_), I (e_.tx), I (e_.prevTx), I (e_.prevPage), I (e_.ref), I (e_.change.page), I (e_.change.slot), Bo (e_.change.before.set_), .v (.string e_.change.before.data), Bo (e_.change.after.set_), .v (.string e_.change.after.data), .v (.string e_.blob)], true, true⟩, ⟨[I (s1.lsn), I (s1.kind_), I (s1.tx), I (s1.prevTx), I (s1.prevPage), I (s1.ref), I (s1.change.page), I (s1.change.slot), Bo (s1.change.before.set_), .v (.string s1.change.before.data), Bo (s1.change.after.set_), .v (.string s1.change.after.data), .v (.string s1.blob)], true, true⟩] : Heap)) _
 refine .seq (.region ?_)
 refine .sb rfl rfl rfl (e_mv (ev_t rfl)) ?_ ?_
 ·intro c7; replace hm := hm.ifp c7
  refine .m rfl ?_
  refine .t _ (e_ldbA (ev_t rfl) ty59 (bx rfl rfl) rfl rfl) ?_
  refine .t _ (e_ldbA (ev_t rfl) ty59 (bx rfl rfl) rfl rfl) ?_
  refine .sd rfl rfl rfl (e_eqA (ev_t rfl) (ev_t rfl) rfl rfl (eqs59_eql s1 e_)) ?_ ?_
  ·intro c8; replace hm := hm.ifp c8
   refine .t (VB (true)) (e_pick (t := true) (ev_t rfl) (ev_t rfl)) ?_
   refine .m rfl ?_
   refine .t _ (e_fa' fa59_0 (ev_t rfl)) ?_
   refine .t _ (e_ldb1 (ev_t rfl) ty3 (bx rfl rfl) rfl) ?_
   refine .sd rfl rfl rfl (e_bin (ev_t rfl) rfl rfl rfl) ?_ ?_
   ·intro c9; replace hm := hm.ifp c9
    refine .t (VB (true)) (e_pick (t := true) (ev_t rfl) (ev_t rfl)) ?_
    refine .m rfl ?_
    refine .t _ (e_fa' fa59_0 (ev_t rfl)) ?_
    refine .t _ (e_ldb1 (ev_t rfl) ty3 (bx rfl rfl) rfl) ?_
    refine .sd rfl rfl rfl (e_bin (ev_t rfl) rfl rfl rfl) ?_ ?_
    ·intro c10; replace hm := hm.ifp c10
     refine .t (VB (true)) (e_pick (t := true) (ev_t rfl) (ev_t rfl)) ?_
     refine .m rfl ?_
     refine .t _ (e_fa' fa59_3 (ev_t rfl)) ?_
     refine .t _ (e_ldb1 (ev_t rfl) ty3 (bx rfl rfl) rfl) ?_
     refine .t _ (e_fa' fa59_0 (ev_t rfl)) ?_
     refine .t _ (e_ldb1 (ev_t rfl) ty3 (bx rfl rfl) rfl) ?_
     obtain ⟨x11, e11, hm⟩ := hm.call
     cases x11 with
     | true =>
      replace hm := hm.ifp rfl
      refine .cl rfl rfl rfl rfl pl171 (R2.wk _) (ref05_before_ok    e11) ?_
      rintro _ _ ⟨rfl, rfl⟩
      refine .t (VB (true)) (e_pick (t := true) (ev_t rfl) (ev_t rfl)) ?_
      refine .m rfl ?_
      refine .t _ (e_fa' fa59_4 (ev_t rfl)) ?_
      refine .t _ (e_ldb1 (ev_t rfl) ty3 (bx rfl rfl) rfl) ?_
      refine .t _ (e_fa' fa59_0 (ev_t rfl)) ?_
      refine .t _ (e_ldb1 (ev_t rfl) ty3 (bx rfl rfl) rfl) ?_
      obtain ⟨x12, e12, hm⟩ := hm.call
      cases x12 with
      | true =>
       replace hm := hm.ifp rfl
       refine .cl rfl rfl rfl rfl pl171 (R2.wk _) (ref05_before_ok    e12) ?_
       rintro _ _ ⟨rfl, rfl⟩
       refine .t (VB (true)) (e_pick (t := true) (ev_t rfl) (ev_t rfl)) ?_
       refine .m rfl ?_
       refine .t _ (e_fa' fa59_5 (ev_t rfl)) ?_
       refine .t _ (e_ldb1 (ev_t rfl) ty3 (bx rfl rfl) rfl) ?_
       refine .t _ (e_fa' fa59_0 (ev_t rfl)) ?_
       refine .t _ (e_ldb1 (ev_t rfl) ty3 (bx rfl rfl) rfl) ?_
       obtain ⟨x13, e13, hm⟩ := hm.call
       refine .cl rfl rfl rfl rfl pl171 (R2.wk _) (ref05_before_ok    e13) ?_
       rintro _ _ ⟨rfl, rfl⟩
       refine .t (VB (x13)) (e_pick (t := true) (ev_t rfl) (ev_t rfl)) ?_
       refine .a rfl ?_
       refine .nil ?_
       refine CdOK.ret ?_
       refine ⟨.inr rfl, _, rfl, h, _, _, rfl, rfl, hC, ((renFlV rfl) : RenV _ _ _ _ (VB (x13))), ?_⟩
       cases hm.ret; exact ⟨rfl, rfl⟩
      | false =>
       replace hm := hm.ifn Bool.false_ne_true
       refine .cl rfl rfl rfl rfl pl171 (R2.wk _) (ref05_before_ok    e12) ?_
       rintro _ _ ⟨rfl, rfl⟩
       refine .t (VB (false)) (e_pick (t := true) (ev_t rfl) (ev_t rfl)) ?_
       refine .m rfl ?_
       iterate 5 refine .k ?_
       refine .t (VB (false)) (e_pick (t := false) (ev_t rfl) rfl) ?_
       refine .a rfl ?_
       refine .nil ?_
       refine CdOK.ret ?_
       refine ⟨.inr rfl, _, rfl, h, _, _, rfl, rfl, hC, ((renFlV rfl) : RenV _ _ _ _ (VB (false))), ?_⟩
       cases hm.ret; exact ⟨rfl, rfl⟩
     | false =>
      replace hm := hm.ifn Bool.false_ne_true
      refine .cl rfl rfl rfl rfl pl171 (R2.wk _) (ref05_before_ok    e11) ?_
      rintro _ _ ⟨rfl, rfl⟩
      refine .t (VB (false)) (e_pick (t := true) (ev_t rfl) (ev_t rfl)) ?_
      refine .m rfl ?_
      iterate 5 refine .k ?_
      refine .t (VB (false)) (e_pick (t := false) (ev_t rfl) rfl) ?_
      refine .m rfl ?_
      iterate 5 refine .k ?_
      refine .t (VB (false)) (e_pick (t := false) (ev_t rfl) rfl) ?_
      refine .a rfl ?_
      refine .nil ?_
      refine CdOK.ret ?_
      refine ⟨.inr rfl, _, rfl, h, _, _, rfl, rfl, hC, ((renFlV rfl) : RenV _ _ _ _ (VB (false))), ?_⟩
      cases hm.ret; exact ⟨rfl, rfl⟩
    intro c14; replace hm := hm.ifn c14
    refine .t (VB (false)) (e_pick (t := true) (ev_t rfl) (ev_t rfl)) ?_
    refine .m rfl ?_
    iterate 5 refine .k ?_
    refine .t (VB (false)) (e_pick (t := false) (ev_t rfl) rfl) ?_
    refine .m rfl ?_
    iterate 5 refine .k ?_
    refine .t (VB (false)) (e_pick (t := false) (ev_t rfl) rfl) ?_
    refine .m rfl ?_
    iterate 5 refine .k ?_
    refine .t (VB (false)) (e_pick (t := false) (ev_t rfl) rfl) ?_
    refine .a rfl ?_
    refine .nil ?_
    refine CdOK.ret ?_
    refine ⟨.inr rfl, _, rfl, h, _, _, rfl, rfl, hC, ((renFlV rfl) : RenV _ _ _ _ (VB (false))), ?_⟩
    cases hm.ret; exact ⟨rfl, rfl⟩
   intro c15; replace hm := hm.ifn c15
   refine .t (VB (false)) (e_pick (t := true) (ev_t rfl) (ev_t rfl)) ?_
   refine .m rfl ?_
   iterate 3 refine .k ?_
   refine .t (VB (false)) (e_pick (t := false) (ev_t rfl) rfl) ?_
   refine .m rfl ?_
   iterate 5 refine .k ?_
   refine .t (VB (false)) (e_pick (t := false) (ev_t rfl) rfl) ?_
   refine .m rfl ?_
   iterate 5 refine .k ?_
   refine .t (VB (false)) (e_pick (t := false) (ev_t rfl) rfl) ?_
   refine .m rfl ?_
   iterate 5 refine .k ?_
   refine .t (VB (false)) (e_pick (t := false) (ev_t rfl) rfl) ?_
   refine .a rfl ?_
   refine .nil ?_
   refine CdOK.ret ?_
   refine ⟨.inr rfl, _, rfl, h, _, _, rfl, rfl, hC, ((renFlV rfl) : RenV _ _ _ _ (VB (false))), ?_⟩
   cases hm.ret; exact ⟨rfl, rfl⟩
  intro c16; replace hm := hm.ifn c16
  refine .t (VB (false)) (e_pick (t := true) (ev_t rfl) (ev_t rfl)) ?_
  refine .m rfl ?_
  iterate 3 refine .k ?_
  refine .t (VB (false)) (e_pick (t := false) (ev_t rfl) rfl) ?_
  refine .m rfl ?_
  iterate 3 refine .k ?_
  refine .t (VB (false)) (e_pick (t := false) (ev_t rfl) rfl) ?_
  refine .m rfl ?_
  iterate 5 refine .k ?_
  refine .t (VB (false)) (e_pick (t := false) (ev_t rfl) rfl) ?_
  refine .m rfl ?_
  iterate 5 refine .k ?_
  refine .t (VB (false)) (e_pick (t := false) (ev_t rfl) rfl) ?_
  refine .m rfl ?_
  iterate 5 refine .k ?_
  refine .t (VB (false)) (e_pick (t := false) (ev_t rfl) rfl) ?_
  refine .a rfl ?_
  refine .nil ?_
  refine CdOK.ret ?_
  refine ⟨.inr rfl, _, rfl, h, _, _, rfl, rfl, hC, ((renFlV rfl) : RenV _ _ _ _ (VB (false))), ?_⟩
  cases hm.ret; exact ⟨rfl, rfl⟩
 intro c17; replace hm := hm.ifn (by rw [c17]; exact Bool.false_ne_true)
 refine .m rfl ?_
 iterate 3 refine .k ?_
 refine .t (VB (false)) (e_pick (t := false) (ev_t rfl) rfl) ?_
 refine .m rfl ?_
 iterate 3 refine .k ?_
 refine .t (VB (false)) (e_pick (t := false) (ev_t rfl) rfl) ?_
 refine .m rfl ?_
 iterate 3 refine .k ?_
 refine .t (VB (false)) (e_pick (t := false) (ev_t rfl) rfl) ?_
 refine .m rfl ?_
 iterate 5 refine .k ?_
 refine .t (VB (false)) (e_pick (t := false) (ev_t rfl) rfl) ?_
 refine .m rfl ?_
 iterate 5 refine .k ?_
 refine .t (VB (false)) (e_pick (t := false) (ev_t rfl) rfl) ?_
 refine .m rfl ?_
 iterate 5 refine .k ?_
 refine .t (VB (false)) (e_pick (t := false) (ev_t rfl) rfl) ?_
 refine .a rfl ?_
 refine .nil ?_
 refine CdOK.ret ?_
 refine ⟨.inr rfl, _, rfl, h, _, _, rfl, rfl, hC, ((renFlV rfl) : RenV _ _ _ _ (VB (false))), ?_⟩
 cases hm.ret; exact ⟨rfl, rfl⟩
end Rv
