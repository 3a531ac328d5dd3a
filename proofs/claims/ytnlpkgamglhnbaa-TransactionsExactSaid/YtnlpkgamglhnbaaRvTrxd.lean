import Derived.Test.YtnlpkgamglhnbaaRvTrxc
import Derived.Test.YtnlpkgamglhnbaaRvEnt
set_option linter.unusedVariables false
set_option linter.unusedSimpArgs false
namespace Rv
open Go Go.RowKit Go.Proofs
theorem pl75 : plainFn Try.prog 75 = true := by decide +kernel
theorem pl91 : plainFn Try.prog 91 = true := by decide +kernel
theorem pl135 : plainFn Try.prog 135 = true := by decide +kernel
theorem pl137 : plainFn Try.prog 137 = true := by decide +kernel
def transactions_Note (l_ : (List Tx)) (e_ : AEntry) : Option ((List Tx) × Int) := ((transactions_Valid l_).bind fun (x1 : Bool) => (if (!x1) = true then some (([] : List Tx), 15) else ((entry_Valid e_).bind fun (x4 : Bool) => (if (!x4) = true then some (([] : List Tx), 12) else (if e_.tx = 0 then some (l_, 0) else ((transactions_Find l_ e_.tx).bind fun (x9 : Int) => (if x9 < 0 then some (([] : List Tx), 16) else (if (0 : Int) ≤ x9 ∧ x9 < (l_.length : Int) then ((BinarySearch ((gd l_ x9).pending) e_.ref).bind fun (x13 : (Int × Bool)) => (((if e_.prevTx ≠ ((gd l_ x9).last) then some (Sum.inr (([] : List Tx), 13)) else (if e_.kind_ = 2 then (if (!x13.2) = true then some (Sum.inr (([] : List Tx), 13)) else some (Sum.inl ())) else some (Sum.inl ())))).bind fun (z : Sum Unit ((List Tx) × Int)) => match z with | .inl (s20 : Unit) => (((if e_.kind_ = 1 then ((slices_Clip ((gd l_ x9).pending)).bind fun (x23 : (List Int)) => (if (x23.length = 0 ∨ 0 < ([e_.lsn] : List Int).length) ∧ x23.length + ([e_.lsn] : List Int).length ≤ 17592186044416 then some (Sum.inl (⟨(gd l_ x9).id_, (gd l_ x9).state, e_.lsn, (gd l_ x9).until_, (x23 ++ ([e_.lsn] : List Int)), (gd l_ x9).saves⟩ : Tx)) else none)) else (if e_.kind_ = 2 then (if ((gd l_ x9).pending).length ≤ 17592186044416 then (if ((0 : Int) ≤ x13.1 ∧ (w64 (x13.1 + 1)) = x13.1 + 1 ∧ (w64 (x13.1 + 1)) ≤ (((gd l_ x9).pending).length : Int)) ∧ ((gd l_ x9).pending).length ≤ 1000000 then some (Sum.inl (⟨(gd l_ x9).id_, (gd l_ x9).state, e_.lsn, (gd l_ x9).until_, (delL ((gd l_ x9).pending) (Int.toNat x13.1)), (gd l_ x9).saves⟩ : Tx)) else none) else none) else (if e_.kind_ = 4 then some (Sum.inl (⟨(gd l_ x9).id_, 3, e_.lsn, 0, (gd l_ x9).pending, ([] : List Int)⟩ : Tx)) else (((if e_.kind_ = 3 then some (decide (e_.kind_ = 3)) else some (decide (e_.kind_ = 5)))).bind fun (s36 : Bool) => (if s36 = true then ((transactions_Remove l_ e_.tx).bind fun (x38 : (List Tx)) => some (Sum.inr (x38, 0))) else some (Sum.inl (⟨(gd l_ x9).id_, (gd l_ x9).state, e_.lsn, (gd l_ x9).until_, (gd l_ x9).pending, (gd l_ x9).saves⟩ : Tx)))))))).bind fun (z : Sum Tx ((List Tx) × Int)) => match z with | .inl (s40 : Tx) => (((if s40.state = 2 then ((transactions_left s40 s40.until_).bind fun (x43 : Bool) => (if (!x43) = true then some (⟨s40.id_, 1, s40.last, 0, s40.pending, s40.saves⟩ : Tx) else some s40)) else some s40)).bind fun (s47 : Tx) => ((transactions_with l_ s47).bind fun (x48 : (List Tx)) => some (x48, 0))) | .inr r => some r) | .inr r => some r)) else none))))))))
theorem transactions_Note_ok {h : Heap} {l_ : (List Tx)} {e_ : AEntry}   {r : ((List Tx) × Int)} (hm : transactions_Note l_ e_ = some r) : FnOK Try.prog 68 [.o (.c (.L 6 (l_.map Tx.cs))), .o (.agg [I (e_.lsn), I (e_.kind_), I (e_.tx), I (e_.prevTx), I (e_.prevPage), I (e_.ref), I (e_.change.page), I (e_.change.slot), Bo (e_.change.before.set_), .v (.string e_.change.before.data), Bo (e_.change.after.set_), .v (.string e_.change.after.data), .v (.string e_.blob)])] h (fun v h' => v = .tup [.c (.L 6 (r.1.map Tx.cs)), .c (I (r.2))] ∧ h' = h) := by
 refine FnOK.fin ?_
 refine FnOK.bodyC (N := 107) Try.func68 rfl rfl rfl (fun hC => ?_)
 replace hm := Ev.of hm
 rw [transactions_Note.eq_1] at hm
 show CdOK _ _ _ (look _ [(0, .o (.c (.L 6 (l_.map Tx.cs)))), (1, .o (.agg [I (e_.lsn), I (e_.kind_), I (e_.tx), I (e_.prevTx), I (e_.prevPage), I (e_.ref), I (e_.change.page), I (e_.change.slot), Bo (e_.change.before.set_), .v (.string e_.change.before.data), Bo (e_.change.after.set_), .v (.string e_.change.after.data), .v (.string e_.blob)]))]) (h ++ ([] : Heap)) _
 refine .seq (.region (.t (.o (.c (.ptr (h.length + 0) 0))) (e_boxN (L' := [⟨[I (e_.lsn), I (e_.kind_), I (e_.tx), I (e_.prevTx), I (e_.prevPage), I (e_.ref), I (e_.change.page), I (e_.change.slot), Bo (e_.change.before.set_), .v (.string e_.change.before.data), Bo (e_.change.after.set_), .v (.string e_.change.after.data), .v (.string e_.blob)], true, true⟩]) rfl (ev_t rfl) rfl rfl) ?_))
 refine .t (.o (.c (.v (.slice none 0 0)))) (e_as rfl) ?_
 refine .t (VI (0)) (e_as rfl) ?_
 refine .nil (CdOK.seq ?_)
 refine .block ?_
 refine .seq (.region (.m rfl ?_))
 obtain ⟨x1, e1, hm⟩ := hm.call
 refine .cl rfl rfl rfl rfl pl65 (R2.wk _) (transactions_Valid_ok    e1) ?_
 rintro _ _ ⟨rfl, rfl⟩
 refine .t (VB ((!x1))) (e_un (ev_t rfl) rfl) ?_
 refine .a rfl ?_
 refine .nil ?_
 refine CdOK.condB (ev_t rfl) ?_ ?_
 ·intro c2; replace hm := hm.ifp c2
  refine .seq (.region (.t (.o (.c (.v (.slice none 0 0)))) (e_as rfl) ?_))
  refine .t (VI (15)) (e_as rfl) ?_
  refine .nil ?_
  refine CdOK.ret ?_
  refine ⟨.inr rfl, _, rfl, h, _, _, rfl, rfl, hC, ((.tup (R2.of (.c (.wk (.fl _ rfl) (.nlL _))) (R2.of (.c (.fl _ rfl)) (R2.nil _)))) : RenV _ _ _ _ (.tup [.c (.L 6 (([] : List Tx).map Tx.cs)), .c (I (15))])), ?_⟩
  cases hm.ret; exact ⟨rfl, rfl⟩
 intro c3; replace hm := hm.ifn c3
 refine .seq (.region (.t _ (e_ldbA (ev_t rfl) ty59 (bx rfl rfl) rfl rfl) ?_))
 obtain ⟨x4, e4, hm⟩ := hm.call
 refine .cl rfl rfl rfl rfl pl135 (R2.wk _) (entry_Valid_ok    e4) ?_
 rintro _ _ ⟨rfl, rfl⟩
 refine .t (VB ((!x4))) (e_un (ev_t rfl) rfl) ?_
 refine .a rfl ?_
 refine .nil ?_
 refine CdOK.condB (ev_t rfl) ?_ ?_
 ·intro c5; replace hm := hm.ifp c5
  refine .seq (.region (.t (.o (.c (.v (.slice none 0 0)))) (e_as rfl) ?_))
  refine .t (VI (12)) (e_as rfl) ?_
  refine .nil ?_
  refine CdOK.ret ?_
  refine ⟨.inr rfl, _, rfl, h, _, _, rfl, rfl, hC, ((.tup (R2.of (.c (.wk (.fl _ rfl) (.nlL _))) (R2.of (.c (.fl _ rfl)) (R2.nil _)))) : RenV _ _ _ _ (.tup [.c (.L 6 (([] : List Tx).map Tx.cs)), .c (I (12))])), ?_⟩
  cases hm.ret; exact ⟨rfl, rfl⟩
 intro c6; replace hm := hm.ifn c6
 refine .seq (.region (.t _ (e_fa' fa59_2 (ev_t rfl)) ?_))
 refine .t _ (e_ldb1 (ev_t rfl) ty3 (bx rfl rfl) rfl) ?_
 refine .t (VB (decide (e_.tx = 0))) (e_eqK (ev_t rfl) rfl) ?_
 refine .a rfl ?_
 refine .nil ?_
 refine CdOK.condD (ev_t rfl) ?_ ?_
 ·intro c7; replace hm := hm.ifp c7
  refine .seq (.region (.m rfl ?_))
  refine .a rfl ?_
  refine .t (VI (0)) (e_as rfl) ?_
  refine .nil ?_
  refine CdOK.ret ?_
  refine ⟨.inr rfl, _, rfl, h, _, _, rfl, rfl, hC, ((renFlV rfl) : RenV _ _ _ _ (.tup [.c (.L 6 (l_.map Tx.cs)), .c (I (0))])), ?_⟩
  cases hm.ret; exact ⟨rfl, rfl⟩
 intro c8; replace hm := hm.ifn c8
 refine .skip ?_
 refine CdOK.seq (.region (.m rfl ?_))
 refine .t _ (e_fa' fa59_2 (ev_t rfl)) ?_
 refine .t _ (e_ldb1 (ev_t rfl) ty3 (bx rfl rfl) rfl) ?_
 obtain ⟨x9, e9, hm⟩ := hm.call
 refine .cl rfl rfl rfl rfl pl73 (R2.wk _) (transactions_Find_ok    e9) ?_
 rintro _ _ ⟨rfl, rfl⟩
 refine .a rfl ?_
 refine .nil (CdOK.seq (.seq (.region (.m rfl ?_))))
 refine .t (VB (decide (x9 < 0))) (e_bin (ev_t rfl) rfl rfl rfl) ?_
 refine .nil ?_
 refine CdOK.condD (ev_t rfl) ?_ ?_
 ·intro c10; replace hm := hm.ifp c10
  refine .seq (.region (.t (.o (.c (.v (.slice none 0 0)))) (e_as rfl) ?_))
  refine .t (VI (16)) (e_as rfl) ?_
  refine .nil ?_
  refine CdOK.ret ?_
  refine ⟨.inr rfl, _, rfl, h, _, _, rfl, rfl, hC, ((.tup (R2.of (.c (.wk (.fl _ rfl) (.nlL _))) (R2.of (.c (.fl _ rfl)) (R2.nil _)))) : RenV _ _ _ _ (.tup [.c (.L 6 (([] : List Tx).map Tx.cs)), .c (I (16))])), ?_⟩
  cases hm.ret; exact ⟨rfl, rfl⟩
 intro c11; replace hm := hm.ifn c11
 refine .skip ?_
 refine CdOK.seq (.region ?_)
 iterate 2 refine .m rfl ?_
 obtain ⟨c12, hm⟩ := hm.ifs
 refine .t (.o (.c (.rp [I ((gd l_ x9).id_), I ((gd l_ x9).state), I ((gd l_ x9).last), I ((gd l_ x9).until_), .L 1 (((gd l_ x9).pending).map cI), .L 1 (((gd l_ x9).saves).map cI)]))) (e_ixM (f := Tx.cs) (l := l_) (i := x9) (ev_t rfl) (ev_t rfl) el92 c12) ?_
 refine .t _ (e_ldRA (ev_t rfl) ty108 rfl rfl) ?_
 refine .t (.o (.c (.ptr (h.length + 1) 0))) (e_allocN (L' := [⟨[I (e_.lsn), I (e_.kind_), I (e_.tx), I (e_.prevTx), I (e_.prevPage), I (e_.ref), I (e_.change.page), I (e_.change.slot), Bo (e_.change.before.set_), .v (.string e_.change.before.data), Bo (e_.change.after.set_), .v (.string e_.change.after.data), .v (.string e_.blob)], true, true⟩, ⟨[I (0), I (0), I (0), I (0), .v (.slice none 0 0), .v (.slice none 0 0)], true, true⟩]) rfl zo108 rfl rfl) ?_
 refine .s0 rfl rfl (e_stN (L' := [⟨[I (e_.lsn), I (e_.kind_), I (e_.tx), I (e_.prevTx), I (e_.prevPage), I (e_.ref), I (e_.change.page), I (e_.change.slot), Bo (e_.change.before.set_), .v (.string e_.change.before.data), Bo (e_.change.after.set_), .v (.string e_.change.after.data), .v (.string e_.blob)], true, true⟩, ⟨[I ((gd l_ x9).id_), I ((gd l_ x9).state), I ((gd l_ x9).last), I ((gd l_ x9).until_), .L 1 (((gd l_ x9).pending).map cI), .L 1 (((gd l_ x9).saves).map cI)], true, true⟩]) rfl (ev_t rfl) (ev_t rfl) ty108 rfl rfl rfl rfl rfl) ?_
 refine .nil (CdOK.seq (.region (.t _ (e_fa' fa108_4 (ev_t rfl)) ?_)))
 refine .t _ (e_ldb1 (ev_t rfl) ty27 (bx rfl rfl) rfl) ?_
 refine .t _ (e_fa' fa59_5 (ev_t rfl)) ?_
 refine .t _ (e_ldb1 (ev_t rfl) ty3 (bx rfl rfl) rfl) ?_
 obtain ⟨x13, e13, hm⟩ := hm.call
 refine .cl rfl rfl rfl rfl pl91 (R2.wk _) (BinarySearch_ok    e13) ?_
 rintro _ _ ⟨rfl, rfl⟩
 refine .m rfl ?_
 refine .t (VI (x13.1)) (e_ext (ev_t rfl) rfl) ?_
 refine .t (VB (x13.2)) (e_ext (ev_t rfl) rfl) ?_
 iterate 2 refine .a rfl ?_
 refine .nil ?_
 replace hm := hm.bnd
 refine CdOK.joinE (σ := Unit) (fun s => Sum.inl ()) hm (fun s => [(0, .o (.c (.L 6 (l_.map Tx.cs)))), (3, .o (.c (.ptr (h.length + 0) 0))), (7, .o (.c (.ptr (h.length + 1) 0))), (8, VI (x13.1))]) (fun s => h ++ ([⟨[I (e_.lsn), I (e_.kind_), I (e_.tx), I (e_.prevTx), I (e_.prevPage), I (e_.ref), I (e_.change.page), I (e_.change.slot), Bo (e_.change.before.set_), .v (.string e_.change.before.data), Bo (e_.change.after.set_), .v (.string e_.change.after.data), .v (.string e_.blob)], true, true⟩, ⟨[I ((gd l_ x9).id_), I ((gd l_ x9).state), I ((gd l_ x9).last), I ((gd l_ x9).until_), .L 1 (((gd l_ x9).pending).map cI), .L 1 (((gd l_ x9).saves).map cI)], true, true⟩] : Heap)) ?_ ?_
 ·intro hm
  refine .seq (.region (.t _ (e_fa' fa59_3 (ev_t rfl)) ?_))
  refine .t _ (e_ldb1 (ev_t rfl) ty3 (bx rfl rfl) rfl) ?_
  refine .t _ (e_fa' fa108_2 (ev_t rfl)) ?_
  refine .t _ (e_ldb1 (ev_t rfl) ty3 (bx rfl rfl) rfl) ?_
  refine .sd rfl rfl rfl (e_neK (ev_t rfl) (ev_t rfl)) ?_ ?_
  ·intro c14; replace hm := hm.ifp c14
   refine .m rfl ?_
   iterate 7 refine .k ?_
   refine .t (VB (true)) (e_pick (t := true) (ev_t rfl) rfl) ?_
   refine .nil ?_
   refine CdOK.cond_true rfl ?_
   refine .seq (.region (.t (.o (.c (.v (.slice none 0 0)))) (e_as rfl) ?_))
   refine .t (VI (13)) (e_as rfl) ?_
   refine .nil ?_
   refine CdOK.ret ?_
   refine ⟨.inr rfl, _, rfl, h, _, _, rfl, rfl, hC, ((.tup (R2.of (.c (.wk (.fl _ rfl) (.nlL _))) (R2.of (.c (.fl _ rfl)) (R2.nil _)))) : RenV _ _ _ _ (.tup [.c (.L 6 (([] : List Tx).map Tx.cs)), .c (I (13))])), ?_⟩
   have hr := hm.ret; replace hr := Ev.ret hr; cases hr; exact ⟨rfl, rfl⟩
  intro c15; replace hm := hm.ifn c15
  refine .m rfl ?_
  refine .t _ (e_fa' fa59_1 (ev_t rfl)) ?_
  refine .t _ (e_ldb1 (ev_t rfl) ty3 (bx rfl rfl) rfl) ?_
  refine .sd rfl rfl rfl (e_eqK (ev_t rfl) rfl) ?_ ?_
  ·intro c16; replace hm := hm.ifp c16
   iterate 2 refine .m rfl ?_
   refine .t (VB ((!x13.2))) (e_un (ev_t rfl) rfl) ?_
   refine .t (VB ((!x13.2))) (e_pick (t := true) (ev_t rfl) (ev_t rfl)) ?_
   refine .t (VB ((!x13.2))) (e_pick (t := false) (ev_t rfl) (ev_t rfl)) ?_
   refine .nil ?_
   refine CdOK.condB (ev_t rfl) ?_ ?_
   ·intro c17; replace hm := hm.ifp c17
    refine .seq (.region (.t (.o (.c (.v (.slice none 0 0)))) (e_as rfl) ?_))
    refine .t (VI (13)) (e_as rfl) ?_
    refine .nil ?_
    refine CdOK.ret ?_
    refine ⟨.inr rfl, _, rfl, h, _, _, rfl, rfl, hC, ((.tup (R2.of (.c (.wk (.fl _ rfl) (.nlL _))) (R2.of (.c (.fl _ rfl)) (R2.nil _)))) : RenV _ _ _ _ (.tup [.c (.L 6 (([] : List Tx).map Tx.cs)), .c (I (13))])), ?_⟩
    have hr := hm.ret; replace hr := Ev.ret hr; cases hr; exact ⟨rfl, rfl⟩
   intro c18; replace hm := hm.ifn c18
   refine .skip ?_
   refine .id ?_
   exact ⟨(), hm.ret, (.cons rfl (.cons rfl (.cons rfl (.cons rfl .nil)))), rfl⟩
  intro c19; replace hm := hm.ifn c19
  refine .m rfl ?_
  iterate 2 refine .k ?_
  refine .t (VB (false)) (e_pick (t := false) (ev_t rfl) rfl) ?_
  refine .t (VB (false)) (e_pick (t := false) (ev_t rfl) (ev_t rfl)) ?_
  refine .nil ?_
  refine CdOK.cond_false rfl ?_
  refine .skip ?_
  refine .id ?_
  exact ⟨(), hm.ret, (.cons rfl (.cons rfl (.cons rfl (.cons rfl .nil)))), rfl⟩
 intro _ T0 hm
 show CdOK _ _ _ (look T0 [(0, .o (.c (.L 6 (l_.map Tx.cs)))), (3, .o (.c (.ptr (h.length + 0) 0))), (7, .o (.c (.ptr (h.length + 1) 0))), (8, VI (x13.1))]) (h ++ ([⟨[I (e_.lsn), I (e_.kind_), I (e_.tx), I (e_.prevTx), I (e_.prevPage), I (e_.ref), I (e_.change.page), I (e_.change.slot), Bo (e_.change.before.set_), .v (.string e_.change.before.data), Bo (e_.change.after.set_), .v (.string e_.change.after.data), .v (.string e_.blob)], true, true⟩, ⟨[I ((gd l_ x9).id_), I ((gd l_ x9).state), I ((gd l_ x9).last), I ((gd l_ x9).until_), .L 1 (((gd l_ x9).pending).map cI), .L 1 (((gd l_ x9).saves).map cI)], true, true⟩] : Heap)) _
 replace hm : Ev _ _ := hm
 refine .seq (.region (.t _ (e_fa' fa59_0 (ev_t rfl)) ?_))
 refine .t _ (e_ldb1 (ev_t rfl) ty3 (bx rfl rfl) rfl) ?_
 refine .t _ (e_fa' fa108_2 (ev_t rfl)) ?_
 refine .s0 rfl rfl (e_stN (L' := [⟨[I (e_.lsn), I (e_.kind_), I (e_.tx), I (e_.prevTx), I (e_.prevPage), I (e_.ref), I (e_.change.page), I (e_.change.slot), Bo (e_.change.before.set_), .v (.string e_.change.before.data), Bo (e_.change.after.set_), .v (.string e_.change.after.data), .v (.string e_.blob)], true, true⟩, ⟨[I ((gd l_ x9).id_), I ((gd l_ x9).state), I (e_.lsn), I ((gd l_ x9).until_), .L 1 (((gd l_ x9).pending).map cI), .L 1 (((gd l_ x9).saves).map cI)], true, true⟩]) rfl (ev_t rfl) (ev_t rfl) ty3 rfl rfl rfl rfl rfl) ?_
 refine .nil ?_
 replace hm := hm.bnd
 refine CdOK.joinE (σ := Tx) (fun s => Sum.inl s) hm (fun s => [(0, .o (.c (.L 6 (l_.map Tx.cs)))), (7, .o (.c (.ptr (h.length + 0) 0)))]) (fun s => h ++ ([⟨[I (s.id_), I (s.state), I (s.last), I (s.until_), .L 1 (s.pending.map cI), .L 1 (s.saves.map cI)], true, true⟩] : Heap)) ?_ ?_
 ·intro hm
  refine .seq (.region (.t _ (e_fa' fa59_1 (ev_t rfl)) ?_))
  refine .t _ (e_ldb1 (ev_t rfl) ty3 (bx rfl rfl) rfl) ?_
  refine .nil ?_
  refine CdOK.block ?_
  refine .seq (.region (.t (VB (decide (e_.kind_ = 1))) (e_eqK (ev_t rfl) rfl) ?_))
  refine .a rfl ?_
  refine .nil ?_
  refine CdOK.condD (ev_t rfl) ?_ ?_
  ·intro c22; replace hm := hm.ifp c22
   refine .draw2 (ord := [0, 1, 2, 3, 4, 5, 6, 7, 8]) (chain := [6, 8]) fol (by decide +kernel) (by decide +kernel) ?_
   refine .p _ (e_fa' fa108_4 (ev_t rfl)) ?_
   refine .q _ (e_ldb1 (ev_t rfl) ty27 (bx rfl rfl) rfl) ?_
   obtain ⟨x23, e23, hm⟩ := hm.call
   refine .fc (v := .o (.c (.LC 1 (x23.map cI)))) rfl rfl rfl rfl rfl rfl rfl pl136 (R2.wk _) (slices_Clip_ok    e23) ?_
   refine .p _ (e_fa' fa59_0 (ev_t rfl)) ?_
   refine .q _ (e_ldb1 (ev_t rfl) ty3 (bx rfl rfl) rfl) ?_
   refine .p (.o (.c (.LC 1 (([e_.lsn] : List Int).map cI)))) (e_lit (cs := [I (e_.lsn)]) (xs := ([e_.lsn]).map cI) slt27 nl27 rfl rfl rfl rfl rfl) ?_
   obtain ⟨c24, hm⟩ := hm.ifs
   refine .c (v := .o (.c (.g (h.length + 2) (((x23 ++ ([e_.lsn] : List Int))).length) 1 (decide (0 < ([e_.lsn] : List Int).length))))) rfl rfl rfl rfl rfl (e_apC (k := 1) (q := 17592186044416) (m := ([e_.lsn] : List Int).length) (f := cI) (xs := x23) (ys := ([e_.lsn] : List Int)) (L' := [⟨[I (e_.lsn), I (e_.kind_), I (e_.tx), I (e_.prevTx), I (e_.prevPage), I (e_.ref), I (e_.change.page), I (e_.change.slot), Bo (e_.change.before.set_), .v (.string e_.change.before.data), Bo (e_.change.after.set_), .v (.string e_.change.after.data), .v (.string e_.blob)], true, true⟩, ⟨[I ((gd l_ x9).id_), I ((gd l_ x9).state), I (e_.lsn), I ((gd l_ x9).until_), .L 1 (((gd l_ x9).pending).map cI), .L 1 (((gd l_ x9).saves).map cI)], true, true⟩, ⟨((x23 ++ ([e_.lsn] : List Int)).map cI).flatten, true, (decide (0 < ([e_.lsn] : List Int).length))⟩]) slt27 rfl (ev_t rfl) (ev_t rfl) src_LC rfl c24.1 c24.2 rfl rfl rfl rfl) (.m (by decide +kernel) (.m (by decide +kernel) (.m (by decide +kernel) .nil))) ?_
   refine .p _ (e_fa' fa108_4 (ev_t rfl)) ?_
   refine .c0 rfl rfl rfl rfl (e_stN (L' := [⟨[I (e_.lsn), I (e_.kind_), I (e_.tx), I (e_.prevTx), I (e_.prevPage), I (e_.ref), I (e_.change.page), I (e_.change.slot), Bo (e_.change.before.set_), .v (.string e_.change.before.data), Bo (e_.change.after.set_), .v (.string e_.change.after.data), .v (.string e_.blob)], true, true⟩, ⟨[I ((gd l_ x9).id_), I ((gd l_ x9).state), I (e_.lsn), I ((gd l_ x9).until_), .g (h.length + 2) (((x23 ++ ([e_.lsn] : List Int))).length) 1 (decide (0 < ([e_.lsn] : List Int).length)), .L 1 (((gd l_ x9).saves).map cI)], true, true⟩, ⟨((x23 ++ ([e_.lsn] : List Int)).map cI).flatten, true, (decide (0 < ([e_.lsn] : List Int).length))⟩]) rfl (ev_t rfl) (ev_t rfl) ty27 rfl rfl rfl rfl rfl) (.m (by decide +kernel) (.m (by decide +kernel) (.m (by decide +kernel) .nil))) ?_
   refine .nil ?_
   refine .re (σ := [1]) (X := [(0, .o (.c (.L 6 (l_.map Tx.cs)))), (7, .o (.c (.ptr (h.length + 0) 0)))]) (L' := [⟨[I ((⟨(gd l_ x9).id_, (gd l_ x9).state, e_.lsn, (gd l_ x9).until_, (x23 ++ ([e_.lsn] : List Int)), (gd l_ x9).saves⟩ : Tx).id_), I ((⟨(gd l_ x9).id_, (gd l_ x9).state, e_.lsn, (gd l_ x9).until_, (x23 ++ ([e_.lsn] : List Int)), (gd l_ x9).saves⟩ : Tx).state), I ((⟨(gd l_ x9).id_, (gd l_ x9).state, e_.lsn, (gd l_ x9).until_, (x23 ++ ([e_.lsn] : List Int)), (gd l_ x9).saves⟩ : Tx).last), I ((⟨(gd l_ x9).id_, (gd l_ x9).state, e_.lsn, (gd l_ x9).until_, (x23 ++ ([e_.lsn] : List Int)), (gd l_ x9).saves⟩ : Tx).until_), .L 1 ((⟨(gd l_ x9).id_, (gd l_ x9).state, e_.lsn, (gd l_ x9).until_, (x23 ++ ([e_.lsn] : List Int)), (gd l_ x9).saves⟩ : Tx).pending.map cI), .L 1 ((⟨(gd l_ x9).id_, (gd l_ x9).state, e_.lsn, (gd l_ x9).until_, (x23 ++ ([e_.lsn] : List Int)), (gd l_ x9).saves⟩ : Tx).saves.map cI)], true, true⟩]) rfl rfl hC (by decide) (.obj 1 rfl (R2.of (.fl _ rfl) (R2.of (.fl _ rfl) (R2.of (.fl _ rfl) (R2.of (.fl _ rfl) (R2.of (.fzg 2 _ 1 _ ((x23 ++ ([e_.lsn] : List Int)).map cI) rfl (by decide) (by first | exact List.length_map .. | simp) (lens_all (by intro x; rfl)) (vl_all (by intro x; rfl))) (R2.of (.fl _ rfl) (R2.nil _))))))) .nil) (.cons (renFlV rfl) (.cons (.o (.c (.ptr 1 0 _ rfl))) .nil)) ?_
   exact ⟨(⟨(gd l_ x9).id_, (gd l_ x9).state, e_.lsn, (gd l_ x9).until_, (x23 ++ ([e_.lsn] : List Int)), (gd l_ x9).saves⟩ : Tx), hm.ret, (.cons rfl (.cons rfl .nil)), rfl⟩
  intro c25; replace hm := hm.ifn c25
  refine .seq (.region (.t (VB (decide (e_.kind_ = 2))) (e_eqK (ev_t rfl) rfl) ?_))
  refine .a rfl ?_
  refine .nil ?_
  refine CdOK.condD (ev_t rfl) ?_ ?_
  ·intro c26; replace hm := hm.ifp c26
   refine .region (.t _ (e_fa' fa108_4 (ev_t rfl)) ?_)
   refine .t _ (e_ldb1 (ev_t rfl) ty27 (bx rfl rfl) rfl) ?_
   obtain ⟨c28, hm⟩ := hm.ifs
   refine .cl rfl rfl rfl rfl pl93 (R2.wk _) (cloneI_ok (A := (h.length + 2)) (l := (gd l_ x9).pending) (lenN rfl rfl) c28) ?_
   rintro _ _ ⟨lv27, rfl, rfl⟩
   rw [show (h ++ ([⟨[I (e_.lsn), I (e_.kind_), I (e_.tx), I (e_.prevTx), I (e_.prevPage), I (e_.ref), I (e_.change.page), I (e_.change.slot), Bo (e_.change.before.set_), .v (.string e_.change.before.data), Bo (e_.change.after.set_), .v (.string e_.change.after.data), .v (.string e_.blob)], true, true⟩, ⟨[I ((gd l_ x9).id_), I ((gd l_ x9).state), I (e_.lsn), I ((gd l_ x9).until_), .L 1 (((gd l_ x9).pending).map cI), .L 1 (((gd l_ x9).saves).map cI)], true, true⟩] : Heap)) ++ [⟨(((gd l_ x9).pending).map cI).flatten, true, lv27⟩] = h ++ ([⟨[I (e_.lsn), I (e_.kind_), I (e_.tx), I (e_.prevTx), I (e_.prevPage), I (e_.ref), I (e_.change.page), I (e_.change.slot), Bo (e_.change.before.set_), .v (.string e_.change.before.data), Bo (e_.change.after.set_), .v (.string e_.change.after.data), .v (.string e_.blob)], true, true⟩, ⟨[I ((gd l_ x9).id_), I ((gd l_ x9).state), I (e_.lsn), I ((gd l_ x9).until_), .L 1 (((gd l_ x9).pending).map cI), .L 1 (((gd l_ x9).saves).map cI)], true, true⟩, ⟨(((gd l_ x9).pending).map cI).flatten, true, lv27⟩] : Heap) from apnd rfl]
   iterate 2 refine .m rfl ?_
   refine .t (VI ((w64 (x13.1 + 1)))) (e_bin (ev_t rfl) rfl rfl rfl) ?_
   obtain ⟨c29, hm⟩ := hm.ifs
   refine .cl rfl rfl rfl rfl pl137 (R2.wk _) (delI_ok (A := (h.length + 3)) (l := (gd l_ x9).pending) (lenN rfl rfl) (bx rfl rfl) c29.1 c29.2) ?_
   rintro _ _ ⟨rfl, rfl⟩
   rw [show kill (h ++ ([⟨[I (e_.lsn), I (e_.kind_), I (e_.tx), I (e_.prevTx), I (e_.prevPage), I (e_.ref), I (e_.change.page), I (e_.change.slot), Bo (e_.change.before.set_), .v (.string e_.change.before.data), Bo (e_.change.after.set_), .v (.string e_.change.after.data), .v (.string e_.blob)], true, true⟩, ⟨[I ((gd l_ x9).id_), I ((gd l_ x9).state), I (e_.lsn), I ((gd l_ x9).until_), .L 1 (((gd l_ x9).pending).map cI), .L 1 (((gd l_ x9).saves).map cI)], true, true⟩, ⟨(((gd l_ x9).pending).map cI).flatten, true, lv27⟩] : Heap)) (h.length + 2) ++ [⟨((delL ((gd l_ x9).pending) (Int.toNat x13.1)).map cI).flatten, true, true⟩] = h ++ ([⟨[I (e_.lsn), I (e_.kind_), I (e_.tx), I (e_.prevTx), I (e_.prevPage), I (e_.ref), I (e_.change.page), I (e_.change.slot), Bo (e_.change.before.set_), .v (.string e_.change.before.data), Bo (e_.change.after.set_), .v (.string e_.change.after.data), .v (.string e_.blob)], true, true⟩, ⟨[I ((gd l_ x9).id_), I ((gd l_ x9).state), I (e_.lsn), I ((gd l_ x9).until_), .L 1 (((gd l_ x9).pending).map cI), .L 1 (((gd l_ x9).saves).map cI)], true, true⟩, ⟨(((gd l_ x9).pending).map cI).flatten, true, false⟩, ⟨((delL ((gd l_ x9).pending) (Int.toNat x13.1)).map cI).flatten, true, true⟩] : Heap) from apndK rfl rfl]
   refine .t _ (e_fa' fa108_4 (ev_t rfl)) ?_
   refine .s0 rfl rfl (e_stN (L' := [⟨[I (e_.lsn), I (e_.kind_), I (e_.tx), I (e_.prevTx), I (e_.prevPage), I (e_.ref), I (e_.change.page), I (e_.change.slot), Bo (e_.change.before.set_), .v (.string e_.change.before.data), Bo (e_.change.after.set_), .v (.string e_.change.after.data), .v (.string e_.blob)], true, true⟩, ⟨[I ((gd l_ x9).id_), I ((gd l_ x9).state), I (e_.lsn), I ((gd l_ x9).until_), .g (h.length + 3) (((delL ((gd l_ x9).pending) (Int.toNat x13.1))).length) 1 true, .L 1 (((gd l_ x9).saves).map cI)], true, true⟩, ⟨(((gd l_ x9).pending).map cI).flatten, true, false⟩, ⟨((delL ((gd l_ x9).pending) (Int.toNat x13.1)).map cI).flatten, true, true⟩]) rfl (ev_t rfl) (ev_t rfl) ty27 rfl rfl rfl rfl rfl) ?_
   refine .nil ?_
   refine .re (σ := [1]) (X := [(0, .o (.c (.L 6 (l_.map Tx.cs)))), (7, .o (.c (.ptr (h.length + 0) 0)))]) (L' := [⟨[I ((⟨(gd l_ x9).id_, (gd l_ x9).state, e_.lsn, (gd l_ x9).until_, (delL ((gd l_ x9).pending) (Int.toNat x13.1)), (gd l_ x9).saves⟩ : Tx).id_), I ((⟨(gd l_ x9).id_, (gd l_ x9).state, e_.lsn, (gd l_ x9).until_, (delL ((gd l_ x9).pending) (Int.toNat x13.1)), (gd l_ x9).saves⟩ : Tx).state), I ((⟨(gd l_ x9).id_, (gd l_ x9).state, e_.lsn, (gd l_ x9).until_, (delL ((gd l_ x9).pending) (Int.toNat x13.1)), (gd l_ x9).saves⟩ : Tx).last), I ((⟨(gd l_ x9).id_, (gd l_ x9).state, e_.lsn, (gd l_ x9).until_, (delL ((gd l_ x9).pending) (Int.toNat x13.1)), (gd l_ x9).saves⟩ : Tx).until_), .L 1 ((⟨(gd l_ x9).id_, (gd l_ x9).state, e_.lsn, (gd l_ x9).until_, (delL ((gd l_ x9).pending) (Int.toNat x13.1)), (gd l_ x9).saves⟩ : Tx).pending.map cI), .L 1 ((⟨(gd l_ x9).id_, (gd l_ x9).state, e_.lsn, (gd l_ x9).until_, (delL ((gd l_ x9).pending) (Int.toNat x13.1)), (gd l_ x9).saves⟩ : Tx).saves.map cI)], true, true⟩]) rfl rfl hC (by decide) (.obj 1 rfl (R2.of (.fl _ rfl) (R2.of (.fl _ rfl) (R2.of (.fl _ rfl) (R2.of (.fl _ rfl) (R2.of (.fzg 3 _ 1 _ ((delL ((gd l_ x9).pending) (Int.toNat x13.1)).map cI) rfl (by decide) (by first | exact List.length_map .. | simp) (lens_all (by intro x; rfl)) (vl_all (by intro x; rfl))) (R2.of (.fl _ rfl) (R2.nil _))))))) .nil) (.cons (renFlV rfl) (.cons (.o (.c (.ptr 1 0 _ rfl))) .nil)) ?_
   exact ⟨(⟨(gd l_ x9).id_, (gd l_ x9).state, e_.lsn, (gd l_ x9).until_, (delL ((gd l_ x9).pending) (Int.toNat x13.1)), (gd l_ x9).saves⟩ : Tx), hm.ret, (.cons rfl (.cons rfl .nil)), rfl⟩
  intro c30; replace hm := hm.ifn c30
  refine .seq (.region (.t (VB (decide (e_.kind_ = 4))) (e_eqK (ev_t rfl) rfl) ?_))
  refine .a rfl ?_
  refine .nil ?_
  refine CdOK.condD (ev_t rfl) ?_ ?_
  ·intro c31; replace hm := hm.ifp c31
   refine .region (.t _ (e_fa' fa108_1 (ev_t rfl)) ?_)
   refine .s0 rfl rfl (e_stN (L' := [⟨[I (e_.lsn), I (e_.kind_), I (e_.tx), I (e_.prevTx), I (e_.prevPage), I (e_.ref), I (e_.change.page), I (e_.change.slot), Bo (e_.change.before.set_), .v (.string e_.change.before.data), Bo (e_.change.after.set_), .v (.string e_.change.after.data), .v (.string e_.blob)], true, true⟩, ⟨[I ((gd l_ x9).id_), I (3), I (e_.lsn), I ((gd l_ x9).until_), .L 1 (((gd l_ x9).pending).map cI), .L 1 (((gd l_ x9).saves).map cI)], true, true⟩]) rfl (ev_t rfl) rfl ty3 rfl rfl rfl rfl rfl) ?_
   refine .t _ (e_fa' fa108_3 (ev_t rfl)) ?_
   refine .s0 rfl rfl (e_stN (L' := [⟨[I (e_.lsn), I (e_.kind_), I (e_.tx), I (e_.prevTx), I (e_.prevPage), I (e_.ref), I (e_.change.page), I (e_.change.slot), Bo (e_.change.before.set_), .v (.string e_.change.before.data), Bo (e_.change.after.set_), .v (.string e_.change.after.data), .v (.string e_.blob)], true, true⟩, ⟨[I ((gd l_ x9).id_), I (3), I (e_.lsn), I (0), .L 1 (((gd l_ x9).pending).map cI), .L 1 (((gd l_ x9).saves).map cI)], true, true⟩]) rfl (ev_t rfl) rfl ty3 rfl rfl rfl rfl rfl) ?_
   refine .t _ (e_fa' fa108_5 (ev_t rfl)) ?_
   refine .s0 rfl rfl (e_stN (L' := [⟨[I (e_.lsn), I (e_.kind_), I (e_.tx), I (e_.prevTx), I (e_.prevPage), I (e_.ref), I (e_.change.page), I (e_.change.slot), Bo (e_.change.before.set_), .v (.string e_.change.before.data), Bo (e_.change.after.set_), .v (.string e_.change.after.data), .v (.string e_.blob)], true, true⟩, ⟨[I ((gd l_ x9).id_), I (3), I (e_.lsn), I (0), .L 1 (((gd l_ x9).pending).map cI), .v (.slice none 0 0)], true, true⟩]) rfl (ev_t rfl) rfl ty27 rfl rfl rfl rfl rfl) ?_
   refine .nil ?_
   refine .re (σ := [1]) (X := [(0, .o (.c (.L 6 (l_.map Tx.cs)))), (7, .o (.c (.ptr (h.length + 0) 0)))]) (L' := [⟨[I ((⟨(gd l_ x9).id_, 3, e_.lsn, 0, (gd l_ x9).pending, ([] : List Int)⟩ : Tx).id_), I ((⟨(gd l_ x9).id_, 3, e_.lsn, 0, (gd l_ x9).pending, ([] : List Int)⟩ : Tx).state), I ((⟨(gd l_ x9).id_, 3, e_.lsn, 0, (gd l_ x9).pending, ([] : List Int)⟩ : Tx).last), I ((⟨(gd l_ x9).id_, 3, e_.lsn, 0, (gd l_ x9).pending, ([] : List Int)⟩ : Tx).until_), .L 1 ((⟨(gd l_ x9).id_, 3, e_.lsn, 0, (gd l_ x9).pending, ([] : List Int)⟩ : Tx).pending.map cI), .L 1 ((⟨(gd l_ x9).id_, 3, e_.lsn, 0, (gd l_ x9).pending, ([] : List Int)⟩ : Tx).saves.map cI)], true, true⟩]) rfl rfl hC (by decide) (.obj 1 rfl (R2.of (.fl _ rfl) (R2.of (.fl _ rfl) (R2.of (.fl _ rfl) (R2.of (.fl _ rfl) (R2.of (.fl _ rfl) (R2.of (.wk (.fl _ rfl) (.nlL _)) (R2.nil _))))))) .nil) (.cons (renFlV rfl) (.cons (.o (.c (.ptr 1 0 _ rfl))) .nil)) ?_
   exact ⟨(⟨(gd l_ x9).id_, 3, e_.lsn, 0, (gd l_ x9).pending, ([] : List Int)⟩ : Tx), hm.ret, (.cons rfl (.cons rfl .nil)), rfl⟩
  intro c32; replace hm := hm.ifn c32
  replace hm := hm.bnd
  refine .joinE (σ := Bool) (fun s => s) hm (fun s => [(0, .o (.c (.L 6 (l_.map Tx.cs)))), (3, .o (.c (.ptr (h.length + 0) 0))), (7, .o (.c (.ptr (h.length + 1) 0))), (85, VB (s))]) (fun s => h ++ ([⟨[I (e_.lsn), I (e_.kind_), I (e_.tx), I (e_.prevTx), I (e_.prevPage), I (e_.ref), I (e_.change.page), I (e_.change.slot), Bo (e_.change.before.set_), .v (.string e_.change.before.data), Bo (e_.change.after.set_), .v (.string e_.change.after.data), .v (.string e_.blob)], true, true⟩, ⟨[I ((gd l_ x9).id_), I ((gd l_ x9).state), I (e_.lsn), I ((gd l_ x9).until_), .L 1 (((gd l_ x9).pending).map cI), .L 1 (((gd l_ x9).saves).map cI)], true, true⟩] : Heap)) ?_ ?_
  ·intro hm
   refine .seq (.region (.t (VB (decide (e_.kind_ = 3))) (e_eqK (ev_t rfl) rfl) ?_))
   refine .a rfl ?_
   refine .nil ?_
   refine CdOK.condD (ev_t rfl) ?_ ?_
   ·intro c34; replace hm := hm.ifp c34
    refine .skip ?_
    refine .id ?_
    exact ⟨(decide (e_.kind_ = 3)), hm.ret, (.cons rfl (.cons rfl (.cons rfl (.cons rfl .nil)))), rfl⟩
   intro c35; replace hm := hm.ifn c35
   refine .region (.t (VB (decide (e_.kind_ = 5))) (e_eqK (ev_t rfl) rfl) ?_)
   refine .a rfl ?_
   refine .nil (.id ?_)
   exact ⟨(decide (e_.kind_ = 5)), hm.ret, (.cons rfl (.cons rfl (.cons rfl (.cons rfl .nil)))), rfl⟩
  rintro t8533 T0 hm
  show CdOK _ _ _ (look T0 [(0, .o (.c (.L 6 (l_.map Tx.cs)))), (3, .o (.c (.ptr (h.length + 0) 0))), (7, .o (.c (.ptr (h.length + 1) 0))), (85, VB (t8533))]) (h ++ ([⟨[I (e_.lsn), I (e_.kind_), I (e_.tx), I (e_.prevTx), I (e_.prevPage), I (e_.ref), I (e_.change.page), I (e_.change.slot), Bo (e_.change.before.set_), .v (.string e_.change.before.data), Bo (e_.change.after.set_), .v (.string e_.change.after.data), .v (.string e_.blob)], true, true⟩, ⟨[I ((gd l_ x9).id_), I ((gd l_ x9).state), I (e_.lsn), I ((gd l_ x9).until_), .L 1 (((gd l_ x9).pending).map cI), .L 1 (((gd l_ x9).saves).map cI)], true, true⟩] : Heap)) _
  refine .condB (ev_t rfl) ?_ ?_
  ·intro c37; replace hm := hm.ifp c37
   refine .seq (.region (.m rfl ?_))
   refine .t _ (e_fa' fa59_2 (ev_t rfl)) ?_
   refine .t _ (e_ldb1 (ev_t rfl) ty3 (bx rfl rfl) rfl) ?_
   obtain ⟨x38, e38, hm⟩ := hm.call
   refine .cl rfl rfl rfl rfl pl75 (R2.wk _) (transactions_Remove_ok    e38) ?_
   rintro _ _ ⟨rfl, rfl⟩
   refine .a rfl ?_
   refine .t (VI (0)) (e_as rfl) ?_
   refine .nil ?_
   refine CdOK.ret ?_
   refine ⟨.inr rfl, _, rfl, h, _, _, rfl, rfl, hC, ((renFlV rfl) : RenV _ _ _ _ (.tup [.c (.L 6 (x38.map Tx.cs)), .c (I (0))])), ?_⟩
   have hr := hm.ret; replace hr := Ev.ret hr; cases hr; exact ⟨rfl, rfl⟩
  intro c39; replace hm := hm.ifn c39
  refine .skip ?_
  refine .re (σ := [1]) (X := [(0, .o (.c (.L 6 (l_.map Tx.cs)))), (7, .o (.c (.ptr (h.length + 0) 0)))]) (L' := [⟨[I ((⟨(gd l_ x9).id_, (gd l_ x9).state, e_.lsn, (gd l_ x9).until_, (gd l_ x9).pending, (gd l_ x9).saves⟩ : Tx).id_), I ((⟨(gd l_ x9).id_, (gd l_ x9).state, e_.lsn, (gd l_ x9).until_, (gd l_ x9).pending, (gd l_ x9).saves⟩ : Tx).state), I ((⟨(gd l_ x9).id_, (gd l_ x9).state, e_.lsn, (gd l_ x9).until_, (gd l_ x9).pending, (gd l_ x9).saves⟩ : Tx).last), I ((⟨(gd l_ x9).id_, (gd l_ x9).state, e_.lsn, (gd l_ x9).until_, (gd l_ x9).pending, (gd l_ x9).saves⟩ : Tx).until_), .L 1 ((⟨(gd l_ x9).id_, (gd l_ x9).state, e_.lsn, (gd l_ x9).until_, (gd l_ x9).pending, (gd l_ x9).saves⟩ : Tx).pending.map cI), .L 1 ((⟨(gd l_ x9).id_, (gd l_ x9).state, e_.lsn, (gd l_ x9).until_, (gd l_ x9).pending, (gd l_ x9).saves⟩ : Tx).saves.map cI)], true, true⟩]) rfl rfl hC (by decide) (.obj 1 rfl (renFl rfl) .nil) (.cons (renFlV rfl) (.cons (.o (.c (.ptr 1 0 _ rfl))) .nil)) ?_
  exact ⟨(⟨(gd l_ x9).id_, (gd l_ x9).state, e_.lsn, (gd l_ x9).until_, (gd l_ x9).pending, (gd l_ x9).saves⟩ : Tx), hm.ret, (.cons rfl (.cons rfl .nil)), rfl⟩
 rintro bx21 T0 hm
 show CdOK _ _ _ (look T0 [(0, .o (.c (.L 6 (l_.map Tx.cs)))), (7, .o (.c (.ptr (h.length + 0) 0)))]) (h ++ ([⟨[I (bx21.id_), I (bx21.state), I (bx21.last), I (bx21.until_), .L 1 (bx21.pending.map cI), .L 1 (bx21.saves.map cI)], true, true⟩] : Heap)) _
 replace hm : Ev _ _ := hm
 replace hm := hm.bnd
 refine .joinE (σ := Tx) (fun s => s) hm (fun s => [(0, .o (.c (.L 6 (l_.map Tx.cs)))), (7, .o (.c (.ptr (h.length + 0) 0)))]) (fun s => h ++ ([⟨[I (s.id_), I (s.state), I (s.last), I (s.until_), .L 1 (s.pending.map cI), .L 1 (s.saves.map cI)], true, true⟩] : Heap)) ?_ ?_
 ·intro hm
  refine .seq (.region (.t _ (e_fa' fa108_1 (ev_t rfl)) ?_))
  refine .t _ (e_ldb1 (ev_t rfl) ty3 (bx rfl rfl) rfl) ?_
  refine .sd rfl rfl rfl (e_eqK (ev_t rfl) rfl) ?_ ?_
  ·intro c42; replace hm := hm.ifp c42
   refine .m rfl ?_
   refine .t _ (e_ldbA (ev_t rfl) ty108 (bx rfl rfl) rfl rfl) ?_
   refine .t _ (e_fa' fa108_3 (ev_t rfl)) ?_
   refine .t _ (e_ldb1 (ev_t rfl) ty3 (bx rfl rfl) rfl) ?_
   obtain ⟨x43, e43, hm⟩ := hm.call
   refine .cl rfl rfl rfl rfl pl138 (R2.wk _) (transactions_left_ok    e43) ?_
   rintro _ _ ⟨rfl, rfl⟩
   refine .t (VB ((!x43))) (e_un (ev_t rfl) rfl) ?_
   refine .t (VB ((!x43))) (e_pick (t := true) (ev_t rfl) (ev_t rfl)) ?_
   refine .nil ?_
   refine CdOK.condB (ev_t rfl) ?_ ?_
   ·intro c44; replace hm := hm.ifp c44
    refine .region (.t _ (e_fa' fa108_1 (ev_t rfl)) ?_)
    refine .s0 rfl rfl (e_stN (L' := [⟨[I (bx21.id_), I (1), I (bx21.last), I (bx21.until_), .L 1 (bx21.pending.map cI), .L 1 (bx21.saves.map cI)], true, true⟩]) rfl (ev_t rfl) rfl ty3 rfl rfl rfl rfl rfl) ?_
    refine .t _ (e_fa' fa108_3 (ev_t rfl)) ?_
    refine .s0 rfl rfl (e_stN (L' := [⟨[I (bx21.id_), I (1), I (bx21.last), I (0), .L 1 (bx21.pending.map cI), .L 1 (bx21.saves.map cI)], true, true⟩]) rfl (ev_t rfl) rfl ty3 rfl rfl rfl rfl rfl) ?_
    refine .nil (.id ?_)
    exact ⟨(⟨bx21.id_, 1, bx21.last, 0, bx21.pending, bx21.saves⟩ : Tx), hm.ret, (.cons rfl (.cons rfl .nil)), rfl⟩
   intro c45; replace hm := hm.ifn c45
   refine .skip ?_
   refine .id ?_
   exact ⟨bx21, hm.ret, (.cons rfl (.cons rfl .nil)), rfl⟩
  intro c46; replace hm := hm.ifn c46
  refine .m rfl ?_
  iterate 5 refine .k ?_
  refine .t (VB (false)) (e_pick (t := false) (ev_t rfl) rfl) ?_
  refine .nil ?_
  refine CdOK.cond_false rfl ?_
  refine .skip ?_
  refine .id ?_
  exact ⟨bx21, hm.ret, (.cons rfl (.cons rfl .nil)), rfl⟩
 rintro bx41 T0 hm
 show CdOK _ _ _ (look T0 [(0, .o (.c (.L 6 (l_.map Tx.cs)))), (7, .o (.c (.ptr (h.length + 0) 0)))]) (h ++ ([⟨[I (bx41.id_), I (bx41.state), I (bx41.last), I (bx41.until_), .L 1 (bx41.pending.map cI), .L 1 (bx41.saves.map cI)], true, true⟩] : Heap)) _
 refine .seq (.region (.m rfl ?_))
 refine .t _ (e_ldbA (ev_t rfl) ty108 (bx rfl rfl) rfl rfl) ?_
 obtain ⟨x48, e48, hm⟩ := hm.call
 refine .cl rfl rfl rfl rfl pl139 (R2.wk _) (transactions_with_ok    e48) ?_
 rintro _ _ ⟨rfl, rfl⟩
 refine .a rfl ?_
 refine .t (VI (0)) (e_as rfl) ?_
 refine .nil ?_
 refine CdOK.ret ?_
 refine ⟨.inr rfl, _, rfl, h, _, _, rfl, rfl, hC, ((renFlV rfl) : RenV _ _ _ _ (.tup [.c (.L 6 (x48.map Tx.cs)), .c (I (0))])), ?_⟩
 cases hm.ret; exact ⟨rfl, rfl⟩
end Rv
