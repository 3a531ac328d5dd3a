import Derived.Test.YtnlpkgamglhnbaaRvR12c
import Derived.Test.YtnlpkgamglhnbaaRvDrw
import Derived.Test.YtnlpkgamglhnbaaRvBor2
set_option linter.unusedVariables false
set_option linter.unusedSimpArgs false
namespace Rv
open Go Go.RowKit Go.Proofs
theorem pl49 : plainFn Try.prog 49 = true := by decide +kernel
theorem pl67 : plainFn Try.prog 67 = true := by decide +kernel
theorem pl69 : plainFn Try.prog 69 = true := by decide +kernel
theorem pl72 : plainFn Try.prog 72 = true := by decide +kernel
theorem pl74 : plainFn Try.prog 74 = true := by decide +kernel
theorem pl78 : plainFn Try.prog 78 = true := by decide +kernel
theorem pl132 : plainFn Try.prog 132 = true := by decide +kernel
def law12_next (l_ : (List Tx)) (id_ : Int) (lsn : Int) (c_ : Codes) : Option (AEntry × Codes) := ((Codes_Next 9 c_).bind fun (x1 : (Int × Codes)) => (if (0 : Int) ≤ x1.1 ∧ x1.1 < (([1, 1, 1, 2, 2, 4, 3, 5, 7] : List Int).length : Int) then ((ref12_Find l_ id_).bind fun (x3 : Int) => (((if 0 ≤ x3 then (if (0 : Int) ≤ x3 ∧ x3 < (l_.length : Int) then some (⟨lsn, (gd ([1, 1, 1, 2, 2, 4, 3, 5, 7] : List Int) x1.1), id_, (gd l_ x3).last, 0, 0, (⟨0, 0, (⟨false, (⟨#[]⟩ : ByteArray)⟩ : ACell), (⟨false, (⟨#[]⟩ : ByteArray)⟩ : ACell)⟩ : Change), (⟨#[]⟩ : ByteArray)⟩ : AEntry) else none) else some (⟨lsn, (gd ([1, 1, 1, 2, 2, 4, 3, 5, 7] : List Int) x1.1), id_, 0, 0, 0, (⟨0, 0, (⟨false, (⟨#[]⟩ : ByteArray)⟩ : ACell), (⟨false, (⟨#[]⟩ : ByteArray)⟩ : ACell)⟩ : Change), (⟨#[]⟩ : ByteArray)⟩ : AEntry))).bind fun (s8 : AEntry) => (((if s8.kind_ = 2 then (if 0 ≤ x3 then (if (0 : Int) ≤ x3 ∧ x3 < (l_.length : Int) then (if 0 < (((gd l_ x3).pending).length : Int) then (if (0 : Int) ≤ x3 ∧ x3 < (l_.length : Int) then (if (0 : Int) ≤ x3 ∧ x3 < (l_.length : Int) then (if (0 : Int) ≤ x3 ∧ x3 < (l_.length : Int) then ((Codes_Next 2 x1.2).bind fun (x18 : (Int × Codes)) => (if (((gd l_ x3).pending).length : Int) ≠ 0 then (if (0 : Int) ≤ (w64 ((w64 ((((gd l_ x3).pending).length : Int) - 1)) - (Int.tmod x18.1 (((gd l_ x3).pending).length : Int)))) ∧ (w64 ((w64 ((((gd l_ x3).pending).length : Int) - 1)) - (Int.tmod x18.1 (((gd l_ x3).pending).length : Int)))) < (((gd l_ x3).pending).length : Int) then some ((⟨s8.lsn, s8.kind_, s8.tx, s8.prevTx, s8.prevPage, (gd ((gd l_ x3).pending) (w64 ((w64 ((((gd l_ x3).pending).length : Int) - 1)) - (Int.tmod x18.1 (((gd l_ x3).pending).length : Int))))), s8.change, s8.blob⟩ : AEntry), x18.2) else none) else none)) else none) else none) else none) else some (s8, x1.2)) else none) else some (s8, x1.2)) else some (s8, x1.2))).bind fun (s24 : (AEntry × Codes)) => (((if s24.1.kind_ = 7 then some (⟨s24.1.lsn, s24.1.kind_, 0, 0, s24.1.prevPage, s24.1.ref, s24.1.change, s24.1.blob⟩ : AEntry) else some s24.1)).bind fun (s28 : AEntry) => ((Codes_Next 12 s24.2).bind fun (x29 : (Int × Codes)) => (if x29.1 = 0 then ((Codes_Next lsn x29.2).bind fun (x31 : (Int × Codes)) => some ((⟨s28.lsn, s28.kind_, s28.tx, x31.1, s28.prevPage, s28.ref, s28.change, s28.blob⟩ : AEntry), x31.2)) else some (s28, x29.2))))))) else none))
theorem law12_next_ok {h : Heap} {l_ : (List Tx)} {id_ : Int} {lsn : Int} {c_ : Codes} {b_c_ : Nat} (hb_c_ : h[b_c_]? = some ⟨[.L 1 (c_.l_.map c_u8), I (c_.at_)], true, true⟩)  {r : (AEntry × Codes)} (hm : law12_next l_ id_ lsn c_ = some r) : FnOK Try.prog 67 [.o (.c (.ptr b_c_ 0)), .o (.c (.L 6 (l_.map Tx.cs))), VI (id_), VI (lsn)] h (fun v h' => v = .o (.agg [I (r.1.lsn), I (r.1.kind_), I (r.1.tx), I (r.1.prevTx), I (r.1.prevPage), I (r.1.ref), I (r.1.change.page), I (r.1.change.slot), Bo (r.1.change.before.set_), .v (.string r.1.change.before.data), Bo (r.1.change.after.set_), .v (.string r.1.change.after.data), .v (.string r.1.blob)]) ∧ h' = h.set b_c_ ⟨[.L 1 (r.2.l_.map c_u8), I (r.2.at_)], true, true⟩) := by
 refine FnOK.fin ?_
 refine FnOK.bodyC (N := 84) Try.func67 rfl rfl rfl (fun hC => ?_)
 have hl_c_ := lt_of_get hb_c_
 rw [show h ++ [] = (h.set b_c_ ⟨[.L 1 (c_.l_.map c_u8), I (c_.at_)], true, true⟩) ++ ([] : Heap) from by rw [set_same hb_c_]]
 replace hm := Ev.of hm
 rw [law12_next.eq_1] at hm
 show CdOK _ _ _ (look _ [(0, .o (.c (.ptr b_c_ 0))), (1, .o (.c (.L 6 (l_.map Tx.cs)))), (2, VI (id_)), (3, VI (lsn))]) ((h.set b_c_ ⟨[.L 1 (c_.l_.map c_u8), I (c_.at_)], true, true⟩) ++ ([] : Heap)) _
 refine .seq (.region (.t (.o (.c (.ptr (h.length + 0) 0))) (e_allocN (L' := [⟨[I (0), I (0), I (0), I (0), I (0), I (0), I (0), I (0), Bo false, .v (.string (⟨#[]⟩ : ByteArray)), Bo false, .v (.string (⟨#[]⟩ : ByteArray)), .v (.string (⟨#[]⟩ : ByteArray))], true, true⟩]) (List.length_set ..) zo59 rfl rfl) ?_))
 refine .nil (CdOK.seq (.region (.m rfl ?_)))
 refine .t (.o (.c (.LC 1 (([1, 1, 1, 2, 2, 4, 3, 5, 7] : List Int).map cI)))) (e_lit (cs := [I (1), I (1), I (1), I (2), I (2), I (4), I (3), I (5), I (7)]) (xs := ([1, 1, 1, 2, 2, 4, 3, 5, 7]).map cI) slt27 nl27 rfl rfl rfl rfl rfl) ?_
 refine .m rfl ?_
 obtain ⟨x1, e1, hm⟩ := hm.call
 refine .cl rfl rfl rfl rfl pl32 (R2.wk _) (Codes_Next_ok  (b_c_ := b_c_) (pset hl_c_) e1) ?_
 rintro _ _ ⟨rfl, rfl⟩
 rw [show _ = (h.set b_c_ ⟨[.L 1 (x1.2.l_.map c_u8), I (x1.2.at_)], true, true⟩) ++ ([⟨[I (0), I (0), I (0), I (0), I (0), I (0), I (0), I (0), Bo false, .v (.string (⟨#[]⟩ : ByteArray)), Bo false, .v (.string (⟨#[]⟩ : ByteArray)), .v (.string (⟨#[]⟩ : ByteArray))], true, true⟩] : Heap) from (pset2 hl_c_)]
 obtain ⟨c2, hm⟩ := hm.ifs
 refine .t (.o (.c (.rp [I ((gd ([1, 1, 1, 2, 2, 4, 3, 5, 7] : List Int) x1.1))]))) (e_ixMC (f := cI) (l := ([1, 1, 1, 2, 2, 4, 3, 5, 7] : List Int)) (i := x1.1) (ev_t rfl) (ev_t rfl) el27 c2) ?_
 refine .t _ (e_ldR1 (ev_t rfl) ty3 rfl) ?_
 refine .m rfl ?_
 refine .t (.o (.agg [I (lsn), I ((gd ([1, 1, 1, 2, 2, 4, 3, 5, 7] : List Int) x1.1)), I (id_), I (0), I (0), I (0), I (0), I (0), Bo false, .v (.string (⟨#[]⟩ : ByteArray)), Bo false, .v (.string (⟨#[]⟩ : ByteArray)), .v (.string (⟨#[]⟩ : ByteArray))])) (e_bld (cs := [I (lsn), I ((gd ([1, 1, 1, 2, 2, 4, 3, 5, 7] : List Int) x1.1)), I (id_), I (0), I (0), I (0), I (0), I (0), Bo false, .v (.string (⟨#[]⟩ : ByteArray)), Bo false, .v (.string (⟨#[]⟩ : ByteArray)), .v (.string (⟨#[]⟩ : ByteArray))]) zo59 bl59 rfl rfl) ?_
 refine .t (.o (.c (.ptr (h.length + 1) 0))) (e_allocN (L' := [⟨[I (0), I (0), I (0), I (0), I (0), I (0), I (0), I (0), Bo false, .v (.string (⟨#[]⟩ : ByteArray)), Bo false, .v (.string (⟨#[]⟩ : ByteArray)), .v (.string (⟨#[]⟩ : ByteArray))], true, true⟩, ⟨[I (0), I (0), I (0), I (0), I (0), I (0), I (0), I (0), Bo false, .v (.string (⟨#[]⟩ : ByteArray)), Bo false, .v (.string (⟨#[]⟩ : ByteArray)), .v (.string (⟨#[]⟩ : ByteArray))], true, true⟩]) (List.length_set ..) zo59 rfl rfl) ?_
 refine .s0 rfl rfl (e_stN (L' := [⟨[I (0), I (0), I (0), I (0), I (0), I (0), I (0), I (0), Bo false, .v (.string (⟨#[]⟩ : ByteArray)), Bo false, .v (.string (⟨#[]⟩ : ByteArray)), .v (.string (⟨#[]⟩ : ByteArray))], true, true⟩, ⟨[I (lsn), I ((gd ([1, 1, 1, 2, 2, 4, 3, 5, 7] : List Int) x1.1)), I (id_), I (0), I (0), I (0), I (0), I (0), Bo false, .v (.string (⟨#[]⟩ : ByteArray)), Bo false, .v (.string (⟨#[]⟩ : ByteArray)), .v (.string (⟨#[]⟩ : ByteArray))], true, true⟩]) (List.length_set ..) (ev_t rfl) (ev_t rfl) ty59 rfl rfl rfl rfl rfl) ?_
 refine .nil (CdOK.seq (.region ?_))
 iterate 2 refine .m rfl ?_
 obtain ⟨x3, e3, hm⟩ := hm.call
 refine .cl rfl rfl rfl rfl pl74 (R2.wk _) (ref12_Find_ok    e3) ?_
 rintro _ _ ⟨rfl, rfl⟩
 refine .a rfl ?_
 refine .nil ?_
 replace hm := hm.bnd
 refine CdOK.joinE (σ := AEntry) (fun s => s) hm (fun s => [(0, .o (.c (.ptr b_c_ 0))), (1, .o (.c (.L 6 (l_.map Tx.cs)))), (3, VI (lsn)), (8, .o (.c (.ptr (h.length + 0) 0))), (9, .o (.c (.ptr (h.length + 1) 0))), (10, VI (x3))]) (fun s => (h.set b_c_ ⟨[.L 1 (x1.2.l_.map c_u8), I (x1.2.at_)], true, true⟩) ++ ([⟨[I (0), I (0), I (0), I (0), I (0), I (0), I (0), I (0), Bo false, .v (.string (⟨#[]⟩ : ByteArray)), Bo false, .v (.string (⟨#[]⟩ : ByteArray)), .v (.string (⟨#[]⟩ : ByteArray))], true, true⟩, ⟨[I (s.lsn), I (s.kind_), I (s.tx), I (s.prevTx), I (s.prevPage), I (s.ref), I (s.change.page), I (s.change.slot), Bo (s.change.before.set_), .v (.string s.change.before.data), Bo (s.change.after.set_), .v (.string s.change.after.data), .v (.string s.blob)], true, true⟩] : Heap)) ?_ ?_
 ·intro hm
  refine .seq (.region (.m rfl ?_))
  refine .t (VB (decide (0 ≤ x3))) (e_bin (ev_t rfl) rfl rfl rfl) ?_
  refine .nil ?_
  refine CdOK.condD (ev_t rfl) ?_ ?_
  ·intro c5; replace hm := hm.ifp c5
   refine .region ?_
   iterate 2 refine .m rfl ?_
   obtain ⟨c6, hm⟩ := hm.ifs
   refine .t (.o (.c (.rp [I ((gd l_ x3).id_), I ((gd l_ x3).state), I ((gd l_ x3).last), I ((gd l_ x3).until_), .L 1 (((gd l_ x3).pending).map cI), .L 1 (((gd l_ x3).saves).map cI)]))) (e_ixM (f := Tx.cs) (l := l_) (i := x3) (ev_t rfl) (ev_t rfl) el92 c6) ?_
   refine .t _ (e_faR fa108_2 (ev_t rfl) rfl) ?_
   refine .t _ (e_ldR1 (ev_t rfl) ty3 rfl) ?_
   refine .t _ (e_fa' fa59_3 (ev_t rfl)) ?_
   refine .s0 rfl rfl (e_stN (L' := [⟨[I (0), I (0), I (0), I (0), I (0), I (0), I (0), I (0), Bo false, .v (.string (⟨#[]⟩ : ByteArray)), Bo false, .v (.string (⟨#[]⟩ : ByteArray)), .v (.string (⟨#[]⟩ : ByteArray))], true, true⟩, ⟨[I (lsn), I ((gd ([1, 1, 1, 2, 2, 4, 3, 5, 7] : List Int) x1.1)), I (id_), I ((gd l_ x3).last), I (0), I (0), I (0), I (0), Bo false, .v (.string (⟨#[]⟩ : ByteArray)), Bo false, .v (.string (⟨#[]⟩ : ByteArray)), .v (.string (⟨#[]⟩ : ByteArray))], true, true⟩]) (List.length_set ..) (ev_t rfl) (ev_t rfl) ty3 rfl rfl rfl rfl rfl) ?_
   refine .nil (.id ?_)
   exact ⟨(⟨lsn, (gd ([1, 1, 1, 2, 2, 4, 3, 5, 7] : List Int) x1.1), id_, (gd l_ x3).last, 0, 0, (⟨0, 0, (⟨false, (⟨#[]⟩ : ByteArray)⟩ : ACell), (⟨false, (⟨#[]⟩ : ByteArray)⟩ : ACell)⟩ : Change), (⟨#[]⟩ : ByteArray)⟩ : AEntry), hm.ret, (.cons rfl (.cons rfl (.cons rfl (.cons rfl (.cons rfl (.cons rfl .nil)))))), rfl⟩
  intro c7; replace hm := hm.ifn c7
  refine .skip ?_
  refine .id ?_
  exact ⟨(⟨lsn, (gd ([1, 1, 1, 2, 2, 4, 3, 5, 7] : List Int) x1.1), id_, 0, 0, 0, (⟨0, 0, (⟨false, (⟨#[]⟩ : ByteArray)⟩ : ACell), (⟨false, (⟨#[]⟩ : ByteArray)⟩ : ACell)⟩ : Change), (⟨#[]⟩ : ByteArray)⟩ : AEntry), hm.ret, (.cons rfl (.cons rfl (.cons rfl (.cons rfl (.cons rfl (.cons rfl .nil)))))), rfl⟩
 rintro bx4 T0 hm
 show CdOK _ _ _ (look T0 [(0, .o (.c (.ptr b_c_ 0))), (1, .o (.c (.L 6 (l_.map Tx.cs)))), (3, VI (lsn)), (8, .o (.c (.ptr (h.length + 0) 0))), (9, .o (.c (.ptr (h.length + 1) 0))), (10, VI (x3))]) ((h.set b_c_ ⟨[.L 1 (x1.2.l_.map c_u8), I (x1.2.at_)], true, true⟩) ++ ([⟨[I (0), I (0), I (0), I (0), I (0), I (0), I (0), I (0), Bo false, .v (.string (⟨#[]⟩ : ByteArray)), Bo false, .v (.string (⟨#[]⟩ : ByteArray)), .v (.string (⟨#[]⟩ : ByteArray))], true, true⟩, ⟨[I (bx4.lsn), I (bx4.kind_), I (bx4.tx), I (bx4.prevTx), I (bx4.prevPage), I (bx4.ref), I (bx4.change.page), I (bx4.change.slot), Bo (bx4.change.before.set_), .v (.string bx4.change.before.data), Bo (bx4.change.after.set_), .v (.string bx4.change.after.data), .v (.string bx4.blob)], true, true⟩] : Heap)) _
 replace hm := hm.bnd
 refine .joinE (σ := (AEntry × Codes)) (fun s => (s.1, s.2)) hm (fun s => [(0, .o (.c (.ptr b_c_ 0))), (3, VI (lsn)), (8, .o (.c (.ptr (h.length + 0) 0))), (9, .o (.c (.ptr (h.length + 1) 0)))]) (fun s => (h.set b_c_ ⟨[.L 1 (s.2.l_.map c_u8), I (s.2.at_)], true, true⟩) ++ ([⟨[I (0), I (0), I (0), I (0), I (0), I (0), I (0), I (0), Bo false, .v (.string (⟨#[]⟩ : ByteArray)), Bo false, .v (.string (⟨#[]⟩ : ByteArray)), .v (.string (⟨#[]⟩ : ByteArray))], true, true⟩, ⟨[I (s.1.lsn), I (s.1.kind_), I (s.1.tx), I (s.1.prevTx), I (s.1.prevPage), I (s.1.ref), I (s.1.change.page), I (s.1.change.slot), Bo (s.1.change.before.set_), .v (.string s.1.change.before.data), Bo (s.1.change.after.set_), .v (.string s.1.change.after.data), .v (.string s.1.blob)], true, true⟩] : Heap)) ?_ ?_
 ·intro hm
  refine .seq (.region (.t _ (e_fa' fa59_1 (ev_t rfl)) ?_))
  refine .t _ (e_ldb1 (ev_t rfl) ty3 (bx (List.length_set ..) rfl) rfl) ?_
  refine .sd rfl rfl rfl (e_eqK (ev_t rfl) rfl) ?_ ?_
  ·intro c11; replace hm := hm.ifp c11
   iterate 2 refine .m rfl ?_
   refine .sd rfl rfl rfl (e_bin (ev_t rfl) rfl rfl rfl) ?_ ?_
   ·intro c12; replace hm := hm.ifp c12
    refine .t (VB (true)) (e_pick (t := true) (ev_t rfl) (ev_t rfl)) ?_
    iterate 3 refine .m rfl ?_
    obtain ⟨c13, hm⟩ := hm.ifs
    refine .t (.o (.c (.rp [I ((gd l_ x3).id_), I ((gd l_ x3).state), I ((gd l_ x3).last), I ((gd l_ x3).until_), .L 1 (((gd l_ x3).pending).map cI), .L 1 (((gd l_ x3).saves).map cI)]))) (e_ixM (f := Tx.cs) (l := l_) (i := x3) (ev_t rfl) (ev_t rfl) el92 c13) ?_
    refine .t _ (e_faR fa108_4 (ev_t rfl) rfl) ?_
    refine .t _ (e_ldR1 (ev_t rfl) ty27 rfl) ?_
    refine .t (VI ((((gd l_ x3).pending).length : Int))) (e_lenM (ev_t rfl) is27) ?_
    refine .t (VB (decide (0 < (((gd l_ x3).pending).length : Int)))) (e_bin (ev_t rfl) rfl rfl rfl) ?_
    refine .t (VB (decide (0 < (((gd l_ x3).pending).length : Int)))) (e_pick (t := true) (ev_t rfl) (ev_t rfl)) ?_
    refine .nil ?_
    refine CdOK.condD (ev_t rfl) ?_ ?_
    ·intro c14; replace hm := hm.ifp c14
     refine .draw2 (ord := [0, 1, 2, 3, 4, 5, 6, 7, 8, 9, 10, 11, 12, 14, 15, 16, 17, 18, 19, 13, 20, 21, 22, 23, 24, 25]) (chain := [13, 25]) fol (by decide +kernel) (by decide +kernel) ?_
     refine .p (.o (.c (.L 6 (l_.map Tx.cs)))) (e_mv (ev_t rfl)) ?_
     refine .p (VI (x3)) (e_mv (ev_t rfl)) ?_
     obtain ⟨c15, hm⟩ := hm.ifs
     refine .p (.o (.c (.rp [I ((gd l_ x3).id_), I ((gd l_ x3).state), I ((gd l_ x3).last), I ((gd l_ x3).until_), .L 1 (((gd l_ x3).pending).map cI), .L 1 (((gd l_ x3).saves).map cI)]))) (e_ixM (f := Tx.cs) (l := l_) (i := x3) (ev_t rfl) (ev_t rfl) el92 c15) ?_
     refine .p _ (e_faR fa108_4 (ev_t rfl) rfl) ?_
     refine .q _ (e_ldR1 (ev_t rfl) ty27 rfl) ?_
     refine .p (.o (.c (.L 6 (l_.map Tx.cs)))) (e_mv (ev_t rfl)) ?_
     refine .p (VI (x3)) (e_mv (ev_t rfl)) ?_
     obtain ⟨c16, hm⟩ := hm.ifs
     refine .p (.o (.c (.rp [I ((gd l_ x3).id_), I ((gd l_ x3).state), I ((gd l_ x3).last), I ((gd l_ x3).until_), .L 1 (((gd l_ x3).pending).map cI), .L 1 (((gd l_ x3).saves).map cI)]))) (e_ixM (f := Tx.cs) (l := l_) (i := x3) (ev_t rfl) (ev_t rfl) el92 c16) ?_
     refine .p _ (e_faR fa108_4 (ev_t rfl) rfl) ?_
     refine .q _ (e_ldR1 (ev_t rfl) ty27 rfl) ?_
     refine .p (VI ((((gd l_ x3).pending).length : Int))) (e_lenM (ev_t rfl) is27) ?_
     refine .p (VI ((w64 ((((gd l_ x3).pending).length : Int) - 1)))) (e_bin (ev_t rfl) rfl rfl rfl) ?_
     refine .p (.o (.c (.ptr b_c_ 0))) (e_mv (ev_t rfl)) ?_
     refine .p (.o (.c (.L 6 (l_.map Tx.cs)))) (e_mv (ev_t rfl)) ?_
     refine .p (VI (x3)) (e_mv (ev_t rfl)) ?_
     obtain ⟨c17, hm⟩ := hm.ifs
     refine .p (.o (.c (.rp [I ((gd l_ x3).id_), I ((gd l_ x3).state), I ((gd l_ x3).last), I ((gd l_ x3).until_), .L 1 (((gd l_ x3).pending).map cI), .L 1 (((gd l_ x3).saves).map cI)]))) (e_ixM (f := Tx.cs) (l := l_) (i := x3) (ev_t rfl) (ev_t rfl) el92 c17) ?_
     refine .p _ (e_faR fa108_4 (ev_t rfl) rfl) ?_
     refine .q _ (e_ldR1 (ev_t rfl) ty27 rfl) ?_
     refine .p (VI ((((gd l_ x3).pending).length : Int))) (e_lenM (ev_t rfl) is27) ?_
     obtain ⟨x18, e18, hm⟩ := hm.call
     refine .cl rfl rfl rfl rfl rfl rfl pl32 (R2.wk _) (Codes_Next_ok  (b_c_ := b_c_) (pset hl_c_) e18) ?_
     rintro _ _ ⟨rfl, rfl⟩
     rw [show _ = (h.set b_c_ ⟨[.L 1 (x18.2.l_.map c_u8), I (x18.2.at_)], true, true⟩) ++ ([⟨[I (0), I (0), I (0), I (0), I (0), I (0), I (0), I (0), Bo false, .v (.string (⟨#[]⟩ : ByteArray)), Bo false, .v (.string (⟨#[]⟩ : ByteArray)), .v (.string (⟨#[]⟩ : ByteArray))], true, true⟩, ⟨[I (bx4.lsn), I (bx4.kind_), I (bx4.tx), I (bx4.prevTx), I (bx4.prevPage), I (bx4.ref), I (bx4.change.page), I (bx4.change.slot), Bo (bx4.change.before.set_), .v (.string bx4.change.before.data), Bo (bx4.change.after.set_), .v (.string bx4.change.after.data), .v (.string bx4.blob)], true, true⟩] : Heap) from (pset2 hl_c_)]
     refine ⟨(.e rfl rfl (e_ldR1 (ev_t rfl) ty27 rfl) (.e rfl rfl (e_ldR1 (ev_t rfl) ty27 rfl) (.e rfl rfl (e_ldR1 (ev_t rfl) ty27 rfl) .nil))), ?_⟩
     obtain ⟨c19, hm⟩ := hm.ifs
     refine .p (VI ((Int.tmod x18.1 (((gd l_ x3).pending).length : Int)))) (e_remK (ev_t rfl) (ev_t rfl) c19) ?_
     refine .p (VI ((w64 ((w64 ((((gd l_ x3).pending).length : Int) - 1)) - (Int.tmod x18.1 (((gd l_ x3).pending).length : Int)))))) (e_bin (ev_t rfl) (ev_t rfl) rfl rfl) ?_
     obtain ⟨c20, hm⟩ := hm.ifs
     refine .p (.o (.c (.rp [I ((gd ((gd l_ x3).pending) (w64 ((w64 ((((gd l_ x3).pending).length : Int) - 1)) - (Int.tmod x18.1 (((gd l_ x3).pending).length : Int))))))]))) (e_ixM (f := cI) (l := (gd l_ x3).pending) (i := (w64 ((w64 ((((gd l_ x3).pending).length : Int) - 1)) - (Int.tmod x18.1 (((gd l_ x3).pending).length : Int))))) (ev_t rfl) (ev_t rfl) el27 c20) ?_
     refine .q _ (e_ldR1 (ev_t rfl) ty3 rfl) ?_
     refine .p _ (e_fa' fa59_5 (ev_t rfl)) ?_
     refine .c0 rfl rfl rfl rfl (e_stN (L' := [⟨[I (0), I (0), I (0), I (0), I (0), I (0), I (0), I (0), Bo false, .v (.string (⟨#[]⟩ : ByteArray)), Bo false, .v (.string (⟨#[]⟩ : ByteArray)), .v (.string (⟨#[]⟩ : ByteArray))], true, true⟩, ⟨[I (bx4.lsn), I (bx4.kind_), I (bx4.tx), I (bx4.prevTx), I (bx4.prevPage), I ((gd ((gd l_ x3).pending) (w64 ((w64 ((((gd l_ x3).pending).length : Int) - 1)) - (Int.tmod x18.1 (((gd l_ x3).pending).length : Int)))))), I (bx4.change.page), I (bx4.change.slot), Bo (bx4.change.before.set_), .v (.string bx4.change.before.data), Bo (bx4.change.after.set_), .v (.string bx4.change.after.data), .v (.string bx4.blob)], true, true⟩]) (List.length_set ..) (ev_t rfl) (ev_t rfl) ty3 rfl rfl rfl rfl rfl) (.m (by decide +kernel) (.m (by decide +kernel) (.m (by decide +kernel) (.m (by decide +kernel) .nil)))) ?_
     refine .nil (.id ?_)
     exact ⟨((⟨bx4.lsn, bx4.kind_, bx4.tx, bx4.prevTx, bx4.prevPage, (gd ((gd l_ x3).pending) (w64 ((w64 ((((gd l_ x3).pending).length : Int) - 1)) - (Int.tmod x18.1 (((gd l_ x3).pending).length : Int))))), bx4.change, bx4.blob⟩ : AEntry), x18.2), hm.ret, (.cons rfl (.cons rfl (.cons rfl (.cons rfl .nil)))), rfl⟩
    intro c21; replace hm := hm.ifn c21
    refine .skip ?_
    refine .id ?_
    exact ⟨(bx4, x1.2), hm.ret, (.cons rfl (.cons rfl (.cons rfl (.cons rfl .nil)))), rfl⟩
   intro c22; replace hm := hm.ifn c22
   refine .t (VB (false)) (e_pick (t := true) (ev_t rfl) (ev_t rfl)) ?_
   refine .m rfl ?_
   iterate 7 refine .k ?_
   refine .t (VB (false)) (e_pick (t := false) (ev_t rfl) rfl) ?_
   refine .nil ?_
   refine CdOK.cond_false rfl ?_
   refine .skip ?_
   refine .id ?_
   exact ⟨(bx4, x1.2), hm.ret, (.cons rfl (.cons rfl (.cons rfl (.cons rfl .nil)))), rfl⟩
  intro c23; replace hm := hm.ifn c23
  refine .m rfl ?_
  iterate 2 refine .k ?_
  refine .t (VB (false)) (e_pick (t := false) (ev_t rfl) rfl) ?_
  refine .m rfl ?_
  iterate 7 refine .k ?_
  refine .t (VB (false)) (e_pick (t := false) (ev_t rfl) rfl) ?_
  refine .nil ?_
  refine CdOK.cond_false rfl ?_
  refine .skip ?_
  refine .id ?_
  exact ⟨(bx4, x1.2), hm.ret, (.cons rfl (.cons rfl (.cons rfl (.cons rfl .nil)))), rfl⟩
 rintro ⟨bx9, bx10⟩ T0 hm
 show CdOK _ _ _ (look T0 [(0, .o (.c (.ptr b_c_ 0))), (3, VI (lsn)), (8, .o (.c (.ptr (h.length + 0) 0))), (9, .o (.c (.ptr (h.length + 1) 0)))]) ((h.set b_c_ ⟨[.L 1 (bx10.l_.map c_u8), I (bx10.at_)], true, true⟩) ++ ([⟨[I (0), I (0), I (0), I (0), I (0), I (0), I (0), I (0), Bo false, .v (.string (⟨#[]⟩ : ByteArray)), Bo false, .v (.string (⟨#[]⟩ : ByteArray)), .v (.string (⟨#[]⟩ : ByteArray))], true, true⟩, ⟨[I (bx9.lsn), I (bx9.kind_), I (bx9.tx), I (bx9.prevTx), I (bx9.prevPage), I (bx9.ref), I (bx9.change.page), I (bx9.change.slot), Bo (bx9.change.before.set_), .v (.string bx9.change.before.data), Bo (bx9.change.after.set_), .v (.string bx9.change.after.data), .v (.string bx9.blob)], true, true⟩] : Heap)) _
 replace hm := hm.bnd
 refine .joinE (σ := AEntry) (fun s => s) hm (fun s => [(0, .o (.c (.ptr b_c_ 0))), (3, VI (lsn)), (8, .o (.c (.ptr (h.length + 0) 0))), (9, .o (.c (.ptr (h.length + 1) 0)))]) (fun s => (h.set b_c_ ⟨[.L 1 (bx10.l_.map c_u8), I (bx10.at_)], true, true⟩) ++ ([⟨[I (0), I (0), I (0), I (0), I (0), I (0), I (0), I (0), Bo false, .v (.string (⟨#[]⟩ : ByteArray)), Bo false, .v (.string (⟨#[]⟩ : ByteArray)), .v (.string (⟨#[]⟩ : ByteArray))], true, true⟩, ⟨[I (s.lsn), I (s.kind_), I (s.tx), I (s.prevTx), I (s.prevPage), I (s.ref), I (s.change.page), I (s.change.slot), Bo (s.change.before.set_), .v (.string s.change.before.data), Bo (s.change.after.set_), .v (.string s.change.after.data), .v (.string s.blob)], true, true⟩] : Heap)) ?_ ?_
 ·intro hm
  refine .seq (.region (.t _ (e_fa' fa59_1 (ev_t rfl)) ?_))
  refine .t _ (e_ldb1 (ev_t rfl) ty3 (bx (List.length_set ..) rfl) rfl) ?_
  refine .t (VB (decide (bx9.kind_ = 7))) (e_eqK (ev_t rfl) rfl) ?_
  refine .nil ?_
  refine CdOK.condD (ev_t rfl) ?_ ?_
  ·intro c26; replace hm := hm.ifp c26
   refine .region (.t _ (e_fa' fa59_2 (ev_t rfl)) ?_)
   refine .s0 rfl rfl (e_stN (L' := [⟨[I (0), I (0), I (0), I (0), I (0), I (0), I (0), I (0), Bo false, .v (.string (⟨#[]⟩ : ByteArray)), Bo false, .v (.string (⟨#[]⟩ : ByteArray)), .v (.string (⟨#[]⟩ : ByteArray))], true, true⟩, ⟨[I (bx9.lsn), I (bx9.kind_), I (0), I (bx9.prevTx), I (bx9.prevPage), I (bx9.ref), I (bx9.change.page), I (bx9.change.slot), Bo (bx9.change.before.set_), .v (.string bx9.change.before.data), Bo (bx9.change.after.set_), .v (.string bx9.change.after.data), .v (.string bx9.blob)], true, true⟩]) (List.length_set ..) (ev_t rfl) rfl ty3 rfl rfl rfl rfl rfl) ?_
   refine .t _ (e_fa' fa59_3 (ev_t rfl)) ?_
   refine .s0 rfl rfl (e_stN (L' := [⟨[I (0), I (0), I (0), I (0), I (0), I (0), I (0), I (0), Bo false, .v (.string (⟨#[]⟩ : ByteArray)), Bo false, .v (.string (⟨#[]⟩ : ByteArray)), .v (.string (⟨#[]⟩ : ByteArray))], true, true⟩, ⟨[I (bx9.lsn), I (bx9.kind_), I (0), I (0), I (bx9.prevPage), I (bx9.ref), I (bx9.change.page), I (bx9.change.slot), Bo (bx9.change.before.set_), .v (.string bx9.change.before.data), Bo (bx9.change.after.set_), .v (.string bx9.change.after.data), .v (.string bx9.blob)], true, true⟩]) (List.length_set ..) (ev_t rfl) rfl ty3 rfl rfl rfl rfl rfl) ?_
   refine .nil (.id ?_)
   exact ⟨(⟨bx9.lsn, bx9.kind_, 0, 0, bx9.prevPage, bx9.ref, bx9.change, bx9.blob⟩ : AEntry), hm.ret, (.cons rfl (.cons rfl (.cons rfl (.cons rfl .nil)))), rfl⟩
  intro c27; replace hm := hm.ifn c27
  refine .skip ?_
  refine .id ?_
  exact ⟨bx9, hm.ret, (.cons rfl (.cons rfl (.cons rfl (.cons rfl .nil)))), rfl⟩
 rintro bx25 T0 hm
 show CdOK _ _ _ (look T0 [(0, .o (.c (.ptr b_c_ 0))), (3, VI (lsn)), (8, .o (.c (.ptr (h.length + 0) 0))), (9, .o (.c (.ptr (h.length + 1) 0)))]) ((h.set b_c_ ⟨[.L 1 (bx10.l_.map c_u8), I (bx10.at_)], true, true⟩) ++ ([⟨[I (0), I (0), I (0), I (0), I (0), I (0), I (0), I (0), Bo false, .v (.string (⟨#[]⟩ : ByteArray)), Bo false, .v (.string (⟨#[]⟩ : ByteArray)), .v (.string (⟨#[]⟩ : ByteArray))], true, true⟩, ⟨[I (bx25.lsn), I (bx25.kind_), I (bx25.tx), I (bx25.prevTx), I (bx25.prevPage), I (bx25.ref), I (bx25.change.page), I (bx25.change.slot), Bo (bx25.change.before.set_), .v (.string bx25.change.before.data), Bo (bx25.change.after.set_), .v (.string bx25.change.after.data), .v (.string bx25.blob)], true, true⟩] : Heap)) _
 iterate 2 refine .seq ?_
 refine .region (.m rfl ?_)
 obtain ⟨x29, e29, hm⟩ := hm.call
 refine .cl rfl rfl rfl rfl pl32 (R2.wk _) (Codes_Next_ok  (b_c_ := b_c_) (pset hl_c_) e29) ?_
 rintro _ _ ⟨rfl, rfl⟩
 rw [show _ = (h.set b_c_ ⟨[.L 1 (x29.2.l_.map c_u8), I (x29.2.at_)], true, true⟩) ++ ([⟨[I (0), I (0), I (0), I (0), I (0), I (0), I (0), I (0), Bo false, .v (.string (⟨#[]⟩ : ByteArray)), Bo false, .v (.string (⟨#[]⟩ : ByteArray)), .v (.string (⟨#[]⟩ : ByteArray))], true, true⟩, ⟨[I (bx25.lsn), I (bx25.kind_), I (bx25.tx), I (bx25.prevTx), I (bx25.prevPage), I (bx25.ref), I (bx25.change.page), I (bx25.change.slot), Bo (bx25.change.before.set_), .v (.string bx25.change.before.data), Bo (bx25.change.after.set_), .v (.string bx25.change.after.data), .v (.string bx25.blob)], true, true⟩] : Heap) from (pset2 hl_c_)]
 refine .t (VB (decide (x29.1 = 0))) (e_eqK (ev_t rfl) rfl) ?_
 refine .nil ?_
 refine CdOK.condD (ev_t rfl) ?_ ?_
 ·intro c30; replace hm := hm.ifp c30
  refine .region ?_
  iterate 2 refine .m rfl ?_
  obtain ⟨x31, e31, hm⟩ := hm.call
  refine .cl rfl rfl rfl rfl pl32 (R2.wk _) (Codes_Next_ok  (b_c_ := b_c_) (pset hl_c_) e31) ?_
  rintro _ _ ⟨rfl, rfl⟩
  rw [show _ = (h.set b_c_ ⟨[.L 1 (x31.2.l_.map c_u8), I (x31.2.at_)], true, true⟩) ++ ([⟨[I (0), I (0), I (0), I (0), I (0), I (0), I (0), I (0), Bo false, .v (.string (⟨#[]⟩ : ByteArray)), Bo false, .v (.string (⟨#[]⟩ : ByteArray)), .v (.string (⟨#[]⟩ : ByteArray))], true, true⟩, ⟨[I (bx25.lsn), I (bx25.kind_), I (bx25.tx), I (bx25.prevTx), I (bx25.prevPage), I (bx25.ref), I (bx25.change.page), I (bx25.change.slot), Bo (bx25.change.before.set_), .v (.string bx25.change.before.data), Bo (bx25.change.after.set_), .v (.string bx25.change.after.data), .v (.string bx25.blob)], true, true⟩] : Heap) from (pset2 hl_c_)]
  refine .t _ (e_fa' fa59_3 (ev_t rfl)) ?_
  refine .s0 rfl rfl (e_stN (L' := [⟨[I (0), I (0), I (0), I (0), I (0), I (0), I (0), I (0), Bo false, .v (.string (⟨#[]⟩ : ByteArray)), Bo false, .v (.string (⟨#[]⟩ : ByteArray)), .v (.string (⟨#[]⟩ : ByteArray))], true, true⟩, ⟨[I (bx25.lsn), I (bx25.kind_), I (bx25.tx), I (x31.1), I (bx25.prevPage), I (bx25.ref), I (bx25.change.page), I (bx25.change.slot), Bo (bx25.change.before.set_), .v (.string bx25.change.before.data), Bo (bx25.change.after.set_), .v (.string bx25.change.after.data), .v (.string bx25.blob)], true, true⟩]) (List.length_set ..) (ev_t rfl) (ev_t rfl) ty3 rfl rfl rfl rfl rfl) ?_
  refine .nil (CdOK.seq (.region (.t _ (e_ldbA (ev_t rfl) ty59 (bx (List.length_set ..) rfl) rfl rfl) ?_)))
  refine .s0 rfl rfl (e_stN (L' := [⟨[I (bx25.lsn), I (bx25.kind_), I (bx25.tx), I (x31.1), I (bx25.prevPage), I (bx25.ref), I (bx25.change.page), I (bx25.change.slot), Bo (bx25.change.before.set_), .v (.string bx25.change.before.data), Bo (bx25.change.after.set_), .v (.string bx25.change.after.data), .v (.string bx25.blob)], true, true⟩, ⟨[I (bx25.lsn), I (bx25.kind_), I (bx25.tx), I (x31.1), I (bx25.prevPage), I (bx25.ref), I (bx25.change.page), I (bx25.change.slot), Bo (bx25.change.before.set_), .v (.string bx25.change.before.data), Bo (bx25.change.after.set_), .v (.string bx25.change.after.data), .v (.string bx25.blob)], true, true⟩]) (List.length_set ..) (ev_t rfl) (ev_t rfl) ty59 rfl rfl rfl rfl rfl) ?_
  refine .nil ?_
  refine CdOK.ret ?_
  refine ⟨.inr rfl, _, (resA_c (look_find rfl) (eLoad_A ty59 (bx (List.length_set ..) rfl) rfl rfl rfl) resA_n), (h.set b_c_ ⟨[.L 1 (x31.2.l_.map c_u8), I (x31.2.at_)], true, true⟩), _, _, rfl, (List.length_set ..), (hC.set rfl), ((renFlV rfl) : RenV _ _ _ _ (.o (.agg [I (bx25.lsn), I (bx25.kind_), I (bx25.tx), I (x31.1), I (bx25.prevPage), I (bx25.ref), I (bx25.change.page), I (bx25.change.slot), Bo (bx25.change.before.set_), .v (.string bx25.change.before.data), Bo (bx25.change.after.set_), .v (.string bx25.change.after.data), .v (.string bx25.blob)]))), ?_⟩
  cases hm.ret; exact ⟨rfl, rfl⟩
 intro c32; replace hm := hm.ifn c32
 refine .skip ?_
 refine CdOK.seq (.region (.t _ (e_ldbA (ev_t rfl) ty59 (bx (List.length_set ..) rfl) rfl rfl) ?_))
 refine .s0 rfl rfl (e_stN (L' := [⟨[I (bx25.lsn), I (bx25.kind_), I (bx25.tx), I (bx25.prevTx), I (bx25.prevPage), I (bx25.ref), I (bx25.change.page), I (bx25.change.slot), Bo (bx25.change.before.set_), .v (.string bx25.change.before.data), Bo (bx25.change.after.set_), .v (.string bx25.change.after.data), .v (.string bx25.blob)], true, true⟩, ⟨[I (bx25.lsn), I (bx25.kind_), I (bx25.tx), I (bx25.prevTx), I (bx25.prevPage), I (bx25.ref), I (bx25.change.page), I (bx25.change.slot), Bo (bx25.change.before.set_), .v (.string bx25.change.before.data), Bo (bx25.change.after.set_), .v (.string bx25.change.after.data), .v (.string bx25.blob)], true, true⟩]) (List.length_set ..) (ev_t rfl) (ev_t rfl) ty59 rfl rfl rfl rfl rfl) ?_
 refine .nil ?_
 refine CdOK.ret ?_
 refine ⟨.inr rfl, _, (resA_c (look_find rfl) (eLoad_A ty59 (bx (List.length_set ..) rfl) rfl rfl rfl) resA_n), (h.set b_c_ ⟨[.L 1 (x29.2.l_.map c_u8), I (x29.2.at_)], true, true⟩), _, _, rfl, (List.length_set ..), (hC.set rfl), ((renFlV rfl) : RenV _ _ _ _ (.o (.agg [I (bx25.lsn), I (bx25.kind_), I (bx25.tx), I (bx25.prevTx), I (bx25.prevPage), I (bx25.ref), I (bx25.change.page), I (bx25.change.slot), Bo (bx25.change.before.set_), .v (.string bx25.change.before.data), Bo (bx25.change.after.set_), .v (.string bx25.change.after.data), .v (.string bx25.blob)]))), ?_⟩
 cases hm.ret; exact ⟨rfl, rfl⟩
def law12_odd (l_ : (List Tx)) (c_ : Codes) : Option ((List Tx) × Codes) := (if l_.length ≤ 1759218604441 then (if ((l_).length : Int) = 0 then ((Codes_Next 6 c_).bind fun (x3 : (Int × Codes)) => ((Codes_Next 5 x3.2).bind fun (x4 : (Int × Codes)) => (if (l_).length + ([(⟨x3.1, x4.1, 0, 0, ([] : List Int), ([] : List Int)⟩ : Tx)] : List Tx).length ≤ 1759218604441 then some ((l_ ++ ([(⟨x3.1, x4.1, 0, 0, ([] : List Int), ([] : List Int)⟩ : Tx)] : List Tx)), x4.2) else none))) else ((Codes_Next 6 c_).bind fun (x7 : (Int × Codes)) => (if x7.1 = 0 then ((Codes_Next 6 x7.2).bind fun (x9 : (Int × Codes)) => ((Codes_Next 5 x9.2).bind fun (x10 : (Int × Codes)) => (if (l_).length + ([(⟨x9.1, x10.1, 0, 0, ([] : List Int), ([] : List Int)⟩ : Tx)] : List Tx).length ≤ 1759218604441 then some ((l_ ++ ([(⟨x9.1, x10.1, 0, 0, ([] : List Int), ([] : List Int)⟩ : Tx)] : List Tx)), x10.2) else none))) else (if 0 < l_.length then ((Codes_Next ((l_).length : Int) x7.2).bind fun (x14 : (Int × Codes)) => (if (0 : Int) ≤ x14.1 ∧ x14.1 < (l_.length : Int) then ((Codes_Next 6 x14.2).bind fun (x16 : (Int × Codes)) => (if x16.1 = 0 then ((Codes_Int x16.2).bind fun (x18 : (Int × Codes)) => (if (0 : Int) ≤ x14.1 ∧ x14.1 < (l_.length : Int) then some ((l_.set (Int.toNat x14.1) (⟨x18.1, (gd l_ x14.1).state, (gd l_ x14.1).last, (gd l_ x14.1).until_, (gd l_ x14.1).pending, (gd l_ x14.1).saves⟩ : Tx)), x18.2) else none)) else (if x16.1 = 1 then ((Codes_Next 5 x16.2).bind fun (x22 : (Int × Codes)) => (if (0 : Int) ≤ x14.1 ∧ x14.1 < (l_.length : Int) then some ((l_.set (Int.toNat x14.1) (⟨(gd l_ x14.1).id_, x22.1, (gd l_ x14.1).last, (gd l_ x14.1).until_, (gd l_ x14.1).pending, (gd l_ x14.1).saves⟩ : Tx)), x22.2) else none)) else (if x16.1 = 2 then ((Codes_Int x16.2).bind fun (x26 : (Int × Codes)) => (if (0 : Int) ≤ x14.1 ∧ x14.1 < (l_.length : Int) then some ((l_.set (Int.toNat x14.1) (⟨(gd l_ x14.1).id_, (gd l_ x14.1).state, x26.1, (gd l_ x14.1).until_, (gd l_ x14.1).pending, (gd l_ x14.1).saves⟩ : Tx)), x26.2) else none)) else (if x16.1 = 3 then ((Codes_Next 9 x16.2).bind fun (x30 : (Int × Codes)) => (if (0 : Int) ≤ x14.1 ∧ x14.1 < (l_.length : Int) then some ((l_.set (Int.toNat x14.1) (⟨(gd l_ x14.1).id_, (gd l_ x14.1).state, (gd l_ x14.1).last, x30.1, (gd l_ x14.1).pending, (gd l_ x14.1).saves⟩ : Tx)), x30.2) else none)) else (if x16.1 = 4 then (if (0 : Int) ≤ x14.1 ∧ x14.1 < (l_.length : Int) then (if ((gd l_ x14.1).pending).length ≤ 17592186044416 then ((Codes_Next 9 x16.2).bind fun (x36 : (Int × Codes)) => (if ((gd l_ x14.1).pending).length + ([x36.1] : List Int).length ≤ 17592186044416 then (if (0 : Int) ≤ x14.1 ∧ x14.1 < (l_.length : Int) then some ((l_.set (Int.toNat x14.1) (⟨(gd l_ x14.1).id_, (gd l_ x14.1).state, (gd l_ x14.1).last, (gd l_ x14.1).until_, ((gd l_ x14.1).pending ++ ([x36.1] : List Int)), (gd l_ x14.1).saves⟩ : Tx)), x36.2) else none) else none)) else none) else none) else (if x16.1 = 5 then (if (0 : Int) ≤ x14.1 ∧ x14.1 < (l_.length : Int) then (if ((gd l_ x14.1).saves).length ≤ 17592186044416 then ((Codes_Next 9 x16.2).bind fun (x43 : (Int × Codes)) => (if ((gd l_ x14.1).saves).length + ([x43.1] : List Int).length ≤ 17592186044416 then (if (0 : Int) ≤ x14.1 ∧ x14.1 < (l_.length : Int) then some ((l_.set (Int.toNat x14.1) (⟨(gd l_ x14.1).id_, (gd l_ x14.1).state, (gd l_ x14.1).last, (gd l_ x14.1).until_, (gd l_ x14.1).pending, ((gd l_ x14.1).saves ++ ([x43.1] : List Int))⟩ : Tx)), x43.2) else none) else none)) else none) else none) else some (l_, x16.2)))))))) else none)) else none)))) else none)
theorem law12_odd_ok {h : Heap} {l_ : (List Tx)} {c_ : Codes} {b_c_ : Nat} (hb_c_ : h[b_c_]? = some ⟨[.L 1 (c_.l_.map c_u8), I (c_.at_)], true, true⟩)  {r : ((List Tx) × Codes)} (hm : law12_odd l_ c_ = some r) : FnOK Try.prog 64 [.o (.c (.ptr b_c_ 0)), .o (.c (.L 6 (l_.map Tx.cs)))] h (fun v h' => v = .o (.c (.L 6 (r.1.map Tx.cs))) ∧ h' = h.set b_c_ ⟨[.L 1 (r.2.l_.map c_u8), I (r.2.at_)], true, true⟩) := by
 refine FnOK.fin ?_
 refine FnOK.bodyC (N := 90) Try.func64 rfl rfl rfl (fun hC => ?_)
 have hl_c_ := lt_of_get hb_c_
 rw [show h ++ [] = (h.set b_c_ ⟨[.L 1 (c_.l_.map c_u8), I (c_.at_)], true, true⟩) ++ ([] : Heap) from by rw [set_same hb_c_]]
 replace hm := Ev.of hm
 rw [law12_odd.eq_1] at hm
 show CdOK _ _ _ (look _ [(0, .o (.c (.ptr b_c_ 0))), (1, .o (.c (.L 6 (l_.map Tx.cs))))]) ((h.set b_c_ ⟨[.L 1 (c_.l_.map c_u8), I (c_.at_)], true, true⟩) ++ ([] : Heap)) _
 refine .seq (.region (.t (.o (.c (.v (.slice none 0 0)))) (e_as rfl) ?_))
 refine .nil (CdOK.seq (.region (.m rfl ?_)))
 obtain ⟨c1, hm⟩ := hm.ifs
 refine .t (.o (.c (.g (h.length + 0) ((l_).length) 6 (decide (0 < l_.length))))) (e_apN (k := 6) (q := 1759218604441) (m := l_.length) (lv := (decide (0 < l_.length))) (f := Tx.cs) (xs := l_) (L' := [⟨(l_.map Tx.cs).flatten, true, (decide (0 < l_.length))⟩]) slt92 (List.length_set ..) rfl (ev_t rfl) src_L c1 rfl rfl rfl rfl) ?_
 refine .a rfl ?_
 refine .nil (CdOK.seq (.seq (.region (.m rfl ?_))))
 refine .t (VI (((l_).length : Int))) (e_lenG (ev_t rfl) is92) ?_
 refine .sd rfl rfl rfl (e_eqK (ev_t rfl) rfl) ?_ ?_
 ·intro c2; replace hm := hm.ifp c2
  refine .m rfl ?_
  iterate 3 refine .k ?_
  refine .t (VB (true)) (e_pick (t := true) (ev_t rfl) rfl) ?_
  refine .nil ?_
  refine CdOK.cond_true rfl ?_
  refine .seq (.region ?_)
  iterate 2 refine .m rfl ?_
  obtain ⟨x3, e3, hm⟩ := hm.call
  refine .cl rfl rfl rfl rfl pl32 (R2.wk _) (Codes_Next_ok  (b_c_ := b_c_) (pset hl_c_) e3) ?_
  rintro _ _ ⟨rfl, rfl⟩
  rw [show _ = (h.set b_c_ ⟨[.L 1 (x3.2.l_.map c_u8), I (x3.2.at_)], true, true⟩) ++ ([⟨(l_.map Tx.cs).flatten, true, (decide (0 < l_.length))⟩] : Heap) from (pset2 hl_c_)]
  refine .m rfl ?_
  obtain ⟨x4, e4, hm⟩ := hm.call
  refine .cl rfl rfl rfl rfl pl32 (R2.wk _) (Codes_Next_ok  (b_c_ := b_c_) (pset hl_c_) e4) ?_
  rintro _ _ ⟨rfl, rfl⟩
  rw [show _ = (h.set b_c_ ⟨[.L 1 (x4.2.l_.map c_u8), I (x4.2.at_)], true, true⟩) ++ ([⟨(l_.map Tx.cs).flatten, true, (decide (0 < l_.length))⟩] : Heap) from (pset2 hl_c_)]
  refine .sW (v' := .o (.agg [I (x3.1), I (x4.1), I (0), I (0), .L 1 (([] : List Int).map cI), .L 1 (([] : List Int).map cI)])) rfl rfl rfl (e_bld (cs := [I (x3.1), I (x4.1), I (0), I (0), .v (.slice none 0 0), .v (.slice none 0 0)]) zo108 bl108 rfl rfl) (.agg (R2.cons (.refl _) (R2.cons (.refl _) (R2.cons (.refl _) (R2.cons (.refl _) (R2.cons (.nlL _) (R2.cons (.nlL _) (R2.nil _)))))))) ?_
  refine .t (.o (.c (.LC 6 (([(⟨x3.1, x4.1, 0, 0, ([] : List Int), ([] : List Int)⟩ : Tx)] : List Tx).map Tx.cs)))) (e_litF (xs := [[I (x3.1), I (x4.1), I (0), I (0), .L 1 (([] : List Int).map cI), .L 1 (([] : List Int).map cI)]]) (ys := ([(⟨x3.1, x4.1, 0, 0, ([] : List Int), ([] : List Int)⟩ : Tx)]).map Tx.cs) slt92 nl92 rfl rfl rfl rfl rfl rfl) ?_
  obtain ⟨c5, hm⟩ := hm.ifs
  refine .t (.o (.c (.g (h.length + 1) (((l_ ++ ([(⟨x3.1, x4.1, 0, 0, ([] : List Int), ([] : List Int)⟩ : Tx)] : List Tx))).length) 6 ((decide (0 < l_.length)) || decide (0 < ([(⟨x3.1, x4.1, 0, 0, ([] : List Int), ([] : List Int)⟩ : Tx)] : List Tx).length))))) (e_apG (k := 6) (q := 1759218604441) (m := ([(⟨x3.1, x4.1, 0, 0, ([] : List Int), ([] : List Int)⟩ : Tx)] : List Tx).length) (j := 0) (f := Tx.cs) (xs := l_) (ys := ([(⟨x3.1, x4.1, 0, 0, ([] : List Int), ([] : List Int)⟩ : Tx)] : List Tx)) (L' := [⟨(l_.map Tx.cs).flatten, true, false⟩, ⟨((l_ ++ ([(⟨x3.1, x4.1, 0, 0, ([] : List Int), ([] : List Int)⟩ : Tx)] : List Tx)).map Tx.cs).flatten, true, ((decide (0 < l_.length)) || decide (0 < ([(⟨x3.1, x4.1, 0, 0, ([] : List Int), ([] : List Int)⟩ : Tx)] : List Tx).length))⟩]) slt92 (List.length_set ..) (ev_t rfl) (ev_t rfl) (bx (List.length_set ..) rfl) (by intro x; rfl) src_LC rfl c5 rfl (by first | rfl | simp) rfl rfl) ?_
  refine .a rfl ?_
  refine .nil ?_
  refine CdOK.ret ?_
  refine ⟨.inr rfl, _, rfl, (h.set b_c_ ⟨[.L 1 (x4.2.l_.map c_u8), I (x4.2.at_)], true, true⟩), _, _, rfl, (List.length_set ..), (hC.set rfl), ((.o (.c (.fzg 1 _ 6 _ ((l_ ++ ([(⟨x3.1, x4.1, 0, 0, ([] : List Int), ([] : List Int)⟩ : Tx)] : List Tx)).map Tx.cs) rfl (by decide) (by first | exact List.length_map .. | simp) (lens_all (by intro x; rfl)) (vl_all (by intro x; rfl))))) : RenV _ _ _ _ (.o (.c (.L 6 ((l_ ++ ([(⟨x3.1, x4.1, 0, 0, ([] : List Int), ([] : List Int)⟩ : Tx)] : List Tx)).map Tx.cs))))), ?_⟩
  cases hm.ret; exact ⟨rfl, rfl⟩
 intro c6; replace hm := hm.ifn c6
 iterate 2 refine .m rfl ?_
 obtain ⟨x7, e7, hm⟩ := hm.call
 refine .cl rfl rfl rfl rfl pl32 (R2.wk _) (Codes_Next_ok  (b_c_ := b_c_) (pset hl_c_) e7) ?_
 rintro _ _ ⟨rfl, rfl⟩
 rw [show _ = (h.set b_c_ ⟨[.L 1 (x7.2.l_.map c_u8), I (x7.2.at_)], true, true⟩) ++ ([⟨(l_.map Tx.cs).flatten, true, (decide (0 < l_.length))⟩] : Heap) from (pset2 hl_c_)]
 refine .t (VB (decide (x7.1 = 0))) (e_eqK (ev_t rfl) rfl) ?_
 refine .t (VB (decide (x7.1 = 0))) (e_pick (t := false) (ev_t rfl) (ev_t rfl)) ?_
 refine .nil ?_
 refine CdOK.condD (ev_t rfl) ?_ ?_
 ·intro c8; replace hm := hm.ifp c8
  refine .seq (.region ?_)
  iterate 2 refine .m rfl ?_
  obtain ⟨x9, e9, hm⟩ := hm.call
  refine .cl rfl rfl rfl rfl pl32 (R2.wk _) (Codes_Next_ok  (b_c_ := b_c_) (pset hl_c_) e9) ?_
  rintro _ _ ⟨rfl, rfl⟩
  rw [show _ = (h.set b_c_ ⟨[.L 1 (x9.2.l_.map c_u8), I (x9.2.at_)], true, true⟩) ++ ([⟨(l_.map Tx.cs).flatten, true, (decide (0 < l_.length))⟩] : Heap) from (pset2 hl_c_)]
  refine .m rfl ?_
  obtain ⟨x10, e10, hm⟩ := hm.call
  refine .cl rfl rfl rfl rfl pl32 (R2.wk _) (Codes_Next_ok  (b_c_ := b_c_) (pset hl_c_) e10) ?_
  rintro _ _ ⟨rfl, rfl⟩
  rw [show _ = (h.set b_c_ ⟨[.L 1 (x10.2.l_.map c_u8), I (x10.2.at_)], true, true⟩) ++ ([⟨(l_.map Tx.cs).flatten, true, (decide (0 < l_.length))⟩] : Heap) from (pset2 hl_c_)]
  refine .sW (v' := .o (.agg [I (x9.1), I (x10.1), I (0), I (0), .L 1 (([] : List Int).map cI), .L 1 (([] : List Int).map cI)])) rfl rfl rfl (e_bld (cs := [I (x9.1), I (x10.1), I (0), I (0), .v (.slice none 0 0), .v (.slice none 0 0)]) zo108 bl108 rfl rfl) (.agg (R2.cons (.refl _) (R2.cons (.refl _) (R2.cons (.refl _) (R2.cons (.refl _) (R2.cons (.nlL _) (R2.cons (.nlL _) (R2.nil _)))))))) ?_
  refine .t (.o (.c (.LC 6 (([(⟨x9.1, x10.1, 0, 0, ([] : List Int), ([] : List Int)⟩ : Tx)] : List Tx).map Tx.cs)))) (e_litF (xs := [[I (x9.1), I (x10.1), I (0), I (0), .L 1 (([] : List Int).map cI), .L 1 (([] : List Int).map cI)]]) (ys := ([(⟨x9.1, x10.1, 0, 0, ([] : List Int), ([] : List Int)⟩ : Tx)]).map Tx.cs) slt92 nl92 rfl rfl rfl rfl rfl rfl) ?_
  obtain ⟨c11, hm⟩ := hm.ifs
  refine .t (.o (.c (.g (h.length + 1) (((l_ ++ ([(⟨x9.1, x10.1, 0, 0, ([] : List Int), ([] : List Int)⟩ : Tx)] : List Tx))).length) 6 ((decide (0 < l_.length)) || decide (0 < ([(⟨x9.1, x10.1, 0, 0, ([] : List Int), ([] : List Int)⟩ : Tx)] : List Tx).length))))) (e_apG (k := 6) (q := 1759218604441) (m := ([(⟨x9.1, x10.1, 0, 0, ([] : List Int), ([] : List Int)⟩ : Tx)] : List Tx).length) (j := 0) (f := Tx.cs) (xs := l_) (ys := ([(⟨x9.1, x10.1, 0, 0, ([] : List Int), ([] : List Int)⟩ : Tx)] : List Tx)) (L' := [⟨(l_.map Tx.cs).flatten, true, false⟩, ⟨((l_ ++ ([(⟨x9.1, x10.1, 0, 0, ([] : List Int), ([] : List Int)⟩ : Tx)] : List Tx)).map Tx.cs).flatten, true, ((decide (0 < l_.length)) || decide (0 < ([(⟨x9.1, x10.1, 0, 0, ([] : List Int), ([] : List Int)⟩ : Tx)] : List Tx).length))⟩]) slt92 (List.length_set ..) (ev_t rfl) (ev_t rfl) (bx (List.length_set ..) rfl) (by intro x; rfl) src_LC rfl c11 rfl (by first | rfl | simp) rfl rfl) ?_
  refine .a rfl ?_
  refine .nil ?_
  refine CdOK.ret ?_
  refine ⟨.inr rfl, _, rfl, (h.set b_c_ ⟨[.L 1 (x10.2.l_.map c_u8), I (x10.2.at_)], true, true⟩), _, _, rfl, (List.length_set ..), (hC.set rfl), ((.o (.c (.fzg 1 _ 6 _ ((l_ ++ ([(⟨x9.1, x10.1, 0, 0, ([] : List Int), ([] : List Int)⟩ : Tx)] : List Tx)).map Tx.cs) rfl (by decide) (by first | exact List.length_map .. | simp) (lens_all (by intro x; rfl)) (vl_all (by intro x; rfl))))) : RenV _ _ _ _ (.o (.c (.L 6 ((l_ ++ ([(⟨x9.1, x10.1, 0, 0, ([] : List Int), ([] : List Int)⟩ : Tx)] : List Tx)).map Tx.cs))))), ?_⟩
  cases hm.ret; exact ⟨rfl, rfl⟩
 intro c12; replace hm := hm.ifn c12
 refine .skip ?_
 refine CdOK.seq ?_
 obtain ⟨c13, hm⟩ := hm.ifs
 rw [show (decide (0 < l_.length)) = true from decide_eq_true c13]
 refine .region ?_
 iterate 3 refine .m rfl ?_
 refine .t (VI (((l_).length : Int))) (e_lenG (ev_t rfl) is92) ?_
 obtain ⟨x14, e14, hm⟩ := hm.call
 refine .cl rfl rfl rfl rfl pl32 (R2.wk _) (Codes_Next_ok  (b_c_ := b_c_) (pset hl_c_) e14) ?_
 rintro _ _ ⟨rfl, rfl⟩
 rw [show _ = (h.set b_c_ ⟨[.L 1 (x14.2.l_.map c_u8), I (x14.2.at_)], true, true⟩) ++ ([⟨(l_.map Tx.cs).flatten, true, true⟩] : Heap) from (pset2 hl_c_)]
 obtain ⟨c15, hm⟩ := hm.ifs
 refine .t (.o (.c (.ptr (h.length + 0) (0 + (Int.toNat x14.1) * 6)))) (e_ixg (ev_t rfl) (ev_t rfl) el92 c15) ?_
 refine .a rfl ?_
 refine .nil (CdOK.seq (.seq (.region (.m rfl ?_))))
 obtain ⟨x16, e16, hm⟩ := hm.call
 refine .cl rfl rfl rfl rfl pl32 (R2.wk _) (Codes_Next_ok  (b_c_ := b_c_) (pset hl_c_) e16) ?_
 rintro _ _ ⟨rfl, rfl⟩
 rw [show _ = (h.set b_c_ ⟨[.L 1 (x16.2.l_.map c_u8), I (x16.2.at_)], true, true⟩) ++ ([⟨(l_.map Tx.cs).flatten, true, true⟩] : Heap) from (pset2 hl_c_)]
 refine .nil ?_
 refine CdOK.block ?_
 refine .seq (.region (.t (VB (decide (x16.1 = 0))) (e_eqK (ev_t rfl) rfl) ?_))
 refine .a rfl ?_
 refine .nil ?_
 refine CdOK.condD (ev_t rfl) ?_ ?_
 ·intro c17; replace hm := hm.ifp c17
  refine .region ?_
  iterate 2 refine .m rfl ?_
  obtain ⟨x18, e18, hm⟩ := hm.call
  refine .cl rfl rfl rfl rfl pl49 (R2.wk _) (Codes_Int_ok  (b_c_ := b_c_) (pset hl_c_) e18) ?_
  rintro _ _ ⟨rfl, rfl⟩
  rw [show _ = (h.set b_c_ ⟨[.L 1 (x18.2.l_.map c_u8), I (x18.2.at_)], true, true⟩) ++ ([⟨(l_.map Tx.cs).flatten, true, true⟩] : Heap) from (pset2 hl_c_)]
  refine .t _ (e_nil (ev_t rfl)) ?_
  refine .t _ (e_fa' fa108_0 (ev_t rfl)) ?_
  obtain ⟨c19, hm⟩ := hm.ifs
  refine .s0 rfl rfl (e_stg (k := 6) (off := 0) (f := Tx.cs) (l := l_) (i := x14.1) (x := (⟨x18.1, (gd l_ x14.1).state, (gd l_ x14.1).last, (gd l_ x14.1).until_, (gd l_ x14.1).pending, (gd l_ x14.1).saves⟩ : Tx)) (L' := [⟨((l_.set (Int.toNat x14.1) (⟨x18.1, (gd l_ x14.1).state, (gd l_ x14.1).last, (gd l_ x14.1).until_, (gd l_ x14.1).pending, (gd l_ x14.1).saves⟩ : Tx)).map Tx.cs).flatten, true, true⟩]) (List.length_set ..) (ev_t rfl) (ev_t rfl) ty3 rfl (by intro x; rfl) rfl rfl c19 (by omega) rfl) ?_
  refine .nil (CdOK.seq (.region (.m rfl ?_)))
  refine .a rfl ?_
  refine .nil ?_
  refine CdOK.ret ?_
  refine ⟨.inr rfl, _, rfl, (h.set b_c_ ⟨[.L 1 (x18.2.l_.map c_u8), I (x18.2.at_)], true, true⟩), _, _, rfl, (List.length_set ..), (hC.set rfl), ((.o (.c (.fzg 0 _ 6 _ ((l_.set (Int.toNat x14.1) (⟨x18.1, (gd l_ x14.1).state, (gd l_ x14.1).last, (gd l_ x14.1).until_, (gd l_ x14.1).pending, (gd l_ x14.1).saves⟩ : Tx)).map Tx.cs) rfl (by decide) (by first | exact List.length_map .. | simp) (lens_all (by intro x; rfl)) (vl_all (by intro x; rfl))))) : RenV _ _ _ _ (.o (.c (.L 6 ((l_.set (Int.toNat x14.1) (⟨x18.1, (gd l_ x14.1).state, (gd l_ x14.1).last, (gd l_ x14.1).until_, (gd l_ x14.1).pending, (gd l_ x14.1).saves⟩ : Tx)).map Tx.cs))))), ?_⟩
  cases hm.ret; exact ⟨rfl, rfl⟩
 intro c20; replace hm := hm.ifn c20
 refine .seq (.region (.t (VB (decide (x16.1 = 1))) (e_eqK (ev_t rfl) rfl) ?_))
 refine .a rfl ?_
 refine .nil ?_
 refine CdOK.condD (ev_t rfl) ?_ ?_
 ·intro c21; replace hm := hm.ifp c21
  refine .region ?_
  iterate 2 refine .m rfl ?_
  obtain ⟨x22, e22, hm⟩ := hm.call
  refine .cl rfl rfl rfl rfl pl32 (R2.wk _) (Codes_Next_ok  (b_c_ := b_c_) (pset hl_c_) e22) ?_
  rintro _ _ ⟨rfl, rfl⟩
  rw [show _ = (h.set b_c_ ⟨[.L 1 (x22.2.l_.map c_u8), I (x22.2.at_)], true, true⟩) ++ ([⟨(l_.map Tx.cs).flatten, true, true⟩] : Heap) from (pset2 hl_c_)]
  refine .t _ (e_nil (ev_t rfl)) ?_
  refine .t _ (e_fa' fa108_1 (ev_t rfl)) ?_
  obtain ⟨c23, hm⟩ := hm.ifs
  refine .s0 rfl rfl (e_stg (k := 6) (off := 1) (f := Tx.cs) (l := l_) (i := x14.1) (x := (⟨(gd l_ x14.1).id_, x22.1, (gd l_ x14.1).last, (gd l_ x14.1).until_, (gd l_ x14.1).pending, (gd l_ x14.1).saves⟩ : Tx)) (L' := [⟨((l_.set (Int.toNat x14.1) (⟨(gd l_ x14.1).id_, x22.1, (gd l_ x14.1).last, (gd l_ x14.1).until_, (gd l_ x14.1).pending, (gd l_ x14.1).saves⟩ : Tx)).map Tx.cs).flatten, true, true⟩]) (List.length_set ..) (ev_t rfl) (ev_t rfl) ty3 rfl (by intro x; rfl) rfl rfl c23 (by omega) rfl) ?_
  refine .nil (CdOK.seq (.region (.m rfl ?_)))
  refine .a rfl ?_
  refine .nil ?_
  refine CdOK.ret ?_
  refine ⟨.inr rfl, _, rfl, (h.set b_c_ ⟨[.L 1 (x22.2.l_.map c_u8), I (x22.2.at_)], true, true⟩), _, _, rfl, (List.length_set ..), (hC.set rfl), ((.o (.c (.fzg 0 _ 6 _ ((l_.set (Int.toNat x14.1) (⟨(gd l_ x14.1).id_, x22.1, (gd l_ x14.1).last, (gd l_ x14.1).until_, (gd l_ x14.1).pending, (gd l_ x14.1).saves⟩ : Tx)).map Tx.cs) rfl (by decide) (by first | exact List.length_map .. | simp) (lens_all (by intro x; rfl)) (vl_all (by intro x; rfl))))) : RenV _ _ _ _ (.o (.c (.L 6 ((l_.set (Int.toNat x14.1) (⟨(gd l_ x14.1).id_, x22.1, (gd l_ x14.1).last, (gd l_ x14.1).until_, (gd l_ x14.1).pending, (gd l_ x14.1).saves⟩ : Tx)).map Tx.cs))))), ?_⟩
  cases hm.ret; exact ⟨rfl, rfl⟩
 intro c24; replace hm := hm.ifn c24
 refine .seq (.region (.t (VB (decide (x16.1 = 2))) (e_eqK (ev_t rfl) rfl) ?_))
 refine .a rfl ?_
 refine .nil ?_
 refine CdOK.condD (ev_t rfl) ?_ ?_
 ·intro c25; replace hm := hm.ifp c25
  refine .region ?_
  iterate 2 refine .m rfl ?_
  obtain ⟨x26, e26, hm⟩ := hm.call
  refine .cl rfl rfl rfl rfl pl49 (R2.wk _) (Codes_Int_ok  (b_c_ := b_c_) (pset hl_c_) e26) ?_
  rintro _ _ ⟨rfl, rfl⟩
  rw [show _ = (h.set b_c_ ⟨[.L 1 (x26.2.l_.map c_u8), I (x26.2.at_)], true, true⟩) ++ ([⟨(l_.map Tx.cs).flatten, true, true⟩] : Heap) from (pset2 hl_c_)]
  refine .t _ (e_nil (ev_t rfl)) ?_
  refine .t _ (e_fa' fa108_2 (ev_t rfl)) ?_
  obtain ⟨c27, hm⟩ := hm.ifs
  refine .s0 rfl rfl (e_stg (k := 6) (off := 2) (f := Tx.cs) (l := l_) (i := x14.1) (x := (⟨(gd l_ x14.1).id_, (gd l_ x14.1).state, x26.1, (gd l_ x14.1).until_, (gd l_ x14.1).pending, (gd l_ x14.1).saves⟩ : Tx)) (L' := [⟨((l_.set (Int.toNat x14.1) (⟨(gd l_ x14.1).id_, (gd l_ x14.1).state, x26.1, (gd l_ x14.1).until_, (gd l_ x14.1).pending, (gd l_ x14.1).saves⟩ : Tx)).map Tx.cs).flatten, true, true⟩]) (List.length_set ..) (ev_t rfl) (ev_t rfl) ty3 rfl (by intro x; rfl) rfl rfl c27 (by omega) rfl) ?_
  refine .nil (CdOK.seq (.region (.m rfl ?_)))
  refine .a rfl ?_
  refine .nil ?_
  refine CdOK.ret ?_
  refine ⟨.inr rfl, _, rfl, (h.set b_c_ ⟨[.L 1 (x26.2.l_.map c_u8), I (x26.2.at_)], true, true⟩), _, _, rfl, (List.length_set ..), (hC.set rfl), ((.o (.c (.fzg 0 _ 6 _ ((l_.set (Int.toNat x14.1) (⟨(gd l_ x14.1).id_, (gd l_ x14.1).state, x26.1, (gd l_ x14.1).until_, (gd l_ x14.1).pending, (gd l_ x14.1).saves⟩ : Tx)).map Tx.cs) rfl (by decide) (by first | exact List.length_map .. | simp) (lens_all (by intro x; rfl)) (vl_all (by intro x; rfl))))) : RenV _ _ _ _ (.o (.c (.L 6 ((l_.set (Int.toNat x14.1) (⟨(gd l_ x14.1).id_, (gd l_ x14.1).state, x26.1, (gd l_ x14.1).until_, (gd l_ x14.1).pending, (gd l_ x14.1).saves⟩ : Tx)).map Tx.cs))))), ?_⟩
  cases hm.ret; exact ⟨rfl, rfl⟩
 intro c28; replace hm := hm.ifn c28
 refine .seq (.region (.t (VB (decide (x16.1 = 3))) (e_eqK (ev_t rfl) rfl) ?_))
 refine .a rfl ?_
 refine .nil ?_
 refine CdOK.condD (ev_t rfl) ?_ ?_
 ·intro c29; replace hm := hm.ifp c29
  refine .region ?_
  iterate 2 refine .m rfl ?_
  obtain ⟨x30, e30, hm⟩ := hm.call
  refine .cl rfl rfl rfl rfl pl32 (R2.wk _) (Codes_Next_ok  (b_c_ := b_c_) (pset hl_c_) e30) ?_
  rintro _ _ ⟨rfl, rfl⟩
  rw [show _ = (h.set b_c_ ⟨[.L 1 (x30.2.l_.map c_u8), I (x30.2.at_)], true, true⟩) ++ ([⟨(l_.map Tx.cs).flatten, true, true⟩] : Heap) from (pset2 hl_c_)]
  refine .t _ (e_nil (ev_t rfl)) ?_
  refine .t _ (e_fa' fa108_3 (ev_t rfl)) ?_
  obtain ⟨c31, hm⟩ := hm.ifs
  refine .s0 rfl rfl (e_stg (k := 6) (off := 3) (f := Tx.cs) (l := l_) (i := x14.1) (x := (⟨(gd l_ x14.1).id_, (gd l_ x14.1).state, (gd l_ x14.1).last, x30.1, (gd l_ x14.1).pending, (gd l_ x14.1).saves⟩ : Tx)) (L' := [⟨((l_.set (Int.toNat x14.1) (⟨(gd l_ x14.1).id_, (gd l_ x14.1).state, (gd l_ x14.1).last, x30.1, (gd l_ x14.1).pending, (gd l_ x14.1).saves⟩ : Tx)).map Tx.cs).flatten, true, true⟩]) (List.length_set ..) (ev_t rfl) (ev_t rfl) ty3 rfl (by intro x; rfl) rfl rfl c31 (by omega) rfl) ?_
  refine .nil (CdOK.seq (.region (.m rfl ?_)))
  refine .a rfl ?_
  refine .nil ?_
  refine CdOK.ret ?_
  refine ⟨.inr rfl, _, rfl, (h.set b_c_ ⟨[.L 1 (x30.2.l_.map c_u8), I (x30.2.at_)], true, true⟩), _, _, rfl, (List.length_set ..), (hC.set rfl), ((.o (.c (.fzg 0 _ 6 _ ((l_.set (Int.toNat x14.1) (⟨(gd l_ x14.1).id_, (gd l_ x14.1).state, (gd l_ x14.1).last, x30.1, (gd l_ x14.1).pending, (gd l_ x14.1).saves⟩ : Tx)).map Tx.cs) rfl (by decide) (by first | exact List.length_map .. | simp) (lens_all (by intro x; rfl)) (vl_all (by intro x; rfl))))) : RenV _ _ _ _ (.o (.c (.L 6 ((l_.set (Int.toNat x14.1) (⟨(gd l_ x14.1).id_, (gd l_ x14.1).state, (gd l_ x14.1).last, x30.1, (gd l_ x14.1).pending, (gd l_ x14.1).saves⟩ : Tx)).map Tx.cs))))), ?_⟩
  cases hm.ret; exact ⟨rfl, rfl⟩
 intro c32; replace hm := hm.ifn c32
 refine .seq (.region (.t (VB (decide (x16.1 = 4))) (e_eqK (ev_t rfl) rfl) ?_))
 refine .a rfl ?_
 refine .nil ?_
 refine CdOK.condD (ev_t rfl) ?_ ?_
 ·intro c33; replace hm := hm.ifp c33
  refine .region ?_
  iterate 2 refine .m rfl ?_
  refine .t _ (e_nil (ev_t rfl)) ?_
  refine .t _ (e_fa' fa108_4 (ev_t rfl)) ?_
  obtain ⟨c34, hm⟩ := hm.ifs
  refine .t (.o (.c (.L 1 (((gd l_ x14.1).pending).map cI)))) (e_ldg1 (b := (h.length + 0)) (o := 0 + (Int.toNat x14.1) * 6 + 4) (k := 6) (off := 4) (f := Tx.cs) (l := l_) (i := x14.1) (ev_t rfl) ty27 (bx (List.length_set ..) rfl) (by intro x; rfl) c34 rfl (by omega)) ?_
  obtain ⟨c35, hm⟩ := hm.ifs
  refine .t (.o (.c (.g (h.length + 1) (((gd l_ x14.1).pending).length) 1 (decide (0 < ((gd l_ x14.1).pending).length))))) (e_apN (k := 1) (q := 17592186044416) (m := ((gd l_ x14.1).pending).length) (lv := (decide (0 < ((gd l_ x14.1).pending).length))) (f := cI) (xs := (gd l_ x14.1).pending) (L' := [⟨(l_.map Tx.cs).flatten, true, true⟩, ⟨(((gd l_ x14.1).pending).map cI).flatten, true, (decide (0 < ((gd l_ x14.1).pending).length))⟩]) slt27 (List.length_set ..) rfl (ev_t rfl) src_L c35 rfl rfl rfl rfl) ?_
  refine .m rfl ?_
  obtain ⟨x36, e36, hm⟩ := hm.call
  refine .cl rfl rfl rfl rfl pl32 (R2.wk _) (Codes_Next_ok  (b_c_ := b_c_) (pset hl_c_) e36) ?_
  rintro _ _ ⟨rfl, rfl⟩
  rw [show _ = (h.set b_c_ ⟨[.L 1 (x36.2.l_.map c_u8), I (x36.2.at_)], true, true⟩) ++ ([⟨(l_.map Tx.cs).flatten, true, true⟩, ⟨(((gd l_ x14.1).pending).map cI).flatten, true, (decide (0 < ((gd l_ x14.1).pending).length))⟩] : Heap) from (pset2 hl_c_)]
  refine .t (.o (.c (.LC 1 (([x36.1] : List Int).map cI)))) (e_lit (cs := [I (x36.1)]) (xs := ([x36.1]).map cI) slt27 nl27 rfl rfl rfl rfl rfl) ?_
  obtain ⟨c37, hm⟩ := hm.ifs
  refine .t (.o (.c (.g (h.length + 2) ((((gd l_ x14.1).pending ++ ([x36.1] : List Int))).length) 1 ((decide (0 < ((gd l_ x14.1).pending).length)) || decide (0 < ([x36.1] : List Int).length))))) (e_apG (k := 1) (q := 17592186044416) (m := ([x36.1] : List Int).length) (j := 1) (f := cI) (xs := ((gd l_ x14.1).pending)) (ys := ([x36.1] : List Int)) (L' := [⟨(l_.map Tx.cs).flatten, true, true⟩, ⟨(((gd l_ x14.1).pending).map cI).flatten, true, false⟩, ⟨(((gd l_ x14.1).pending ++ ([x36.1] : List Int)).map cI).flatten, true, ((decide (0 < ((gd l_ x14.1).pending).length)) || decide (0 < ([x36.1] : List Int).length))⟩]) slt27 (List.length_set ..) (ev_t rfl) (ev_t rfl) (bx (List.length_set ..) rfl) (by intro x; rfl) src_LC rfl c37 rfl (by first | rfl | simp) rfl rfl) ?_
  refine .t _ (e_nil (ev_t rfl)) ?_
  refine .t _ (e_fa' fa108_4 (ev_t rfl)) ?_
  refine .fz (d := 72) (l := ((gd l_ x14.1).pending ++ ([x36.1] : List Int))) (f := cI) (L' := [⟨(l_.map Tx.cs).flatten, true, true⟩, ⟨(((gd l_ x14.1).pending).map cI).flatten, true, false⟩, ⟨(((gd l_ x14.1).pending ++ ([x36.1] : List Int)).map cI).flatten, true, false⟩]) (List.length_set ..) rfl rfl (by first | rfl | simp) (by intro x; rfl) (by intro x; rfl) rfl ?_
  obtain ⟨c38, hm⟩ := hm.ifs
  refine .s0 rfl rfl (e_stg (k := 6) (off := 4) (f := Tx.cs) (l := l_) (i := x14.1) (x := (⟨(gd l_ x14.1).id_, (gd l_ x14.1).state, (gd l_ x14.1).last, (gd l_ x14.1).until_, ((gd l_ x14.1).pending ++ ([x36.1] : List Int)), (gd l_ x14.1).saves⟩ : Tx)) (L' := [⟨((l_.set (Int.toNat x14.1) (⟨(gd l_ x14.1).id_, (gd l_ x14.1).state, (gd l_ x14.1).last, (gd l_ x14.1).until_, ((gd l_ x14.1).pending ++ ([x36.1] : List Int)), (gd l_ x14.1).saves⟩ : Tx)).map Tx.cs).flatten, true, true⟩, ⟨(((gd l_ x14.1).pending).map cI).flatten, true, false⟩, ⟨(((gd l_ x14.1).pending ++ ([x36.1] : List Int)).map cI).flatten, true, false⟩]) (List.length_set ..) (ev_t rfl) (ev_t rfl) ty27 rfl (by intro x; rfl) rfl rfl c38 (by omega) rfl) ?_
  refine .nil (CdOK.seq (.region (.m rfl ?_)))
  refine .a rfl ?_
  refine .nil ?_
  refine CdOK.ret ?_
  refine ⟨.inr rfl, _, rfl, (h.set b_c_ ⟨[.L 1 (x36.2.l_.map c_u8), I (x36.2.at_)], true, true⟩), _, _, rfl, (List.length_set ..), (hC.set rfl), ((.o (.c (.fzg 0 _ 6 _ ((l_.set (Int.toNat x14.1) (⟨(gd l_ x14.1).id_, (gd l_ x14.1).state, (gd l_ x14.1).last, (gd l_ x14.1).until_, ((gd l_ x14.1).pending ++ ([x36.1] : List Int)), (gd l_ x14.1).saves⟩ : Tx)).map Tx.cs) rfl (by decide) (by first | exact List.length_map .. | simp) (lens_all (by intro x; rfl)) (vl_all (by intro x; rfl))))) : RenV _ _ _ _ (.o (.c (.L 6 ((l_.set (Int.toNat x14.1) (⟨(gd l_ x14.1).id_, (gd l_ x14.1).state, (gd l_ x14.1).last, (gd l_ x14.1).until_, ((gd l_ x14.1).pending ++ ([x36.1] : List Int)), (gd l_ x14.1).saves⟩ : Tx)).map Tx.cs))))), ?_⟩
  cases hm.ret; exact ⟨rfl, rfl⟩
 intro c39; replace hm := hm.ifn c39
 refine .seq (.region (.t (VB (decide (x16.1 = 5))) (e_eqK (ev_t rfl) rfl) ?_))
 refine .a rfl ?_
 refine .nil ?_
 refine CdOK.condD (ev_t rfl) ?_ ?_
 ·intro c40; replace hm := hm.ifp c40
  refine .region ?_
  iterate 2 refine .m rfl ?_
  refine .t _ (e_nil (ev_t rfl)) ?_
  refine .t _ (e_fa' fa108_5 (ev_t rfl)) ?_
  obtain ⟨c41, hm⟩ := hm.ifs
  refine .t (.o (.c (.L 1 (((gd l_ x14.1).saves).map cI)))) (e_ldg1 (b := (h.length + 0)) (o := 0 + (Int.toNat x14.1) * 6 + 5) (k := 6) (off := 5) (f := Tx.cs) (l := l_) (i := x14.1) (ev_t rfl) ty27 (bx (List.length_set ..) rfl) (by intro x; rfl) c41 rfl (by omega)) ?_
  obtain ⟨c42, hm⟩ := hm.ifs
  refine .t (.o (.c (.g (h.length + 1) (((gd l_ x14.1).saves).length) 1 (decide (0 < ((gd l_ x14.1).saves).length))))) (e_apN (k := 1) (q := 17592186044416) (m := ((gd l_ x14.1).saves).length) (lv := (decide (0 < ((gd l_ x14.1).saves).length))) (f := cI) (xs := (gd l_ x14.1).saves) (L' := [⟨(l_.map Tx.cs).flatten, true, true⟩, ⟨(((gd l_ x14.1).saves).map cI).flatten, true, (decide (0 < ((gd l_ x14.1).saves).length))⟩]) slt27 (List.length_set ..) rfl (ev_t rfl) src_L c42 rfl rfl rfl rfl) ?_
  refine .m rfl ?_
  obtain ⟨x43, e43, hm⟩ := hm.call
  refine .cl rfl rfl rfl rfl pl32 (R2.wk _) (Codes_Next_ok  (b_c_ := b_c_) (pset hl_c_) e43) ?_
  rintro _ _ ⟨rfl, rfl⟩
  rw [show _ = (h.set b_c_ ⟨[.L 1 (x43.2.l_.map c_u8), I (x43.2.at_)], true, true⟩) ++ ([⟨(l_.map Tx.cs).flatten, true, true⟩, ⟨(((gd l_ x14.1).saves).map cI).flatten, true, (decide (0 < ((gd l_ x14.1).saves).length))⟩] : Heap) from (pset2 hl_c_)]
  refine .t (.o (.c (.LC 1 (([x43.1] : List Int).map cI)))) (e_lit (cs := [I (x43.1)]) (xs := ([x43.1]).map cI) slt27 nl27 rfl rfl rfl rfl rfl) ?_
  obtain ⟨c44, hm⟩ := hm.ifs
  refine .t (.o (.c (.g (h.length + 2) ((((gd l_ x14.1).saves ++ ([x43.1] : List Int))).length) 1 ((decide (0 < ((gd l_ x14.1).saves).length)) || decide (0 < ([x43.1] : List Int).length))))) (e_apG (k := 1) (q := 17592186044416) (m := ([x43.1] : List Int).length) (j := 1) (f := cI) (xs := ((gd l_ x14.1).saves)) (ys := ([x43.1] : List Int)) (L' := [⟨(l_.map Tx.cs).flatten, true, true⟩, ⟨(((gd l_ x14.1).saves).map cI).flatten, true, false⟩, ⟨(((gd l_ x14.1).saves ++ ([x43.1] : List Int)).map cI).flatten, true, ((decide (0 < ((gd l_ x14.1).saves).length)) || decide (0 < ([x43.1] : List Int).length))⟩]) slt27 (List.length_set ..) (ev_t rfl) (ev_t rfl) (bx (List.length_set ..) rfl) (by intro x; rfl) src_LC rfl c44 rfl (by first | rfl | simp) rfl rfl) ?_
  refine .t _ (e_nil (ev_t rfl)) ?_
  refine .t _ (e_fa' fa108_5 (ev_t rfl)) ?_
  refine .fz (d := 86) (l := ((gd l_ x14.1).saves ++ ([x43.1] : List Int))) (f := cI) (L' := [⟨(l_.map Tx.cs).flatten, true, true⟩, ⟨(((gd l_ x14.1).saves).map cI).flatten, true, false⟩, ⟨(((gd l_ x14.1).saves ++ ([x43.1] : List Int)).map cI).flatten, true, false⟩]) (List.length_set ..) rfl rfl (by first | rfl | simp) (by intro x; rfl) (by intro x; rfl) rfl ?_
  obtain ⟨c45, hm⟩ := hm.ifs
  refine .s0 rfl rfl (e_stg (k := 6) (off := 5) (f := Tx.cs) (l := l_) (i := x14.1) (x := (⟨(gd l_ x14.1).id_, (gd l_ x14.1).state, (gd l_ x14.1).last, (gd l_ x14.1).until_, (gd l_ x14.1).pending, ((gd l_ x14.1).saves ++ ([x43.1] : List Int))⟩ : Tx)) (L' := [⟨((l_.set (Int.toNat x14.1) (⟨(gd l_ x14.1).id_, (gd l_ x14.1).state, (gd l_ x14.1).last, (gd l_ x14.1).until_, (gd l_ x14.1).pending, ((gd l_ x14.1).saves ++ ([x43.1] : List Int))⟩ : Tx)).map Tx.cs).flatten, true, true⟩, ⟨(((gd l_ x14.1).saves).map cI).flatten, true, false⟩, ⟨(((gd l_ x14.1).saves ++ ([x43.1] : List Int)).map cI).flatten, true, false⟩]) (List.length_set ..) (ev_t rfl) (ev_t rfl) ty27 rfl (by intro x; rfl) rfl rfl c45 (by omega) rfl) ?_
  refine .nil (CdOK.seq (.region (.m rfl ?_)))
  refine .a rfl ?_
  refine .nil ?_
  refine CdOK.ret ?_
  refine ⟨.inr rfl, _, rfl, (h.set b_c_ ⟨[.L 1 (x43.2.l_.map c_u8), I (x43.2.at_)], true, true⟩), _, _, rfl, (List.length_set ..), (hC.set rfl), ((.o (.c (.fzg 0 _ 6 _ ((l_.set (Int.toNat x14.1) (⟨(gd l_ x14.1).id_, (gd l_ x14.1).state, (gd l_ x14.1).last, (gd l_ x14.1).until_, (gd l_ x14.1).pending, ((gd l_ x14.1).saves ++ ([x43.1] : List Int))⟩ : Tx)).map Tx.cs) rfl (by decide) (by first | exact List.length_map .. | simp) (lens_all (by intro x; rfl)) (vl_all (by intro x; rfl))))) : RenV _ _ _ _ (.o (.c (.L 6 ((l_.set (Int.toNat x14.1) (⟨(gd l_ x14.1).id_, (gd l_ x14.1).state, (gd l_ x14.1).last, (gd l_ x14.1).until_, (gd l_ x14.1).pending, ((gd l_ x14.1).saves ++ ([x43.1] : List Int))⟩ : Tx)).map Tx.cs))))), ?_⟩
  cases hm.ret; exact ⟨rfl, rfl⟩
 intro c46; replace hm := hm.ifn c46
 refine .skip ?_
 refine CdOK.seq (.region (.m rfl ?_))
 refine .a rfl ?_
 refine .nil ?_
 refine CdOK.ret ?_
 refine ⟨.inr rfl, _, rfl, (h.set b_c_ ⟨[.L 1 (x16.2.l_.map c_u8), I (x16.2.at_)], true, true⟩), _, _, rfl, (List.length_set ..), (hC.set rfl), ((.o (.c (.fzg 0 _ 6 _ (l_.map Tx.cs) rfl (by decide) (by first | exact List.length_map .. | simp) (lens_all (by intro x; rfl)) (vl_all (by intro x; rfl))))) : RenV _ _ _ _ (.o (.c (.L 6 (l_.map Tx.cs))))), ?_⟩
 cases hm.ret; exact ⟨rfl, rfl⟩
def law12_table.l1  : Nat → (List Tx) → Int → Int → Codes → Option ((List Tx) × Int × Codes)
  | 0, _, _, _, _ => none
  | kk9 + 1, l5, lsn6, k7, bx8 => (if 0 < k7 then ((Codes_Next 4 bx8).bind fun (x11 : (Int × Codes)) => ((Codes_Next 6 x11.2).bind fun (x12 : (Int × Codes)) => (if x12.1 = 0 then ((ref12_Begin l5 (w64 (1 + x11.1))).bind fun (x14 : ((List Tx) × Int)) => (if x14.2 = 0 then law12_table.l1 kk9 x14.1 lsn6 (w64 (k7 - 1)) x12.2 else law12_table.l1 kk9 l5 lsn6 (w64 (k7 - 1)) x12.2)) else (if x12.1 = 1 then ((ref12_Save l5 (w64 (1 + x11.1))).bind fun (x19 : ((List Tx) × Int)) => (if x19.2 = 0 then law12_table.l1 kk9 x19.1 lsn6 (w64 (k7 - 1)) x12.2 else law12_table.l1 kk9 l5 lsn6 (w64 (k7 - 1)) x12.2)) else (if x12.1 = 2 then ((Codes_Next 2 x12.2).bind fun (x24 : (Int × Codes)) => ((ref12_Back l5 (w64 (1 + x11.1)) x24.1).bind fun (x25 : ((List Tx) × Int)) => (if x25.2 = 0 then law12_table.l1 kk9 x25.1 lsn6 (w64 (k7 - 1)) x24.2 else law12_table.l1 kk9 l5 lsn6 (w64 (k7 - 1)) x24.2))) else ((law12_next l5 (w64 (1 + x11.1)) (w64 (lsn6 + 1)) x12.2).bind fun (x29 : (AEntry × Codes)) => ((ref12_Note l5 x29.1).bind fun (x30 : ((List Tx) × Int)) => (if x30.2 = 0 then law12_table.l1 kk9 x30.1 (w64 (lsn6 + 1)) (w64 (k7 - 1)) x29.2 else law12_table.l1 kk9 l5 lsn6 (w64 (k7 - 1)) x29.2)))))))) else some (l5, lsn6, bx8))
def law12_table (c_ : Codes) : Option ((List Tx) × Int × Codes) := ((Codes_Next 20 c_).bind fun (x1 : (Int × Codes)) => ((law12_table.l1 FU ([] : List Tx) 0 x1.1 x1.2).bind fun (s34 : ((List Tx) × Int × Codes)) => some (s34.1, s34.2.1, s34.2.2)))
theorem law12_table_ok {h : Heap} {c_ : Codes} {b_c_ : Nat} (hb_c_ : h[b_c_]? = some ⟨[.L 1 (c_.l_.map c_u8), I (c_.at_)], true, true⟩)  {r : ((List Tx) × Int × Codes)} (hm : law12_table c_ = some r) : FnOK Try.prog 63 [.o (.c (.ptr b_c_ 0))] h (fun v h' => v = .tup [.c (.L 6 (r.1.map Tx.cs)), .c (I (r.2.1))] ∧ h' = h.set b_c_ ⟨[.L 1 (r.2.2.l_.map c_u8), I (r.2.2.at_)], true, true⟩) := by
 refine FnOK.fin ?_
 refine FnOK.bodyC (N := 80) Try.func63 rfl rfl rfl (fun hC => ?_)
 have hl_c_ := lt_of_get hb_c_
 rw [show h ++ [] = (h.set b_c_ ⟨[.L 1 (c_.l_.map c_u8), I (c_.at_)], true, true⟩) ++ ([] : Heap) from by rw [set_same hb_c_]]
 replace hm := Ev.of hm
 rw [law12_table.eq_1] at hm
 show CdOK _ _ _ (look _ [(0, .o (.c (.ptr b_c_ 0)))]) ((h.set b_c_ ⟨[.L 1 (c_.l_.map c_u8), I (c_.at_)], true, true⟩) ++ ([] : Heap)) _
 refine .seq (.region (.t (.o (.c (.v (.slice none 0 0)))) (e_as rfl) ?_))
 refine .t (VI (0)) (e_as rfl) ?_
 refine .nil (CdOK.seq (.region (.t (.o (.c (.v (.slice none 0 0)))) (e_as rfl) ?_)))
 refine .nil (CdOK.seq (.region (.t (VI (0)) (e_as rfl) ?_)))
 refine .nil (CdOK.seq (.seq (.region (.m rfl ?_))))
 obtain ⟨x1, e1, hm⟩ := hm.call
 refine .cl rfl rfl rfl rfl pl32 (R2.wk _) (Codes_Next_ok  (b_c_ := b_c_) (pset hl_c_) e1) ?_
 rintro _ _ ⟨rfl, rfl⟩
 rw [show _ = (h.set b_c_ ⟨[.L 1 (x1.2.l_.map c_u8), I (x1.2.at_)], true, true⟩) ++ ([] : Heap) from (pset2 hl_c_)]
 refine .a rfl ?_
 refine .nil ?_
 replace hm := hm.bnd
 refine CdOK.joinT (σ := ((List Tx) × Int × Codes)) (fun s => (s.1, s.2.1, s.2.2)) hm (fun s => [(4, .o (.c (.L 6 (s.1.map Tx.cs)))), (5, VI (s.2.1))]) (fun s => (h.set b_c_ ⟨[.L 1 (s.2.2.l_.map c_u8), I (s.2.2.at_)], true, true⟩) ++ ([] : Heap)) ?_ ?_
 ·intro hm
  refine .block ?_
  refine .re (σ := []) (X := [(0, .o (.c (.ptr b_c_ 0))), (4, .o (.c (.L 6 (([] : List Tx).map Tx.cs)))), (5, VI (0)), (6, VI (x1.1))]) (L' := []) (List.length_set ..) rfl (hC.set rfl) (by decide) .nil (.cons (.o (.c (.lo _ hl_c_))) (.cons (.o (.c (.wk (.fl _ rfl) (.nlL _)))) (.cons (renFlV rfl) (.cons (renFlV rfl) .nil)))) ?_
  refine .loopE (σ := ((List Tx) × Int × Int × Codes)) (fun k s => Ev (law12_table.l1 k s.1 s.2.1 s.2.2.1 s.2.2.2) _) (fun s => [(0, .o (.c (.ptr b_c_ 0))), (4, .o (.c (.L 6 (s.1.map Tx.cs)))), (5, VI (s.2.1)), (6, VI (s.2.2.1))]) (fun s => (h.set b_c_ ⟨[.L 1 (s.2.2.2.l_.map c_u8), I (s.2.2.2.at_)], true, true⟩) ++ ([] : Heap)) FU (([] : List Tx), 0, x1.1, x1.2) hm (.cons rfl (.cons rfl (.cons rfl (.cons rfl .nil)))) rfl ?_
  rintro kk9 ⟨l5, lsn6, k7, bx8⟩ T0 hm
  replace hm : Ev (law12_table.l1 kk9 l5 lsn6 k7 bx8) _ := hm
  cases kk9 with
  | zero => exact (Ev.non hm).elim
  | succ kk9 =>
  rw [law12_table.l1.eq_2] at hm
  show CdOK _ _ _ (look T0 [(0, .o (.c (.ptr b_c_ 0))), (4, .o (.c (.L 6 (l5.map Tx.cs)))), (5, VI (lsn6)), (6, VI (k7))]) ((h.set b_c_ ⟨[.L 1 (bx8.l_.map c_u8), I (bx8.at_)], true, true⟩) ++ ([] : Heap)) _
  iterate 2 refine .seq ?_
  refine .region (.m rfl ?_)
  refine .t (VB (decide (0 < k7))) (e_bin (ev_t rfl) rfl rfl rfl) ?_
  refine .nil ?_
  refine CdOK.condD (ev_t rfl) ?_ ?_
  ·intro c10; replace hm := hm.ifp c10
   refine .skip ?_
   refine CdOK.seq ?_
   refine .block ?_
   refine .seq (.region (.m rfl ?_))
   obtain ⟨x11, e11, hm⟩ := hm.call
   refine .cl rfl rfl rfl rfl pl32 (R2.wk _) (Codes_Next_ok  (b_c_ := b_c_) (pset hl_c_) e11) ?_
   rintro _ _ ⟨rfl, rfl⟩
   rw [show _ = (h.set b_c_ ⟨[.L 1 (x11.2.l_.map c_u8), I (x11.2.at_)], true, true⟩) ++ ([] : Heap) from (pset2 hl_c_)]
   refine .t (VI ((w64 (1 + x11.1)))) (e_bin rfl (ev_t rfl) rfl rfl) ?_
   refine .a rfl ?_
   refine .nil (CdOK.seq (.region (.m rfl ?_)))
   obtain ⟨x12, e12, hm⟩ := hm.call
   refine .cl rfl rfl rfl rfl pl32 (R2.wk _) (Codes_Next_ok  (b_c_ := b_c_) (pset hl_c_) e12) ?_
   rintro _ _ ⟨rfl, rfl⟩
   rw [show _ = (h.set b_c_ ⟨[.L 1 (x12.2.l_.map c_u8), I (x12.2.at_)], true, true⟩) ++ ([] : Heap) from (pset2 hl_c_)]
   refine .nil ?_
   refine CdOK.block ?_
   refine .seq (.region (.t (VB (decide (x12.1 = 0))) (e_eqK (ev_t rfl) rfl) ?_))
   refine .a rfl ?_
   refine .nil ?_
   refine CdOK.condD (ev_t rfl) ?_ ?_
   ·intro c13; replace hm := hm.ifp c13
    refine .seq (.region ?_)
    iterate 2 refine .m rfl ?_
    obtain ⟨x14, e14, hm⟩ := hm.call
    refine .cl rfl rfl rfl rfl pl72 (R2.wk _) (ref12_Begin_ok    e14) ?_
    rintro _ _ ⟨rfl, rfl⟩
    refine .m rfl ?_
    refine .t (.o (.c (.L 6 (x14.1.map Tx.cs)))) (e_ext (ev_t rfl) rfl) ?_
    refine .t (VI (x14.2)) (e_ext (ev_t rfl) rfl) ?_
    iterate 2 refine .a rfl ?_
    refine .nil (CdOK.seq (.region (.m rfl ?_)))
    refine .t (VB (decide (x14.2 = 0))) (e_eqK (ev_t rfl) rfl) ?_
    refine .nil ?_
    refine CdOK.condD (ev_t rfl) ?_ ?_
    ·intro c15; replace hm := hm.ifp c15
     refine .region (.m rfl ?_)
     refine .a rfl ?_
     refine .nil (CdOK.region (.m rfl ?_))
     refine .t (VI ((w64 (k7 - 1)))) (e_bin (ev_t rfl) rfl rfl rfl) ?_
     refine .a rfl ?_
     refine .nil (.id ?_)
     exact ⟨_, (x14.1, lsn6, (w64 (k7 - 1)), x12.2), Nat.lt_succ_self _, hm, (.cons rfl (.cons rfl (.cons rfl (.cons rfl .nil)))), rfl⟩
    intro c16; replace hm := hm.ifn c16
    refine .skip ?_
    refine CdOK.region (.m rfl ?_)
    refine .t (VI ((w64 (k7 - 1)))) (e_bin (ev_t rfl) rfl rfl rfl) ?_
    refine .a rfl ?_
    refine .nil (.id ?_)
    exact ⟨_, (l5, lsn6, (w64 (k7 - 1)), x12.2), Nat.lt_succ_self _, hm, (.cons rfl (.cons rfl (.cons rfl (.cons rfl .nil)))), rfl⟩
   intro c17; replace hm := hm.ifn c17
   refine .seq (.region (.t (VB (decide (x12.1 = 1))) (e_eqK (ev_t rfl) rfl) ?_))
   refine .a rfl ?_
   refine .nil ?_
   refine CdOK.condD (ev_t rfl) ?_ ?_
   ·intro c18; replace hm := hm.ifp c18
    refine .seq (.region ?_)
    iterate 2 refine .m rfl ?_
    obtain ⟨x19, e19, hm⟩ := hm.call
    refine .cl rfl rfl rfl rfl pl78 (R2.wk _) (ref12_Save_ok    e19) ?_
    rintro _ _ ⟨rfl, rfl⟩
    refine .m rfl ?_
    refine .t (.o (.c (.L 6 (x19.1.map Tx.cs)))) (e_ext (ev_t rfl) rfl) ?_
    refine .t (VI (x19.2)) (e_ext (ev_t rfl) rfl) ?_
    iterate 2 refine .a rfl ?_
    refine .nil (CdOK.seq (.region (.m rfl ?_)))
    refine .t (VB (decide (x19.2 = 0))) (e_eqK (ev_t rfl) rfl) ?_
    refine .nil ?_
    refine CdOK.condD (ev_t rfl) ?_ ?_
    ·intro c20; replace hm := hm.ifp c20
     refine .region (.m rfl ?_)
     refine .a rfl ?_
     refine .nil (CdOK.region (.m rfl ?_))
     refine .t (VI ((w64 (k7 - 1)))) (e_bin (ev_t rfl) rfl rfl rfl) ?_
     refine .a rfl ?_
     refine .nil (.id ?_)
     exact ⟨_, (x19.1, lsn6, (w64 (k7 - 1)), x12.2), Nat.lt_succ_self _, hm, (.cons rfl (.cons rfl (.cons rfl (.cons rfl .nil)))), rfl⟩
    intro c21; replace hm := hm.ifn c21
    refine .skip ?_
    refine CdOK.region (.m rfl ?_)
    refine .t (VI ((w64 (k7 - 1)))) (e_bin (ev_t rfl) rfl rfl rfl) ?_
    refine .a rfl ?_
    refine .nil (.id ?_)
    exact ⟨_, (l5, lsn6, (w64 (k7 - 1)), x12.2), Nat.lt_succ_self _, hm, (.cons rfl (.cons rfl (.cons rfl (.cons rfl .nil)))), rfl⟩
   intro c22; replace hm := hm.ifn c22
   refine .seq (.region (.t (VB (decide (x12.1 = 2))) (e_eqK (ev_t rfl) rfl) ?_))
   refine .a rfl ?_
   refine .nil ?_
   refine CdOK.condD (ev_t rfl) ?_ ?_
   ·intro c23; replace hm := hm.ifp c23
    refine .seq (.region ?_)
    iterate 3 refine .m rfl ?_
    obtain ⟨x24, e24, hm⟩ := hm.call
    refine .cl rfl rfl rfl rfl pl32 (R2.wk _) (Codes_Next_ok  (b_c_ := b_c_) (pset hl_c_) e24) ?_
    rintro _ _ ⟨rfl, rfl⟩
    rw [show _ = (h.set b_c_ ⟨[.L 1 (x24.2.l_.map c_u8), I (x24.2.at_)], true, true⟩) ++ ([] : Heap) from (pset2 hl_c_)]
    obtain ⟨x25, e25, hm⟩ := hm.call
    refine .cl rfl rfl rfl rfl pl132 (R2.wk _) (ref12_Back_ok    e25) ?_
    rintro _ _ ⟨rfl, rfl⟩
    refine .m rfl ?_
    refine .t (.o (.c (.L 6 (x25.1.map Tx.cs)))) (e_ext (ev_t rfl) rfl) ?_
    refine .t (VI (x25.2)) (e_ext (ev_t rfl) rfl) ?_
    iterate 2 refine .a rfl ?_
    refine .nil (CdOK.seq (.region (.m rfl ?_)))
    refine .t (VB (decide (x25.2 = 0))) (e_eqK (ev_t rfl) rfl) ?_
    refine .nil ?_
    refine CdOK.condD (ev_t rfl) ?_ ?_
    ·intro c26; replace hm := hm.ifp c26
     refine .region (.m rfl ?_)
     refine .a rfl ?_
     refine .nil (CdOK.region (.m rfl ?_))
     refine .t (VI ((w64 (k7 - 1)))) (e_bin (ev_t rfl) rfl rfl rfl) ?_
     refine .a rfl ?_
     refine .nil (.id ?_)
     exact ⟨_, (x25.1, lsn6, (w64 (k7 - 1)), x24.2), Nat.lt_succ_self _, hm, (.cons rfl (.cons rfl (.cons rfl (.cons rfl .nil)))), rfl⟩
    intro c27; replace hm := hm.ifn c27
    refine .skip ?_
    refine CdOK.region (.m rfl ?_)
    refine .t (VI ((w64 (k7 - 1)))) (e_bin (ev_t rfl) rfl rfl rfl) ?_
    refine .a rfl ?_
    refine .nil (.id ?_)
    exact ⟨_, (l5, lsn6, (w64 (k7 - 1)), x24.2), Nat.lt_succ_self _, hm, (.cons rfl (.cons rfl (.cons rfl (.cons rfl .nil)))), rfl⟩
   intro c28; replace hm := hm.ifn c28
   refine .seq (.region ?_)
   iterate 5 refine .m rfl ?_
   refine .t (VI ((w64 (lsn6 + 1)))) (e_bin (ev_t rfl) rfl rfl rfl) ?_
   obtain ⟨x29, e29, hm⟩ := hm.call
   refine .cl rfl rfl rfl rfl pl67 (R2.wk _) (law12_next_ok  (b_c_ := b_c_) (pset hl_c_) e29) ?_
   rintro _ _ ⟨rfl, rfl⟩
   rw [show _ = (h.set b_c_ ⟨[.L 1 (x29.2.l_.map c_u8), I (x29.2.at_)], true, true⟩) ++ ([] : Heap) from (pset2 hl_c_)]
   obtain ⟨x30, e30, hm⟩ := hm.call
   refine .cl rfl rfl rfl rfl pl69 (R2.wk _) (ref12_Note_ok    e30) ?_
   rintro _ _ ⟨rfl, rfl⟩
   refine .m rfl ?_
   refine .t (.o (.c (.L 6 (x30.1.map Tx.cs)))) (e_ext (ev_t rfl) rfl) ?_
   refine .t (VI (x30.2)) (e_ext (ev_t rfl) rfl) ?_
   iterate 2 refine .a rfl ?_
   refine .nil (CdOK.seq (.region (.m rfl ?_)))
   refine .t (VB (decide (x30.2 = 0))) (e_eqK (ev_t rfl) rfl) ?_
   refine .nil ?_
   refine CdOK.condD (ev_t rfl) ?_ ?_
   ·intro c31; replace hm := hm.ifp c31
    refine .seq (.region (.m rfl ?_))
    refine .a rfl ?_
    refine .nil (CdOK.region (.m rfl ?_))
    refine .t (VI ((w64 (lsn6 + 1)))) (e_bin (ev_t rfl) rfl rfl rfl) ?_
    refine .a rfl ?_
    refine .nil (CdOK.region (.m rfl ?_))
    refine .t (VI ((w64 (k7 - 1)))) (e_bin (ev_t rfl) rfl rfl rfl) ?_
    refine .a rfl ?_
    refine .nil (.id ?_)
    exact ⟨_, (x30.1, (w64 (lsn6 + 1)), (w64 (k7 - 1)), x29.2), Nat.lt_succ_self _, hm, (.cons rfl (.cons rfl (.cons rfl (.cons rfl .nil)))), rfl⟩
   intro c32; replace hm := hm.ifn c32
   refine .skip ?_
   refine CdOK.region (.m rfl ?_)
   refine .t (VI ((w64 (k7 - 1)))) (e_bin (ev_t rfl) rfl rfl rfl) ?_
   refine .a rfl ?_
   refine .nil (.id ?_)
   exact ⟨_, (l5, lsn6, (w64 (k7 - 1)), x29.2), Nat.lt_succ_self _, hm, (.cons rfl (.cons rfl (.cons rfl (.cons rfl .nil)))), rfl⟩
  intro c33; replace hm := hm.ifn c33
  refine .exit ?_
  refine .id ?_
  exact ⟨(l5, lsn6, bx8), hm.ret, (.cons rfl (.cons rfl .nil)), rfl⟩
 rintro ⟨l2, lsn3, bx4⟩ T0 hm
 refine CdOK.seq (.region ?_)
 iterate 2 refine .m rfl ?_
 iterate 2 refine .a rfl ?_
 refine .nil ?_
 refine CdOK.ret ?_
 refine ⟨.inr rfl, _, rfl, (h.set b_c_ ⟨[.L 1 (bx4.l_.map c_u8), I (bx4.at_)], true, true⟩), _, _, rfl, (List.length_set ..), (hC.set rfl), ((renFlV rfl) : RenV _ _ _ _ (.tup [.c (.L 6 (l2.map Tx.cs)), .c (I (lsn3))])), ?_⟩
 cases hm.ret; exact ⟨rfl, rfl⟩
end Rv
