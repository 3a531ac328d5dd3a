import Derived.Test.YtnlpkgamglhnbaaRvTrxd
set_option linter.unusedVariables false
set_option linter.unusedSimpArgs false
namespace Rv
open Go Go.RowKit Go.Proofs
theorem bl59 : bldf Try.prog 59 [(0, 1), (1, 1), (2, 1), (3, 1), (4, 1), (5, 1), (6, 6), (12, 1)] = true := by decide +kernel
theorem pl68 : plainFn Try.prog 68 = true := by decide +kernel
theorem pl71 : plainFn Try.prog 71 = true := by decide +kernel
theorem pl77 : plainFn Try.prog 77 = true := by decide +kernel
theorem pl131 : plainFn Try.prog 131 = true := by decide +kernel
theorem zo59 : zeroOf Try.prog 59 = some ([.v (.int .i64 0)] ++ [.v (.int .i64 0)] ++ [.v (.int .i64 0)] ++ [.v (.int .i64 0)] ++ [.v (.int .i64 0)] ++ [.v (.int .i64 0)] ++ [.v (.int .i64 0)] ++ [.v (.int .i64 0)] ++ [Bo false] ++ [.v (.string ⟨#[]⟩)] ++ [Bo false] ++ [.v (.string ⟨#[]⟩)] ++ [.v (.string ⟨#[]⟩)]) := by kernel_rfl
def law12_awake  : Option Bool := ((transactions_Begin ([] : List Tx) 1).bind fun (x1 : ((List Tx) × Int)) => ((transactions_Note x1.1 (⟨1, 1, 1, 0, 0, 0, (⟨0, 0, (⟨false, (⟨#[]⟩ : ByteArray)⟩ : ACell), (⟨false, (⟨#[]⟩ : ByteArray)⟩ : ACell)⟩ : Change), (⟨#[]⟩ : ByteArray)⟩ : AEntry)).bind fun (x2 : ((List Tx) × Int)) => ((transactions_Save x2.1 1).bind fun (x3 : ((List Tx) × Int)) => ((transactions_Note x3.1 (⟨2, 1, 1, 1, 0, 0, (⟨0, 0, (⟨false, (⟨#[]⟩ : ByteArray)⟩ : ACell), (⟨false, (⟨#[]⟩ : ByteArray)⟩ : ACell)⟩ : Change), (⟨#[]⟩ : ByteArray)⟩ : AEntry)).bind fun (x4 : ((List Tx) × Int)) => ((transactions_Note x4.1 (⟨3, 1, 1, 2, 0, 0, (⟨0, 0, (⟨false, (⟨#[]⟩ : ByteArray)⟩ : ACell), (⟨false, (⟨#[]⟩ : ByteArray)⟩ : ACell)⟩ : Change), (⟨#[]⟩ : ByteArray)⟩ : AEntry)).bind fun (x5 : ((List Tx) × Int)) => ((transactions_Back x5.1 1 0).bind fun (x6 : ((List Tx) × Int)) => (if x1.2 = 0 then (if x2.2 = 0 then (if x3.2 = 0 then (if x4.2 = 0 then (if x5.2 = 0 then (if x6.2 = 0 then (if (x6.1.length : Int) = 1 then (if (0 : Int) ≤ 0 ∧ 0 < (x6.1.length : Int) then (if ((gd x6.1 0).state) = 2 then (if (0 : Int) ≤ 0 ∧ 0 < (x6.1.length : Int) then (if ((gd x6.1 0).until_) = 1 then (if (0 : Int) ≤ 0 ∧ 0 < (x6.1.length : Int) then some (decide ((((gd x6.1 0).pending).length : Int) = 3)) else none) else some false) else none) else some false) else none) else some false) else some false) else some false) else some false) else some false) else some false) else some false)))))))
theorem law12_awake_ok {h : Heap}    {r : Bool} (hm : law12_awake  = some r) : FnOK Try.prog 62 [] h (fun v h' => v = VB (r) ∧ h' = h) := by
 refine FnOK.fin ?_
 refine FnOK.bodyC (N := 89) Try.func62 rfl rfl rfl (fun hC => ?_)
 replace hm := Ev.of hm
 rw [law12_awake.eq_1] at hm
 show CdOK _ _ _ (look _ []) (h ++ ([] : Heap)) _
 refine .seq (.region (.t (VB (false)) (e_as rfl) ?_))
 refine .nil (CdOK.seq (.region ?_))
 obtain ⟨x1, e1, hm⟩ := hm.call
 refine .cl rfl rfl rfl rfl pl71 (R2.of (.c (.nlL _)) (R2.of (.refl _) (R2.nil _))) (transactions_Begin_ok    e1) ?_
 rintro _ _ ⟨rfl, rfl⟩
 refine .m rfl ?_
 refine .t (.o (.c (.L 6 (x1.1.map Tx.cs)))) (e_ext (ev_t rfl) rfl) ?_
 refine .t (VI (x1.2)) (e_ext (ev_t rfl) rfl) ?_
 iterate 2 refine .a rfl ?_
 refine .nil (CdOK.seq (.region (.m rfl ?_)))
 refine .t (.o (.agg [I (1), I (1), I (1), I (0), I (0), I (0), I (0), I (0), Bo false, .v (.string (⟨#[]⟩ : ByteArray)), Bo false, .v (.string (⟨#[]⟩ : ByteArray)), .v (.string (⟨#[]⟩ : ByteArray))])) (e_bld (cs := [I (1), I (1), I (1), I (0), I (0), I (0), I (0), I (0), Bo false, .v (.string (⟨#[]⟩ : ByteArray)), Bo false, .v (.string (⟨#[]⟩ : ByteArray)), .v (.string (⟨#[]⟩ : ByteArray))]) zo59 bl59 rfl rfl) ?_
 obtain ⟨x2, e2, hm⟩ := hm.call
 refine .cl rfl rfl rfl rfl pl68 (R2.wk _) (transactions_Note_ok    e2) ?_
 rintro _ _ ⟨rfl, rfl⟩
 refine .m rfl ?_
 refine .t (.o (.c (.L 6 (x2.1.map Tx.cs)))) (e_ext (ev_t rfl) rfl) ?_
 refine .t (VI (x2.2)) (e_ext (ev_t rfl) rfl) ?_
 iterate 2 refine .a rfl ?_
 refine .nil (CdOK.seq (.region (.m rfl ?_)))
 obtain ⟨x3, e3, hm⟩ := hm.call
 refine .cl rfl rfl rfl rfl pl77 (R2.wk _) (transactions_Save_ok    e3) ?_
 rintro _ _ ⟨rfl, rfl⟩
 refine .m rfl ?_
 refine .t (.o (.c (.L 6 (x3.1.map Tx.cs)))) (e_ext (ev_t rfl) rfl) ?_
 refine .t (VI (x3.2)) (e_ext (ev_t rfl) rfl) ?_
 iterate 2 refine .a rfl ?_
 refine .nil (CdOK.seq (.region (.m rfl ?_)))
 refine .t (.o (.agg [I (2), I (1), I (1), I (1), I (0), I (0), I (0), I (0), Bo false, .v (.string (⟨#[]⟩ : ByteArray)), Bo false, .v (.string (⟨#[]⟩ : ByteArray)), .v (.string (⟨#[]⟩ : ByteArray))])) (e_bld (cs := [I (2), I (1), I (1), I (1), I (0), I (0), I (0), I (0), Bo false, .v (.string (⟨#[]⟩ : ByteArray)), Bo false, .v (.string (⟨#[]⟩ : ByteArray)), .v (.string (⟨#[]⟩ : ByteArray))]) zo59 bl59 rfl rfl) ?_
 obtain ⟨x4, e4, hm⟩ := hm.call
 refine .cl rfl rfl rfl rfl pl68 (R2.wk _) (transactions_Note_ok    e4) ?_
 rintro _ _ ⟨rfl, rfl⟩
 refine .m rfl ?_
 refine .t (.o (.c (.L 6 (x4.1.map Tx.cs)))) (e_ext (ev_t rfl) rfl) ?_
 refine .t (VI (x4.2)) (e_ext (ev_t rfl) rfl) ?_
 iterate 2 refine .a rfl ?_
 refine .nil (CdOK.seq (.region (.m rfl ?_)))
 refine .t (.o (.agg [I (3), I (1), I (1), I (2), I (0), I (0), I (0), I (0), Bo false, .v (.string (⟨#[]⟩ : ByteArray)), Bo false, .v (.string (⟨#[]⟩ : ByteArray)), .v (.string (⟨#[]⟩ : ByteArray))])) (e_bld (cs := [I (3), I (1), I (1), I (2), I (0), I (0), I (0), I (0), Bo false, .v (.string (⟨#[]⟩ : ByteArray)), Bo false, .v (.string (⟨#[]⟩ : ByteArray)), .v (.string (⟨#[]⟩ : ByteArray))]) zo59 bl59 rfl rfl) ?_
 obtain ⟨x5, e5, hm⟩ := hm.call
 refine .cl rfl rfl rfl rfl pl68 (R2.wk _) (transactions_Note_ok    e5) ?_
 rintro _ _ ⟨rfl, rfl⟩
 refine .m rfl ?_
 refine .t (.o (.c (.L 6 (x5.1.map Tx.cs)))) (e_ext (ev_t rfl) rfl) ?_
 refine .t (VI (x5.2)) (e_ext (ev_t rfl) rfl) ?_
 iterate 2 refine .a rfl ?_
 refine .nil (CdOK.seq (.region (.m rfl ?_)))
 obtain ⟨x6, e6, hm⟩ := hm.call
 refine .cl rfl rfl rfl rfl pl131 (R2.wk _) (transactions_Back_ok    e6) ?_
 rintro _ _ ⟨rfl, rfl⟩
 refine .m rfl ?_
 refine .t (.o (.c (.L 6 (x6.1.map Tx.cs)))) (e_ext (ev_t rfl) rfl) ?_
 refine .t (VI (x6.2)) (e_ext (ev_t rfl) rfl) ?_
 iterate 2 refine .a rfl ?_
 refine .nil (CdOK.seq (.region (.m rfl ?_)))
 refine .sd rfl rfl rfl (e_eqK (ev_t rfl) rfl) ?_ ?_
 ·intro c7; replace hm := hm.ifp c7
  iterate 2 refine .m rfl ?_
  refine .sd rfl rfl rfl (e_eqK (ev_t rfl) rfl) ?_ ?_
  ·intro c8; replace hm := hm.ifp c8
   refine .t (VB (true)) (e_pick (t := true) (ev_t rfl) (ev_t rfl)) ?_
   iterate 2 refine .m rfl ?_
   refine .sd rfl rfl rfl (e_eqK (ev_t rfl) rfl) ?_ ?_
   ·intro c9; replace hm := hm.ifp c9
    refine .t (VB (true)) (e_pick (t := true) (ev_t rfl) (ev_t rfl)) ?_
    iterate 2 refine .m rfl ?_
    refine .sd rfl rfl rfl (e_eqK (ev_t rfl) rfl) ?_ ?_
    ·intro c10; replace hm := hm.ifp c10
     refine .t (VB (true)) (e_pick (t := true) (ev_t rfl) (ev_t rfl)) ?_
     iterate 2 refine .m rfl ?_
     refine .sd rfl rfl rfl (e_eqK (ev_t rfl) rfl) ?_ ?_
     ·intro c11; replace hm := hm.ifp c11
      refine .t (VB (true)) (e_pick (t := true) (ev_t rfl) (ev_t rfl)) ?_
      iterate 2 refine .m rfl ?_
      refine .sd rfl rfl rfl (e_eqK (ev_t rfl) rfl) ?_ ?_
      ·intro c12; replace hm := hm.ifp c12
       refine .t (VB (true)) (e_pick (t := true) (ev_t rfl) (ev_t rfl)) ?_
       iterate 2 refine .m rfl ?_
       refine .t (VI ((x6.1.length : Int))) (e_lenM (ev_t rfl) is92) ?_
       refine .sd rfl rfl rfl (e_eqK (ev_t rfl) rfl) ?_ ?_
       ·intro c13; replace hm := hm.ifp c13
        refine .t (VB (true)) (e_pick (t := true) (ev_t rfl) (ev_t rfl)) ?_
        iterate 2 refine .m rfl ?_
        obtain ⟨c14, hm⟩ := hm.ifs
        refine .t (.o (.c (.rp [I ((gd x6.1 0).id_), I ((gd x6.1 0).state), I ((gd x6.1 0).last), I ((gd x6.1 0).until_), .L 1 (((gd x6.1 0).pending).map cI), .L 1 (((gd x6.1 0).saves).map cI)]))) (e_ixM (f := Tx.cs) (l := x6.1) (i := 0) (ev_t rfl) rfl el92 c14) ?_
        refine .t _ (e_faR fa108_1 (ev_t rfl) rfl) ?_
        refine .t _ (e_ldR1 (ev_t rfl) ty3 rfl) ?_
        refine .sd rfl rfl rfl (e_eqK (ev_t rfl) rfl) ?_ ?_
        ·intro c15; replace hm := hm.ifp c15
         refine .t (VB (true)) (e_pick (t := true) (ev_t rfl) (ev_t rfl)) ?_
         iterate 2 refine .m rfl ?_
         obtain ⟨c16, hm⟩ := hm.ifs
         refine .t (.o (.c (.rp [I ((gd x6.1 0).id_), I ((gd x6.1 0).state), I ((gd x6.1 0).last), I ((gd x6.1 0).until_), .L 1 (((gd x6.1 0).pending).map cI), .L 1 (((gd x6.1 0).saves).map cI)]))) (e_ixM (f := Tx.cs) (l := x6.1) (i := 0) (ev_t rfl) rfl el92 c16) ?_
         refine .t _ (e_faR fa108_3 (ev_t rfl) rfl) ?_
         refine .t _ (e_ldR1 (ev_t rfl) ty3 rfl) ?_
         refine .sd rfl rfl rfl (e_eqK (ev_t rfl) rfl) ?_ ?_
         ·intro c17; replace hm := hm.ifp c17
          refine .t (VB (true)) (e_pick (t := true) (ev_t rfl) (ev_t rfl)) ?_
          iterate 2 refine .m rfl ?_
          obtain ⟨c18, hm⟩ := hm.ifs
          refine .t (.o (.c (.rp [I ((gd x6.1 0).id_), I ((gd x6.1 0).state), I ((gd x6.1 0).last), I ((gd x6.1 0).until_), .L 1 (((gd x6.1 0).pending).map cI), .L 1 (((gd x6.1 0).saves).map cI)]))) (e_ixM (f := Tx.cs) (l := x6.1) (i := 0) (ev_t rfl) rfl el92 c18) ?_
          refine .t _ (e_faR fa108_4 (ev_t rfl) rfl) ?_
          refine .t _ (e_ldR1 (ev_t rfl) ty27 rfl) ?_
          refine .t (VI ((((gd x6.1 0).pending).length : Int))) (e_lenM (ev_t rfl) is27) ?_
          refine .t (VB (decide ((((gd x6.1 0).pending).length : Int) = 3))) (e_eqK (ev_t rfl) rfl) ?_
          refine .t (VB (decide ((((gd x6.1 0).pending).length : Int) = 3))) (e_pick (t := true) (ev_t rfl) (ev_t rfl)) ?_
          refine .a rfl ?_
          refine .nil ?_
          refine CdOK.ret ?_
          refine ⟨.inr rfl, _, rfl, h, _, _, rfl, rfl, hC, ((renFlV rfl) : RenV _ _ _ _ (VB (decide ((((gd x6.1 0).pending).length : Int) = 3)))), ?_⟩
          cases hm.ret; exact ⟨rfl, rfl⟩
         intro c19; replace hm := hm.ifn c19
         refine .t (VB (false)) (e_pick (t := true) (ev_t rfl) (ev_t rfl)) ?_
         refine .m rfl ?_
         iterate 6 refine .k ?_
         refine .t (VB (false)) (e_pick (t := false) (ev_t rfl) rfl) ?_
         refine .a rfl ?_
         refine .nil ?_
         refine CdOK.ret ?_
         refine ⟨.inr rfl, _, rfl, h, _, _, rfl, rfl, hC, ((renFlV rfl) : RenV _ _ _ _ (VB (false))), ?_⟩
         cases hm.ret; exact ⟨rfl, rfl⟩
        intro c20; replace hm := hm.ifn c20
        refine .t (VB (false)) (e_pick (t := true) (ev_t rfl) (ev_t rfl)) ?_
        refine .m rfl ?_
        iterate 5 refine .k ?_
        refine .t (VB (false)) (e_pick (t := false) (ev_t rfl) rfl) ?_
        refine .m rfl ?_
        iterate 6 refine .k ?_
        refine .t (VB (false)) (e_pick (t := false) (ev_t rfl) rfl) ?_
        refine .a rfl ?_
        refine .nil ?_
        refine CdOK.ret ?_
        refine ⟨.inr rfl, _, rfl, h, _, _, rfl, rfl, hC, ((renFlV rfl) : RenV _ _ _ _ (VB (false))), ?_⟩
        cases hm.ret; exact ⟨rfl, rfl⟩
       intro c21; replace hm := hm.ifn c21
       refine .t (VB (false)) (e_pick (t := true) (ev_t rfl) (ev_t rfl)) ?_
       refine .m rfl ?_
       iterate 5 refine .k ?_
       refine .t (VB (false)) (e_pick (t := false) (ev_t rfl) rfl) ?_
       refine .m rfl ?_
       iterate 5 refine .k ?_
       refine .t (VB (false)) (e_pick (t := false) (ev_t rfl) rfl) ?_
       refine .m rfl ?_
       iterate 6 refine .k ?_
       refine .t (VB (false)) (e_pick (t := false) (ev_t rfl) rfl) ?_
       refine .a rfl ?_
       refine .nil ?_
       refine CdOK.ret ?_
       refine ⟨.inr rfl, _, rfl, h, _, _, rfl, rfl, hC, ((renFlV rfl) : RenV _ _ _ _ (VB (false))), ?_⟩
       cases hm.ret; exact ⟨rfl, rfl⟩
      intro c22; replace hm := hm.ifn c22
      refine .t (VB (false)) (e_pick (t := true) (ev_t rfl) (ev_t rfl)) ?_
      refine .m rfl ?_
      iterate 3 refine .k ?_
      refine .t (VB (false)) (e_pick (t := false) (ev_t rfl) rfl) ?_
      refine .m rfl ?_
      iterate 5 refine .k ?_
      refine .t (VB (false)) (e_pick (t := false) (ev_t rfl) rfl) ?_
      refine .m rfl ?_
      iterate 5 refine .k ?_
      refine .t (VB (false)) (e_pick (t := false) (ev_t rfl) rfl) ?_
      refine .m rfl ?_
      iterate 6 refine .k ?_
      refine .t (VB (false)) (e_pick (t := false) (ev_t rfl) rfl) ?_
      refine .a rfl ?_
      refine .nil ?_
      refine CdOK.ret ?_
      refine ⟨.inr rfl, _, rfl, h, _, _, rfl, rfl, hC, ((renFlV rfl) : RenV _ _ _ _ (VB (false))), ?_⟩
      cases hm.ret; exact ⟨rfl, rfl⟩
     intro c23; replace hm := hm.ifn c23
     refine .t (VB (false)) (e_pick (t := true) (ev_t rfl) (ev_t rfl)) ?_
     refine .m rfl ?_
     iterate 2 refine .k ?_
     refine .t (VB (false)) (e_pick (t := false) (ev_t rfl) rfl) ?_
     refine .m rfl ?_
     iterate 3 refine .k ?_
     refine .t (VB (false)) (e_pick (t := false) (ev_t rfl) rfl) ?_
     refine .m rfl ?_
     iterate 5 refine .k ?_
     refine .t (VB (false)) (e_pick (t := false) (ev_t rfl) rfl) ?_
     refine .m rfl ?_
     iterate 5 refine .k ?_
     refine .t (VB (false)) (e_pick (t := false) (ev_t rfl) rfl) ?_
     refine .m rfl ?_
     iterate 6 refine .k ?_
     refine .t (VB (false)) (e_pick (t := false) (ev_t rfl) rfl) ?_
     refine .a rfl ?_
     refine .nil ?_
     refine CdOK.ret ?_
     refine ⟨.inr rfl, _, rfl, h, _, _, rfl, rfl, hC, ((renFlV rfl) : RenV _ _ _ _ (VB (false))), ?_⟩
     cases hm.ret; exact ⟨rfl, rfl⟩
    intro c24; replace hm := hm.ifn c24
    refine .t (VB (false)) (e_pick (t := true) (ev_t rfl) (ev_t rfl)) ?_
    refine .m rfl ?_
    iterate 2 refine .k ?_
    refine .t (VB (false)) (e_pick (t := false) (ev_t rfl) rfl) ?_
    refine .m rfl ?_
    iterate 2 refine .k ?_
    refine .t (VB (false)) (e_pick (t := false) (ev_t rfl) rfl) ?_
    refine .m rfl ?_
    iterate 3 refine .k ?_
    refine .t (VB (false)) (e_pick (t := false) (ev_t rfl) rfl) ?_
    refine .m rfl ?_
    iterate 5 refine .k ?_
    refine .t (VB (false)) (e_pick (t := false) (ev_t rfl) rfl) ?_
    refine .m rfl ?_
    iterate 5 refine .k ?_
    refine .t (VB (false)) (e_pick (t := false) (ev_t rfl) rfl) ?_
    refine .m rfl ?_
    iterate 6 refine .k ?_
    refine .t (VB (false)) (e_pick (t := false) (ev_t rfl) rfl) ?_
    refine .a rfl ?_
    refine .nil ?_
    refine CdOK.ret ?_
    refine ⟨.inr rfl, _, rfl, h, _, _, rfl, rfl, hC, ((renFlV rfl) : RenV _ _ _ _ (VB (false))), ?_⟩
    cases hm.ret; exact ⟨rfl, rfl⟩
   intro c25; replace hm := hm.ifn c25
   refine .t (VB (false)) (e_pick (t := true) (ev_t rfl) (ev_t rfl)) ?_
   refine .m rfl ?_
   iterate 2 refine .k ?_
   refine .t (VB (false)) (e_pick (t := false) (ev_t rfl) rfl) ?_
   refine .m rfl ?_
   iterate 2 refine .k ?_
   refine .t (VB (false)) (e_pick (t := false) (ev_t rfl) rfl) ?_
   refine .m rfl ?_
   iterate 2 refine .k ?_
   refine .t (VB (false)) (e_pick (t := false) (ev_t rfl) rfl) ?_
   refine .m rfl ?_
   iterate 3 refine .k ?_
   refine .t (VB (false)) (e_pick (t := false) (ev_t rfl) rfl) ?_
   refine .m rfl ?_
   iterate 5 refine .k ?_
   refine .t (VB (false)) (e_pick (t := false) (ev_t rfl) rfl) ?_
   refine .m rfl ?_
   iterate 5 refine .k ?_
   refine .t (VB (false)) (e_pick (t := false) (ev_t rfl) rfl) ?_
   refine .m rfl ?_
   iterate 6 refine .k ?_
   refine .t (VB (false)) (e_pick (t := false) (ev_t rfl) rfl) ?_
   refine .a rfl ?_
   refine .nil ?_
   refine CdOK.ret ?_
   refine ⟨.inr rfl, _, rfl, h, _, _, rfl, rfl, hC, ((renFlV rfl) : RenV _ _ _ _ (VB (false))), ?_⟩
   cases hm.ret; exact ⟨rfl, rfl⟩
  intro c26; replace hm := hm.ifn c26
  refine .t (VB (false)) (e_pick (t := true) (ev_t rfl) (ev_t rfl)) ?_
  refine .m rfl ?_
  iterate 2 refine .k ?_
  refine .t (VB (false)) (e_pick (t := false) (ev_t rfl) rfl) ?_
  refine .m rfl ?_
  iterate 2 refine .k ?_
  refine .t (VB (false)) (e_pick (t := false) (ev_t rfl) rfl) ?_
  refine .m rfl ?_
  iterate 2 refine .k ?_
  refine .t (VB (false)) (e_pick (t := false) (ev_t rfl) rfl) ?_
  refine .m rfl ?_
  iterate 2 refine .k ?_
  refine .t (VB (false)) (e_pick (t := false) (ev_t rfl) rfl) ?_
  refine .m rfl ?_
  iterate 3 refine .k ?_
  refine .t (VB (false)) (e_pick (t := false) (ev_t rfl) rfl) ?_
  refine .m rfl ?_
  iterate 5 refine .k ?_
  refine .t (VB (false)) (e_pick (t := false) (ev_t rfl) rfl) ?_
  refine .m rfl ?_
  iterate 5 refine .k ?_
  refine .t (VB (false)) (e_pick (t := false) (ev_t rfl) rfl) ?_
  refine .m rfl ?_
  iterate 6 refine .k ?_
  refine .t (VB (false)) (e_pick (t := false) (ev_t rfl) rfl) ?_
  refine .a rfl ?_
  refine .nil ?_
  refine CdOK.ret ?_
  refine ⟨.inr rfl, _, rfl, h, _, _, rfl, rfl, hC, ((renFlV rfl) : RenV _ _ _ _ (VB (false))), ?_⟩
  cases hm.ret; exact ⟨rfl, rfl⟩
 intro c27; replace hm := hm.ifn c27
 refine .m rfl ?_
 iterate 2 refine .k ?_
 refine .t (VB (false)) (e_pick (t := false) (ev_t rfl) rfl) ?_
 refine .m rfl ?_
 iterate 2 refine .k ?_
 refine .t (VB (false)) (e_pick (t := false) (ev_t rfl) rfl) ?_
 refine .m rfl ?_
 iterate 2 refine .k ?_
 refine .t (VB (false)) (e_pick (t := false) (ev_t rfl) rfl) ?_
 refine .m rfl ?_
 iterate 2 refine .k ?_
 refine .t (VB (false)) (e_pick (t := false) (ev_t rfl) rfl) ?_
 refine .m rfl ?_
 iterate 2 refine .k ?_
 refine .t (VB (false)) (e_pick (t := false) (ev_t rfl) rfl) ?_
 refine .m rfl ?_
 iterate 3 refine .k ?_
 refine .t (VB (false)) (e_pick (t := false) (ev_t rfl) rfl) ?_
 refine .m rfl ?_
 iterate 5 refine .k ?_
 refine .t (VB (false)) (e_pick (t := false) (ev_t rfl) rfl) ?_
 refine .m rfl ?_
 iterate 5 refine .k ?_
 refine .t (VB (false)) (e_pick (t := false) (ev_t rfl) rfl) ?_
 refine .m rfl ?_
 iterate 6 refine .k ?_
 refine .t (VB (false)) (e_pick (t := false) (ev_t rfl) rfl) ?_
 refine .a rfl ?_
 refine .nil ?_
 refine CdOK.ret ?_
 refine ⟨.inr rfl, _, rfl, h, _, _, rfl, rfl, hC, ((renFlV rfl) : RenV _ _ _ _ (VB (false))), ?_⟩
 cases hm.ret; exact ⟨rfl, rfl⟩
end Rv
