import Derived.Test.YtnlpkgamglhnbaaRvTrx
set_option linter.unusedVariables false
set_option linter.unusedSimpArgs false
namespace Rv
open Go Go.RowKit Go.Proofs
theorem bl108 : bldf Try.prog 108 [(0, 1), (1, 1), (2, 1), (3, 1), (4, 1), (5, 1)] = true := by decide +kernel
theorem pl65 : plainFn Try.prog 65 = true := by decide +kernel
theorem pl93 : plainFn Try.prog 93 = true := by decide +kernel
theorem pl136 : plainFn Try.prog 136 = true := by decide +kernel
theorem pl138 : plainFn Try.prog 138 = true := by decide +kernel
theorem pl139 : plainFn Try.prog 139 = true := by decide +kernel
theorem pl144 : plainFn Try.prog 144 = true := by decide +kernel
theorem pl146 : plainFn Try.prog 146 = true := by decide +kernel
theorem pl151 : plainFn Try.prog 151 = true := by decide +kernel
theorem pl191 : plainFn Try.prog 191 = true := by decide +kernel
theorem pl192 : plainFn Try.prog 192 = true := by decide +kernel
theorem ty92 : TyF Try.prog 92 false 1 := .of (by decide +kernel)
def transactions_placeF (i_ : Int) (a1 : (List Tx)) (a2 : Int) : Option Bool := (if (0 : Int) ≤ i_ ∧ i_ < (a1.length : Int) then some (decide (a2 ≤ ((gd a1 i_).id_))) else none)
theorem transactions_placeF_ok {h : Heap} {i_ : Int} {a1 : (List Tx)} {a2 : Int} {b_a1 : Nat} (hb_a1 : h[b_a1]? = some ⟨[.L 6 (a1.map Tx.cs)], true, true⟩) {b_a2 : Nat} (hb_a2 : h[b_a2]? = some ⟨[I (a2)], true, true⟩)  {r : Bool} (hm : transactions_placeF i_ a1 a2 = some r) : FnOK Try.prog 192 [VI (i_), .o (.c (.ptr b_a1 0)), .o (.c (.ptr b_a2 0))] h (fun v h' => v = VB (r) ∧ h' = h) := by
 refine FnOK.fin ?_
 refine FnOK.bodyC (N := 12) Try.func192 rfl rfl rfl (fun hC => ?_)
 have hl_a1 := lt_of_get hb_a1
 have hl_a2 := lt_of_get hb_a2
 replace hm := Ev.of hm
 rw [transactions_placeF.eq_1] at hm
 show CdOK _ _ _ (look _ [(0, VI (i_)), (1, .o (.c (.ptr b_a1 0))), (2, .o (.c (.ptr b_a2 0)))]) (h ++ ([] : Heap)) _
 refine .seq (.region (.t (VB (false)) (e_as rfl) ?_))
 refine .nil (CdOK.seq ?_)
 refine .draw fol (by decide +kernel) ?_
 refine .t _ (e_ldb1 (ev_t rfl) ty92 (pb hb_a1) rfl) ?_
 refine .m rfl ?_
 obtain ⟨c1, hm⟩ := hm.ifs
 refine .t (.o (.c (.rp [I ((gd a1 i_).id_), I ((gd a1 i_).state), I ((gd a1 i_).last), I ((gd a1 i_).until_), .L 1 (((gd a1 i_).pending).map cI), .L 1 (((gd a1 i_).saves).map cI)]))) (e_ixM (f := Tx.cs) (l := a1) (i := i_) (ev_t rfl) (ev_t rfl) el92 c1) ?_
 refine .t _ (e_faR fa108_0 (ev_t rfl) rfl) ?_
 refine .t _ (e_ldR1 (ev_t rfl) ty3 rfl) ?_
 refine .t _ (e_ldb1 (ev_t rfl) ty3 (pb hb_a2) rfl) ?_
 refine .t (VB (decide (a2 ≤ ((gd a1 i_).id_)))) (e_bin (ev_t rfl) (ev_t rfl) rfl rfl) ?_
 refine .a rfl ?_
 refine .nil ?_
 refine CdOK.ret ?_
 refine ⟨.inr rfl, _, rfl, h, _, _, rfl, rfl, hC, ((renFlV rfl) : RenV _ _ _ _ (VB (decide (a2 ≤ ((gd a1 i_).id_))))), ?_⟩
 cases hm.ret; exact ⟨rfl, rfl⟩
def sort_SearchP.l1 (f_0 : (List Tx)) (f_1 : Int) : Nat → Int → Int → Option Int
  | 0, _, _ => none
  | kk4 + 1, i2, j3 => (if i2 < j3 then ((transactions_placeF (w64 (Int.fdiv (IntKind.u64.wrap (w64 (i2 + j3))) (2 ^ (min (Int.toNat 1) (IntKind.bits .u64))))) f_0 f_1).bind fun (x6 : Bool) => (if (!x6) = true then sort_SearchP.l1 f_0 f_1 kk4 (w64 ((w64 (Int.fdiv (IntKind.u64.wrap (w64 (i2 + j3))) (2 ^ (min (Int.toNat 1) (IntKind.bits .u64))))) + 1)) j3 else sort_SearchP.l1 f_0 f_1 kk4 i2 (w64 (Int.fdiv (IntKind.u64.wrap (w64 (i2 + j3))) (2 ^ (min (Int.toNat 1) (IntKind.bits .u64))))))) else some i2)
def sort_SearchP (n_ : Int) (f_0 : (List Tx)) (f_1 : Int) : Option Int := ((sort_SearchP.l1 f_0 f_1 FU 0 n_).bind fun (s10 : Int) => some s10)
theorem sort_SearchP_ok {h : Heap} {n_ : Int} {f_0 : (List Tx)} {f_1 : Int} {b_f_0 : Nat} (hb_f_0 : h[b_f_0]? = some ⟨[.L 6 (f_0.map Tx.cs)], true, true⟩) {b_f_1 : Nat} (hb_f_1 : h[b_f_1]? = some ⟨[I (f_1)], true, true⟩)  {r : Int} (hm : sort_SearchP n_ f_0 f_1 = some r) : FnOK Try.prog 191 [VI (n_), .o (.c (.fn 192 [(b_f_0, 0), (b_f_1, 0)]))] h (fun v h' => v = VI (r) ∧ h' = h) := by
 refine FnOK.fin ?_
 refine FnOK.bodyC (N := 26) Try.func191 rfl rfl rfl (fun hC => ?_)
 have hl_f_0 := lt_of_get hb_f_0
 have hl_f_1 := lt_of_get hb_f_1
 replace hm := Ev.of hm
 rw [sort_SearchP.eq_1] at hm
 show CdOK _ _ _ (look _ [(0, VI (n_)), (1, .o (.c (.fn 192 [(b_f_0, 0), (b_f_1, 0)])))]) (h ++ ([] : Heap)) _
 refine .seq (.region (.t (VI (0)) (e_as rfl) ?_))
 refine .nil (CdOK.seq (.region (.m rfl ?_)))
 refine .t (VI (0)) (e_as rfl) ?_
 refine .a rfl ?_
 refine .nil ?_
 replace hm := hm.bnd
 refine CdOK.joinE (σ := Int) (fun s => s) hm (fun s => [(5, VI (s))]) (fun s => h ++ ([] : Heap)) ?_ ?_
 ·intro hm
  refine .block ?_
  refine .loopE (σ := (Int × Int)) (fun k s => Ev (sort_SearchP.l1 f_0 f_1 k s.1 s.2) _) (fun s => [(1, .o (.c (.fn 192 [(b_f_0, 0), (b_f_1, 0)]))), (5, VI (s.1)), (6, VI (s.2))]) (fun s => h ++ ([] : Heap)) FU (0, n_) hm (.cons rfl (.cons rfl (.cons rfl .nil))) rfl ?_
  rintro kk4 ⟨i2, j3⟩ T0 hm
  replace hm : Ev (sort_SearchP.l1 f_0 f_1 kk4 i2 j3) _ := hm
  cases kk4 with
  | zero => exact (Ev.non hm).elim
  | succ kk4 =>
  rw [sort_SearchP.l1.eq_2] at hm
  show CdOK _ _ _ (look T0 [(1, .o (.c (.fn 192 [(b_f_0, 0), (b_f_1, 0)]))), (5, VI (i2)), (6, VI (j3))]) (h ++ ([] : Heap)) _
  iterate 2 refine .seq ?_
  refine .region ?_
  iterate 2 refine .m rfl ?_
  refine .t (VB (decide (i2 < j3))) (e_bin (ev_t rfl) (ev_t rfl) rfl rfl) ?_
  refine .nil ?_
  refine CdOK.condD (ev_t rfl) ?_ ?_
  ·intro c5; replace hm := hm.ifp c5
   refine .skip ?_
   refine CdOK.block ?_
   refine .seq (.region ?_)
   iterate 2 refine .m rfl ?_
   refine .t (VI ((w64 (i2 + j3)))) (e_bin (ev_t rfl) (ev_t rfl) rfl rfl) ?_
   refine .t (.o (.c (.v (.int .u64 ((IntKind.u64.wrap (w64 (i2 + j3)))))))) (e_cvw cv3_175 (ev_t rfl)) ?_
   refine .t (.o (.c (.v (.int .u64 ((Int.fdiv (IntKind.u64.wrap (w64 (i2 + j3))) (2 ^ (min (Int.toNat 1) (IntKind.bits .u64))))))))) (e_bin (ev_t rfl) rfl rfl rfl) ?_
   refine .t (VI ((w64 (Int.fdiv (IntKind.u64.wrap (w64 (i2 + j3))) (2 ^ (min (Int.toNat 1) (IntKind.bits .u64))))))) (e_cvw cv175_3 (ev_t rfl)) ?_
   refine .a rfl ?_
   refine .nil (CdOK.seq (.region ?_))
   iterate 2 refine .m rfl ?_
   obtain ⟨x6, e6, hm⟩ := hm.call
   refine .cl rfl rfl rfl rfl pl192 (R2.wk _) (transactions_placeF_ok  (b_a1 := b_f_0) (b_a2 := b_f_1) (pb hb_f_0) (pb hb_f_1) e6) ?_
   rintro _ _ ⟨rfl, rfl⟩
   refine .t (VB ((!x6))) (e_un (ev_t rfl) rfl) ?_
   refine .nil ?_
   refine CdOK.condB (ev_t rfl) ?_ ?_
   ·intro c7; replace hm := hm.ifp c7
    refine .region (.m rfl ?_)
    refine .t (VI ((w64 ((w64 (Int.fdiv (IntKind.u64.wrap (w64 (i2 + j3))) (2 ^ (min (Int.toNat 1) (IntKind.bits .u64))))) + 1)))) (e_bin (ev_t rfl) rfl rfl rfl) ?_
    refine .a rfl ?_
    refine .nil (.id ?_)
    exact ⟨_, ((w64 ((w64 (Int.fdiv (IntKind.u64.wrap (w64 (i2 + j3))) (2 ^ (min (Int.toNat 1) (IntKind.bits .u64))))) + 1)), j3), Nat.lt_succ_self _, hm, (.cons rfl (.cons rfl (.cons rfl .nil))), rfl⟩
   intro c8; replace hm := hm.ifn c8
   refine .region (.m rfl ?_)
   refine .a rfl ?_
   refine .nil (.id ?_)
   exact ⟨_, (i2, (w64 (Int.fdiv (IntKind.u64.wrap (w64 (i2 + j3))) (2 ^ (min (Int.toNat 1) (IntKind.bits .u64)))))), Nat.lt_succ_self _, hm, (.cons rfl (.cons rfl (.cons rfl .nil))), rfl⟩
  intro c9; replace hm := hm.ifn c9
  refine .exit ?_
  refine .id ?_
  exact ⟨i2, hm.ret, (.cons rfl .nil), rfl⟩
 rintro i1 T0 hm
 show CdOK _ _ _ (look T0 [(5, VI (i1))]) (h ++ ([] : Heap)) _
 refine .seq (.region (.m rfl ?_))
 refine .a rfl ?_
 refine .nil ?_
 refine CdOK.ret ?_
 refine ⟨.inr rfl, _, rfl, h, _, _, rfl, rfl, hC, ((renFlV rfl) : RenV _ _ _ _ (VI (i1))), ?_⟩
 cases hm.ret; exact ⟨rfl, rfl⟩
def transactions_place (l_ : (List Tx)) (id_ : Int) : Option Int := ((sort_SearchP (l_.length : Int) l_ id_).bind fun (x1 : Int) => some x1)
theorem transactions_place_ok {h : Heap} {l_ : (List Tx)} {id_ : Int}   {r : Int} (hm : transactions_place l_ id_ = some r) : FnOK Try.prog 146 [.o (.c (.L 6 (l_.map Tx.cs))), VI (id_)] h (fun v h' => v = VI (r) ∧ h' = h) := by
 refine FnOK.fin ?_
 refine FnOK.bodyC (N := 9) Try.func146 rfl rfl rfl (fun hC => ?_)
 replace hm := Ev.of hm
 rw [transactions_place.eq_1] at hm
 show CdOK _ _ _ (look _ [(0, .o (.c (.L 6 (l_.map Tx.cs)))), (1, VI (id_))]) (h ++ ([] : Heap)) _
 refine .seq (.region (.t (.o (.c (.ptr (h.length + 0) 0))) (e_boxN (L' := [⟨[.L 6 (l_.map Tx.cs)], true, true⟩]) rfl (ev_t rfl) rfl rfl) ?_))
 refine .t (.o (.c (.ptr (h.length + 1) 0))) (e_boxN (L' := [⟨[.L 6 (l_.map Tx.cs)], true, true⟩, ⟨[I (id_)], true, true⟩]) rfl (ev_t rfl) rfl rfl) ?_
 refine .t (VI (0)) (e_as rfl) ?_
 refine .nil (CdOK.seq (.region (.t _ (e_ldb1 (ev_t rfl) ty92 (bx rfl rfl) rfl) ?_)))
 refine .t (VI ((l_.length : Int))) (e_lenM (ev_t rfl) is92) ?_
 refine .t (.o (.c (.fn 192 [((h.length + 0), 0), ((h.length + 1), 0)]))) (e_mkf rfl rfl) ?_
 obtain ⟨x1, e1, hm⟩ := hm.call
 refine .cl rfl rfl rfl rfl pl191 (R2.wk _) (sort_SearchP_ok  (b_f_0 := (h.length + 0)) (b_f_1 := (h.length + 1)) (bx rfl rfl) (bx rfl rfl) e1) ?_
 rintro _ _ ⟨rfl, rfl⟩
 refine .a rfl ?_
 refine .nil ?_
 refine CdOK.ret ?_
 refine ⟨.inr rfl, _, rfl, h, _, _, rfl, rfl, hC, ((renFlV rfl) : RenV _ _ _ _ (VI (x1))), ?_⟩
 cases hm.ret; exact ⟨rfl, rfl⟩
def transactions_Begin (l_ : (List Tx)) (id_ : Int) : Option ((List Tx) × Int) := ((transactions_Valid l_).bind fun (x1 : Bool) => (if (!x1) = true then some (([] : List Tx), 15) else (if id_ < 1 then some (([] : List Tx), 1) else (if 1073741824 < id_ then some (([] : List Tx), 1) else ((transactions_Find l_ id_).bind fun (x8 : Int) => (if 0 ≤ x8 then some (([] : List Tx), 25) else (if (l_.length : Int) = 64 then some (([] : List Tx), 21) else (if l_.length ≤ 1759218604441 then ((transactions_place l_ id_).bind fun (x15 : Int) => (if ((0 : Int) ≤ x15 ∧ x15 ≤ (l_.length : Int)) ∧ l_.length ≤ 1000000 then some ((insL l_ (Int.toNat x15) (⟨id_, 1, 0, 0, ([] : List Int), ([] : List Int)⟩ : Tx)), 0) else none)) else none))))))))
theorem transactions_Begin_ok {h : Heap} {l_ : (List Tx)} {id_ : Int}   {r : ((List Tx) × Int)} (hm : transactions_Begin l_ id_ = some r) : FnOK Try.prog 71 [.o (.c (.L 6 (l_.map Tx.cs))), VI (id_)] h (fun v h' => v = .tup [.c (.L 6 (r.1.map Tx.cs)), .c (I (r.2))] ∧ h' = h) := by
 refine FnOK.fin ?_
 refine FnOK.bodyC (N := 35) Try.func71 rfl rfl rfl (fun hC => ?_)
 replace hm := Ev.of hm
 rw [transactions_Begin.eq_1] at hm
 show CdOK _ _ _ (look _ [(0, .o (.c (.L 6 (l_.map Tx.cs)))), (1, VI (id_))]) (h ++ ([] : Heap)) _
 refine .seq (.region (.t (.o (.c (.v (.slice none 0 0)))) (e_as rfl) ?_))
 refine .t (VI (0)) (e_as rfl) ?_
 refine .nil (CdOK.seq ?_)
 refine .block ?_
 refine .seq (.region (.m rfl ?_))
 obtain ⟨x1, e1, hm⟩ := hm.call
 refine .cl rfl rfl rfl rfl pl65 (R2.wk _) (transactions_Valid_ok    e1) ?_
 rintro _ _ ⟨rfl, rfl⟩
 refine .t (VB ((!x1))) (e_un (ev_t rfl) rfl) ?_
 refine .a rfl ?_
 refine .nil ?_
 refine CdOK.condB (ev_t rfl) ?_ ?_
 ·intro c2; replace hm := hm.ifp c2
  refine .seq (.region (.t (.o (.c (.v (.slice none 0 0)))) (e_as rfl) ?_))
  refine .t (VI (15)) (e_as rfl) ?_
  refine .nil ?_
  refine CdOK.ret ?_
  refine ⟨.inr rfl, _, rfl, h, _, _, rfl, rfl, hC, ((.tup (R2.of (.c (.wk (.fl _ rfl) (.nlL _))) (R2.of (.c (.fl _ rfl)) (R2.nil _)))) : RenV _ _ _ _ (.tup [.c (.L 6 (([] : List Tx).map Tx.cs)), .c (I (15))])), ?_⟩
  cases hm.ret; exact ⟨rfl, rfl⟩
 intro c3; replace hm := hm.ifn c3
 refine .seq (.region (.m rfl ?_))
 refine .sd rfl rfl rfl (e_bin (ev_t rfl) rfl rfl rfl) ?_ ?_
 ·intro c4; replace hm := hm.ifp c4
  refine .m rfl ?_
  iterate 2 refine .k ?_
  refine .t (VB (true)) (e_pick (t := true) (ev_t rfl) rfl) ?_
  refine .a rfl ?_
  refine .nil ?_
  refine CdOK.cond_true rfl ?_
  refine .seq (.region (.t (.o (.c (.v (.slice none 0 0)))) (e_as rfl) ?_))
  refine .t (VI (1)) (e_as rfl) ?_
  refine .nil ?_
  refine CdOK.ret ?_
  refine ⟨.inr rfl, _, rfl, h, _, _, rfl, rfl, hC, ((.tup (R2.of (.c (.wk (.fl _ rfl) (.nlL _))) (R2.of (.c (.fl _ rfl)) (R2.nil _)))) : RenV _ _ _ _ (.tup [.c (.L 6 (([] : List Tx).map Tx.cs)), .c (I (1))])), ?_⟩
  cases hm.ret; exact ⟨rfl, rfl⟩
 intro c5; replace hm := hm.ifn c5
 iterate 2 refine .m rfl ?_
 refine .t (VB (decide (1073741824 < id_))) (e_bin (ev_t rfl) rfl rfl rfl) ?_
 refine .t (VB (decide (1073741824 < id_))) (e_pick (t := false) (ev_t rfl) (ev_t rfl)) ?_
 refine .a rfl ?_
 refine .nil ?_
 refine CdOK.condD (ev_t rfl) ?_ ?_
 ·intro c6; replace hm := hm.ifp c6
  refine .seq (.region (.t (.o (.c (.v (.slice none 0 0)))) (e_as rfl) ?_))
  refine .t (VI (1)) (e_as rfl) ?_
  refine .nil ?_
  refine CdOK.ret ?_
  refine ⟨.inr rfl, _, rfl, h, _, _, rfl, rfl, hC, ((.tup (R2.of (.c (.wk (.fl _ rfl) (.nlL _))) (R2.of (.c (.fl _ rfl)) (R2.nil _)))) : RenV _ _ _ _ (.tup [.c (.L 6 (([] : List Tx).map Tx.cs)), .c (I (1))])), ?_⟩
  cases hm.ret; exact ⟨rfl, rfl⟩
 intro c7; replace hm := hm.ifn c7
 refine .seq (.region ?_)
 iterate 2 refine .m rfl ?_
 obtain ⟨x8, e8, hm⟩ := hm.call
 refine .cl rfl rfl rfl rfl pl73 (R2.wk _) (transactions_Find_ok    e8) ?_
 rintro _ _ ⟨rfl, rfl⟩
 refine .t (VB (decide (0 ≤ x8))) (e_bin (ev_t rfl) rfl rfl rfl) ?_
 refine .a rfl ?_
 refine .nil ?_
 refine CdOK.condD (ev_t rfl) ?_ ?_
 ·intro c9; replace hm := hm.ifp c9
  refine .seq (.region (.t (.o (.c (.v (.slice none 0 0)))) (e_as rfl) ?_))
  refine .t (VI (25)) (e_as rfl) ?_
  refine .nil ?_
  refine CdOK.ret ?_
  refine ⟨.inr rfl, _, rfl, h, _, _, rfl, rfl, hC, ((.tup (R2.of (.c (.wk (.fl _ rfl) (.nlL _))) (R2.of (.c (.fl _ rfl)) (R2.nil _)))) : RenV _ _ _ _ (.tup [.c (.L 6 (([] : List Tx).map Tx.cs)), .c (I (25))])), ?_⟩
  cases hm.ret; exact ⟨rfl, rfl⟩
 intro c10; replace hm := hm.ifn c10
 refine .seq (.region (.m rfl ?_))
 refine .t (VI ((l_.length : Int))) (e_lenM (ev_t rfl) is92) ?_
 refine .t (VB (decide ((l_.length : Int) = 64))) (e_eqK (ev_t rfl) rfl) ?_
 refine .a rfl ?_
 refine .nil ?_
 refine CdOK.condD (ev_t rfl) ?_ ?_
 ·intro c11; replace hm := hm.ifp c11
  refine .seq (.region (.t (.o (.c (.v (.slice none 0 0)))) (e_as rfl) ?_))
  refine .t (VI (21)) (e_as rfl) ?_
  refine .nil ?_
  refine CdOK.ret ?_
  refine ⟨.inr rfl, _, rfl, h, _, _, rfl, rfl, hC, ((.tup (R2.of (.c (.wk (.fl _ rfl) (.nlL _))) (R2.of (.c (.fl _ rfl)) (R2.nil _)))) : RenV _ _ _ _ (.tup [.c (.L 6 (([] : List Tx).map Tx.cs)), .c (I (21))])), ?_⟩
  cases hm.ret; exact ⟨rfl, rfl⟩
 intro c12; replace hm := hm.ifn c12
 refine .skip ?_
 refine CdOK.seq (.region (.m rfl ?_))
 obtain ⟨c14, hm⟩ := hm.ifs
 refine .cl rfl rfl rfl rfl pl145 (R2.wk _) (cloneT_ok (A := (h.length + 0)) (l := l_) (lenN rfl rfl) c14) ?_
 rintro _ _ ⟨lv13, rfl, rfl⟩
 rw [show (h ++ ([] : Heap)) ++ [⟨(l_.map Tx.cs).flatten, true, lv13⟩] = h ++ ([⟨(l_.map Tx.cs).flatten, true, lv13⟩] : Heap) from apnd rfl]
 iterate 2 refine .m rfl ?_
 obtain ⟨x15, e15, hm⟩ := hm.call
 refine .cl rfl rfl rfl rfl pl146 (R2.wk _) (transactions_place_ok    e15) ?_
 rintro _ _ ⟨rfl, rfl⟩
 refine .m rfl ?_
 refine .sW (v' := .o (.agg [I (id_), I (1), I (0), I (0), .L 1 (([] : List Int).map cI), .L 1 (([] : List Int).map cI)])) rfl rfl rfl (e_bld (cs := [I (id_), I (1), I (0), I (0), .v (.slice none 0 0), .v (.slice none 0 0)]) zo108 bl108 rfl rfl) (.agg (R2.cons (.refl _) (R2.cons (.refl _) (R2.cons (.refl _) (R2.cons (.refl _) (R2.cons (.nlL _) (R2.cons (.nlL _) (R2.nil _)))))))) ?_
 refine .t (.o (.c (.LC 6 (([(⟨id_, 1, 0, 0, ([] : List Int), ([] : List Int)⟩ : Tx)] : List Tx).map Tx.cs)))) (e_litF (xs := [[I (id_), I (1), I (0), I (0), .L 1 (([] : List Int).map cI), .L 1 (([] : List Int).map cI)]]) (ys := ([(⟨id_, 1, 0, 0, ([] : List Int), ([] : List Int)⟩ : Tx)]).map Tx.cs) slt92 nl92 rfl rfl rfl rfl rfl rfl) ?_
 obtain ⟨c16, hm⟩ := hm.ifs
 refine .cl rfl rfl rfl rfl pl144 (R2.wk _) (insT_ok (A := (h.length + 1)) (l := l_) (x := (⟨id_, 1, 0, 0, ([] : List Int), ([] : List Int)⟩ : Tx)) (lenN rfl rfl) (bx rfl rfl) c16.1 c16.2) ?_
 rintro _ _ ⟨rfl, rfl⟩
 rw [show kill (h ++ ([⟨(l_.map Tx.cs).flatten, true, lv13⟩] : Heap)) (h.length + 0) ++ [⟨((insL l_ (Int.toNat x15) (⟨id_, 1, 0, 0, ([] : List Int), ([] : List Int)⟩ : Tx)).map Tx.cs).flatten, true, true⟩] = h ++ ([⟨(l_.map Tx.cs).flatten, true, false⟩, ⟨((insL l_ (Int.toNat x15) (⟨id_, 1, 0, 0, ([] : List Int), ([] : List Int)⟩ : Tx)).map Tx.cs).flatten, true, true⟩] : Heap) from apndK rfl rfl]
 refine .a rfl ?_
 refine .t (VI (0)) (e_as rfl) ?_
 refine .nil ?_
 refine CdOK.ret ?_
 refine ⟨.inr rfl, _, rfl, h, _, _, rfl, rfl, hC, ((.tup (R2.of (.c (.fzg 1 _ 6 _ ((insL l_ (Int.toNat x15) (⟨id_, 1, 0, 0, ([] : List Int), ([] : List Int)⟩ : Tx)).map Tx.cs) rfl (by decide) (by first | exact List.length_map .. | simp) (lens_all (by intro x; rfl)) (vl_all (by intro x; rfl)))) (R2.of (.c (.fl _ rfl)) (R2.nil _)))) : RenV _ _ _ _ (.tup [.c (.L 6 ((insL l_ (Int.toNat x15) (⟨id_, 1, 0, 0, ([] : List Int), ([] : List Int)⟩ : Tx)).map Tx.cs)), .c (I (0))])), ?_⟩
 cases hm.ret; exact ⟨rfl, rfl⟩
def transactions_active (l_ : (List Tx)) (id_ : Int) : Option (Tx × Int) := ((transactions_Valid l_).bind fun (x1 : Bool) => (if (!x1) = true then some ((⟨0, 0, 0, 0, ([] : List Int), ([] : List Int)⟩ : Tx), 15) else ((transactions_Find l_ id_).bind fun (x4 : Int) => (if x4 < 0 then some ((⟨0, 0, 0, 0, ([] : List Int), ([] : List Int)⟩ : Tx), 16) else (if (0 : Int) ≤ x4 ∧ x4 < (l_.length : Int) then (if ((gd l_ x4).state) ≠ 1 then some ((⟨0, 0, 0, 0, ([] : List Int), ([] : List Int)⟩ : Tx), 15) else (if (0 : Int) ≤ x4 ∧ x4 < (l_.length : Int) then some ((gd l_ x4), 0) else none)) else none)))))
theorem transactions_active_ok {h : Heap} {l_ : (List Tx)} {id_ : Int}   {r : (Tx × Int)} (hm : transactions_active l_ id_ = some r) : FnOK Try.prog 151 [.o (.c (.L 6 (l_.map Tx.cs))), VI (id_)] h (fun v h' => v = .tup [.agg [I (r.1.id_), I (r.1.state), I (r.1.last), I (r.1.until_), .L 1 (r.1.pending.map cI), .L 1 (r.1.saves.map cI)], .c (I (r.2))] ∧ h' = h) := by
 refine FnOK.fin ?_
 refine FnOK.bodyC (N := 30) Try.func151 rfl rfl rfl (fun hC => ?_)
 replace hm := Ev.of hm
 rw [transactions_active.eq_1] at hm
 show CdOK _ _ _ (look _ [(0, .o (.c (.L 6 (l_.map Tx.cs)))), (1, VI (id_))]) (h ++ ([] : Heap)) _
 refine .seq (.region (.t (.o (.c (.ptr (h.length + 0) 0))) (e_allocN (L' := [⟨[I (0), I (0), I (0), I (0), .v (.slice none 0 0), .v (.slice none 0 0)], true, true⟩]) rfl zo108 rfl rfl) ?_))
 refine .t (VI (0)) (e_as rfl) ?_
 refine .nil (CdOK.seq (.seq (.region (.m rfl ?_))))
 obtain ⟨x1, e1, hm⟩ := hm.call
 refine .cl rfl rfl rfl rfl pl65 (R2.wk _) (transactions_Valid_ok    e1) ?_
 rintro _ _ ⟨rfl, rfl⟩
 refine .t (VB ((!x1))) (e_un (ev_t rfl) rfl) ?_
 refine .nil ?_
 refine CdOK.condB (ev_t rfl) ?_ ?_
 ·intro c2; replace hm := hm.ifp c2
  refine .seq (.region (.t (.o (.agg [I (0), I (0), I (0), I (0), .v (.slice none 0 0), .v (.slice none 0 0)])) (e_bld (cs := [I (0), I (0), I (0), I (0), .v (.slice none 0 0), .v (.slice none 0 0)]) zo108 bl108 rfl rfl) ?_))
  refine .s0 rfl rfl (e_stN (L' := [⟨[I (0), I (0), I (0), I (0), .v (.slice none 0 0), .v (.slice none 0 0)], true, true⟩]) rfl (ev_t rfl) (ev_t rfl) ty108 rfl rfl rfl rfl rfl) ?_
  refine .t (VI (15)) (e_as rfl) ?_
  refine .nil ?_
  refine CdOK.ret ?_
  refine ⟨.inr rfl, _, (resA_c (look_find rfl) (eLoad_A ty108 (bx rfl rfl) rfl rfl rfl) (resA_t (look_find rfl) resA_n)), h, _, _, rfl, rfl, hC, ((.tup (R2.of (.agg (R2.of (.fl _ rfl) (R2.of (.fl _ rfl) (R2.of (.fl _ rfl) (R2.of (.fl _ rfl) (R2.of (.wk (.fl _ rfl) (.nlL _)) (R2.of (.wk (.fl _ rfl) (.nlL _)) (R2.nil _)))))))) (R2.of (.c (.fl _ rfl)) (R2.nil _)))) : RenV _ _ _ _ (.tup [.agg [I (0), I (0), I (0), I (0), .L 1 (([] : List Int).map cI), .L 1 (([] : List Int).map cI)], .c (I (15))])), ?_⟩
  cases hm.ret; exact ⟨rfl, rfl⟩
 intro c3; replace hm := hm.ifn c3
 refine .skip ?_
 refine CdOK.seq (.region ?_)
 iterate 2 refine .m rfl ?_
 obtain ⟨x4, e4, hm⟩ := hm.call
 refine .cl rfl rfl rfl rfl pl73 (R2.wk _) (transactions_Find_ok    e4) ?_
 rintro _ _ ⟨rfl, rfl⟩
 refine .a rfl ?_
 refine .nil (CdOK.seq ?_)
 refine .block ?_
 refine .seq (.region (.m rfl ?_))
 refine .t (VB (decide (x4 < 0))) (e_bin (ev_t rfl) rfl rfl rfl) ?_
 refine .a rfl ?_
 refine .nil ?_
 refine CdOK.condD (ev_t rfl) ?_ ?_
 ·intro c5; replace hm := hm.ifp c5
  refine .seq (.region (.t (.o (.agg [I (0), I (0), I (0), I (0), .v (.slice none 0 0), .v (.slice none 0 0)])) (e_bld (cs := [I (0), I (0), I (0), I (0), .v (.slice none 0 0), .v (.slice none 0 0)]) zo108 bl108 rfl rfl) ?_))
  refine .s0 rfl rfl (e_stN (L' := [⟨[I (0), I (0), I (0), I (0), .v (.slice none 0 0), .v (.slice none 0 0)], true, true⟩]) rfl (ev_t rfl) (ev_t rfl) ty108 rfl rfl rfl rfl rfl) ?_
  refine .t (VI (16)) (e_as rfl) ?_
  refine .nil ?_
  refine CdOK.ret ?_
  refine ⟨.inr rfl, _, (resA_c (look_find rfl) (eLoad_A ty108 (bx rfl rfl) rfl rfl rfl) (resA_t (look_find rfl) resA_n)), h, _, _, rfl, rfl, hC, ((.tup (R2.of (.agg (R2.of (.fl _ rfl) (R2.of (.fl _ rfl) (R2.of (.fl _ rfl) (R2.of (.fl _ rfl) (R2.of (.wk (.fl _ rfl) (.nlL _)) (R2.of (.wk (.fl _ rfl) (.nlL _)) (R2.nil _)))))))) (R2.of (.c (.fl _ rfl)) (R2.nil _)))) : RenV _ _ _ _ (.tup [.agg [I (0), I (0), I (0), I (0), .L 1 (([] : List Int).map cI), .L 1 (([] : List Int).map cI)], .c (I (16))])), ?_⟩
  cases hm.ret; exact ⟨rfl, rfl⟩
 intro c6; replace hm := hm.ifn c6
 refine .seq (.region ?_)
 iterate 2 refine .m rfl ?_
 obtain ⟨c7, hm⟩ := hm.ifs
 refine .t (.o (.c (.rp [I ((gd l_ x4).id_), I ((gd l_ x4).state), I ((gd l_ x4).last), I ((gd l_ x4).until_), .L 1 (((gd l_ x4).pending).map cI), .L 1 (((gd l_ x4).saves).map cI)]))) (e_ixM (f := Tx.cs) (l := l_) (i := x4) (ev_t rfl) (ev_t rfl) el92 c7) ?_
 refine .t _ (e_faR fa108_1 (ev_t rfl) rfl) ?_
 refine .t _ (e_ldR1 (ev_t rfl) ty3 rfl) ?_
 refine .t (VB (decide (((gd l_ x4).state) ≠ 1))) (e_neK (ev_t rfl) rfl) ?_
 refine .a rfl ?_
 refine .nil ?_
 refine CdOK.condD (ev_t rfl) ?_ ?_
 ·intro c8; replace hm := hm.ifp c8
  refine .seq (.region (.t (.o (.agg [I (0), I (0), I (0), I (0), .v (.slice none 0 0), .v (.slice none 0 0)])) (e_bld (cs := [I (0), I (0), I (0), I (0), .v (.slice none 0 0), .v (.slice none 0 0)]) zo108 bl108 rfl rfl) ?_))
  refine .s0 rfl rfl (e_stN (L' := [⟨[I (0), I (0), I (0), I (0), .v (.slice none 0 0), .v (.slice none 0 0)], true, true⟩]) rfl (ev_t rfl) (ev_t rfl) ty108 rfl rfl rfl rfl rfl) ?_
  refine .t (VI (15)) (e_as rfl) ?_
  refine .nil ?_
  refine CdOK.ret ?_
  refine ⟨.inr rfl, _, (resA_c (look_find rfl) (eLoad_A ty108 (bx rfl rfl) rfl rfl rfl) (resA_t (look_find rfl) resA_n)), h, _, _, rfl, rfl, hC, ((.tup (R2.of (.agg (R2.of (.fl _ rfl) (R2.of (.fl _ rfl) (R2.of (.fl _ rfl) (R2.of (.fl _ rfl) (R2.of (.wk (.fl _ rfl) (.nlL _)) (R2.of (.wk (.fl _ rfl) (.nlL _)) (R2.nil _)))))))) (R2.of (.c (.fl _ rfl)) (R2.nil _)))) : RenV _ _ _ _ (.tup [.agg [I (0), I (0), I (0), I (0), .L 1 (([] : List Int).map cI), .L 1 (([] : List Int).map cI)], .c (I (15))])), ?_⟩
  cases hm.ret; exact ⟨rfl, rfl⟩
 intro c9; replace hm := hm.ifn c9
 refine .skip ?_
 refine CdOK.seq (.region ?_)
 iterate 2 refine .m rfl ?_
 obtain ⟨c10, hm⟩ := hm.ifs
 refine .t (.o (.c (.rp [I ((gd l_ x4).id_), I ((gd l_ x4).state), I ((gd l_ x4).last), I ((gd l_ x4).until_), .L 1 (((gd l_ x4).pending).map cI), .L 1 (((gd l_ x4).saves).map cI)]))) (e_ixM (f := Tx.cs) (l := l_) (i := x4) (ev_t rfl) (ev_t rfl) el92 c10) ?_
 refine .t _ (e_ldRA (ev_t rfl) ty108 rfl rfl) ?_
 refine .s0 rfl rfl (e_stN (L' := [⟨[I ((gd l_ x4).id_), I ((gd l_ x4).state), I ((gd l_ x4).last), I ((gd l_ x4).until_), .L 1 (((gd l_ x4).pending).map cI), .L 1 (((gd l_ x4).saves).map cI)], true, true⟩]) rfl (ev_t rfl) (ev_t rfl) ty108 rfl rfl rfl rfl rfl) ?_
 refine .t (VI (0)) (e_as rfl) ?_
 refine .nil ?_
 refine CdOK.ret ?_
 refine ⟨.inr rfl, _, (resA_c (look_find rfl) (eLoad_A ty108 (bx rfl rfl) rfl rfl rfl) (resA_t (look_find rfl) resA_n)), h, _, _, rfl, rfl, hC, ((renFlV rfl) : RenV _ _ _ _ (.tup [.agg [I ((gd l_ x4).id_), I ((gd l_ x4).state), I ((gd l_ x4).last), I ((gd l_ x4).until_), .L 1 (((gd l_ x4).pending).map cI), .L 1 (((gd l_ x4).saves).map cI)], .c (I (0))])), ?_⟩
 cases hm.ret; exact ⟨rfl, rfl⟩
def transactions_Save (l_ : (List Tx)) (id_ : Int) : Option ((List Tx) × Int) := ((transactions_active l_ id_).bind fun (x1 : (Tx × Int)) => (if x1.2 ≠ 0 then some (([] : List Tx), x1.2) else (if (x1.1.saves.length : Int) = 8 then some (([] : List Tx), 21) else ((slices_Clip x1.1.saves).bind fun (x6 : (List Int)) => (if (x6.length = 0 ∨ 0 < ([x1.1.last] : List Int).length) ∧ x6.length + ([x1.1.last] : List Int).length ≤ 17592186044416 then ((transactions_with l_ (⟨x1.1.id_, x1.1.state, x1.1.last, x1.1.until_, x1.1.pending, (x6 ++ ([x1.1.last] : List Int))⟩ : Tx)).bind fun (x8 : (List Tx)) => some (x8, 0)) else none)))))
theorem transactions_Save_ok {h : Heap} {l_ : (List Tx)} {id_ : Int}   {r : ((List Tx) × Int)} (hm : transactions_Save l_ id_ = some r) : FnOK Try.prog 77 [.o (.c (.L 6 (l_.map Tx.cs))), VI (id_)] h (fun v h' => v = .tup [.c (.L 6 (r.1.map Tx.cs)), .c (I (r.2))] ∧ h' = h) := by
 refine FnOK.fin ?_
 refine FnOK.bodyC (N := 34) Try.func77 rfl rfl rfl (fun hC => ?_)
 replace hm := Ev.of hm
 rw [transactions_Save.eq_1] at hm
 show CdOK _ _ _ (look _ [(0, .o (.c (.L 6 (l_.map Tx.cs)))), (1, VI (id_))]) (h ++ ([] : Heap)) _
 refine .seq (.region (.t (.o (.c (.v (.slice none 0 0)))) (e_as rfl) ?_))
 refine .t (VI (0)) (e_as rfl) ?_
 refine .nil (CdOK.seq (.region ?_))
 iterate 2 refine .m rfl ?_
 obtain ⟨x1, e1, hm⟩ := hm.call
 refine .cl rfl rfl rfl rfl pl151 (R2.wk _) (transactions_active_ok    e1) ?_
 rintro _ _ ⟨rfl, rfl⟩
 refine .m rfl ?_
 refine .t (.o (.agg [I (x1.1.id_), I (x1.1.state), I (x1.1.last), I (x1.1.until_), .L 1 (x1.1.pending.map cI), .L 1 (x1.1.saves.map cI)])) (e_ext (ev_t rfl) rfl) ?_
 refine .t (VI (x1.2)) (e_ext (ev_t rfl) rfl) ?_
 refine .t (.o (.c (.ptr (h.length + 0) 0))) (e_allocN (L' := [⟨[I (0), I (0), I (0), I (0), .v (.slice none 0 0), .v (.slice none 0 0)], true, true⟩]) rfl zo108 rfl rfl) ?_
 refine .s0 rfl rfl (e_stN (L' := [⟨[I (x1.1.id_), I (x1.1.state), I (x1.1.last), I (x1.1.until_), .L 1 (x1.1.pending.map cI), .L 1 (x1.1.saves.map cI)], true, true⟩]) rfl (ev_t rfl) (ev_t rfl) ty108 rfl rfl rfl rfl rfl) ?_
 refine .a rfl ?_
 refine .nil (CdOK.seq ?_)
 refine .block ?_
 refine .seq (.region (.m rfl ?_))
 refine .t (VB (decide (x1.2 ≠ 0))) (e_neK (ev_t rfl) rfl) ?_
 refine .a rfl ?_
 refine .nil ?_
 refine CdOK.condD (ev_t rfl) ?_ ?_
 ·intro c2; replace hm := hm.ifp c2
  refine .seq (.region (.m rfl ?_))
  refine .t (.o (.c (.v (.slice none 0 0)))) (e_as rfl) ?_
  refine .a rfl ?_
  refine .nil ?_
  refine CdOK.ret ?_
  refine ⟨.inr rfl, _, rfl, h, _, _, rfl, rfl, hC, ((.tup (R2.of (.c (.wk (.fl _ rfl) (.nlL _))) (R2.of (.c (.fl _ rfl)) (R2.nil _)))) : RenV _ _ _ _ (.tup [.c (.L 6 (([] : List Tx).map Tx.cs)), .c (I (x1.2))])), ?_⟩
  cases hm.ret; exact ⟨rfl, rfl⟩
 intro c3; replace hm := hm.ifn c3
 refine .seq (.region (.t _ (e_fa' fa108_5 (ev_t rfl)) ?_))
 refine .t _ (e_ldb1 (ev_t rfl) ty27 (bx rfl rfl) rfl) ?_
 refine .t (VI ((x1.1.saves.length : Int))) (e_lenM (ev_t rfl) is27) ?_
 refine .t (VB (decide ((x1.1.saves.length : Int) = 8))) (e_eqK (ev_t rfl) rfl) ?_
 refine .a rfl ?_
 refine .nil ?_
 refine CdOK.condD (ev_t rfl) ?_ ?_
 ·intro c4; replace hm := hm.ifp c4
  refine .seq (.region (.t (.o (.c (.v (.slice none 0 0)))) (e_as rfl) ?_))
  refine .t (VI (21)) (e_as rfl) ?_
  refine .nil ?_
  refine CdOK.ret ?_
  refine ⟨.inr rfl, _, rfl, h, _, _, rfl, rfl, hC, ((.tup (R2.of (.c (.wk (.fl _ rfl) (.nlL _))) (R2.of (.c (.fl _ rfl)) (R2.nil _)))) : RenV _ _ _ _ (.tup [.c (.L 6 (([] : List Tx).map Tx.cs)), .c (I (21))])), ?_⟩
  cases hm.ret; exact ⟨rfl, rfl⟩
 intro c5; replace hm := hm.ifn c5
 refine .skip ?_
 refine CdOK.seq ?_
 refine .draw2 (ord := [0, 1, 2, 3, 4, 5, 6, 7, 8]) (chain := [6, 8]) fol (by decide +kernel) (by decide +kernel) ?_
 refine .p _ (e_fa' fa108_5 (ev_t rfl)) ?_
 refine .q _ (e_ldb1 (ev_t rfl) ty27 (bx rfl rfl) rfl) ?_
 obtain ⟨x6, e6, hm⟩ := hm.call
 refine .fc (v := .o (.c (.LC 1 (x6.map cI)))) rfl rfl rfl rfl rfl rfl rfl pl136 (R2.wk _) (slices_Clip_ok    e6) ?_
 refine .p _ (e_fa' fa108_2 (ev_t rfl)) ?_
 refine .q _ (e_ldb1 (ev_t rfl) ty3 (bx rfl rfl) rfl) ?_
 refine .p (.o (.c (.LC 1 (([x1.1.last] : List Int).map cI)))) (e_lit (cs := [I (x1.1.last)]) (xs := ([x1.1.last]).map cI) slt27 nl27 rfl rfl rfl rfl rfl) ?_
 obtain ⟨c7, hm⟩ := hm.ifs
 refine .c (v := .o (.c (.g (h.length + 1) (((x6 ++ ([x1.1.last] : List Int))).length) 1 (decide (0 < ([x1.1.last] : List Int).length))))) rfl rfl rfl rfl rfl (e_apC (k := 1) (q := 17592186044416) (m := ([x1.1.last] : List Int).length) (f := cI) (xs := x6) (ys := ([x1.1.last] : List Int)) (L' := [⟨[I (x1.1.id_), I (x1.1.state), I (x1.1.last), I (x1.1.until_), .L 1 (x1.1.pending.map cI), .L 1 (x1.1.saves.map cI)], true, true⟩, ⟨((x6 ++ ([x1.1.last] : List Int)).map cI).flatten, true, (decide (0 < ([x1.1.last] : List Int).length))⟩]) slt27 rfl (ev_t rfl) (ev_t rfl) src_LC rfl c7.1 c7.2 rfl rfl rfl rfl) (.m (by decide +kernel) (.m (by decide +kernel) (.m (by decide +kernel) .nil))) ?_
 refine .p _ (e_fa' fa108_5 (ev_t rfl)) ?_
 refine .c0 rfl rfl rfl rfl (e_stN (L' := [⟨[I (x1.1.id_), I (x1.1.state), I (x1.1.last), I (x1.1.until_), .L 1 (x1.1.pending.map cI), .g (h.length + 1) (((x6 ++ ([x1.1.last] : List Int))).length) 1 (decide (0 < ([x1.1.last] : List Int).length))], true, true⟩, ⟨((x6 ++ ([x1.1.last] : List Int)).map cI).flatten, true, (decide (0 < ([x1.1.last] : List Int).length))⟩]) rfl (ev_t rfl) (ev_t rfl) ty27 rfl rfl rfl rfl rfl) (.m (by decide +kernel) (.m (by decide +kernel) (.m (by decide +kernel) .nil))) ?_
 refine .nil (CdOK.seq ?_)
 refine .re (σ := [0]) (X := [(0, .o (.c (.L 6 (l_.map Tx.cs)))), (1, VI (id_)), (4, .o (.c (.v (.slice none 0 0)))), (5, VI (0)), (6, .o (.c (.ptr (h.length + 0) 0))), (7, VI (x1.2)), (9, .o (.c (.L 6 (l_.map Tx.cs)))), (10, VI (id_)), (12, .o (.agg [I (x1.1.id_), I (x1.1.state), I (x1.1.last), I (x1.1.until_), .L 1 (x1.1.pending.map cI), .L 1 (x1.1.saves.map cI)])), (13, VI (x1.2)), (14, VB (decide (x1.2 ≠ 0))), (15, VI (x1.2)), (16, VB (decide (x1.2 ≠ 0))), (18, VB (decide ((x1.1.saves.length : Int) = 8))), (19, .o (.c (.ptr (h.length + 0) 5))), (20, .o (.c (.L 1 (x1.1.saves.map cI)))), (21, VI ((x1.1.saves.length : Int))), (22, VB (decide ((x1.1.saves.length : Int) = 8))), (23, .o (.c (.ptr (h.length + 0) 5))), (24, .o (.c (.L 1 (x1.1.saves.map cI)))), (25, .o (.c (.LC 1 (x6.map cI)))), (26, .o (.c (.ptr (h.length + 0) 2))), (27, VI (x1.1.last)), (28, .o (.c (.LC 1 (([x1.1.last] : List Int).map cI)))), (29, .o (.c (.L 1 ((x6 ++ ([x1.1.last] : List Int)).map cI)))), (30, .o (.c (.ptr (h.length + 0) 5)))]) (L' := [⟨[I (x1.1.id_), I (x1.1.state), I (x1.1.last), I (x1.1.until_), .L 1 (x1.1.pending.map cI), .L 1 ((x6 ++ ([x1.1.last] : List Int)).map cI)], true, true⟩]) rfl rfl hC (by decide) (.obj 0 rfl (R2.of (.fl _ rfl) (R2.of (.fl _ rfl) (R2.of (.fl _ rfl) (R2.of (.fl _ rfl) (R2.of (.fl _ rfl) (R2.of (.fzg 1 _ 1 _ ((x6 ++ ([x1.1.last] : List Int)).map cI) rfl (by decide) (by first | exact List.length_map .. | simp) (lens_all (by intro x; rfl)) (vl_all (by intro x; rfl))) (R2.nil _))))))) .nil) (.cons (renFlV rfl) (.cons (renFlV rfl) (.cons (.o (.c (.fl _ rfl))) (.cons (renFlV rfl) (.cons (.o (.c (.ptr 0 0 _ rfl))) (.cons (renFlV rfl) (.cons (renFlV rfl) (.cons (renFlV rfl) (.cons (renFlV rfl) (.cons (renFlV rfl) (.cons (renFlV rfl) (.cons (renFlV rfl) (.cons (renFlV rfl) (.cons (renFlV rfl) (.cons (.o (.c (.ptr 0 0 _ rfl))) (.cons (renFlV rfl) (.cons (renFlV rfl) (.cons (renFlV rfl) (.cons (.o (.c (.ptr 0 0 _ rfl))) (.cons (renFlV rfl) (.cons (.o (.c (.fl _ rfl))) (.cons (.o (.c (.ptr 0 0 _ rfl))) (.cons (renFlV rfl) (.cons (.o (.c (.fl _ rfl))) (.cons (.o (.c (.fzg 1 _ 1 _ ((x6 ++ ([x1.1.last] : List Int)).map cI) rfl (by decide) (by first | exact List.length_map .. | simp) (lens_all (by intro x; rfl)) (vl_all (by intro x; rfl))))) (.cons (.o (.c (.ptr 0 0 _ rfl))) .nil)))))))))))))))))))))))))) ?_
 refine .region (.m rfl ?_)
 refine .t _ (e_ldbA (ev_t rfl) ty108 (bx rfl rfl) rfl rfl) ?_
 obtain ⟨x8, e8, hm⟩ := hm.call
 refine .cl rfl rfl rfl rfl pl139 (R2.wk _) (transactions_with_ok    e8) ?_
 rintro _ _ ⟨rfl, rfl⟩
 refine .a rfl ?_
 refine .t (VI (0)) (e_as rfl) ?_
 refine .nil ?_
 refine CdOK.ret ?_
 refine ⟨.inr rfl, _, rfl, h, _, _, rfl, rfl, hC, ((renFlV rfl) : RenV _ _ _ _ (.tup [.c (.L 6 (x8.map Tx.cs)), .c (I (0))])), ?_⟩
 cases hm.ret; exact ⟨rfl, rfl⟩
def transactions_Back (l_ : (List Tx)) (id_ : Int) (save : Int) : Option ((List Tx) × Int) := ((transactions_active l_ id_).bind fun (x1 : (Tx × Int)) => (if x1.2 ≠ 0 then some (([] : List Tx), x1.2) else (if save < 0 then some (([] : List Tx), 19) else (if (x1.1.saves.length : Int) ≤ save then some (([] : List Tx), 19) else (if (0 : Int) ≤ (w64 (save + 1)) ∧ (w64 (save + 1)) ≤ (x1.1.saves.length : Int) then (if (x1.1.saves.take (Int.toNat (w64 (save + 1)))).length ≤ 17592186044416 then (((if 0 < (x1.1.saves.take (Int.toNat (w64 (save + 1)))).length then (if (0 : Int) ≤ save ∧ save < ((x1.1.saves.take (Int.toNat (w64 (save + 1)))).length : Int) then (if (0 : Int) ≤ save ∧ save < ((x1.1.saves.take (Int.toNat (w64 (save + 1)))).length : Int) then ((transactions_left (⟨x1.1.id_, x1.1.state, x1.1.last, x1.1.until_, x1.1.pending, (x1.1.saves.take (Int.toNat (w64 (save + 1))))⟩ : Tx) (gd (x1.1.saves.take (Int.toNat (w64 (save + 1)))) save)).bind fun (x15 : Bool) => (if x15 = true then (if (0 : Int) ≤ save ∧ save < ((x1.1.saves.take (Int.toNat (w64 (save + 1)))).length : Int) then (if (0 : Int) ≤ save ∧ save < ((x1.1.saves.take (Int.toNat (w64 (save + 1)))).length : Int) then some (⟨x1.1.id_, 2, x1.1.last, (gd (x1.1.saves.take (Int.toNat (w64 (save + 1)))) save), x1.1.pending, (x1.1.saves.take (Int.toNat (w64 (save + 1))))⟩ : Tx) else none) else none) else some (⟨x1.1.id_, x1.1.state, x1.1.last, x1.1.until_, x1.1.pending, (x1.1.saves.take (Int.toNat (w64 (save + 1))))⟩ : Tx))) else none) else none) else none)).bind fun (s20 : Tx) => ((transactions_with l_ s20).bind fun (x21 : (List Tx)) => some (x21, 0))) else none) else none)))))
theorem transactions_Back_ok {h : Heap} {l_ : (List Tx)} {id_ : Int} {save : Int}   {r : ((List Tx) × Int)} (hm : transactions_Back l_ id_ save = some r) : FnOK Try.prog 131 [.o (.c (.L 6 (l_.map Tx.cs))), VI (id_), VI (save)] h (fun v h' => v = .tup [.c (.L 6 (r.1.map Tx.cs)), .c (I (r.2))] ∧ h' = h) := by
 refine FnOK.fin ?_
 refine FnOK.bodyC (N := 54) Try.func131 rfl rfl rfl (fun hC => ?_)
 replace hm := Ev.of hm
 rw [transactions_Back.eq_1] at hm
 show CdOK _ _ _ (look _ [(0, .o (.c (.L 6 (l_.map Tx.cs)))), (1, VI (id_)), (2, VI (save))]) (h ++ ([] : Heap)) _
 refine .seq (.region (.t (.o (.c (.v (.slice none 0 0)))) (e_as rfl) ?_))
 refine .t (VI (0)) (e_as rfl) ?_
 refine .nil (CdOK.seq (.region ?_))
 iterate 2 refine .m rfl ?_
 obtain ⟨x1, e1, hm⟩ := hm.call
 refine .cl rfl rfl rfl rfl pl151 (R2.wk _) (transactions_active_ok    e1) ?_
 rintro _ _ ⟨rfl, rfl⟩
 refine .m rfl ?_
 refine .t (.o (.agg [I (x1.1.id_), I (x1.1.state), I (x1.1.last), I (x1.1.until_), .L 1 (x1.1.pending.map cI), .L 1 (x1.1.saves.map cI)])) (e_ext (ev_t rfl) rfl) ?_
 refine .t (VI (x1.2)) (e_ext (ev_t rfl) rfl) ?_
 refine .t (.o (.c (.ptr (h.length + 0) 0))) (e_allocN (L' := [⟨[I (0), I (0), I (0), I (0), .v (.slice none 0 0), .v (.slice none 0 0)], true, true⟩]) rfl zo108 rfl rfl) ?_
 refine .s0 rfl rfl (e_stN (L' := [⟨[I (x1.1.id_), I (x1.1.state), I (x1.1.last), I (x1.1.until_), .L 1 (x1.1.pending.map cI), .L 1 (x1.1.saves.map cI)], true, true⟩]) rfl (ev_t rfl) (ev_t rfl) ty108 rfl rfl rfl rfl rfl) ?_
 refine .a rfl ?_
 refine .nil (CdOK.seq ?_)
 refine .block ?_
 refine .seq (.region (.m rfl ?_))
 refine .t (VB (decide (x1.2 ≠ 0))) (e_neK (ev_t rfl) rfl) ?_
 refine .a rfl ?_
 refine .nil ?_
 refine CdOK.condD (ev_t rfl) ?_ ?_
 ·intro c2; replace hm := hm.ifp c2
  refine .seq (.region (.m rfl ?_))
  refine .t (.o (.c (.v (.slice none 0 0)))) (e_as rfl) ?_
  refine .a rfl ?_
  refine .nil ?_
  refine CdOK.ret ?_
  refine ⟨.inr rfl, _, rfl, h, _, _, rfl, rfl, hC, ((.tup (R2.of (.c (.wk (.fl _ rfl) (.nlL _))) (R2.of (.c (.fl _ rfl)) (R2.nil _)))) : RenV _ _ _ _ (.tup [.c (.L 6 (([] : List Tx).map Tx.cs)), .c (I (x1.2))])), ?_⟩
  cases hm.ret; exact ⟨rfl, rfl⟩
 intro c3; replace hm := hm.ifn c3
 refine .seq (.region (.m rfl ?_))
 refine .sd rfl rfl rfl (e_bin (ev_t rfl) rfl rfl rfl) ?_ ?_
 ·intro c4; replace hm := hm.ifp c4
  refine .m rfl ?_
  iterate 5 refine .k ?_
  refine .t (VB (true)) (e_pick (t := true) (ev_t rfl) rfl) ?_
  refine .a rfl ?_
  refine .nil ?_
  refine CdOK.cond_true rfl ?_
  refine .seq (.region (.t (.o (.c (.v (.slice none 0 0)))) (e_as rfl) ?_))
  refine .t (VI (19)) (e_as rfl) ?_
  refine .nil ?_
  refine CdOK.ret ?_
  refine ⟨.inr rfl, _, rfl, h, _, _, rfl, rfl, hC, ((.tup (R2.of (.c (.wk (.fl _ rfl) (.nlL _))) (R2.of (.c (.fl _ rfl)) (R2.nil _)))) : RenV _ _ _ _ (.tup [.c (.L 6 (([] : List Tx).map Tx.cs)), .c (I (19))])), ?_⟩
  cases hm.ret; exact ⟨rfl, rfl⟩
 intro c5; replace hm := hm.ifn c5
 iterate 2 refine .m rfl ?_
 refine .t _ (e_fa' fa108_5 (ev_t rfl)) ?_
 refine .t _ (e_ldb1 (ev_t rfl) ty27 (bx rfl rfl) rfl) ?_
 refine .t (VI ((x1.1.saves.length : Int))) (e_lenM (ev_t rfl) is27) ?_
 refine .t (VB (decide ((x1.1.saves.length : Int) ≤ save))) (e_bin (ev_t rfl) (ev_t rfl) rfl rfl) ?_
 refine .t (VB (decide ((x1.1.saves.length : Int) ≤ save))) (e_pick (t := false) (ev_t rfl) (ev_t rfl)) ?_
 refine .a rfl ?_
 refine .nil ?_
 refine CdOK.condD (ev_t rfl) ?_ ?_
 ·intro c6; replace hm := hm.ifp c6
  refine .seq (.region (.t (.o (.c (.v (.slice none 0 0)))) (e_as rfl) ?_))
  refine .t (VI (19)) (e_as rfl) ?_
  refine .nil ?_
  refine CdOK.ret ?_
  refine ⟨.inr rfl, _, rfl, h, _, _, rfl, rfl, hC, ((.tup (R2.of (.c (.wk (.fl _ rfl) (.nlL _))) (R2.of (.c (.fl _ rfl)) (R2.nil _)))) : RenV _ _ _ _ (.tup [.c (.L 6 (([] : List Tx).map Tx.cs)), .c (I (19))])), ?_⟩
  cases hm.ret; exact ⟨rfl, rfl⟩
 intro c7; replace hm := hm.ifn c7
 refine .skip ?_
 refine CdOK.seq (.region (.t _ (e_fa' fa108_5 (ev_t rfl)) ?_))
 refine .t _ (e_ldb1 (ev_t rfl) ty27 (bx rfl rfl) rfl) ?_
 refine .m rfl ?_
 refine .t (VI ((w64 (save + 1)))) (e_bin (ev_t rfl) rfl rfl rfl) ?_
 obtain ⟨c8, hm⟩ := hm.ifs
 refine .t (.o (.c (.L 1 ((x1.1.saves.take (Int.toNat (w64 (save + 1)))).map cI)))) (e_slhM el27 (ev_t rfl) (ev_t rfl) c8) ?_
 obtain ⟨c10, hm⟩ := hm.ifs
 refine .cl rfl rfl rfl rfl pl93 (R2.wk _) (cloneI_ok (A := (h.length + 1)) (l := (x1.1.saves.take (Int.toNat (w64 (save + 1))))) (lenN rfl rfl) c10) ?_
 rintro _ _ ⟨lv9, rfl, rfl⟩
 rw [show (h ++ ([⟨[I (x1.1.id_), I (x1.1.state), I (x1.1.last), I (x1.1.until_), .L 1 (x1.1.pending.map cI), .L 1 (x1.1.saves.map cI)], true, true⟩] : Heap)) ++ [⟨((x1.1.saves.take (Int.toNat (w64 (save + 1)))).map cI).flatten, true, lv9⟩] = h ++ ([⟨[I (x1.1.id_), I (x1.1.state), I (x1.1.last), I (x1.1.until_), .L 1 (x1.1.pending.map cI), .L 1 (x1.1.saves.map cI)], true, true⟩, ⟨((x1.1.saves.take (Int.toNat (w64 (save + 1)))).map cI).flatten, true, lv9⟩] : Heap) from apnd rfl]
 refine .t _ (e_fa' fa108_5 (ev_t rfl)) ?_
 refine .s0 rfl rfl (e_stN (L' := [⟨[I (x1.1.id_), I (x1.1.state), I (x1.1.last), I (x1.1.until_), .L 1 (x1.1.pending.map cI), .g (h.length + 1) (((x1.1.saves.take (Int.toNat (w64 (save + 1))))).length) 1 lv9], true, true⟩, ⟨((x1.1.saves.take (Int.toNat (w64 (save + 1)))).map cI).flatten, true, lv9⟩]) rfl (ev_t rfl) (ev_t rfl) ty27 rfl rfl rfl rfl rfl) ?_
 refine .nil ?_
 replace hm := hm.bnd
 refine CdOK.joinE (σ := Tx) (fun s => s) hm (fun s => [(0, .o (.c (.L 6 (l_.map Tx.cs)))), (8, .o (.c (.ptr (h.length + 0) 0)))]) (fun s => h ++ ([⟨[I (s.id_), I (s.state), I (s.last), I (s.until_), .L 1 (s.pending.map cI), .L 1 (s.saves.map cI)], true, true⟩] : Heap)) ?_ ?_
 ·intro hm
  refine .seq ?_
  obtain ⟨c12, hm⟩ := hm.ifs
  refine .glT (d := 35) (ev_t rfl) c12 (fun hlv => ?_)
  subst hlv
  skip
  refine .draw fol (by decide +kernel) ?_
  refine .t _ (e_ldbA (ev_t rfl) ty108 (bx rfl rfl) rfl rfl) ?_
  refine .t _ (e_fa' fa108_5 (ev_t rfl)) ?_
  refine .t _ (e_ldb1 (ev_t rfl) ty27 (bx rfl rfl) rfl) ?_
  refine .m rfl ?_
  obtain ⟨c13, hm⟩ := hm.ifs
  refine .t (.o (.c (.ptr (h.length + 1) (0 + (Int.toNat save) * 1)))) (e_ixg (ev_t rfl) (ev_t rfl) el27 c13) ?_
  obtain ⟨c14, hm⟩ := hm.ifs
  refine .t (VI ((gd (x1.1.saves.take (Int.toNat (w64 (save + 1)))) save))) (e_ldg1 (b := (h.length + 1)) (o := 0 + (Int.toNat save) * 1) (k := 1) (off := 0) (f := cI) (l := (x1.1.saves.take (Int.toNat (w64 (save + 1))))) (i := save) (ev_t rfl) ty3 (bx rfl rfl) (by intro x; rfl) c14 rfl (by omega)) ?_
  obtain ⟨x15, e15, hm⟩ := hm.call
  refine .cl rfl rfl rfl rfl pl138 (R2.wk _) (FnOK.borrow (R2.cons (BorV.agg (R2.cons BorC.v (R2.cons BorC.v (R2.cons BorC.v (R2.cons BorC.v (R2.cons BorC.l (R2.cons (BorC.g (bx rfl rfl) (by simp) (fun _ => rfl) (fun _ => rfl)) (R2.nil _)))))))) (R2.cons (BorV.c BorC.v) (R2.nil _))) (transactions_left_ok (h := []) e15) rfl) ?_
  refine .nil ?_
  refine CdOK.condB (ev_t rfl) ?_ ?_
  ·intro c16; replace hm := hm.ifp c16
   refine .draw2 (ord := [0, 1, 2, 3, 4, 5, 6, 7, 8]) (chain := [6, 8]) fol (by decide +kernel) (by decide +kernel) ?_
   refine .p _ (e_fa' fa108_5 (ev_t rfl)) ?_
   refine .q _ (e_ldb1 (ev_t rfl) ty27 (bx rfl rfl) rfl) ?_
   refine .p (VI (save)) (e_mv (ev_t rfl)) ?_
   obtain ⟨c17, hm⟩ := hm.ifs
   refine .p (.o (.c (.ptr (h.length + 1) (0 + (Int.toNat save) * 1)))) (e_ixg (ev_t rfl) (ev_t rfl) el27 c17) ?_
   obtain ⟨c18, hm⟩ := hm.ifs
   refine .q (VI ((gd (x1.1.saves.take (Int.toNat (w64 (save + 1)))) save))) (e_ldg1 (b := (h.length + 1)) (o := 0 + (Int.toNat save) * 1) (k := 1) (off := 0) (f := cI) (l := (x1.1.saves.take (Int.toNat (w64 (save + 1))))) (i := save) (ev_t rfl) ty3 (bx rfl rfl) (by intro x; rfl) c18 rfl (by omega)) ?_
   refine .p _ (e_fa' fa108_1 (ev_t rfl)) ?_
   refine .c0 rfl rfl rfl rfl (e_stN (L' := [⟨[I (x1.1.id_), I (2), I (x1.1.last), I (x1.1.until_), .L 1 (x1.1.pending.map cI), .g (h.length + 1) (((x1.1.saves.take (Int.toNat (w64 (save + 1))))).length) 1 true], true, true⟩, ⟨((x1.1.saves.take (Int.toNat (w64 (save + 1)))).map cI).flatten, true, true⟩]) rfl (ev_t rfl) rfl ty3 rfl rfl rfl rfl rfl) (.e rfl rfl (e_ldg1 (b := (h.length + 1)) (o := 0 + (Int.toNat save) * 1) (k := 1) (off := 0) (f := cI) (l := (x1.1.saves.take (Int.toNat (w64 (save + 1))))) (i := save) (ev_t rfl) ty3 (bx rfl rfl) (by intro x; rfl) c18 rfl (by omega)) (.m (by decide +kernel) .nil)) ?_
   refine .p _ (e_fa' fa108_3 (ev_t rfl)) ?_
   refine .c0 rfl rfl rfl rfl (e_stN (L' := [⟨[I (x1.1.id_), I (2), I (x1.1.last), I ((gd (x1.1.saves.take (Int.toNat (w64 (save + 1)))) save)), .L 1 (x1.1.pending.map cI), .g (h.length + 1) (((x1.1.saves.take (Int.toNat (w64 (save + 1))))).length) 1 true], true, true⟩, ⟨((x1.1.saves.take (Int.toNat (w64 (save + 1)))).map cI).flatten, true, true⟩]) rfl (ev_t rfl) (ev_t rfl) ty3 rfl rfl rfl rfl rfl) (.m (by decide +kernel) (.m (by decide +kernel) .nil)) ?_
   refine .nil ?_
   refine .re (σ := [0]) (X := [(0, .o (.c (.L 6 (l_.map Tx.cs)))), (8, .o (.c (.ptr (h.length + 0) 0)))]) (L' := [⟨[I ((⟨x1.1.id_, 2, x1.1.last, (gd (x1.1.saves.take (Int.toNat (w64 (save + 1)))) save), x1.1.pending, (x1.1.saves.take (Int.toNat (w64 (save + 1))))⟩ : Tx).id_), I ((⟨x1.1.id_, 2, x1.1.last, (gd (x1.1.saves.take (Int.toNat (w64 (save + 1)))) save), x1.1.pending, (x1.1.saves.take (Int.toNat (w64 (save + 1))))⟩ : Tx).state), I ((⟨x1.1.id_, 2, x1.1.last, (gd (x1.1.saves.take (Int.toNat (w64 (save + 1)))) save), x1.1.pending, (x1.1.saves.take (Int.toNat (w64 (save + 1))))⟩ : Tx).last), I ((⟨x1.1.id_, 2, x1.1.last, (gd (x1.1.saves.take (Int.toNat (w64 (save + 1)))) save), x1.1.pending, (x1.1.saves.take (Int.toNat (w64 (save + 1))))⟩ : Tx).until_), .L 1 ((⟨x1.1.id_, 2, x1.1.last, (gd (x1.1.saves.take (Int.toNat (w64 (save + 1)))) save), x1.1.pending, (x1.1.saves.take (Int.toNat (w64 (save + 1))))⟩ : Tx).pending.map cI), .L 1 ((⟨x1.1.id_, 2, x1.1.last, (gd (x1.1.saves.take (Int.toNat (w64 (save + 1)))) save), x1.1.pending, (x1.1.saves.take (Int.toNat (w64 (save + 1))))⟩ : Tx).saves.map cI)], true, true⟩]) rfl rfl hC (by decide) (.obj 0 rfl (R2.of (.fl _ rfl) (R2.of (.fl _ rfl) (R2.of (.fl _ rfl) (R2.of (.fl _ rfl) (R2.of (.fl _ rfl) (R2.of (.fzg 1 _ 1 _ ((x1.1.saves.take (Int.toNat (w64 (save + 1)))).map cI) rfl (by decide) (by first | exact List.length_map .. | simp) (lens_all (by intro x; rfl)) (vl_all (by intro x; rfl))) (R2.nil _))))))) .nil) (.cons (renFlV rfl) (.cons (.o (.c (.ptr 0 0 _ rfl))) .nil)) ?_
   exact ⟨(⟨x1.1.id_, 2, x1.1.last, (gd (x1.1.saves.take (Int.toNat (w64 (save + 1)))) save), x1.1.pending, (x1.1.saves.take (Int.toNat (w64 (save + 1))))⟩ : Tx), hm.ret, (.cons rfl (.cons rfl .nil)), rfl⟩
  intro c19; replace hm := hm.ifn c19
  refine .skip ?_
  refine .re (σ := [0]) (X := [(0, .o (.c (.L 6 (l_.map Tx.cs)))), (8, .o (.c (.ptr (h.length + 0) 0)))]) (L' := [⟨[I ((⟨x1.1.id_, x1.1.state, x1.1.last, x1.1.until_, x1.1.pending, (x1.1.saves.take (Int.toNat (w64 (save + 1))))⟩ : Tx).id_), I ((⟨x1.1.id_, x1.1.state, x1.1.last, x1.1.until_, x1.1.pending, (x1.1.saves.take (Int.toNat (w64 (save + 1))))⟩ : Tx).state), I ((⟨x1.1.id_, x1.1.state, x1.1.last, x1.1.until_, x1.1.pending, (x1.1.saves.take (Int.toNat (w64 (save + 1))))⟩ : Tx).last), I ((⟨x1.1.id_, x1.1.state, x1.1.last, x1.1.until_, x1.1.pending, (x1.1.saves.take (Int.toNat (w64 (save + 1))))⟩ : Tx).until_), .L 1 ((⟨x1.1.id_, x1.1.state, x1.1.last, x1.1.until_, x1.1.pending, (x1.1.saves.take (Int.toNat (w64 (save + 1))))⟩ : Tx).pending.map cI), .L 1 ((⟨x1.1.id_, x1.1.state, x1.1.last, x1.1.until_, x1.1.pending, (x1.1.saves.take (Int.toNat (w64 (save + 1))))⟩ : Tx).saves.map cI)], true, true⟩]) rfl rfl hC (by decide) (.obj 0 rfl (R2.of (.fl _ rfl) (R2.of (.fl _ rfl) (R2.of (.fl _ rfl) (R2.of (.fl _ rfl) (R2.of (.fl _ rfl) (R2.of (.fzg 1 _ 1 _ ((x1.1.saves.take (Int.toNat (w64 (save + 1)))).map cI) rfl (by decide) (by first | exact List.length_map .. | simp) (lens_all (by intro x; rfl)) (vl_all (by intro x; rfl))) (R2.nil _))))))) .nil) (.cons (renFlV rfl) (.cons (.o (.c (.ptr 0 0 _ rfl))) .nil)) ?_
  exact ⟨(⟨x1.1.id_, x1.1.state, x1.1.last, x1.1.until_, x1.1.pending, (x1.1.saves.take (Int.toNat (w64 (save + 1))))⟩ : Tx), hm.ret, (.cons rfl (.cons rfl .nil)), rfl⟩
 rintro bx11 T0 hm
 show CdOK _ _ _ (look T0 [(0, .o (.c (.L 6 (l_.map Tx.cs)))), (8, .o (.c (.ptr (h.length + 0) 0)))]) (h ++ ([⟨[I (bx11.id_), I (bx11.state), I (bx11.last), I (bx11.until_), .L 1 (bx11.pending.map cI), .L 1 (bx11.saves.map cI)], true, true⟩] : Heap)) _
 refine .seq (.region (.m rfl ?_))
 refine .t _ (e_ldbA (ev_t rfl) ty108 (bx rfl rfl) rfl rfl) ?_
 obtain ⟨x21, e21, hm⟩ := hm.call
 refine .cl rfl rfl rfl rfl pl139 (R2.wk _) (transactions_with_ok    e21) ?_
 rintro _ _ ⟨rfl, rfl⟩
 refine .a rfl ?_
 refine .t (VI (0)) (e_as rfl) ?_
 refine .nil ?_
 refine CdOK.ret ?_
 refine ⟨.inr rfl, _, rfl, h, _, _, rfl, rfl, hC, ((renFlV rfl) : RenV _ _ _ _ (.tup [.c (.L 6 (x21.map Tx.cs)), .c (I (0))])), ?_⟩
 cases hm.ret; exact ⟨rfl, rfl⟩
end Rv
