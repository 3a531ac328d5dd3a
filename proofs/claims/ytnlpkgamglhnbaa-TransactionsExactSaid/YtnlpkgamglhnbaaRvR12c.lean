import Derived.Test.YtnlpkgamglhnbaaRvR12
import Derived.Test.YtnlpkgamglhnbaaRvR05
set_option linter.unusedVariables false
set_option linter.unusedSimpArgs false
namespace Rv
open Go Go.RowKit Go.Proofs
theorem bl108 : bldf Try.prog 108 [(0, 1), (1, 1), (2, 1), (3, 1), (4, 1), (5, 1)] = true := by decide +kernel
theorem pl76 : plainFn Try.prog 76 = true := by decide +kernel
theorem pl100 : plainFn Try.prog 100 = true := by decide +kernel
def ref12_Begin.l1 (l_ : (List Tx)) (id_ : Int) : Nat → (List Tx) → Int → Option (List Tx)
  | 0, _, _ => none
  | kk16 + 1, out14, i15 => (if i15 < (l_.length : Int) then (if (0 : Int) ≤ i15 ∧ i15 < (l_.length : Int) then (if ((gd l_ i15).id_) < id_ then (if (0 : Int) ≤ i15 ∧ i15 < (l_.length : Int) then (if (out14).length + ([(gd l_ i15)] : List Tx).length ≤ 1759218604441 then ref12_Begin.l1 l_ id_ kk16 (out14 ++ ([(gd l_ i15)] : List Tx)) (w64 (i15 + 1)) else none) else none) else some out14) else none) else some out14)
def ref12_Begin (l_ : (List Tx)) (id_ : Int) : Option ((List Tx) × Int) := ((ref12_Valid l_).bind fun (x1 : Bool) => (if (!x1) = true then some (([] : List Tx), 15) else (if id_ < 1 then some (([] : List Tx), 1) else (if 1073741824 < id_ then some (([] : List Tx), 1) else ((ref12_find l_ id_).bind fun (x8 : Int) => (if 0 ≤ x8 then some (([] : List Tx), 25) else (if (l_.length : Int) = 64 then some (([] : List Tx), 21) else ((ref12_Begin.l1 l_ id_ FU ([] : List Tx) 0).bind fun (s24 : (List Tx)) => (if (0 : Int) ≤ ((s24).length : Int) ∧ ((s24).length : Int) ≤ (l_.length : Int) then (if (s24).length + ([(⟨id_, 1, 0, 0, ([] : List Int), ([] : List Int)⟩ : Tx)] : List Tx).length ≤ 1759218604441 then (if ((s24 ++ ([(⟨id_, 1, 0, 0, ([] : List Int), ([] : List Int)⟩ : Tx)] : List Tx))).length + (l_.drop (Int.toNat ((s24).length : Int))).length ≤ 1759218604441 then some (((s24 ++ ([(⟨id_, 1, 0, 0, ([] : List Int), ([] : List Int)⟩ : Tx)] : List Tx)) ++ (l_.drop (Int.toNat ((s24).length : Int)))), 0) else none) else none) else none)))))))))
theorem ref12_Begin_ok {h : Heap} {l_ : (List Tx)} {id_ : Int}   {r : ((List Tx) × Int)} (hm : ref12_Begin l_ id_ = some r) : FnOK Try.prog 72 [.o (.c (.L 6 (l_.map Tx.cs))), VI (id_)] h (fun v h' => v = .tup [.c (.L 6 (r.1.map Tx.cs)), .c (I (r.2))] ∧ h' = h) := by
 refine FnOK.fin ?_
 refine FnOK.bodyC (N := 60) Try.func72 rfl rfl rfl (fun hC => ?_)
 replace hm := Ev.of hm
 rw [ref12_Begin.eq_1] at hm
 show CdOK _ _ _ (look _ [(0, .o (.c (.L 6 (l_.map Tx.cs)))), (1, VI (id_))]) (h ++ ([] : Heap)) _
 refine .seq (.region (.t (.o (.c (.v (.slice none 0 0)))) (e_as rfl) ?_))
 refine .t (VI (0)) (e_as rfl) ?_
 refine .nil (CdOK.seq ?_)
 refine .block ?_
 refine .seq (.region (.m rfl ?_))
 obtain ⟨x1, e1, hm⟩ := hm.call
 refine .cl rfl rfl rfl rfl pl66 (R2.wk _) (ref12_Valid_ok    e1) ?_
 rintro _ _ ⟨rfl, rfl⟩
 refine .t (VB ((!x1))) (e_un (ev_t rfl) rfl) ?_
 refine .a rfl ?_
 refine .nil ?_
 refine CdOK.condB (ev_t rfl) ?_ ?_
 ·intro c2; replace hm := hm.ifp c2
  refine .seq (.region (.t (.o (.c (.v (.slice none 0 0)))) (e_as rfl) ?_))
  refine .t (VI (15)) (e_as rfl) ?_
  refine .nil ?_
  refine CdOK.ret ?_
  refine ⟨.inr rfl, _, rfl, h, _, _, rfl, rfl, hC, ((.tup (R2.of (.c (.wk (.fl _ rfl) (.nlL _))) (R2.of (.c (.fl _ rfl)) (R2.nil _)))) : RenV _ _ _ _ (.tup [.c (.L 6 (([] : List Tx).map Tx.cs)), .c (I (15))])), ?_⟩
  cases hm.ret; exact ⟨rfl, rfl⟩
 intro c3; replace hm := hm.ifn c3
 refine .seq (.region (.m rfl ?_))
 refine .sd rfl rfl rfl (e_bin (ev_t rfl) rfl rfl rfl) ?_ ?_
 ·intro c4; replace hm := hm.ifp c4
  refine .m rfl ?_
  iterate 2 refine .k ?_
  refine .t (VB (true)) (e_pick (t := true) (ev_t rfl) rfl) ?_
  refine .a rfl ?_
  refine .nil ?_
  refine CdOK.cond_true rfl ?_
  refine .seq (.region (.t (.o (.c (.v (.slice none 0 0)))) (e_as rfl) ?_))
  refine .t (VI (1)) (e_as rfl) ?_
  refine .nil ?_
  refine CdOK.ret ?_
  refine ⟨.inr rfl, _, rfl, h, _, _, rfl, rfl, hC, ((.tup (R2.of (.c (.wk (.fl _ rfl) (.nlL _))) (R2.of (.c (.fl _ rfl)) (R2.nil _)))) : RenV _ _ _ _ (.tup [.c (.L 6 (([] : List Tx).map Tx.cs)), .c (I (1))])), ?_⟩
  cases hm.ret; exact ⟨rfl, rfl⟩
 intro c5; replace hm := hm.ifn c5
 iterate 2 refine .m rfl ?_
 refine .t (VB (decide (1073741824 < id_))) (e_bin (ev_t rfl) rfl rfl rfl) ?_
 refine .t (VB (decide (1073741824 < id_))) (e_pick (t := false) (ev_t rfl) (ev_t rfl)) ?_
 refine .a rfl ?_
 refine .nil ?_
 refine CdOK.condD (ev_t rfl) ?_ ?_
 ·intro c6; replace hm := hm.ifp c6
  refine .seq (.region (.t (.o (.c (.v (.slice none 0 0)))) (e_as rfl) ?_))
  refine .t (VI (1)) (e_as rfl) ?_
  refine .nil ?_
  refine CdOK.ret ?_
  refine ⟨.inr rfl, _, rfl, h, _, _, rfl, rfl, hC, ((.tup (R2.of (.c (.wk (.fl _ rfl) (.nlL _))) (R2.of (.c (.fl _ rfl)) (R2.nil _)))) : RenV _ _ _ _ (.tup [.c (.L 6 (([] : List Tx).map Tx.cs)), .c (I (1))])), ?_⟩
  cases hm.ret; exact ⟨rfl, rfl⟩
 intro c7; replace hm := hm.ifn c7
 refine .seq (.region ?_)
 iterate 2 refine .m rfl ?_
 obtain ⟨x8, e8, hm⟩ := hm.call
 refine .cl rfl rfl rfl rfl pl140 (R2.wk _) (ref12_find_ok    e8) ?_
 rintro _ _ ⟨rfl, rfl⟩
 refine .t (VB (decide (0 ≤ x8))) (e_bin (ev_t rfl) rfl rfl rfl) ?_
 refine .a rfl ?_
 refine .nil ?_
 refine CdOK.condD (ev_t rfl) ?_ ?_
 ·intro c9; replace hm := hm.ifp c9
  refine .seq (.region (.t (.o (.c (.v (.slice none 0 0)))) (e_as rfl) ?_))
  refine .t (VI (25)) (e_as rfl) ?_
  refine .nil ?_
  refine CdOK.ret ?_
  refine ⟨.inr rfl, _, rfl, h, _, _, rfl, rfl, hC, ((.tup (R2.of (.c (.wk (.fl _ rfl) (.nlL _))) (R2.of (.c (.fl _ rfl)) (R2.nil _)))) : RenV _ _ _ _ (.tup [.c (.L 6 (([] : List Tx).map Tx.cs)), .c (I (25))])), ?_⟩
  cases hm.ret; exact ⟨rfl, rfl⟩
 intro c10; replace hm := hm.ifn c10
 refine .seq (.region (.m rfl ?_))
 refine .t (VI ((l_.length : Int))) (e_lenM (ev_t rfl) is92) ?_
 refine .t (VB (decide ((l_.length : Int) = 64))) (e_eqK (ev_t rfl) rfl) ?_
 refine .a rfl ?_
 refine .nil ?_
 refine CdOK.condD (ev_t rfl) ?_ ?_
 ·intro c11; replace hm := hm.ifp c11
  refine .seq (.region (.t (.o (.c (.v (.slice none 0 0)))) (e_as rfl) ?_))
  refine .t (VI (21)) (e_as rfl) ?_
  refine .nil ?_
  refine CdOK.ret ?_
  refine ⟨.inr rfl, _, rfl, h, _, _, rfl, rfl, hC, ((.tup (R2.of (.c (.wk (.fl _ rfl) (.nlL _))) (R2.of (.c (.fl _ rfl)) (R2.nil _)))) : RenV _ _ _ _ (.tup [.c (.L 6 (([] : List Tx).map Tx.cs)), .c (I (21))])), ?_⟩
  cases hm.ret; exact ⟨rfl, rfl⟩
 intro c12; replace hm := hm.ifn c12
 refine .skip ?_
 refine CdOK.seq (.region (.t (.o (.c (.v (.slice none 0 0)))) (e_as rfl) ?_))
 refine .nil (CdOK.seq (.seq (.region (.t (VI (0)) (e_as rfl) ?_))))
 refine .nil ?_
 replace hm := hm.bnd
 refine CdOK.joinT (σ := ((List Tx) × Bool)) (fun s => s.1) hm (fun s => [(0, .o (.c (.L 6 (l_.map Tx.cs)))), (1, VI (id_)), (6, .o (.c (.g (h.length + 0) ((s.1).length) 6 s.2)))]) (fun s => h ++ ([⟨(s.1.map Tx.cs).flatten, true, s.2⟩] : Heap)) ?_ ?_
 ·intro hm
  refine .block ?_
  refine .re (σ := [1000]) (X := [(0, .o (.c (.L 6 (l_.map Tx.cs)))), (1, VI (id_)), (6, .o (.c (.g (h.length + 0) ((([] : List Tx)).length) 6 false))), (7, VI (0))]) (L' := [⟨(([] : List Tx).map Tx.cs).flatten, true, false⟩]) rfl rfl hC (by decide) (.dead 1000 _ rfl .nil) (.cons (renFlV rfl) (.cons (renFlV rfl) (.cons (.o (.c (.nilg _ _))) (.cons (renFlV rfl) .nil)))) ?_
  refine .loopE (σ := ((List Tx) × Int × Bool)) (fun k s => Ev (ref12_Begin.l1 l_ id_ k s.1 s.2.1) _) (fun s => [(0, .o (.c (.L 6 (l_.map Tx.cs)))), (1, VI (id_)), (6, .o (.c (.g (h.length + 0) ((s.1).length) 6 s.2.2))), (7, VI (s.2.1))]) (fun s => h ++ ([⟨(s.1.map Tx.cs).flatten, true, s.2.2⟩] : Heap)) FU (([] : List Tx), 0, false) hm (.cons rfl (.cons rfl (.cons rfl (.cons rfl .nil)))) rfl ?_
  rintro kk16 ⟨out14, i15, out14v⟩ T0 hm
  replace hm : Ev (ref12_Begin.l1 l_ id_ kk16 out14 i15) _ := hm
  cases kk16 with
  | zero => exact (Ev.non hm).elim
  | succ kk16 =>
  rw [ref12_Begin.l1.eq_2] at hm
  show CdOK _ _ _ (look T0 [(0, .o (.c (.L 6 (l_.map Tx.cs)))), (1, VI (id_)), (6, .o (.c (.g (h.length + 0) ((out14).length) 6 out14v))), (7, VI (i15))]) (h ++ ([⟨(out14.map Tx.cs).flatten, true, out14v⟩] : Heap)) _
  iterate 2 refine .seq ?_
  refine .region ?_
  iterate 2 refine .m rfl ?_
  refine .t (VI ((l_.length : Int))) (e_lenM (ev_t rfl) is92) ?_
  refine .sd rfl rfl rfl (e_bin (ev_t rfl) (ev_t rfl) rfl rfl) ?_ ?_
  ·intro c17; replace hm := hm.ifp c17
   iterate 3 refine .m rfl ?_
   obtain ⟨c18, hm⟩ := hm.ifs
   refine .t (.o (.c (.rp [I ((gd l_ i15).id_), I ((gd l_ i15).state), I ((gd l_ i15).last), I ((gd l_ i15).until_), .L 1 (((gd l_ i15).pending).map cI), .L 1 (((gd l_ i15).saves).map cI)]))) (e_ixM (f := Tx.cs) (l := l_) (i := i15) (ev_t rfl) (ev_t rfl) el92 c18) ?_
   refine .t _ (e_faR fa108_0 (ev_t rfl) rfl) ?_
   refine .t _ (e_ldR1 (ev_t rfl) ty3 rfl) ?_
   refine .m rfl ?_
   refine .t (VB (decide (((gd l_ i15).id_) < id_))) (e_bin (ev_t rfl) (ev_t rfl) rfl rfl) ?_
   refine .t (VB (decide (((gd l_ i15).id_) < id_))) (e_pick (t := true) (ev_t rfl) (ev_t rfl)) ?_
   refine .nil ?_
   refine CdOK.condD (ev_t rfl) ?_ ?_
   ·intro c19; replace hm := hm.ifp c19
    refine .skip ?_
    refine CdOK.seq ?_
    refine .block ?_
    refine .region ?_
    iterate 3 refine .m rfl ?_
    obtain ⟨c20, hm⟩ := hm.ifs
    refine .t (.o (.c (.rp [I ((gd l_ i15).id_), I ((gd l_ i15).state), I ((gd l_ i15).last), I ((gd l_ i15).until_), .L 1 (((gd l_ i15).pending).map cI), .L 1 (((gd l_ i15).saves).map cI)]))) (e_ixM (f := Tx.cs) (l := l_) (i := i15) (ev_t rfl) (ev_t rfl) el92 c20) ?_
    refine .t _ (e_ldRA (ev_t rfl) ty108 rfl rfl) ?_
    refine .t (.o (.c (.LC 6 (([(gd l_ i15)] : List Tx).map Tx.cs)))) (e_litF (xs := [[I ((gd l_ i15).id_), I ((gd l_ i15).state), I ((gd l_ i15).last), I ((gd l_ i15).until_), .L 1 (((gd l_ i15).pending).map cI), .L 1 (((gd l_ i15).saves).map cI)]]) (ys := ([(gd l_ i15)]).map Tx.cs) slt92 nl92 rfl rfl rfl rfl rfl rfl) ?_
    obtain ⟨c21, hm⟩ := hm.ifs
    refine .t (.o (.c (.g (h.length + 1) (((out14 ++ ([(gd l_ i15)] : List Tx))).length) 6 (out14v || decide (0 < ([(gd l_ i15)] : List Tx).length))))) (e_apG (k := 6) (q := 1759218604441) (m := ([(gd l_ i15)] : List Tx).length) (j := 0) (f := Tx.cs) (xs := out14) (ys := ([(gd l_ i15)] : List Tx)) (L' := [⟨(out14.map Tx.cs).flatten, true, false⟩, ⟨((out14 ++ ([(gd l_ i15)] : List Tx)).map Tx.cs).flatten, true, (out14v || decide (0 < ([(gd l_ i15)] : List Tx).length))⟩]) slt92 rfl (ev_t rfl) (ev_t rfl) (bx rfl rfl) (by intro x; rfl) src_LC rfl c21 rfl (by first | rfl | simp) rfl rfl) ?_
    refine .a rfl ?_
    refine .nil (CdOK.region (.m rfl ?_))
    refine .t (VI ((w64 (i15 + 1)))) (e_bin (ev_t rfl) rfl rfl rfl) ?_
    refine .a rfl ?_
    refine .nil ?_
    refine .re (σ := [1]) (X := [(0, .o (.c (.L 6 (l_.map Tx.cs)))), (1, VI (id_)), (6, .o (.c (.g (h.length + 0) (((out14 ++ ([(gd l_ i15)] : List Tx))).length) 6 (out14v || decide (0 < ([(gd l_ i15)] : List Tx).length))))), (7, VI ((w64 (i15 + 1))))]) (L' := [⟨((out14 ++ ([(gd l_ i15)] : List Tx)).map Tx.cs).flatten, true, (out14v || decide (0 < ([(gd l_ i15)] : List Tx).length))⟩]) rfl rfl hC (by decide) (.obj 1 rfl (renFl (flat_all (f := Tx.cs) (l := (out14 ++ ([(gd l_ i15)] : List Tx))) (by intro x; rfl))) .nil) (.cons (renFlV rfl) (.cons (renFlV rfl) (.cons (.o (.c (.gg 1 0 _ _ _ _ _ rfl (by first | rfl | (simp; done) | (dsimp only at *; simp only [List.length_take]; omega)) rfl))) (.cons (renFlV rfl) .nil)))) ?_
    exact ⟨_, ((out14 ++ ([(gd l_ i15)] : List Tx)), (w64 (i15 + 1)), (out14v || decide (0 < ([(gd l_ i15)] : List Tx).length))), Nat.lt_succ_self _, hm, (.cons rfl (.cons rfl (.cons rfl (.cons rfl .nil)))), rfl⟩
   intro c22; replace hm := hm.ifn c22
   refine .exit ?_
   refine .id ?_
   exact ⟨(out14, out14v), hm.ret, (.cons rfl (.cons rfl (.cons rfl .nil))), rfl⟩
  intro c23; replace hm := hm.ifn c23
  refine .m rfl ?_
  iterate 7 refine .k ?_
  refine .t (VB (false)) (e_pick (t := false) (ev_t rfl) rfl) ?_
  refine .nil ?_
  refine CdOK.cond_false rfl ?_
  refine .exit ?_
  refine .id ?_
  exact ⟨(out14, out14v), hm.ret, (.cons rfl (.cons rfl (.cons rfl .nil))), rfl⟩
 rintro ⟨out13, out13v⟩ T0 hm
 refine CdOK.seq ?_
 refine .draw2 (ord := [0, 1, 2, 3, 5, 6, 7, 8, 4, 9, 10, 11]) (chain := [4, 9]) fol (by decide +kernel) (by decide +kernel) ?_
 refine .p (.o (.c (.g (h.length + 0) ((out13).length) 6 out13v))) (e_mv (ev_t rfl)) ?_
 refine .p (VI (id_)) (e_mv (ev_t rfl)) ?_
 refine .p (.o (.agg [I (id_), I (1), I (0), I (0), .v (.slice none 0 0), .v (.slice none 0 0)])) (e_bld (cs := [I (id_), I (1), I (0), I (0), .v (.slice none 0 0), .v (.slice none 0 0)]) zo108 bl108 rfl rfl) ?_
 refine .p (.o (.c (.LC 6 (([(⟨id_, 1, 0, 0, ([] : List Int), ([] : List Int)⟩ : Tx)] : List Tx).map Tx.cs)))) (e_litF (xs := [[I (id_), I (1), I (0), I (0), .v (.slice none 0 0), .v (.slice none 0 0)]]) (ys := ([(⟨id_, 1, 0, 0, ([] : List Int), ([] : List Int)⟩ : Tx)]).map Tx.cs) slt92 nl92 rfl rfl rfl rfl rfl rfl) ?_
 refine .p (.o (.c (.L 6 (l_.map Tx.cs)))) (e_mv (ev_t rfl)) ?_
 refine .p (.o (.c (.g (h.length + 0) ((out13).length) 6 out13v))) (e_mv (ev_t rfl)) ?_
 refine .p (VI (((out13).length : Int))) (e_lenG (ev_t rfl) is92) ?_
 obtain ⟨c25, hm⟩ := hm.ifs
 refine .p (.o (.c (.L 6 ((l_.drop (Int.toNat ((out13).length : Int))).map Tx.cs)))) (e_sllM el92 (ev_t rfl) (ev_t rfl) c25) ?_
 obtain ⟨c26, hm⟩ := hm.ifs
 refine .c (v := .o (.c (.g (h.length + 1) (((out13 ++ ([(⟨id_, 1, 0, 0, ([] : List Int), ([] : List Int)⟩ : Tx)] : List Tx))).length) 6 (out13v || decide (0 < ([(⟨id_, 1, 0, 0, ([] : List Int), ([] : List Int)⟩ : Tx)] : List Tx).length))))) rfl rfl rfl rfl rfl (e_apG (k := 6) (q := 1759218604441) (m := ([(⟨id_, 1, 0, 0, ([] : List Int), ([] : List Int)⟩ : Tx)] : List Tx).length) (j := 0) (f := Tx.cs) (xs := out13) (ys := ([(⟨id_, 1, 0, 0, ([] : List Int), ([] : List Int)⟩ : Tx)] : List Tx)) (L' := [⟨(out13.map Tx.cs).flatten, true, false⟩, ⟨((out13 ++ ([(⟨id_, 1, 0, 0, ([] : List Int), ([] : List Int)⟩ : Tx)] : List Tx)).map Tx.cs).flatten, true, (out13v || decide (0 < ([(⟨id_, 1, 0, 0, ([] : List Int), ([] : List Int)⟩ : Tx)] : List Tx).length))⟩]) slt92 rfl (ev_t rfl) (ev_t rfl) (bx rfl rfl) (by intro x; rfl) src_LC rfl c26 rfl (by first | rfl | simp) rfl rfl) .nil ?_
 obtain ⟨c27, hm⟩ := hm.ifs
 refine .c (v := .o (.c (.g (h.length + 2) ((((out13 ++ ([(⟨id_, 1, 0, 0, ([] : List Int), ([] : List Int)⟩ : Tx)] : List Tx)) ++ (l_.drop (Int.toNat ((out13).length : Int))))).length) 6 ((out13v || decide (0 < ([(⟨id_, 1, 0, 0, ([] : List Int), ([] : List Int)⟩ : Tx)] : List Tx).length)) || decide (0 < (l_.drop (Int.toNat ((out13).length : Int))).length))))) rfl rfl rfl rfl rfl (e_apG (k := 6) (q := 1759218604441) (m := (l_.drop (Int.toNat ((out13).length : Int))).length) (j := 1) (f := Tx.cs) (xs := (out13 ++ ([(⟨id_, 1, 0, 0, ([] : List Int), ([] : List Int)⟩ : Tx)] : List Tx))) (ys := (l_.drop (Int.toNat ((out13).length : Int)))) (L' := [⟨(out13.map Tx.cs).flatten, true, false⟩, ⟨((out13 ++ ([(⟨id_, 1, 0, 0, ([] : List Int), ([] : List Int)⟩ : Tx)] : List Tx)).map Tx.cs).flatten, true, false⟩, ⟨(((out13 ++ ([(⟨id_, 1, 0, 0, ([] : List Int), ([] : List Int)⟩ : Tx)] : List Tx)) ++ (l_.drop (Int.toNat ((out13).length : Int)))).map Tx.cs).flatten, true, ((out13v || decide (0 < ([(⟨id_, 1, 0, 0, ([] : List Int), ([] : List Int)⟩ : Tx)] : List Tx).length)) || decide (0 < (l_.drop (Int.toNat ((out13).length : Int))).length))⟩]) slt92 rfl (ev_t rfl) (ev_t rfl) (bx rfl rfl) (by intro x; rfl) src_L rfl c27 rfl (by first | rfl | simp) rfl rfl) .nil ?_
 refine .p (.o (.c (.g (h.length + 2) ((((out13 ++ ([(⟨id_, 1, 0, 0, ([] : List Int), ([] : List Int)⟩ : Tx)] : List Tx)) ++ (l_.drop (Int.toNat ((out13).length : Int))))).length) 6 ((out13v || decide (0 < ([(⟨id_, 1, 0, 0, ([] : List Int), ([] : List Int)⟩ : Tx)] : List Tx).length)) || decide (0 < (l_.drop (Int.toNat ((out13).length : Int))).length))))) (e_as (ev_t rfl)) ?_
 refine .p (VI (0)) (e_as rfl) ?_
 refine .nil ?_
 refine CdOK.ret ?_
 refine ⟨.inr rfl, _, rfl, h, _, _, rfl, rfl, hC, ((.tup (R2.of (.c (.fzg 2 _ 6 _ (((out13 ++ ([(⟨id_, 1, 0, 0, ([] : List Int), ([] : List Int)⟩ : Tx)] : List Tx)) ++ (l_.drop (Int.toNat ((out13).length : Int)))).map Tx.cs) rfl (by decide) (by first | exact List.length_map .. | simp) (lens_all (by intro x; rfl)) (vl_all (by intro x; rfl)))) (R2.of (.c (.fl _ rfl)) (R2.nil _)))) : RenV _ _ _ _ (.tup [.c (.L 6 (((out13 ++ ([(⟨id_, 1, 0, 0, ([] : List Int), ([] : List Int)⟩ : Tx)] : List Tx)) ++ (l_.drop (Int.toNat ((out13).length : Int)))).map Tx.cs)), .c (I (0))])), ?_⟩
 cases hm.ret; exact ⟨rfl, rfl⟩
def ref12_Note.l1 (l_ : (List Tx)) (e_ : AEntry) (x9 : Int) : Nat → (List Int) → Int → Option (List Int)
  | 0, _, _ => none
  | kk24 + 1, rest22, k23 => (if k23 < (((gd l_ x9).pending).length : Int) then (if (0 : Int) ≤ k23 ∧ k23 < (((gd l_ x9).pending).length : Int) then (if (gd ((gd l_ x9).pending) k23) ≠ e_.ref then (if (0 : Int) ≤ k23 ∧ k23 < (((gd l_ x9).pending).length : Int) then (if (rest22).length + ([(gd ((gd l_ x9).pending) k23)] : List Int).length ≤ 17592186044416 then ref12_Note.l1 l_ e_ x9 kk24 (rest22 ++ ([(gd ((gd l_ x9).pending) k23)] : List Int)) (w64 (k23 + 1)) else none) else none) else ref12_Note.l1 l_ e_ x9 kk24 rest22 (w64 (k23 + 1))) else none) else some rest22)
def ref12_Note (l_ : (List Tx)) (e_ : AEntry) : Option ((List Tx) × Int) := ((ref12_Valid l_).bind fun (x1 : Bool) => (if (!x1) = true then some (([] : List Tx), 15) else ((ref05_Valid e_).bind fun (x4 : Bool) => (if (!x4) = true then some (([] : List Tx), 12) else (if e_.tx = 0 then some (l_, 0) else ((ref12_find l_ e_.tx).bind fun (x9 : Int) => (if x9 < 0 then some (([] : List Tx), 16) else (if (0 : Int) ≤ x9 ∧ x9 < (l_.length : Int) then (if e_.prevTx ≠ ((gd l_ x9).last) then some (([] : List Tx), 13) else (((if e_.kind_ = 1 then (if ((gd l_ x9).pending).length ≤ 17592186044416 then (if ((gd l_ x9).pending).length + ([e_.lsn] : List Int).length ≤ 17592186044416 then some (Sum.inl (⟨(gd l_ x9).id_, (gd l_ x9).state, e_.lsn, (gd l_ x9).until_, ((gd l_ x9).pending ++ ([e_.lsn] : List Int)), (gd l_ x9).saves⟩ : Tx)) else none) else none) else (if e_.kind_ = 2 then ((ref12_Note.l1 l_ e_ x9 FU ([] : List Int) 0).bind fun (s32 : (List Int)) => (if (s32.length : Int) = (((gd l_ x9).pending).length : Int) then some (Sum.inr (([] : List Tx), 13)) else some (Sum.inl (⟨(gd l_ x9).id_, (gd l_ x9).state, e_.lsn, (gd l_ x9).until_, s32, (gd l_ x9).saves⟩ : Tx)))) else (if e_.kind_ = 4 then some (Sum.inl (⟨(gd l_ x9).id_, 3, e_.lsn, 0, (gd l_ x9).pending, ([] : List Int)⟩ : Tx)) else ((ref12_Remove l_ e_.tx).bind fun (x38 : (List Tx)) => some (Sum.inr (x38, 0))))))).bind fun (z : Sum Tx ((List Tx) × Int)) => match z with | .inl (s39 : Tx) => ((ref12_settle s39).bind fun (x40 : Tx) => ((ref12_set l_ x9 x40).bind fun (x41 : (List Tx)) => some (x41, 0))) | .inr r => some r)) else none))))))))
theorem ref12_Note_ok {h : Heap} {l_ : (List Tx)} {e_ : AEntry}   {r : ((List Tx) × Int)} (hm : ref12_Note l_ e_ = some r) : FnOK Try.prog 69 [.o (.c (.L 6 (l_.map Tx.cs))), .o (.agg [I (e_.lsn), I (e_.kind_), I (e_.tx), I (e_.prevTx), I (e_.prevPage), I (e_.ref), I (e_.change.page), I (e_.change.slot), Bo (e_.change.before.set_), .v (.string e_.change.before.data), Bo (e_.change.after.set_), .v (.string e_.change.after.data), .v (.string e_.blob)])] h (fun v h' => v = .tup [.c (.L 6 (r.1.map Tx.cs)), .c (I (r.2))] ∧ h' = h) := by
 refine FnOK.fin ?_
 refine FnOK.bodyC (N := 100) Try.func69 rfl rfl rfl (fun hC => ?_)
 replace hm := Ev.of hm
 rw [ref12_Note.eq_1] at hm
 show CdOK _ _ _ (look _ [(0, .o (.c (.L 6 (l_.map Tx.cs)))), (1, .o (.agg [I (e_.lsn), I (e_.kind_), I (e_.tx), I (e_.prevTx), I (e_.prevPage), I (e_.ref), I (e_.change.page), I (e_.change.slot), Bo (e_.change.before.set_), .v (.string e_.change.before.data), Bo (e_.change.after.set_), .v (.string e_.change.after.data), .v (.string e_.blob)]))]) (h ++ ([] : Heap)) _
 refine .seq (.region (.t (.o (.c (.ptr (h.length + 0) 0))) (e_boxN (L' := [⟨[I (e_.lsn), I (e_.kind_), I (e_.tx), I (e_.prevTx), I (e_.prevPage), I (e_.ref), I (e_.change.page), I (e_.change.slot), Bo (e_.change.before.set_), .v (.string e_.change.before.data), Bo (e_.change.after.set_), .v (.string e_.change.after.data), .v (.string e_.blob)], true, true⟩]) rfl (ev_t rfl) rfl rfl) ?_))
 refine .t (.o (.c (.v (.slice none 0 0)))) (e_as rfl) ?_
 refine .t (VI (0)) (e_as rfl) ?_
 refine .nil (CdOK.seq ?_)
 refine .block ?_
 refine .seq (.region (.m rfl ?_))
 obtain ⟨x1, e1, hm⟩ := hm.call
 refine .cl rfl rfl rfl rfl pl66 (R2.wk _) (ref12_Valid_ok    e1) ?_
 rintro _ _ ⟨rfl, rfl⟩
 refine .t (VB ((!x1))) (e_un (ev_t rfl) rfl) ?_
 refine .a rfl ?_
 refine .nil ?_
 refine CdOK.condB (ev_t rfl) ?_ ?_
 ·intro c2; replace hm := hm.ifp c2
  refine .seq (.region (.t (.o (.c (.v (.slice none 0 0)))) (e_as rfl) ?_))
  refine .t (VI (15)) (e_as rfl) ?_
  refine .nil ?_
  refine CdOK.ret ?_
  refine ⟨.inr rfl, _, rfl, h, _, _, rfl, rfl, hC, ((.tup (R2.of (.c (.wk (.fl _ rfl) (.nlL _))) (R2.of (.c (.fl _ rfl)) (R2.nil _)))) : RenV _ _ _ _ (.tup [.c (.L 6 (([] : List Tx).map Tx.cs)), .c (I (15))])), ?_⟩
  cases hm.ret; exact ⟨rfl, rfl⟩
 intro c3; replace hm := hm.ifn c3
 refine .seq (.region (.t _ (e_ldbA (ev_t rfl) ty59 (bx rfl rfl) rfl rfl) ?_))
 obtain ⟨x4, e4, hm⟩ := hm.call
 refine .cl rfl rfl rfl rfl pl100 (R2.wk _) (ref05_Valid_ok    e4) ?_
 rintro _ _ ⟨rfl, rfl⟩
 refine .t (VB ((!x4))) (e_un (ev_t rfl) rfl) ?_
 refine .a rfl ?_
 refine .nil ?_
 refine CdOK.condB (ev_t rfl) ?_ ?_
 ·intro c5; replace hm := hm.ifp c5
  refine .seq (.region (.t (.o (.c (.v (.slice none 0 0)))) (e_as rfl) ?_))
  refine .t (VI (12)) (e_as rfl) ?_
  refine .nil ?_
  refine CdOK.ret ?_
  refine ⟨.inr rfl, _, rfl, h, _, _, rfl, rfl, hC, ((.tup (R2.of (.c (.wk (.fl _ rfl) (.nlL _))) (R2.of (.c (.fl _ rfl)) (R2.nil _)))) : RenV _ _ _ _ (.tup [.c (.L 6 (([] : List Tx).map Tx.cs)), .c (I (12))])), ?_⟩
  cases hm.ret; exact ⟨rfl, rfl⟩
 intro c6; replace hm := hm.ifn c6
 refine .seq (.region (.t _ (e_fa' fa59_2 (ev_t rfl)) ?_))
 refine .t _ (e_ldb1 (ev_t rfl) ty3 (bx rfl rfl) rfl) ?_
 refine .t (VB (decide (e_.tx = 0))) (e_eqK (ev_t rfl) rfl) ?_
 refine .a rfl ?_
 refine .nil ?_
 refine CdOK.condD (ev_t rfl) ?_ ?_
 ·intro c7; replace hm := hm.ifp c7
  refine .seq (.region (.m rfl ?_))
  refine .a rfl ?_
  refine .t (VI (0)) (e_as rfl) ?_
  refine .nil ?_
  refine CdOK.ret ?_
  refine ⟨.inr rfl, _, rfl, h, _, _, rfl, rfl, hC, ((renFlV rfl) : RenV _ _ _ _ (.tup [.c (.L 6 (l_.map Tx.cs)), .c (I (0))])), ?_⟩
  cases hm.ret; exact ⟨rfl, rfl⟩
 intro c8; replace hm := hm.ifn c8
 refine .skip ?_
 refine CdOK.seq (.region (.m rfl ?_))
 refine .t _ (e_fa' fa59_2 (ev_t rfl)) ?_
 refine .t _ (e_ldb1 (ev_t rfl) ty3 (bx rfl rfl) rfl) ?_
 obtain ⟨x9, e9, hm⟩ := hm.call
 refine .cl rfl rfl rfl rfl pl140 (R2.wk _) (ref12_find_ok    e9) ?_
 rintro _ _ ⟨rfl, rfl⟩
 refine .a rfl ?_
 refine .nil (CdOK.seq (.seq (.region (.m rfl ?_))))
 refine .t (VB (decide (x9 < 0))) (e_bin (ev_t rfl) rfl rfl rfl) ?_
 refine .nil ?_
 refine CdOK.condD (ev_t rfl) ?_ ?_
 ·intro c10; replace hm := hm.ifp c10
  refine .seq (.region (.t (.o (.c (.v (.slice none 0 0)))) (e_as rfl) ?_))
  refine .t (VI (16)) (e_as rfl) ?_
  refine .nil ?_
  refine CdOK.ret ?_
  refine ⟨.inr rfl, _, rfl, h, _, _, rfl, rfl, hC, ((.tup (R2.of (.c (.wk (.fl _ rfl) (.nlL _))) (R2.of (.c (.fl _ rfl)) (R2.nil _)))) : RenV _ _ _ _ (.tup [.c (.L 6 (([] : List Tx).map Tx.cs)), .c (I (16))])), ?_⟩
  cases hm.ret; exact ⟨rfl, rfl⟩
 intro c11; replace hm := hm.ifn c11
 refine .skip ?_
 refine CdOK.seq (.region ?_)
 iterate 2 refine .m rfl ?_
 obtain ⟨c12, hm⟩ := hm.ifs
 refine .t (.o (.c (.rp [I ((gd l_ x9).id_), I ((gd l_ x9).state), I ((gd l_ x9).last), I ((gd l_ x9).until_), .L 1 (((gd l_ x9).pending).map cI), .L 1 (((gd l_ x9).saves).map cI)]))) (e_ixM (f := Tx.cs) (l := l_) (i := x9) (ev_t rfl) (ev_t rfl) el92 c12) ?_
 refine .t _ (e_ldRA (ev_t rfl) ty108 rfl rfl) ?_
 refine .t (.o (.c (.ptr (h.length + 1) 0))) (e_allocN (L' := [⟨[I (e_.lsn), I (e_.kind_), I (e_.tx), I (e_.prevTx), I (e_.prevPage), I (e_.ref), I (e_.change.page), I (e_.change.slot), Bo (e_.change.before.set_), .v (.string e_.change.before.data), Bo (e_.change.after.set_), .v (.string e_.change.after.data), .v (.string e_.blob)], true, true⟩, ⟨[I (0), I (0), I (0), I (0), .v (.slice none 0 0), .v (.slice none 0 0)], true, true⟩]) rfl zo108 rfl rfl) ?_
 refine .s0 rfl rfl (e_stN (L' := [⟨[I (e_.lsn), I (e_.kind_), I (e_.tx), I (e_.prevTx), I (e_.prevPage), I (e_.ref), I (e_.change.page), I (e_.change.slot), Bo (e_.change.before.set_), .v (.string e_.change.before.data), Bo (e_.change.after.set_), .v (.string e_.change.after.data), .v (.string e_.blob)], true, true⟩, ⟨[I ((gd l_ x9).id_), I ((gd l_ x9).state), I ((gd l_ x9).last), I ((gd l_ x9).until_), .L 1 (((gd l_ x9).pending).map cI), .L 1 (((gd l_ x9).saves).map cI)], true, true⟩]) rfl (ev_t rfl) (ev_t rfl) ty108 rfl rfl rfl rfl rfl) ?_
 refine .nil (CdOK.seq (.seq (.region (.t _ (e_fa' fa59_3 (ev_t rfl)) ?_))))
 refine .t _ (e_ldb1 (ev_t rfl) ty3 (bx rfl rfl) rfl) ?_
 refine .t _ (e_fa' fa108_2 (ev_t rfl)) ?_
 refine .t _ (e_ldb1 (ev_t rfl) ty3 (bx rfl rfl) rfl) ?_
 refine .t (VB (decide (e_.prevTx ≠ ((gd l_ x9).last)))) (e_neK (ev_t rfl) (ev_t rfl)) ?_
 refine .nil ?_
 refine CdOK.condD (ev_t rfl) ?_ ?_
 ·intro c13; replace hm := hm.ifp c13
  refine .seq (.region (.t (.o (.c (.v (.slice none 0 0)))) (e_as rfl) ?_))
  refine .t (VI (13)) (e_as rfl) ?_
  refine .nil ?_
  refine CdOK.ret ?_
  refine ⟨.inr rfl, _, rfl, h, _, _, rfl, rfl, hC, ((.tup (R2.of (.c (.wk (.fl _ rfl) (.nlL _))) (R2.of (.c (.fl _ rfl)) (R2.nil _)))) : RenV _ _ _ _ (.tup [.c (.L 6 (([] : List Tx).map Tx.cs)), .c (I (13))])), ?_⟩
  cases hm.ret; exact ⟨rfl, rfl⟩
 intro c14; replace hm := hm.ifn c14
 refine .skip ?_
 refine CdOK.seq (.region (.t _ (e_fa' fa59_0 (ev_t rfl)) ?_))
 refine .t _ (e_ldb1 (ev_t rfl) ty3 (bx rfl rfl) rfl) ?_
 refine .t _ (e_fa' fa108_2 (ev_t rfl)) ?_
 refine .s0 rfl rfl (e_stN (L' := [⟨[I (e_.lsn), I (e_.kind_), I (e_.tx), I (e_.prevTx), I (e_.prevPage), I (e_.ref), I (e_.change.page), I (e_.change.slot), Bo (e_.change.before.set_), .v (.string e_.change.before.data), Bo (e_.change.after.set_), .v (.string e_.change.after.data), .v (.string e_.blob)], true, true⟩, ⟨[I ((gd l_ x9).id_), I ((gd l_ x9).state), I (e_.lsn), I ((gd l_ x9).until_), .L 1 (((gd l_ x9).pending).map cI), .L 1 (((gd l_ x9).saves).map cI)], true, true⟩]) rfl (ev_t rfl) (ev_t rfl) ty3 rfl rfl rfl rfl rfl) ?_
 refine .nil ?_
 replace hm := hm.bnd
 refine CdOK.joinE (σ := Tx) (fun s => Sum.inl s) hm (fun s => [(0, .o (.c (.L 6 (l_.map Tx.cs)))), (6, VI (x9)), (7, .o (.c (.ptr (h.length + 0) 0)))]) (fun s => h ++ ([⟨[I (s.id_), I (s.state), I (s.last), I (s.until_), .L 1 (s.pending.map cI), .L 1 (s.saves.map cI)], true, true⟩] : Heap)) ?_ ?_
 ·intro hm
  refine .seq (.region (.t _ (e_fa' fa59_1 (ev_t rfl)) ?_))
  refine .t _ (e_ldb1 (ev_t rfl) ty3 (bx rfl rfl) rfl) ?_
  refine .nil ?_
  refine CdOK.block ?_
  refine .seq (.region (.t (VB (decide (e_.kind_ = 1))) (e_eqK (ev_t rfl) rfl) ?_))
  refine .a rfl ?_
  refine .nil ?_
  refine CdOK.condD (ev_t rfl) ?_ ?_
  ·intro c16; replace hm := hm.ifp c16
   refine .draw2 (ord := [0, 1, 3, 4, 5, 2, 6, 7, 8]) (chain := [2, 6, 8]) fol (by decide +kernel) (by decide +kernel) ?_
   refine .p _ (e_fa' fa108_4 (ev_t rfl)) ?_
   refine .q _ (e_ldb1 (ev_t rfl) ty27 (bx rfl rfl) rfl) ?_
   refine .p _ (e_fa' fa59_0 (ev_t rfl)) ?_
   refine .q _ (e_ldb1 (ev_t rfl) ty3 (bx rfl rfl) rfl) ?_
   refine .p (.o (.c (.LC 1 (([e_.lsn] : List Int).map cI)))) (e_lit (cs := [I (e_.lsn)]) (xs := ([e_.lsn]).map cI) slt27 nl27 rfl rfl rfl rfl rfl) ?_
   obtain ⟨c17, hm⟩ := hm.ifs
   refine .c (v := .o (.c (.g (h.length + 2) (((gd l_ x9).pending).length) 1 (decide (0 < ((gd l_ x9).pending).length))))) rfl rfl rfl rfl rfl (e_apN (k := 1) (q := 17592186044416) (m := ((gd l_ x9).pending).length) (lv := (decide (0 < ((gd l_ x9).pending).length))) (f := cI) (xs := (gd l_ x9).pending) (L' := [⟨[I (e_.lsn), I (e_.kind_), I (e_.tx), I (e_.prevTx), I (e_.prevPage), I (e_.ref), I (e_.change.page), I (e_.change.slot), Bo (e_.change.before.set_), .v (.string e_.change.before.data), Bo (e_.change.after.set_), .v (.string e_.change.after.data), .v (.string e_.blob)], true, true⟩, ⟨[I ((gd l_ x9).id_), I ((gd l_ x9).state), I (e_.lsn), I ((gd l_ x9).until_), .L 1 (((gd l_ x9).pending).map cI), .L 1 (((gd l_ x9).saves).map cI)], true, true⟩, ⟨(((gd l_ x9).pending).map cI).flatten, true, (decide (0 < ((gd l_ x9).pending).length))⟩]) slt27 rfl rfl (ev_t rfl) src_L c17 rfl rfl rfl rfl) (.e rfl rfl (e_ldb1 (ev_t rfl) ty3 (bx rfl rfl) rfl) (.m (by decide +kernel) .nil)) ?_
   obtain ⟨c18, hm⟩ := hm.ifs
   refine .c (v := .o (.c (.g (h.length + 3) ((((gd l_ x9).pending ++ ([e_.lsn] : List Int))).length) 1 ((decide (0 < ((gd l_ x9).pending).length)) || decide (0 < ([e_.lsn] : List Int).length))))) rfl rfl rfl rfl rfl (e_apG (k := 1) (q := 17592186044416) (m := ([e_.lsn] : List Int).length) (j := 2) (f := cI) (xs := ((gd l_ x9).pending)) (ys := ([e_.lsn] : List Int)) (L' := [⟨[I (e_.lsn), I (e_.kind_), I (e_.tx), I (e_.prevTx), I (e_.prevPage), I (e_.ref), I (e_.change.page), I (e_.change.slot), Bo (e_.change.before.set_), .v (.string e_.change.before.data), Bo (e_.change.after.set_), .v (.string e_.change.after.data), .v (.string e_.blob)], true, true⟩, ⟨[I ((gd l_ x9).id_), I ((gd l_ x9).state), I (e_.lsn), I ((gd l_ x9).until_), .L 1 (((gd l_ x9).pending).map cI), .L 1 (((gd l_ x9).saves).map cI)], true, true⟩, ⟨(((gd l_ x9).pending).map cI).flatten, true, false⟩, ⟨(((gd l_ x9).pending ++ ([e_.lsn] : List Int)).map cI).flatten, true, ((decide (0 < ((gd l_ x9).pending).length)) || decide (0 < ([e_.lsn] : List Int).length))⟩]) slt27 rfl (ev_t rfl) (ev_t rfl) (bx rfl rfl) (by intro x; rfl) src_LC rfl c18 rfl (by first | rfl | simp) rfl rfl) (.m (by decide +kernel) (.m (by decide +kernel) .nil)) ?_
   refine .p _ (e_fa' fa108_4 (ev_t rfl)) ?_
   refine .c0 rfl rfl rfl rfl (e_stN (L' := [⟨[I (e_.lsn), I (e_.kind_), I (e_.tx), I (e_.prevTx), I (e_.prevPage), I (e_.ref), I (e_.change.page), I (e_.change.slot), Bo (e_.change.before.set_), .v (.string e_.change.before.data), Bo (e_.change.after.set_), .v (.string e_.change.after.data), .v (.string e_.blob)], true, true⟩, ⟨[I ((gd l_ x9).id_), I ((gd l_ x9).state), I (e_.lsn), I ((gd l_ x9).until_), .g (h.length + 3) ((((gd l_ x9).pending ++ ([e_.lsn] : List Int))).length) 1 ((decide (0 < ((gd l_ x9).pending).length)) || decide (0 < ([e_.lsn] : List Int).length)), .L 1 (((gd l_ x9).saves).map cI)], true, true⟩, ⟨(((gd l_ x9).pending).map cI).flatten, true, false⟩, ⟨(((gd l_ x9).pending ++ ([e_.lsn] : List Int)).map cI).flatten, true, ((decide (0 < ((gd l_ x9).pending).length)) || decide (0 < ([e_.lsn] : List Int).length))⟩]) rfl (ev_t rfl) (ev_t rfl) ty27 rfl rfl rfl rfl rfl) (.m (by decide +kernel) (.m (by decide +kernel) .nil)) ?_
   refine .nil ?_
   refine .re (σ := [1]) (X := [(0, .o (.c (.L 6 (l_.map Tx.cs)))), (6, VI (x9)), (7, .o (.c (.ptr (h.length + 0) 0)))]) (L' := [⟨[I ((⟨(gd l_ x9).id_, (gd l_ x9).state, e_.lsn, (gd l_ x9).until_, ((gd l_ x9).pending ++ ([e_.lsn] : List Int)), (gd l_ x9).saves⟩ : Tx).id_), I ((⟨(gd l_ x9).id_, (gd l_ x9).state, e_.lsn, (gd l_ x9).until_, ((gd l_ x9).pending ++ ([e_.lsn] : List Int)), (gd l_ x9).saves⟩ : Tx).state), I ((⟨(gd l_ x9).id_, (gd l_ x9).state, e_.lsn, (gd l_ x9).until_, ((gd l_ x9).pending ++ ([e_.lsn] : List Int)), (gd l_ x9).saves⟩ : Tx).last), I ((⟨(gd l_ x9).id_, (gd l_ x9).state, e_.lsn, (gd l_ x9).until_, ((gd l_ x9).pending ++ ([e_.lsn] : List Int)), (gd l_ x9).saves⟩ : Tx).until_), .L 1 ((⟨(gd l_ x9).id_, (gd l_ x9).state, e_.lsn, (gd l_ x9).until_, ((gd l_ x9).pending ++ ([e_.lsn] : List Int)), (gd l_ x9).saves⟩ : Tx).pending.map cI), .L 1 ((⟨(gd l_ x9).id_, (gd l_ x9).state, e_.lsn, (gd l_ x9).until_, ((gd l_ x9).pending ++ ([e_.lsn] : List Int)), (gd l_ x9).saves⟩ : Tx).saves.map cI)], true, true⟩]) rfl rfl hC (by decide) (.obj 1 rfl (R2.of (.fl _ rfl) (R2.of (.fl _ rfl) (R2.of (.fl _ rfl) (R2.of (.fl _ rfl) (R2.of (.fzg 3 _ 1 _ (((gd l_ x9).pending ++ ([e_.lsn] : List Int)).map cI) rfl (by decide) (by first | exact List.length_map .. | simp) (lens_all (by intro x; rfl)) (vl_all (by intro x; rfl))) (R2.of (.fl _ rfl) (R2.nil _))))))) .nil) (.cons (renFlV rfl) (.cons (renFlV rfl) (.cons (.o (.c (.ptr 1 0 _ rfl))) .nil))) ?_
   exact ⟨(⟨(gd l_ x9).id_, (gd l_ x9).state, e_.lsn, (gd l_ x9).until_, ((gd l_ x9).pending ++ ([e_.lsn] : List Int)), (gd l_ x9).saves⟩ : Tx), hm.ret, (.cons rfl (.cons rfl (.cons rfl .nil))), rfl⟩
  intro c19; replace hm := hm.ifn c19
  refine .seq (.region (.t (VB (decide (e_.kind_ = 2))) (e_eqK (ev_t rfl) rfl) ?_))
  refine .a rfl ?_
  refine .nil ?_
  refine CdOK.condD (ev_t rfl) ?_ ?_
  ·intro c20; replace hm := hm.ifp c20
   refine .seq (.region (.t (.o (.c (.v (.slice none 0 0)))) (e_as rfl) ?_))
   refine .nil (CdOK.seq (.seq (.region (.t (VI (0)) (e_as rfl) ?_))))
   refine .nil ?_
   replace hm := hm.bnd
   refine CdOK.joinT (σ := (List Int)) (fun s => s) hm (fun s => [(0, .o (.c (.L 6 (l_.map Tx.cs)))), (6, VI (x9)), (7, .o (.c (.ptr (h.length + 0) 0))), (8, .o (.c (.L 1 (s.map cI))))]) (fun s => h ++ ([⟨[I ((gd l_ x9).id_), I ((gd l_ x9).state), I (e_.lsn), I ((gd l_ x9).until_), .L 1 (((gd l_ x9).pending).map cI), .L 1 (((gd l_ x9).saves).map cI)], true, true⟩] : Heap)) ?_ ?_
   ·intro hm
    refine .block ?_
    refine .re (σ := [0, 1, 1002]) (X := [(0, .o (.c (.L 6 (l_.map Tx.cs)))), (3, .o (.c (.ptr (h.length + 0) 0))), (6, VI (x9)), (7, .o (.c (.ptr (h.length + 1) 0))), (8, .o (.c (.g (h.length + 2) ((([] : List Int)).length) 1 false))), (9, VI (0))]) (L' := [⟨[I (e_.lsn), I (e_.kind_), I (e_.tx), I (e_.prevTx), I (e_.prevPage), I (e_.ref), I (e_.change.page), I (e_.change.slot), Bo (e_.change.before.set_), .v (.string e_.change.before.data), Bo (e_.change.after.set_), .v (.string e_.change.after.data), .v (.string e_.blob)], true, true⟩, ⟨[I ((gd l_ x9).id_), I ((gd l_ x9).state), I (e_.lsn), I ((gd l_ x9).until_), .L 1 (((gd l_ x9).pending).map cI), .L 1 (((gd l_ x9).saves).map cI)], true, true⟩, ⟨(([] : List Int).map cI).flatten, true, false⟩]) rfl rfl hC (by decide) (.obj 0 rfl (renFl rfl) (.obj 1 rfl (renFl rfl) (.dead 1002 _ rfl .nil))) (.cons (renFlV rfl) (.cons (.o (.c (.ptr 0 0 _ rfl))) (.cons (renFlV rfl) (.cons (.o (.c (.ptr 1 1 _ rfl))) (.cons (.o (.c (.nilg _ _))) (.cons (renFlV rfl) .nil)))))) ?_
    refine .loopE (σ := ((List Int) × Int × Bool)) (fun k s => Ev (ref12_Note.l1 l_ e_ x9 k s.1 s.2.1) _) (fun s => [(0, .o (.c (.L 6 (l_.map Tx.cs)))), (3, .o (.c (.ptr (h.length + 0) 0))), (6, VI (x9)), (7, .o (.c (.ptr (h.length + 1) 0))), (8, .o (.c (.g (h.length + 2) ((s.1).length) 1 s.2.2))), (9, VI (s.2.1))]) (fun s => h ++ ([⟨[I (e_.lsn), I (e_.kind_), I (e_.tx), I (e_.prevTx), I (e_.prevPage), I (e_.ref), I (e_.change.page), I (e_.change.slot), Bo (e_.change.before.set_), .v (.string e_.change.before.data), Bo (e_.change.after.set_), .v (.string e_.change.after.data), .v (.string e_.blob)], true, true⟩, ⟨[I ((gd l_ x9).id_), I ((gd l_ x9).state), I (e_.lsn), I ((gd l_ x9).until_), .L 1 (((gd l_ x9).pending).map cI), .L 1 (((gd l_ x9).saves).map cI)], true, true⟩, ⟨(s.1.map cI).flatten, true, s.2.2⟩] : Heap)) FU (([] : List Int), 0, false) hm (.cons rfl (.cons rfl (.cons rfl (.cons rfl (.cons rfl (.cons rfl .nil)))))) rfl ?_
    rintro kk24 ⟨rest22, k23, rest22v⟩ T0 hm
    replace hm : Ev (ref12_Note.l1 l_ e_ x9 kk24 rest22 k23) _ := hm
    cases kk24 with
    | zero => exact (Ev.non hm).elim
    | succ kk24 =>
    rw [ref12_Note.l1.eq_2] at hm
    show CdOK _ _ _ (look T0 [(0, .o (.c (.L 6 (l_.map Tx.cs)))), (3, .o (.c (.ptr (h.length + 0) 0))), (6, VI (x9)), (7, .o (.c (.ptr (h.length + 1) 0))), (8, .o (.c (.g (h.length + 2) ((rest22).length) 1 rest22v))), (9, VI (k23))]) (h ++ ([⟨[I (e_.lsn), I (e_.kind_), I (e_.tx), I (e_.prevTx), I (e_.prevPage), I (e_.ref), I (e_.change.page), I (e_.change.slot), Bo (e_.change.before.set_), .v (.string e_.change.before.data), Bo (e_.change.after.set_), .v (.string e_.change.after.data), .v (.string e_.blob)], true, true⟩, ⟨[I ((gd l_ x9).id_), I ((gd l_ x9).state), I (e_.lsn), I ((gd l_ x9).until_), .L 1 (((gd l_ x9).pending).map cI), .L 1 (((gd l_ x9).saves).map cI)], true, true⟩, ⟨(rest22.map cI).flatten, true, rest22v⟩] : Heap)) _
    iterate 2 refine .seq ?_
    refine .region (.m rfl ?_)
    refine .t _ (e_fa' fa108_4 (ev_t rfl)) ?_
    refine .t _ (e_ldb1 (ev_t rfl) ty27 (bx rfl rfl) rfl) ?_
    refine .t (VI ((((gd l_ x9).pending).length : Int))) (e_lenM (ev_t rfl) is27) ?_
    refine .t (VB (decide (k23 < (((gd l_ x9).pending).length : Int)))) (e_bin (ev_t rfl) (ev_t rfl) rfl rfl) ?_
    refine .nil ?_
    refine CdOK.condD (ev_t rfl) ?_ ?_
    ·intro c25; replace hm := hm.ifp c25
     refine .skip ?_
     refine CdOK.seq ?_
     refine .block ?_
     refine .seq ?_
     refine .draw fol (by decide +kernel) ?_
     refine .t _ (e_fa' fa108_4 (ev_t rfl)) ?_
     refine .t _ (e_ldb1 (ev_t rfl) ty27 (bx rfl rfl) rfl) ?_
     refine .m rfl ?_
     obtain ⟨c26, hm⟩ := hm.ifs
     refine .t (.o (.c (.rp [I ((gd ((gd l_ x9).pending) k23))]))) (e_ixM (f := cI) (l := (gd l_ x9).pending) (i := k23) (ev_t rfl) (ev_t rfl) el27 c26) ?_
     refine .t _ (e_ldR1 (ev_t rfl) ty3 rfl) ?_
     refine .t _ (e_fa' fa59_5 (ev_t rfl)) ?_
     refine .t _ (e_ldb1 (ev_t rfl) ty3 (bx rfl rfl) rfl) ?_
     refine .t (VB (decide ((gd ((gd l_ x9).pending) k23) ≠ e_.ref))) (e_neK (ev_t rfl) (ev_t rfl)) ?_
     refine .nil ?_
     refine CdOK.condD (ev_t rfl) ?_ ?_
     ·intro c27; replace hm := hm.ifp c27
      refine .region (.m rfl ?_)
      refine .t _ (e_fa' fa108_4 (ev_t rfl)) ?_
      refine .t _ (e_ldb1 (ev_t rfl) ty27 (bx rfl rfl) rfl) ?_
      refine .m rfl ?_
      obtain ⟨c28, hm⟩ := hm.ifs
      refine .t (.o (.c (.rp [I ((gd ((gd l_ x9).pending) k23))]))) (e_ixM (f := cI) (l := (gd l_ x9).pending) (i := k23) (ev_t rfl) (ev_t rfl) el27 c28) ?_
      refine .t _ (e_ldR1 (ev_t rfl) ty3 rfl) ?_
      refine .t (.o (.c (.LC 1 (([(gd ((gd l_ x9).pending) k23)] : List Int).map cI)))) (e_lit (cs := [I ((gd ((gd l_ x9).pending) k23))]) (xs := ([(gd ((gd l_ x9).pending) k23)]).map cI) slt27 nl27 rfl rfl rfl rfl rfl) ?_
      obtain ⟨c29, hm⟩ := hm.ifs
      refine .t (.o (.c (.g (h.length + 3) (((rest22 ++ ([(gd ((gd l_ x9).pending) k23)] : List Int))).length) 1 (rest22v || decide (0 < ([(gd ((gd l_ x9).pending) k23)] : List Int).length))))) (e_apG (k := 1) (q := 17592186044416) (m := ([(gd ((gd l_ x9).pending) k23)] : List Int).length) (j := 2) (f := cI) (xs := rest22) (ys := ([(gd ((gd l_ x9).pending) k23)] : List Int)) (L' := [⟨[I (e_.lsn), I (e_.kind_), I (e_.tx), I (e_.prevTx), I (e_.prevPage), I (e_.ref), I (e_.change.page), I (e_.change.slot), Bo (e_.change.before.set_), .v (.string e_.change.before.data), Bo (e_.change.after.set_), .v (.string e_.change.after.data), .v (.string e_.blob)], true, true⟩, ⟨[I ((gd l_ x9).id_), I ((gd l_ x9).state), I (e_.lsn), I ((gd l_ x9).until_), .L 1 (((gd l_ x9).pending).map cI), .L 1 (((gd l_ x9).saves).map cI)], true, true⟩, ⟨(rest22.map cI).flatten, true, false⟩, ⟨((rest22 ++ ([(gd ((gd l_ x9).pending) k23)] : List Int)).map cI).flatten, true, (rest22v || decide (0 < ([(gd ((gd l_ x9).pending) k23)] : List Int).length))⟩]) slt27 rfl (ev_t rfl) (ev_t rfl) (bx rfl rfl) (by intro x; rfl) src_LC rfl c29 rfl (by first | rfl | simp) rfl rfl) ?_
      refine .a rfl ?_
      refine .nil (CdOK.region (.m rfl ?_))
      refine .t (VI ((w64 (k23 + 1)))) (e_bin (ev_t rfl) rfl rfl rfl) ?_
      refine .a rfl ?_
      refine .nil ?_
      refine .re (σ := [0, 1, 3]) (X := [(0, .o (.c (.L 6 (l_.map Tx.cs)))), (3, .o (.c (.ptr (h.length + 0) 0))), (6, VI (x9)), (7, .o (.c (.ptr (h.length + 1) 0))), (8, .o (.c (.g (h.length + 2) (((rest22 ++ ([(gd ((gd l_ x9).pending) k23)] : List Int))).length) 1 (rest22v || decide (0 < ([(gd ((gd l_ x9).pending) k23)] : List Int).length))))), (9, VI ((w64 (k23 + 1))))]) (L' := [⟨[I (e_.lsn), I (e_.kind_), I (e_.tx), I (e_.prevTx), I (e_.prevPage), I (e_.ref), I (e_.change.page), I (e_.change.slot), Bo (e_.change.before.set_), .v (.string e_.change.before.data), Bo (e_.change.after.set_), .v (.string e_.change.after.data), .v (.string e_.blob)], true, true⟩, ⟨[I ((gd l_ x9).id_), I ((gd l_ x9).state), I (e_.lsn), I ((gd l_ x9).until_), .L 1 (((gd l_ x9).pending).map cI), .L 1 (((gd l_ x9).saves).map cI)], true, true⟩, ⟨((rest22 ++ ([(gd ((gd l_ x9).pending) k23)] : List Int)).map cI).flatten, true, (rest22v || decide (0 < ([(gd ((gd l_ x9).pending) k23)] : List Int).length))⟩]) rfl rfl hC (by decide) (.obj 0 rfl (renFl rfl) (.obj 1 rfl (renFl rfl) (.obj 3 rfl (renFl (flat_all (f := cI) (l := (rest22 ++ ([(gd ((gd l_ x9).pending) k23)] : List Int))) (by intro x; rfl))) .nil))) (.cons (renFlV rfl) (.cons (.o (.c (.ptr 0 0 _ rfl))) (.cons (renFlV rfl) (.cons (.o (.c (.ptr 1 1 _ rfl))) (.cons (.o (.c (.gg 3 2 _ _ _ _ _ rfl (by first | rfl | (simp; done) | (dsimp only at *; simp only [List.length_take]; omega)) rfl))) (.cons (renFlV rfl) .nil)))))) ?_
      exact ⟨_, ((rest22 ++ ([(gd ((gd l_ x9).pending) k23)] : List Int)), (w64 (k23 + 1)), (rest22v || decide (0 < ([(gd ((gd l_ x9).pending) k23)] : List Int).length))), Nat.lt_succ_self _, hm, (.cons rfl (.cons rfl (.cons rfl (.cons rfl (.cons rfl (.cons rfl .nil)))))), rfl⟩
     intro c30; replace hm := hm.ifn c30
     refine .skip ?_
     refine CdOK.region (.m rfl ?_)
     refine .t (VI ((w64 (k23 + 1)))) (e_bin (ev_t rfl) rfl rfl rfl) ?_
     refine .a rfl ?_
     refine .nil (.id ?_)
     exact ⟨_, (rest22, (w64 (k23 + 1)), rest22v), Nat.lt_succ_self _, hm, (.cons rfl (.cons rfl (.cons rfl (.cons rfl (.cons rfl (.cons rfl .nil)))))), rfl⟩
    intro c31; replace hm := hm.ifn c31
    refine .exit ?_
    refine .re (σ := [1]) (X := [(0, .o (.c (.L 6 (l_.map Tx.cs)))), (6, VI (x9)), (7, .o (.c (.ptr (h.length + 0) 0))), (8, .o (.c (.L 1 (rest22.map cI))))]) (L' := [⟨[I ((gd l_ x9).id_), I ((gd l_ x9).state), I (e_.lsn), I ((gd l_ x9).until_), .L 1 (((gd l_ x9).pending).map cI), .L 1 (((gd l_ x9).saves).map cI)], true, true⟩]) rfl rfl hC (by decide) (.obj 1 rfl (renFl rfl) .nil) (.cons (renFlV rfl) (.cons (renFlV rfl) (.cons (.o (.c (.ptr 1 0 _ rfl))) (.cons (.o (.c (.fzg 2 _ 1 _ (rest22.map cI) rfl (by decide) (by first | exact List.length_map .. | simp) (lens_all (by intro x; rfl)) (vl_all (by intro x; rfl))))) .nil)))) ?_
    exact ⟨rest22, hm.ret, (.cons rfl (.cons rfl (.cons rfl (.cons rfl .nil)))), rfl⟩
   rintro rest21 T0 hm
   refine CdOK.seq (.seq (.region (.m rfl ?_)))
   refine .t (VI ((rest21.length : Int))) (e_lenM (ev_t rfl) is27) ?_
   refine .t _ (e_fa' fa108_4 (ev_t rfl)) ?_
   refine .t _ (e_ldb1 (ev_t rfl) ty27 (bx rfl rfl) rfl) ?_
   refine .t (VI ((((gd l_ x9).pending).length : Int))) (e_lenM (ev_t rfl) is27) ?_
   refine .t (VB (decide ((rest21.length : Int) = (((gd l_ x9).pending).length : Int)))) (e_eqK (ev_t rfl) (ev_t rfl)) ?_
   refine .nil ?_
   refine CdOK.condD (ev_t rfl) ?_ ?_
   ·intro c33; replace hm := hm.ifp c33
    refine .seq (.region (.t (.o (.c (.v (.slice none 0 0)))) (e_as rfl) ?_))
    refine .t (VI (13)) (e_as rfl) ?_
    refine .nil ?_
    refine CdOK.ret ?_
    refine ⟨.inr rfl, _, rfl, h, _, _, rfl, rfl, hC, ((.tup (R2.of (.c (.wk (.fl _ rfl) (.nlL _))) (R2.of (.c (.fl _ rfl)) (R2.nil _)))) : RenV _ _ _ _ (.tup [.c (.L 6 (([] : List Tx).map Tx.cs)), .c (I (13))])), ?_⟩
    have hr := hm.ret; replace hr := Ev.ret hr; cases hr; exact ⟨rfl, rfl⟩
   intro c34; replace hm := hm.ifn c34
   refine .skip ?_
   refine CdOK.region (.m rfl ?_)
   refine .t _ (e_fa' fa108_4 (ev_t rfl)) ?_
   refine .s0 rfl rfl (e_stN (L' := [⟨[I ((gd l_ x9).id_), I ((gd l_ x9).state), I (e_.lsn), I ((gd l_ x9).until_), .L 1 (rest21.map cI), .L 1 (((gd l_ x9).saves).map cI)], true, true⟩]) rfl (ev_t rfl) (ev_t rfl) ty27 rfl rfl rfl rfl rfl) ?_
   refine .nil (.id ?_)
   exact ⟨(⟨(gd l_ x9).id_, (gd l_ x9).state, e_.lsn, (gd l_ x9).until_, rest21, (gd l_ x9).saves⟩ : Tx), hm.ret, (.cons rfl (.cons rfl (.cons rfl .nil))), rfl⟩
  intro c35; replace hm := hm.ifn c35
  refine .seq (.region (.t (VB (decide (e_.kind_ = 4))) (e_eqK (ev_t rfl) rfl) ?_))
  refine .a rfl ?_
  refine .nil ?_
  refine CdOK.condD (ev_t rfl) ?_ ?_
  ·intro c36; replace hm := hm.ifp c36
   refine .region (.t _ (e_fa' fa108_1 (ev_t rfl)) ?_)
   refine .s0 rfl rfl (e_stN (L' := [⟨[I (e_.lsn), I (e_.kind_), I (e_.tx), I (e_.prevTx), I (e_.prevPage), I (e_.ref), I (e_.change.page), I (e_.change.slot), Bo (e_.change.before.set_), .v (.string e_.change.before.data), Bo (e_.change.after.set_), .v (.string e_.change.after.data), .v (.string e_.blob)], true, true⟩, ⟨[I ((gd l_ x9).id_), I (3), I (e_.lsn), I ((gd l_ x9).until_), .L 1 (((gd l_ x9).pending).map cI), .L 1 (((gd l_ x9).saves).map cI)], true, true⟩]) rfl (ev_t rfl) rfl ty3 rfl rfl rfl rfl rfl) ?_
   refine .t _ (e_fa' fa108_3 (ev_t rfl)) ?_
   refine .s0 rfl rfl (e_stN (L' := [⟨[I (e_.lsn), I (e_.kind_), I (e_.tx), I (e_.prevTx), I (e_.prevPage), I (e_.ref), I (e_.change.page), I (e_.change.slot), Bo (e_.change.before.set_), .v (.string e_.change.before.data), Bo (e_.change.after.set_), .v (.string e_.change.after.data), .v (.string e_.blob)], true, true⟩, ⟨[I ((gd l_ x9).id_), I (3), I (e_.lsn), I (0), .L 1 (((gd l_ x9).pending).map cI), .L 1 (((gd l_ x9).saves).map cI)], true, true⟩]) rfl (ev_t rfl) rfl ty3 rfl rfl rfl rfl rfl) ?_
   refine .t _ (e_fa' fa108_5 (ev_t rfl)) ?_
   refine .s0 rfl rfl (e_stN (L' := [⟨[I (e_.lsn), I (e_.kind_), I (e_.tx), I (e_.prevTx), I (e_.prevPage), I (e_.ref), I (e_.change.page), I (e_.change.slot), Bo (e_.change.before.set_), .v (.string e_.change.before.data), Bo (e_.change.after.set_), .v (.string e_.change.after.data), .v (.string e_.blob)], true, true⟩, ⟨[I ((gd l_ x9).id_), I (3), I (e_.lsn), I (0), .L 1 (((gd l_ x9).pending).map cI), .v (.slice none 0 0)], true, true⟩]) rfl (ev_t rfl) rfl ty27 rfl rfl rfl rfl rfl) ?_
   refine .nil ?_
   refine .re (σ := [1]) (X := [(0, .o (.c (.L 6 (l_.map Tx.cs)))), (6, VI (x9)), (7, .o (.c (.ptr (h.length + 0) 0)))]) (L' := [⟨[I ((⟨(gd l_ x9).id_, 3, e_.lsn, 0, (gd l_ x9).pending, ([] : List Int)⟩ : Tx).id_), I ((⟨(gd l_ x9).id_, 3, e_.lsn, 0, (gd l_ x9).pending, ([] : List Int)⟩ : Tx).state), I ((⟨(gd l_ x9).id_, 3, e_.lsn, 0, (gd l_ x9).pending, ([] : List Int)⟩ : Tx).last), I ((⟨(gd l_ x9).id_, 3, e_.lsn, 0, (gd l_ x9).pending, ([] : List Int)⟩ : Tx).until_), .L 1 ((⟨(gd l_ x9).id_, 3, e_.lsn, 0, (gd l_ x9).pending, ([] : List Int)⟩ : Tx).pending.map cI), .L 1 ((⟨(gd l_ x9).id_, 3, e_.lsn, 0, (gd l_ x9).pending, ([] : List Int)⟩ : Tx).saves.map cI)], true, true⟩]) rfl rfl hC (by decide) (.obj 1 rfl (R2.of (.fl _ rfl) (R2.of (.fl _ rfl) (R2.of (.fl _ rfl) (R2.of (.fl _ rfl) (R2.of (.fl _ rfl) (R2.of (.wk (.fl _ rfl) (.nlL _)) (R2.nil _))))))) .nil) (.cons (renFlV rfl) (.cons (renFlV rfl) (.cons (.o (.c (.ptr 1 0 _ rfl))) .nil))) ?_
   exact ⟨(⟨(gd l_ x9).id_, 3, e_.lsn, 0, (gd l_ x9).pending, ([] : List Int)⟩ : Tx), hm.ret, (.cons rfl (.cons rfl (.cons rfl .nil))), rfl⟩
  intro c37; replace hm := hm.ifn c37
  refine .seq (.region (.m rfl ?_))
  refine .t _ (e_fa' fa59_2 (ev_t rfl)) ?_
  refine .t _ (e_ldb1 (ev_t rfl) ty3 (bx rfl rfl) rfl) ?_
  obtain ⟨x38, e38, hm⟩ := hm.call
  refine .cl rfl rfl rfl rfl pl76 (R2.wk _) (ref12_Remove_ok    e38) ?_
  rintro _ _ ⟨rfl, rfl⟩
  refine .a rfl ?_
  refine .t (VI (0)) (e_as rfl) ?_
  refine .nil ?_
  refine CdOK.ret ?_
  refine ⟨.inr rfl, _, rfl, h, _, _, rfl, rfl, hC, ((renFlV rfl) : RenV _ _ _ _ (.tup [.c (.L 6 (x38.map Tx.cs)), .c (I (0))])), ?_⟩
  have hr := hm.ret; replace hr := Ev.ret hr; cases hr; exact ⟨rfl, rfl⟩
 rintro bx15 T0 hm
 show CdOK _ _ _ (look T0 [(0, .o (.c (.L 6 (l_.map Tx.cs)))), (6, VI (x9)), (7, .o (.c (.ptr (h.length + 0) 0)))]) (h ++ ([⟨[I (bx15.id_), I (bx15.state), I (bx15.last), I (bx15.until_), .L 1 (bx15.pending.map cI), .L 1 (bx15.saves.map cI)], true, true⟩] : Heap)) _
 replace hm : Ev _ _ := hm
 refine .seq (.region ?_)
 iterate 2 refine .m rfl ?_
 refine .t _ (e_ldbA (ev_t rfl) ty108 (bx rfl rfl) rfl rfl) ?_
 obtain ⟨x40, e40, hm⟩ := hm.call
 refine .cl rfl rfl rfl rfl pl142 (R2.wk _) (ref12_settle_ok    e40) ?_
 rintro _ _ ⟨rfl, rfl⟩
 obtain ⟨x41, e41, hm⟩ := hm.call
 refine .cl rfl rfl rfl rfl pl141 (R2.wk _) (ref12_set_ok    e41) ?_
 rintro _ _ ⟨rfl, rfl⟩
 refine .a rfl ?_
 refine .t (VI (0)) (e_as rfl) ?_
 refine .nil ?_
 refine CdOK.ret ?_
 refine ⟨.inr rfl, _, rfl, h, _, _, rfl, rfl, hC, ((renFlV rfl) : RenV _ _ _ _ (.tup [.c (.L 6 (x41.map Tx.cs)), .c (I (0))])), ?_⟩
 cases hm.ret; exact ⟨rfl, rfl⟩
end Rv
