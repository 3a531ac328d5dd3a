import Derived.Test.YtnlpkgamglhnbaaRvCmp
set_option linter.unusedVariables false
set_option linter.unusedSimpArgs false
namespace Rv
open Go Go.RowKit Go.Proofs
theorem el27 : ElF Try.prog 27 1 := .of (by decide +kernel)
theorem el92 : ElF Try.prog 92 6 := .of (by decide +kernel)
theorem fa108_0 : fadr Try.prog 108 0 0 = true := by decide +kernel
theorem fa108_1 : fadr Try.prog 108 1 1 = true := by decide +kernel
theorem fa108_2 : fadr Try.prog 108 2 2 = true := by decide +kernel
theorem fa108_3 : fadr Try.prog 108 3 3 = true := by decide +kernel
theorem fa108_4 : fadr Try.prog 108 4 4 = true := by decide +kernel
theorem fa108_5 : fadr Try.prog 108 5 5 = true := by decide +kernel
theorem is27 : isSliceT Try.prog 27 = true := by decide +kernel
theorem is92 : isSliceT Try.prog 92 = true := by decide +kernel
theorem nl27 : nlT Try.prog 27 = [] := by kernel_rfl
theorem nl92 : nlT Try.prog 92 = [(4, 1), (5, 1)] := by kernel_rfl
theorem pl66 : plainFn Try.prog 66 = true := by decide +kernel
theorem pl134 : plainFn Try.prog 134 = true := by decide +kernel
theorem pl140 : plainFn Try.prog 140 = true := by decide +kernel
theorem pl141 : plainFn Try.prog 141 = true := by decide +kernel
theorem pl142 : plainFn Try.prog 142 = true := by decide +kernel
theorem pl143 : plainFn Try.prog 143 = true := by decide +kernel
theorem pl152 : plainFn Try.prog 152 = true := by decide +kernel
theorem slt27 : SlT Try.prog 27 1 ([.v (.int .i64 0)]) 8 := .of (e := 3) (by decide +kernel) (by kernel_rfl) rfl
theorem slt92 : SlT Try.prog 92 6 ([.v (.int .i64 0)] ++ [.v (.int .i64 0)] ++ [.v (.int .i64 0)] ++ [.v (.int .i64 0)] ++ [.v (.slice none 0 0)] ++ [.v (.slice none 0 0)]) 80 := .of (e := 108) (by decide +kernel) (by kernel_rfl) rfl
theorem ty3 : TyF Try.prog 3 false 1 := .of (by decide +kernel)
theorem ty27 : TyF Try.prog 27 false 1 := .of (by decide +kernel)
theorem ty108 : TyF Try.prog 108 true 6 := .of (by decide +kernel)
theorem zo108 : zeroOf Try.prog 108 = some ([.v (.int .i64 0)] ++ [.v (.int .i64 0)] ++ [.v (.int .i64 0)] ++ [.v (.int .i64 0)] ++ [.v (.slice none 0 0)] ++ [.v (.slice none 0 0)]) := by kernel_rfl
def ref12_valid1.l1 (x_ : Tx) : Nat → Int → Option (Sum Unit Bool)
  | 0, _ => none
  | kk27 + 1, i26 => (if i26 < (x_.pending.length : Int) then (if (0 : Int) ≤ i26 ∧ i26 < (x_.pending.length : Int) then (if (gd x_.pending i26) < 1 then some (Sum.inr false) else (if (0 : Int) ≤ i26 ∧ i26 < (x_.pending.length : Int) then (if x_.last < (gd x_.pending i26) then some (Sum.inr false) else (if 0 < i26 then (if (0 : Int) ≤ (w64 (i26 - 1)) ∧ (w64 (i26 - 1)) < (x_.pending.length : Int) then (if (0 : Int) ≤ i26 ∧ i26 < (x_.pending.length : Int) then (if (gd x_.pending i26) ≤ (gd x_.pending (w64 (i26 - 1))) then some (Sum.inr false) else ref12_valid1.l1 x_ kk27 (w64 (i26 + 1))) else none) else none) else ref12_valid1.l1 x_ kk27 (w64 (i26 + 1)))) else none)) else none) else some (Sum.inl ()))
def ref12_valid1.l2 (x_ : Tx) : Nat → Int → Option (Sum Unit Bool)
  | 0, _ => none
  | kk44 + 1, i43 => (if i43 < (x_.saves.length : Int) then (if (0 : Int) ≤ i43 ∧ i43 < (x_.saves.length : Int) then (if (gd x_.saves i43) < 0 then some (Sum.inr false) else (if (0 : Int) ≤ i43 ∧ i43 < (x_.saves.length : Int) then (if x_.last < (gd x_.saves i43) then some (Sum.inr false) else (if 0 < i43 then (if (0 : Int) ≤ (w64 (i43 - 1)) ∧ (w64 (i43 - 1)) < (x_.saves.length : Int) then (if (0 : Int) ≤ i43 ∧ i43 < (x_.saves.length : Int) then (if (gd x_.saves i43) < (gd x_.saves (w64 (i43 - 1))) then some (Sum.inr false) else ref12_valid1.l2 x_ kk44 (w64 (i43 + 1))) else none) else none) else ref12_valid1.l2 x_ kk44 (w64 (i43 + 1)))) else none)) else none) else some (Sum.inl ()))
def ref12_valid1 (x_ : Tx) : Option Bool := (if x_.id_ < 1 then some false else (if 1073741824 < x_.id_ then some false else (if x_.state < 1 then some false else (if 3 < x_.state then some false else (if x_.last < 0 then some false else (if 1099511627776 < x_.last then some false else (if 4096 < (x_.pending.length : Int) then some false else (if 8 < (x_.saves.length : Int) then some false else (((if x_.until_ < 0 then some (Sum.inr false) else (if x_.last < x_.until_ then some (Sum.inr false) else (if x_.state ≠ 2 then (if x_.until_ ≠ 0 then some (Sum.inr false) else some (Sum.inl ())) else some (Sum.inl ()))))).bind fun (z : Sum Unit Bool) => match z with | .inl (s25 : Unit) => ((ref12_valid1.l1 x_ FU 0).bind fun (z : Sum Unit Bool) => match z with | .inl (s42 : Unit) => ((ref12_valid1.l2 x_ FU 0).bind fun (z : Sum Unit Bool) => match z with | .inl (s59 : Unit) => some true | .inr r => some r) | .inr r => some r) | .inr r => some r)))))))))
theorem ref12_valid1_ok {h : Heap} {x_ : Tx}   {r : Bool} (hm : ref12_valid1 x_ = some r) : FnOK Try.prog 134 [.o (.agg [I (x_.id_), I (x_.state), I (x_.last), I (x_.until_), .L 1 (x_.pending.map cI), .L 1 (x_.saves.map cI)])] h (fun v h' => v = VB (r) ∧ h' = h) := by
 refine FnOK.fin ?_
 refine FnOK.bodyC (N := 147) Try.func134 rfl rfl rfl (fun hC => ?_)
 replace hm := Ev.of hm
 rw [ref12_valid1.eq_1] at hm
 show CdOK _ _ _ (look _ [(0, .o (.agg [I (x_.id_), I (x_.state), I (x_.last), I (x_.until_), .L 1 (x_.pending.map cI), .L 1 (x_.saves.map cI)]))]) (h ++ ([] : Heap)) _
 refine .seq (.region (.t (.o (.c (.ptr (h.length + 0) 0))) (e_boxN (L' := [⟨[I (x_.id_), I (x_.state), I (x_.last), I (x_.until_), .L 1 (x_.pending.map cI), .L 1 (x_.saves.map cI)], true, true⟩]) rfl (ev_t rfl) rfl rfl) ?_))
 refine .t (VB (false)) (e_as rfl) ?_
 refine .nil (CdOK.seq (.seq (.region (.t _ (e_fa' fa108_0 (ev_t rfl)) ?_))))
 refine .t _ (e_ldb1 (ev_t rfl) ty3 (bx rfl rfl) rfl) ?_
 refine .sd rfl rfl rfl (e_bin (ev_t rfl) rfl rfl rfl) ?_ ?_
 ·intro c1; replace hm := hm.ifp c1
  refine .m rfl ?_
  iterate 3 refine .k ?_
  refine .t (VB (true)) (e_pick (t := true) (ev_t rfl) rfl) ?_
  refine .m rfl ?_
  iterate 3 refine .k ?_
  refine .t (VB (true)) (e_pick (t := true) (ev_t rfl) rfl) ?_
  refine .m rfl ?_
  iterate 3 refine .k ?_
  refine .t (VB (true)) (e_pick (t := true) (ev_t rfl) rfl) ?_
  refine .m rfl ?_
  iterate 3 refine .k ?_
  refine .t (VB (true)) (e_pick (t := true) (ev_t rfl) rfl) ?_
  refine .m rfl ?_
  iterate 3 refine .k ?_
  refine .t (VB (true)) (e_pick (t := true) (ev_t rfl) rfl) ?_
  refine .m rfl ?_
  iterate 4 refine .k ?_
  refine .t (VB (true)) (e_pick (t := true) (ev_t rfl) rfl) ?_
  refine .m rfl ?_
  iterate 4 refine .k ?_
  refine .t (VB (true)) (e_pick (t := true) (ev_t rfl) rfl) ?_
  refine .nil ?_
  refine CdOK.cond_true rfl ?_
  refine .seq (.region (.t (VB (false)) (e_as rfl) ?_))
  refine .nil ?_
  refine CdOK.ret ?_
  refine ⟨.inr rfl, _, rfl, h, _, _, rfl, rfl, hC, ((renFlV rfl) : RenV _ _ _ _ (VB (false))), ?_⟩
  cases hm.ret; exact ⟨rfl, rfl⟩
 intro c2; replace hm := hm.ifn c2
 refine .m rfl ?_
 refine .t _ (e_fa' fa108_0 (ev_t rfl)) ?_
 refine .t _ (e_ldb1 (ev_t rfl) ty3 (bx rfl rfl) rfl) ?_
 refine .sd rfl rfl rfl (e_bin (ev_t rfl) rfl rfl rfl) ?_ ?_
 ·intro c3; replace hm := hm.ifp c3
  refine .t (VB (true)) (e_pick (t := false) (ev_t rfl) (ev_t rfl)) ?_
  refine .m rfl ?_
  iterate 3 refine .k ?_
  refine .t (VB (true)) (e_pick (t := true) (ev_t rfl) rfl) ?_
  refine .m rfl ?_
  iterate 3 refine .k ?_
  refine .t (VB (true)) (e_pick (t := true) (ev_t rfl) rfl) ?_
  refine .m rfl ?_
  iterate 3 refine .k ?_
  refine .t (VB (true)) (e_pick (t := true) (ev_t rfl) rfl) ?_
  refine .m rfl ?_
  iterate 3 refine .k ?_
  refine .t (VB (true)) (e_pick (t := true) (ev_t rfl) rfl) ?_
  refine .m rfl ?_
  iterate 4 refine .k ?_
  refine .t (VB (true)) (e_pick (t := true) (ev_t rfl) rfl) ?_
  refine .m rfl ?_
  iterate 4 refine .k ?_
  refine .t (VB (true)) (e_pick (t := true) (ev_t rfl) rfl) ?_
  refine .nil ?_
  refine CdOK.cond_true rfl ?_
  refine .seq (.region (.t (VB (false)) (e_as rfl) ?_))
  refine .nil ?_
  refine CdOK.ret ?_
  refine ⟨.inr rfl, _, rfl, h, _, _, rfl, rfl, hC, ((renFlV rfl) : RenV _ _ _ _ (VB (false))), ?_⟩
  cases hm.ret; exact ⟨rfl, rfl⟩
 intro c4; replace hm := hm.ifn c4
 refine .t (VB (false)) (e_pick (t := false) (ev_t rfl) (ev_t rfl)) ?_
 refine .m rfl ?_
 refine .t _ (e_fa' fa108_1 (ev_t rfl)) ?_
 refine .t _ (e_ldb1 (ev_t rfl) ty3 (bx rfl rfl) rfl) ?_
 refine .sd rfl rfl rfl (e_bin (ev_t rfl) rfl rfl rfl) ?_ ?_
 ·intro c5; replace hm := hm.ifp c5
  refine .t (VB (true)) (e_pick (t := false) (ev_t rfl) (ev_t rfl)) ?_
  refine .m rfl ?_
  iterate 3 refine .k ?_
  refine .t (VB (true)) (e_pick (t := true) (ev_t rfl) rfl) ?_
  refine .m rfl ?_
  iterate 3 refine .k ?_
  refine .t (VB (true)) (e_pick (t := true) (ev_t rfl) rfl) ?_
  refine .m rfl ?_
  iterate 3 refine .k ?_
  refine .t (VB (true)) (e_pick (t := true) (ev_t rfl) rfl) ?_
  refine .m rfl ?_
  iterate 4 refine .k ?_
  refine .t (VB (true)) (e_pick (t := true) (ev_t rfl) rfl) ?_
  refine .m rfl ?_
  iterate 4 refine .k ?_
  refine .t (VB (true)) (e_pick (t := true) (ev_t rfl) rfl) ?_
  refine .nil ?_
  refine CdOK.cond_true rfl ?_
  refine .seq (.region (.t (VB (false)) (e_as rfl) ?_))
  refine .nil ?_
  refine CdOK.ret ?_
  refine ⟨.inr rfl, _, rfl, h, _, _, rfl, rfl, hC, ((renFlV rfl) : RenV _ _ _ _ (VB (false))), ?_⟩
  cases hm.ret; exact ⟨rfl, rfl⟩
 intro c6; replace hm := hm.ifn c6
 refine .t (VB (false)) (e_pick (t := false) (ev_t rfl) (ev_t rfl)) ?_
 refine .m rfl ?_
 refine .t _ (e_fa' fa108_1 (ev_t rfl)) ?_
 refine .t _ (e_ldb1 (ev_t rfl) ty3 (bx rfl rfl) rfl) ?_
 refine .sd rfl rfl rfl (e_bin (ev_t rfl) rfl rfl rfl) ?_ ?_
 ·intro c7; replace hm := hm.ifp c7
  refine .t (VB (true)) (e_pick (t := false) (ev_t rfl) (ev_t rfl)) ?_
  refine .m rfl ?_
  iterate 3 refine .k ?_
  refine .t (VB (true)) (e_pick (t := true) (ev_t rfl) rfl) ?_
  refine .m rfl ?_
  iterate 3 refine .k ?_
  refine .t (VB (true)) (e_pick (t := true) (ev_t rfl) rfl) ?_
  refine .m rfl ?_
  iterate 4 refine .k ?_
  refine .t (VB (true)) (e_pick (t := true) (ev_t rfl) rfl) ?_
  refine .m rfl ?_
  iterate 4 refine .k ?_
  refine .t (VB (true)) (e_pick (t := true) (ev_t rfl) rfl) ?_
  refine .nil ?_
  refine CdOK.cond_true rfl ?_
  refine .seq (.region (.t (VB (false)) (e_as rfl) ?_))
  refine .nil ?_
  refine CdOK.ret ?_
  refine ⟨.inr rfl, _, rfl, h, _, _, rfl, rfl, hC, ((renFlV rfl) : RenV _ _ _ _ (VB (false))), ?_⟩
  cases hm.ret; exact ⟨rfl, rfl⟩
 intro c8; replace hm := hm.ifn c8
 refine .t (VB (false)) (e_pick (t := false) (ev_t rfl) (ev_t rfl)) ?_
 refine .m rfl ?_
 refine .t _ (e_fa' fa108_2 (ev_t rfl)) ?_
 refine .t _ (e_ldb1 (ev_t rfl) ty3 (bx rfl rfl) rfl) ?_
 refine .sd rfl rfl rfl (e_bin (ev_t rfl) rfl rfl rfl) ?_ ?_
 ·intro c9; replace hm := hm.ifp c9
  refine .t (VB (true)) (e_pick (t := false) (ev_t rfl) (ev_t rfl)) ?_
  refine .m rfl ?_
  iterate 3 refine .k ?_
  refine .t (VB (true)) (e_pick (t := true) (ev_t rfl) rfl) ?_
  refine .m rfl ?_
  iterate 4 refine .k ?_
  refine .t (VB (true)) (e_pick (t := true) (ev_t rfl) rfl) ?_
  refine .m rfl ?_
  iterate 4 refine .k ?_
  refine .t (VB (true)) (e_pick (t := true) (ev_t rfl) rfl) ?_
  refine .nil ?_
  refine CdOK.cond_true rfl ?_
  refine .seq (.region (.t (VB (false)) (e_as rfl) ?_))
  refine .nil ?_
  refine CdOK.ret ?_
  refine ⟨.inr rfl, _, rfl, h, _, _, rfl, rfl, hC, ((renFlV rfl) : RenV _ _ _ _ (VB (false))), ?_⟩
  cases hm.ret; exact ⟨rfl, rfl⟩
 intro c10; replace hm := hm.ifn c10
 refine .t (VB (false)) (e_pick (t := false) (ev_t rfl) (ev_t rfl)) ?_
 refine .m rfl ?_
 refine .t _ (e_fa' fa108_2 (ev_t rfl)) ?_
 refine .t _ (e_ldb1 (ev_t rfl) ty3 (bx rfl rfl) rfl) ?_
 refine .sd rfl rfl rfl (e_bin (ev_t rfl) rfl rfl rfl) ?_ ?_
 ·intro c11; replace hm := hm.ifp c11
  refine .t (VB (true)) (e_pick (t := false) (ev_t rfl) (ev_t rfl)) ?_
  refine .m rfl ?_
  iterate 4 refine .k ?_
  refine .t (VB (true)) (e_pick (t := true) (ev_t rfl) rfl) ?_
  refine .m rfl ?_
  iterate 4 refine .k ?_
  refine .t (VB (true)) (e_pick (t := true) (ev_t rfl) rfl) ?_
  refine .nil ?_
  refine CdOK.cond_true rfl ?_
  refine .seq (.region (.t (VB (false)) (e_as rfl) ?_))
  refine .nil ?_
  refine CdOK.ret ?_
  refine ⟨.inr rfl, _, rfl, h, _, _, rfl, rfl, hC, ((renFlV rfl) : RenV _ _ _ _ (VB (false))), ?_⟩
  cases hm.ret; exact ⟨rfl, rfl⟩
 intro c12; replace hm := hm.ifn c12
 refine .t (VB (false)) (e_pick (t := false) (ev_t rfl) (ev_t rfl)) ?_
 refine .m rfl ?_
 refine .t _ (e_fa' fa108_4 (ev_t rfl)) ?_
 refine .t _ (e_ldb1 (ev_t rfl) ty27 (bx rfl rfl) rfl) ?_
 refine .t (VI ((x_.pending.length : Int))) (e_lenM (ev_t rfl) is27) ?_
 refine .sd rfl rfl rfl (e_bin (ev_t rfl) rfl rfl rfl) ?_ ?_
 ·intro c13; replace hm := hm.ifp c13
  refine .t (VB (true)) (e_pick (t := false) (ev_t rfl) (ev_t rfl)) ?_
  refine .m rfl ?_
  iterate 4 refine .k ?_
  refine .t (VB (true)) (e_pick (t := true) (ev_t rfl) rfl) ?_
  refine .nil ?_
  refine CdOK.cond_true rfl ?_
  refine .seq (.region (.t (VB (false)) (e_as rfl) ?_))
  refine .nil ?_
  refine CdOK.ret ?_
  refine ⟨.inr rfl, _, rfl, h, _, _, rfl, rfl, hC, ((renFlV rfl) : RenV _ _ _ _ (VB (false))), ?_⟩
  cases hm.ret; exact ⟨rfl, rfl⟩
 intro c14; replace hm := hm.ifn c14
 refine .t (VB (false)) (e_pick (t := false) (ev_t rfl) (ev_t rfl)) ?_
 refine .m rfl ?_
 refine .t _ (e_fa' fa108_5 (ev_t rfl)) ?_
 refine .t _ (e_ldb1 (ev_t rfl) ty27 (bx rfl rfl) rfl) ?_
 refine .t (VI ((x_.saves.length : Int))) (e_lenM (ev_t rfl) is27) ?_
 refine .t (VB (decide (8 < (x_.saves.length : Int)))) (e_bin (ev_t rfl) rfl rfl rfl) ?_
 refine .t (VB (decide (8 < (x_.saves.length : Int)))) (e_pick (t := false) (ev_t rfl) (ev_t rfl)) ?_
 refine .nil ?_
 refine CdOK.condD (ev_t rfl) ?_ ?_
 ·intro c15; replace hm := hm.ifp c15
  refine .seq (.region (.t (VB (false)) (e_as rfl) ?_))
  refine .nil ?_
  refine CdOK.ret ?_
  refine ⟨.inr rfl, _, rfl, h, _, _, rfl, rfl, hC, ((renFlV rfl) : RenV _ _ _ _ (VB (false))), ?_⟩
  cases hm.ret; exact ⟨rfl, rfl⟩
 intro c16; replace hm := hm.ifn c16
 refine .skip ?_
 replace hm := hm.bnd
 refine CdOK.joinE (σ := Unit) (fun s => Sum.inl ()) hm (fun s => [(1, .o (.c (.ptr (h.length + 0) 0)))]) (fun s => h ++ ([⟨[I (x_.id_), I (x_.state), I (x_.last), I (x_.until_), .L 1 (x_.pending.map cI), .L 1 (x_.saves.map cI)], true, true⟩] : Heap)) ?_ ?_
 ·intro hm
  refine .seq (.region (.t _ (e_fa' fa108_3 (ev_t rfl)) ?_))
  refine .t _ (e_ldb1 (ev_t rfl) ty3 (bx rfl rfl) rfl) ?_
  refine .sd rfl rfl rfl (e_bin (ev_t rfl) rfl rfl rfl) ?_ ?_
  ·intro c17; replace hm := hm.ifp c17
   refine .m rfl ?_
   iterate 5 refine .k ?_
   refine .t (VB (true)) (e_pick (t := true) (ev_t rfl) rfl) ?_
   refine .m rfl ?_
   iterate 8 refine .k ?_
   refine .t (VB (true)) (e_pick (t := true) (ev_t rfl) rfl) ?_
   refine .nil ?_
   refine CdOK.cond_true rfl ?_
   refine .seq (.region (.t (VB (false)) (e_as rfl) ?_))
   refine .nil ?_
   refine CdOK.ret ?_
   refine ⟨.inr rfl, _, rfl, h, _, _, rfl, rfl, hC, ((renFlV rfl) : RenV _ _ _ _ (VB (false))), ?_⟩
   have hr := hm.ret; replace hr := Ev.ret hr; cases hr; exact ⟨rfl, rfl⟩
  intro c18; replace hm := hm.ifn c18
  refine .m rfl ?_
  refine .t _ (e_fa' fa108_3 (ev_t rfl)) ?_
  refine .t _ (e_ldb1 (ev_t rfl) ty3 (bx rfl rfl) rfl) ?_
  refine .t _ (e_fa' fa108_2 (ev_t rfl)) ?_
  refine .t _ (e_ldb1 (ev_t rfl) ty3 (bx rfl rfl) rfl) ?_
  refine .sd rfl rfl rfl (e_bin (ev_t rfl) (ev_t rfl) rfl rfl) ?_ ?_
  ·intro c19; replace hm := hm.ifp c19
   refine .t (VB (true)) (e_pick (t := false) (ev_t rfl) (ev_t rfl)) ?_
   refine .m rfl ?_
   iterate 8 refine .k ?_
   refine .t (VB (true)) (e_pick (t := true) (ev_t rfl) rfl) ?_
   refine .nil ?_
   refine CdOK.cond_true rfl ?_
   refine .seq (.region (.t (VB (false)) (e_as rfl) ?_))
   refine .nil ?_
   refine CdOK.ret ?_
   refine ⟨.inr rfl, _, rfl, h, _, _, rfl, rfl, hC, ((renFlV rfl) : RenV _ _ _ _ (VB (false))), ?_⟩
   have hr := hm.ret; replace hr := Ev.ret hr; cases hr; exact ⟨rfl, rfl⟩
  intro c20; replace hm := hm.ifn c20
  refine .t (VB (false)) (e_pick (t := false) (ev_t rfl) (ev_t rfl)) ?_
  refine .m rfl ?_
  refine .t _ (e_fa' fa108_1 (ev_t rfl)) ?_
  refine .t _ (e_ldb1 (ev_t rfl) ty3 (bx rfl rfl) rfl) ?_
  refine .sd rfl rfl rfl (e_neK (ev_t rfl) rfl) ?_ ?_
  ·intro c21; replace hm := hm.ifp c21
   refine .m rfl ?_
   refine .t _ (e_fa' fa108_3 (ev_t rfl)) ?_
   refine .t _ (e_ldb1 (ev_t rfl) ty3 (bx rfl rfl) rfl) ?_
   refine .t (VB (decide (x_.until_ ≠ 0))) (e_neK (ev_t rfl) rfl) ?_
   refine .t (VB (decide (x_.until_ ≠ 0))) (e_pick (t := true) (ev_t rfl) (ev_t rfl)) ?_
   refine .t (VB (decide (x_.until_ ≠ 0))) (e_pick (t := false) (ev_t rfl) (ev_t rfl)) ?_
   refine .nil ?_
   refine CdOK.condD (ev_t rfl) ?_ ?_
   ·intro c22; replace hm := hm.ifp c22
    refine .seq (.region (.t (VB (false)) (e_as rfl) ?_))
    refine .nil ?_
    refine CdOK.ret ?_
    refine ⟨.inr rfl, _, rfl, h, _, _, rfl, rfl, hC, ((renFlV rfl) : RenV _ _ _ _ (VB (false))), ?_⟩
    have hr := hm.ret; replace hr := Ev.ret hr; cases hr; exact ⟨rfl, rfl⟩
   intro c23; replace hm := hm.ifn c23
   refine .skip ?_
   refine .id ?_
   exact ⟨(), hm.ret, (.cons rfl .nil), rfl⟩
  intro c24; replace hm := hm.ifn c24
  refine .m rfl ?_
  iterate 3 refine .k ?_
  refine .t (VB (false)) (e_pick (t := false) (ev_t rfl) rfl) ?_
  refine .t (VB (false)) (e_pick (t := false) (ev_t rfl) (ev_t rfl)) ?_
  refine .nil ?_
  refine CdOK.cond_false rfl ?_
  refine .skip ?_
  refine .id ?_
  exact ⟨(), hm.ret, (.cons rfl .nil), rfl⟩
 intro _ T0 hm
 show CdOK _ _ _ (look T0 [(1, .o (.c (.ptr (h.length + 0) 0)))]) (h ++ ([⟨[I (x_.id_), I (x_.state), I (x_.last), I (x_.until_), .L 1 (x_.pending.map cI), .L 1 (x_.saves.map cI)], true, true⟩] : Heap)) _
 replace hm : Ev _ _ := hm
 iterate 2 refine .seq ?_
 refine .region (.t (VI (0)) (e_as rfl) ?_)
 refine .nil ?_
 replace hm := hm.bnd
 refine CdOK.joinT (σ := Unit) (fun s => Sum.inl ()) hm (fun s => [(1, .o (.c (.ptr (h.length + 0) 0)))]) (fun s => h ++ ([⟨[I (x_.id_), I (x_.state), I (x_.last), I (x_.until_), .L 1 (x_.pending.map cI), .L 1 (x_.saves.map cI)], true, true⟩] : Heap)) ?_ ?_
 ·intro hm
  refine .block ?_
  refine .loopE (σ := Int) (fun k s => Ev (ref12_valid1.l1 x_ k s) _) (fun s => [(1, .o (.c (.ptr (h.length + 0) 0))), (3, VI (s))]) (fun s => h ++ ([⟨[I (x_.id_), I (x_.state), I (x_.last), I (x_.until_), .L 1 (x_.pending.map cI), .L 1 (x_.saves.map cI)], true, true⟩] : Heap)) FU 0 hm (.cons rfl (.cons rfl .nil)) rfl ?_
  rintro kk27 i26 T0 hm
  replace hm : Ev (ref12_valid1.l1 x_ kk27 i26) _ := hm
  cases kk27 with
  | zero => exact (Ev.non hm).elim
  | succ kk27 =>
  rw [ref12_valid1.l1.eq_2] at hm
  show CdOK _ _ _ (look T0 [(1, .o (.c (.ptr (h.length + 0) 0))), (3, VI (i26))]) (h ++ ([⟨[I (x_.id_), I (x_.state), I (x_.last), I (x_.until_), .L 1 (x_.pending.map cI), .L 1 (x_.saves.map cI)], true, true⟩] : Heap)) _
  iterate 2 refine .seq ?_
  refine .region (.m rfl ?_)
  refine .t _ (e_fa' fa108_4 (ev_t rfl)) ?_
  refine .t _ (e_ldb1 (ev_t rfl) ty27 (bx rfl rfl) rfl) ?_
  refine .t (VI ((x_.pending.length : Int))) (e_lenM (ev_t rfl) is27) ?_
  refine .t (VB (decide (i26 < (x_.pending.length : Int)))) (e_bin (ev_t rfl) (ev_t rfl) rfl rfl) ?_
  refine .nil ?_
  refine CdOK.condD (ev_t rfl) ?_ ?_
  ·intro c28; replace hm := hm.ifp c28
   refine .skip ?_
   refine CdOK.seq ?_
   refine .block ?_
   refine .seq ?_
   refine .draw fol (by decide +kernel) ?_
   refine .t _ (e_fa' fa108_4 (ev_t rfl)) ?_
   refine .t _ (e_ldb1 (ev_t rfl) ty27 (bx rfl rfl) rfl) ?_
   refine .m rfl ?_
   obtain ⟨c29, hm⟩ := hm.ifs
   refine .t (.o (.c (.rp [I ((gd x_.pending i26))]))) (e_ixM (f := cI) (l := x_.pending) (i := i26) (ev_t rfl) (ev_t rfl) el27 c29) ?_
   refine .t _ (e_ldR1 (ev_t rfl) ty3 rfl) ?_
   refine .sd rfl rfl rfl (e_bin (ev_t rfl) rfl rfl rfl) ?_ ?_
   ·intro c30; replace hm := hm.ifp c30
    refine .m rfl ?_
    iterate 8 refine .k ?_
    refine .t (VB (true)) (e_pick (t := true) (ev_t rfl) rfl) ?_
    refine .m rfl ?_
    iterate 16 refine .k ?_
    refine .t (VB (true)) (e_pick (t := true) (ev_t rfl) rfl) ?_
    refine .nil ?_
    refine CdOK.cond_true rfl ?_
    refine .seq (.region (.t (VB (false)) (e_as rfl) ?_))
    refine .nil ?_
    refine CdOK.ret ?_
    refine ⟨.inr rfl, _, rfl, h, _, _, rfl, rfl, hC, ((renFlV rfl) : RenV _ _ _ _ (VB (false))), ?_⟩
    have hr := hm.ret; replace hr := Ev.ret hr; cases hr; exact ⟨rfl, rfl⟩
   intro c31; replace hm := hm.ifn c31
   refine .m rfl ?_
   refine .t _ (e_fa' fa108_4 (ev_t rfl)) ?_
   refine .t _ (e_ldb1 (ev_t rfl) ty27 (bx rfl rfl) rfl) ?_
   refine .m rfl ?_
   obtain ⟨c32, hm⟩ := hm.ifs
   refine .t (.o (.c (.rp [I ((gd x_.pending i26))]))) (e_ixM (f := cI) (l := x_.pending) (i := i26) (ev_t rfl) (ev_t rfl) el27 c32) ?_
   refine .t _ (e_ldR1 (ev_t rfl) ty3 rfl) ?_
   refine .t _ (e_fa' fa108_2 (ev_t rfl)) ?_
   refine .t _ (e_ldb1 (ev_t rfl) ty3 (bx rfl rfl) rfl) ?_
   refine .sd rfl rfl rfl (e_bin (ev_t rfl) (ev_t rfl) rfl rfl) ?_ ?_
   ·intro c33; replace hm := hm.ifp c33
    refine .t (VB (true)) (e_pick (t := false) (ev_t rfl) (ev_t rfl)) ?_
    refine .m rfl ?_
    iterate 16 refine .k ?_
    refine .t (VB (true)) (e_pick (t := true) (ev_t rfl) rfl) ?_
    refine .nil ?_
    refine CdOK.cond_true rfl ?_
    refine .seq (.region (.t (VB (false)) (e_as rfl) ?_))
    refine .nil ?_
    refine CdOK.ret ?_
    refine ⟨.inr rfl, _, rfl, h, _, _, rfl, rfl, hC, ((renFlV rfl) : RenV _ _ _ _ (VB (false))), ?_⟩
    have hr := hm.ret; replace hr := Ev.ret hr; cases hr; exact ⟨rfl, rfl⟩
   intro c34; replace hm := hm.ifn c34
   refine .t (VB (false)) (e_pick (t := false) (ev_t rfl) (ev_t rfl)) ?_
   iterate 2 refine .m rfl ?_
   refine .sd rfl rfl rfl (e_bin (ev_t rfl) rfl rfl rfl) ?_ ?_
   ·intro c35; replace hm := hm.ifp c35
    refine .m rfl ?_
    refine .t _ (e_fa' fa108_4 (ev_t rfl)) ?_
    refine .t _ (e_ldb1 (ev_t rfl) ty27 (bx rfl rfl) rfl) ?_
    refine .m rfl ?_
    refine .t (VI ((w64 (i26 - 1)))) (e_bin (ev_t rfl) rfl rfl rfl) ?_
    obtain ⟨c36, hm⟩ := hm.ifs
    refine .t (.o (.c (.rp [I ((gd x_.pending (w64 (i26 - 1))))]))) (e_ixM (f := cI) (l := x_.pending) (i := (w64 (i26 - 1))) (ev_t rfl) (ev_t rfl) el27 c36) ?_
    refine .t _ (e_ldR1 (ev_t rfl) ty3 rfl) ?_
    refine .t _ (e_fa' fa108_4 (ev_t rfl)) ?_
    refine .t _ (e_ldb1 (ev_t rfl) ty27 (bx rfl rfl) rfl) ?_
    refine .m rfl ?_
    obtain ⟨c37, hm⟩ := hm.ifs
    refine .t (.o (.c (.rp [I ((gd x_.pending i26))]))) (e_ixM (f := cI) (l := x_.pending) (i := i26) (ev_t rfl) (ev_t rfl) el27 c37) ?_
    refine .t _ (e_ldR1 (ev_t rfl) ty3 rfl) ?_
    refine .t (VB (decide ((gd x_.pending i26) ≤ (gd x_.pending (w64 (i26 - 1)))))) (e_bin (ev_t rfl) (ev_t rfl) rfl rfl) ?_
    refine .t (VB (decide ((gd x_.pending i26) ≤ (gd x_.pending (w64 (i26 - 1)))))) (e_pick (t := true) (ev_t rfl) (ev_t rfl)) ?_
    refine .t (VB (decide ((gd x_.pending i26) ≤ (gd x_.pending (w64 (i26 - 1)))))) (e_pick (t := false) (ev_t rfl) (ev_t rfl)) ?_
    refine .nil ?_
    refine CdOK.condD (ev_t rfl) ?_ ?_
    ·intro c38; replace hm := hm.ifp c38
     refine .seq (.region (.t (VB (false)) (e_as rfl) ?_))
     refine .nil ?_
     refine CdOK.ret ?_
     refine ⟨.inr rfl, _, rfl, h, _, _, rfl, rfl, hC, ((renFlV rfl) : RenV _ _ _ _ (VB (false))), ?_⟩
     have hr := hm.ret; replace hr := Ev.ret hr; cases hr; exact ⟨rfl, rfl⟩
    intro c39; replace hm := hm.ifn c39
    refine .skip ?_
    refine CdOK.region (.m rfl ?_)
    refine .t (VI ((w64 (i26 + 1)))) (e_bin (ev_t rfl) rfl rfl rfl) ?_
    refine .a rfl ?_
    refine .nil (.id ?_)
    exact ⟨_, (w64 (i26 + 1)), Nat.lt_succ_self _, hm, (.cons rfl (.cons rfl .nil)), rfl⟩
   intro c40; replace hm := hm.ifn c40
   refine .m rfl ?_
   iterate 12 refine .k ?_
   refine .t (VB (false)) (e_pick (t := false) (ev_t rfl) rfl) ?_
   refine .t (VB (false)) (e_pick (t := false) (ev_t rfl) (ev_t rfl)) ?_
   refine .nil ?_
   refine CdOK.cond_false rfl ?_
   refine .skip ?_
   refine CdOK.region (.m rfl ?_)
   refine .t (VI ((w64 (i26 + 1)))) (e_bin (ev_t rfl) rfl rfl rfl) ?_
   refine .a rfl ?_
   refine .nil (.id ?_)
   exact ⟨_, (w64 (i26 + 1)), Nat.lt_succ_self _, hm, (.cons rfl (.cons rfl .nil)), rfl⟩
  intro c41; replace hm := hm.ifn c41
  refine .exit ?_
  refine .id ?_
  exact ⟨(), hm.ret, (.cons rfl .nil), rfl⟩
 intro _ T0 hm
 refine CdOK.seq (.seq (.region (.t (VI (0)) (e_as rfl) ?_)))
 refine .nil ?_
 replace hm := hm.bnd
 refine CdOK.joinT (σ := Unit) (fun s => Sum.inl ()) hm (fun s => []) (fun s => h ++ ([] : Heap)) ?_ ?_
 ·intro hm
  refine .block ?_
  refine .loopE (σ := Int) (fun k s => Ev (ref12_valid1.l2 x_ k s) _) (fun s => [(1, .o (.c (.ptr (h.length + 0) 0))), (4, VI (s))]) (fun s => h ++ ([⟨[I (x_.id_), I (x_.state), I (x_.last), I (x_.until_), .L 1 (x_.pending.map cI), .L 1 (x_.saves.map cI)], true, true⟩] : Heap)) FU 0 hm (.cons rfl (.cons rfl .nil)) rfl ?_
  rintro kk44 i43 T0 hm
  replace hm : Ev (ref12_valid1.l2 x_ kk44 i43) _ := hm
  cases kk44 with
  | zero => exact (Ev.non hm).elim
  | succ kk44 =>
  rw [ref12_valid1.l2.eq_2] at hm
  show CdOK _ _ _ (look T0 [(1, .o (.c (.ptr (h.length + 0) 0))), (4, VI (i43))]) (h ++ ([⟨[I (x_.id_), I (x_.state), I (x_.last), I (x_.until_), .L 1 (x_.pending.map cI), .L 1 (x_.saves.map cI)], true, true⟩] : Heap)) _
  iterate 2 refine .seq ?_
  refine .region (.m rfl ?_)
  refine .t _ (e_fa' fa108_5 (ev_t rfl)) ?_
  refine .t _ (e_ldb1 (ev_t rfl) ty27 (bx rfl rfl) rfl) ?_
  refine .t (VI ((x_.saves.length : Int))) (e_lenM (ev_t rfl) is27) ?_
  refine .t (VB (decide (i43 < (x_.saves.length : Int)))) (e_bin (ev_t rfl) (ev_t rfl) rfl rfl) ?_
  refine .nil ?_
  refine CdOK.condD (ev_t rfl) ?_ ?_
  ·intro c45; replace hm := hm.ifp c45
   refine .skip ?_
   refine CdOK.seq ?_
   refine .block ?_
   refine .seq ?_
   refine .draw fol (by decide +kernel) ?_
   refine .t _ (e_fa' fa108_5 (ev_t rfl)) ?_
   refine .t _ (e_ldb1 (ev_t rfl) ty27 (bx rfl rfl) rfl) ?_
   refine .m rfl ?_
   obtain ⟨c46, hm⟩ := hm.ifs
   refine .t (.o (.c (.rp [I ((gd x_.saves i43))]))) (e_ixM (f := cI) (l := x_.saves) (i := i43) (ev_t rfl) (ev_t rfl) el27 c46) ?_
   refine .t _ (e_ldR1 (ev_t rfl) ty3 rfl) ?_
   refine .sd rfl rfl rfl (e_bin (ev_t rfl) rfl rfl rfl) ?_ ?_
   ·intro c47; replace hm := hm.ifp c47
    refine .m rfl ?_
    iterate 8 refine .k ?_
    refine .t (VB (true)) (e_pick (t := true) (ev_t rfl) rfl) ?_
    refine .m rfl ?_
    iterate 16 refine .k ?_
    refine .t (VB (true)) (e_pick (t := true) (ev_t rfl) rfl) ?_
    refine .nil ?_
    refine CdOK.cond_true rfl ?_
    refine .seq (.region (.t (VB (false)) (e_as rfl) ?_))
    refine .nil ?_
    refine CdOK.ret ?_
    refine ⟨.inr rfl, _, rfl, h, _, _, rfl, rfl, hC, ((renFlV rfl) : RenV _ _ _ _ (VB (false))), ?_⟩
    have hr := hm.ret; replace hr := Ev.ret hr; cases hr; exact ⟨rfl, rfl⟩
   intro c48; replace hm := hm.ifn c48
   refine .m rfl ?_
   refine .t _ (e_fa' fa108_5 (ev_t rfl)) ?_
   refine .t _ (e_ldb1 (ev_t rfl) ty27 (bx rfl rfl) rfl) ?_
   refine .m rfl ?_
   obtain ⟨c49, hm⟩ := hm.ifs
   refine .t (.o (.c (.rp [I ((gd x_.saves i43))]))) (e_ixM (f := cI) (l := x_.saves) (i := i43) (ev_t rfl) (ev_t rfl) el27 c49) ?_
   refine .t _ (e_ldR1 (ev_t rfl) ty3 rfl) ?_
   refine .t _ (e_fa' fa108_2 (ev_t rfl)) ?_
   refine .t _ (e_ldb1 (ev_t rfl) ty3 (bx rfl rfl) rfl) ?_
   refine .sd rfl rfl rfl (e_bin (ev_t rfl) (ev_t rfl) rfl rfl) ?_ ?_
   ·intro c50; replace hm := hm.ifp c50
    refine .t (VB (true)) (e_pick (t := false) (ev_t rfl) (ev_t rfl)) ?_
    refine .m rfl ?_
    iterate 16 refine .k ?_
    refine .t (VB (true)) (e_pick (t := true) (ev_t rfl) rfl) ?_
    refine .nil ?_
    refine CdOK.cond_true rfl ?_
    refine .seq (.region (.t (VB (false)) (e_as rfl) ?_))
    refine .nil ?_
    refine CdOK.ret ?_
    refine ⟨.inr rfl, _, rfl, h, _, _, rfl, rfl, hC, ((renFlV rfl) : RenV _ _ _ _ (VB (false))), ?_⟩
    have hr := hm.ret; replace hr := Ev.ret hr; cases hr; exact ⟨rfl, rfl⟩
   intro c51; replace hm := hm.ifn c51
   refine .t (VB (false)) (e_pick (t := false) (ev_t rfl) (ev_t rfl)) ?_
   iterate 2 refine .m rfl ?_
   refine .sd rfl rfl rfl (e_bin (ev_t rfl) rfl rfl rfl) ?_ ?_
   ·intro c52; replace hm := hm.ifp c52
    refine .m rfl ?_
    refine .t _ (e_fa' fa108_5 (ev_t rfl)) ?_
    refine .t _ (e_ldb1 (ev_t rfl) ty27 (bx rfl rfl) rfl) ?_
    refine .m rfl ?_
    refine .t (VI ((w64 (i43 - 1)))) (e_bin (ev_t rfl) rfl rfl rfl) ?_
    obtain ⟨c53, hm⟩ := hm.ifs
    refine .t (.o (.c (.rp [I ((gd x_.saves (w64 (i43 - 1))))]))) (e_ixM (f := cI) (l := x_.saves) (i := (w64 (i43 - 1))) (ev_t rfl) (ev_t rfl) el27 c53) ?_
    refine .t _ (e_ldR1 (ev_t rfl) ty3 rfl) ?_
    refine .t _ (e_fa' fa108_5 (ev_t rfl)) ?_
    refine .t _ (e_ldb1 (ev_t rfl) ty27 (bx rfl rfl) rfl) ?_
    refine .m rfl ?_
    obtain ⟨c54, hm⟩ := hm.ifs
    refine .t (.o (.c (.rp [I ((gd x_.saves i43))]))) (e_ixM (f := cI) (l := x_.saves) (i := i43) (ev_t rfl) (ev_t rfl) el27 c54) ?_
    refine .t _ (e_ldR1 (ev_t rfl) ty3 rfl) ?_
    refine .t (VB (decide ((gd x_.saves i43) < (gd x_.saves (w64 (i43 - 1)))))) (e_bin (ev_t rfl) (ev_t rfl) rfl rfl) ?_
    refine .t (VB (decide ((gd x_.saves i43) < (gd x_.saves (w64 (i43 - 1)))))) (e_pick (t := true) (ev_t rfl) (ev_t rfl)) ?_
    refine .t (VB (decide ((gd x_.saves i43) < (gd x_.saves (w64 (i43 - 1)))))) (e_pick (t := false) (ev_t rfl) (ev_t rfl)) ?_
    refine .nil ?_
    refine CdOK.condD (ev_t rfl) ?_ ?_
    ·intro c55; replace hm := hm.ifp c55
     refine .seq (.region (.t (VB (false)) (e_as rfl) ?_))
     refine .nil ?_
     refine CdOK.ret ?_
     refine ⟨.inr rfl, _, rfl, h, _, _, rfl, rfl, hC, ((renFlV rfl) : RenV _ _ _ _ (VB (false))), ?_⟩
     have hr := hm.ret; replace hr := Ev.ret hr; cases hr; exact ⟨rfl, rfl⟩
    intro c56; replace hm := hm.ifn c56
    refine .skip ?_
    refine CdOK.region (.m rfl ?_)
    refine .t (VI ((w64 (i43 + 1)))) (e_bin (ev_t rfl) rfl rfl rfl) ?_
    refine .a rfl ?_
    refine .nil (.id ?_)
    exact ⟨_, (w64 (i43 + 1)), Nat.lt_succ_self _, hm, (.cons rfl (.cons rfl .nil)), rfl⟩
   intro c57; replace hm := hm.ifn c57
   refine .m rfl ?_
   iterate 12 refine .k ?_
   refine .t (VB (false)) (e_pick (t := false) (ev_t rfl) rfl) ?_
   refine .t (VB (false)) (e_pick (t := false) (ev_t rfl) (ev_t rfl)) ?_
   refine .nil ?_
   refine CdOK.cond_false rfl ?_
   refine .skip ?_
   refine CdOK.region (.m rfl ?_)
   refine .t (VI ((w64 (i43 + 1)))) (e_bin (ev_t rfl) rfl rfl rfl) ?_
   refine .a rfl ?_
   refine .nil (.id ?_)
   exact ⟨_, (w64 (i43 + 1)), Nat.lt_succ_self _, hm, (.cons rfl (.cons rfl .nil)), rfl⟩
  intro c58; replace hm := hm.ifn c58
  refine .exit ?_
  refine .re (σ := []) (X := []) (L' := []) rfl rfl hC (by decide) .nil .nil ?_
  exact ⟨(), hm.ret, .nil, rfl⟩
 intro _ T0 hm
 refine CdOK.seq (.region (.t (VB (true)) (e_as rfl) ?_))
 refine .nil ?_
 refine CdOK.ret ?_
 refine ⟨.inr rfl, _, rfl, h, _, _, rfl, rfl, hC, ((renFlV rfl) : RenV _ _ _ _ (VB (true))), ?_⟩
 cases hm.ret; exact ⟨rfl, rfl⟩
def ref12_Valid.l1 (l_ : (List Tx)) : Nat → Int → Option (Sum Unit Bool)
  | 0, _ => none
  | kk4 + 1, i3 => (if i3 < (l_.length : Int) then (if (0 : Int) ≤ i3 ∧ i3 < (l_.length : Int) then ((ref12_valid1 (gd l_ i3)).bind fun (x7 : Bool) => (if x7 = true then (if 0 < i3 then (if (0 : Int) ≤ (w64 (i3 - 1)) ∧ (w64 (i3 - 1)) < (l_.length : Int) then (if (0 : Int) ≤ i3 ∧ i3 < (l_.length : Int) then (if ((gd l_ i3).id_) ≤ ((gd l_ (w64 (i3 - 1))).id_) then some (Sum.inr false) else ref12_Valid.l1 l_ kk4 (w64 (i3 + 1))) else none) else none) else ref12_Valid.l1 l_ kk4 (w64 (i3 + 1))) else some (Sum.inr false))) else none) else some (Sum.inl ()))
def ref12_Valid (l_ : (List Tx)) : Option Bool := (if 64 < (l_.length : Int) then some false else ((ref12_Valid.l1 l_ FU 0).bind fun (z : Sum Unit Bool) => match z with | .inl (s15 : Unit) => some true | .inr r => some r))
theorem ref12_Valid_ok {h : Heap} {l_ : (List Tx)}   {r : Bool} (hm : ref12_Valid l_ = some r) : FnOK Try.prog 66 [.o (.c (.L 6 (l_.map Tx.cs)))] h (fun v h' => v = VB (r) ∧ h' = h) := by
 refine FnOK.fin ?_
 refine FnOK.bodyC (N := 37) Try.func66 rfl rfl rfl (fun hC => ?_)
 replace hm := Ev.of hm
 rw [ref12_Valid.eq_1] at hm
 show CdOK _ _ _ (look _ [(0, .o (.c (.L 6 (l_.map Tx.cs))))]) (h ++ ([] : Heap)) _
 refine .seq (.region (.t (VB (false)) (e_as rfl) ?_))
 refine .nil (CdOK.seq (.seq (.region (.m rfl ?_))))
 refine .t (VI ((l_.length : Int))) (e_lenM (ev_t rfl) is92) ?_
 refine .t (VB (decide (64 < (l_.length : Int)))) (e_bin (ev_t rfl) rfl rfl rfl) ?_
 refine .nil ?_
 refine CdOK.condD (ev_t rfl) ?_ ?_
 ·intro c1; replace hm := hm.ifp c1
  refine .seq (.region (.t (VB (false)) (e_as rfl) ?_))
  refine .nil ?_
  refine CdOK.ret ?_
  refine ⟨.inr rfl, _, rfl, h, _, _, rfl, rfl, hC, ((renFlV rfl) : RenV _ _ _ _ (VB (false))), ?_⟩
  cases hm.ret; exact ⟨rfl, rfl⟩
 intro c2; replace hm := hm.ifn c2
 refine .skip ?_
 refine CdOK.seq (.seq (.region (.t (VI (0)) (e_as rfl) ?_)))
 refine .nil ?_
 replace hm := hm.bnd
 refine CdOK.joinT (σ := Unit) (fun s => Sum.inl ()) hm (fun s => []) (fun s => h ++ ([] : Heap)) ?_ ?_
 ·intro hm
  refine .block ?_
  refine .loopE (σ := Int) (fun k s => Ev (ref12_Valid.l1 l_ k s) _) (fun s => [(0, .o (.c (.L 6 (l_.map Tx.cs)))), (3, VI (s))]) (fun s => h ++ ([] : Heap)) FU 0 hm (.cons rfl (.cons rfl .nil)) rfl ?_
  rintro kk4 i3 T0 hm
  replace hm : Ev (ref12_Valid.l1 l_ kk4 i3) _ := hm
  cases kk4 with
  | zero => exact (Ev.non hm).elim
  | succ kk4 =>
  rw [ref12_Valid.l1.eq_2] at hm
  show CdOK _ _ _ (look T0 [(0, .o (.c (.L 6 (l_.map Tx.cs)))), (3, VI (i3))]) (h ++ ([] : Heap)) _
  iterate 2 refine .seq ?_
  refine .region ?_
  iterate 2 refine .m rfl ?_
  refine .t (VI ((l_.length : Int))) (e_lenM (ev_t rfl) is92) ?_
  refine .t (VB (decide (i3 < (l_.length : Int)))) (e_bin (ev_t rfl) (ev_t rfl) rfl rfl) ?_
  refine .nil ?_
  refine CdOK.condD (ev_t rfl) ?_ ?_
  ·intro c5; replace hm := hm.ifp c5
   refine .skip ?_
   refine CdOK.seq ?_
   refine .block ?_
   refine .seq ?_
   refine .draw fol (by decide +kernel) ?_
   iterate 2 refine .m rfl ?_
   obtain ⟨c6, hm⟩ := hm.ifs
   refine .t (.o (.c (.rp [I ((gd l_ i3).id_), I ((gd l_ i3).state), I ((gd l_ i3).last), I ((gd l_ i3).until_), .L 1 (((gd l_ i3).pending).map cI), .L 1 (((gd l_ i3).saves).map cI)]))) (e_ixM (f := Tx.cs) (l := l_) (i := i3) (ev_t rfl) (ev_t rfl) el92 c6) ?_
   refine .t _ (e_ldRA (ev_t rfl) ty108 rfl rfl) ?_
   obtain ⟨x7, e7, hm⟩ := hm.call
   cases x7 with
   | true =>
    replace hm := hm.ifp rfl
    refine .cl rfl rfl rfl rfl pl134 (R2.wk _) (ref12_valid1_ok    e7) ?_
    refine .t (VB (false)) (e_un (ev_t rfl) rfl) ?_
    iterate 2 refine .m rfl ?_
    refine .sd rfl rfl rfl (e_bin (ev_t rfl) rfl rfl rfl) ?_ ?_
    ·intro c8; replace hm := hm.ifp c8
     iterate 3 refine .m rfl ?_
     refine .t (VI ((w64 (i3 - 1)))) (e_bin (ev_t rfl) rfl rfl rfl) ?_
     obtain ⟨c9, hm⟩ := hm.ifs
     refine .t (.o (.c (.rp [I ((gd l_ (w64 (i3 - 1))).id_), I ((gd l_ (w64 (i3 - 1))).state), I ((gd l_ (w64 (i3 - 1))).last), I ((gd l_ (w64 (i3 - 1))).until_), .L 1 (((gd l_ (w64 (i3 - 1))).pending).map cI), .L 1 (((gd l_ (w64 (i3 - 1))).saves).map cI)]))) (e_ixM (f := Tx.cs) (l := l_) (i := (w64 (i3 - 1))) (ev_t rfl) (ev_t rfl) el92 c9) ?_
     refine .t _ (e_faR fa108_0 (ev_t rfl) rfl) ?_
     refine .t _ (e_ldR1 (ev_t rfl) ty3 rfl) ?_
     iterate 2 refine .m rfl ?_
     obtain ⟨c10, hm⟩ := hm.ifs
     refine .t (.o (.c (.rp [I ((gd l_ i3).id_), I ((gd l_ i3).state), I ((gd l_ i3).last), I ((gd l_ i3).until_), .L 1 (((gd l_ i3).pending).map cI), .L 1 (((gd l_ i3).saves).map cI)]))) (e_ixM (f := Tx.cs) (l := l_) (i := i3) (ev_t rfl) (ev_t rfl) el92 c10) ?_
     refine .t _ (e_faR fa108_0 (ev_t rfl) rfl) ?_
     refine .t _ (e_ldR1 (ev_t rfl) ty3 rfl) ?_
     refine .t (VB (decide (((gd l_ i3).id_) ≤ ((gd l_ (w64 (i3 - 1))).id_)))) (e_bin (ev_t rfl) (ev_t rfl) rfl rfl) ?_
     refine .t (VB (decide (((gd l_ i3).id_) ≤ ((gd l_ (w64 (i3 - 1))).id_)))) (e_pick (t := true) (ev_t rfl) (ev_t rfl)) ?_
     refine .t (VB (decide (((gd l_ i3).id_) ≤ ((gd l_ (w64 (i3 - 1))).id_)))) (e_pick (t := false) (ev_t rfl) (ev_t rfl)) ?_
     refine .nil ?_
     refine CdOK.condD (ev_t rfl) ?_ ?_
     ·intro c11; replace hm := hm.ifp c11
      refine .seq (.region (.t (VB (false)) (e_as rfl) ?_))
      refine .nil ?_
      refine CdOK.ret ?_
      refine ⟨.inr rfl, _, rfl, h, _, _, rfl, rfl, hC, ((renFlV rfl) : RenV _ _ _ _ (VB (false))), ?_⟩
      have hr := hm.ret; replace hr := Ev.ret hr; cases hr; exact ⟨rfl, rfl⟩
     intro c12; replace hm := hm.ifn c12
     refine .skip ?_
     refine CdOK.region (.m rfl ?_)
     refine .t (VI ((w64 (i3 + 1)))) (e_bin (ev_t rfl) rfl rfl rfl) ?_
     refine .a rfl ?_
     refine .nil (.id ?_)
     exact ⟨_, (w64 (i3 + 1)), Nat.lt_succ_self _, hm, (.cons rfl (.cons rfl .nil)), rfl⟩
    intro c13; replace hm := hm.ifn c13
    refine .m rfl ?_
    iterate 12 refine .k ?_
    refine .t (VB (false)) (e_pick (t := false) (ev_t rfl) rfl) ?_
    refine .t (VB (false)) (e_pick (t := false) (ev_t rfl) (ev_t rfl)) ?_
    refine .nil ?_
    refine CdOK.cond_false rfl ?_
    refine .skip ?_
    refine CdOK.region (.m rfl ?_)
    refine .t (VI ((w64 (i3 + 1)))) (e_bin (ev_t rfl) rfl rfl rfl) ?_
    refine .a rfl ?_
    refine .nil (.id ?_)
    exact ⟨_, (w64 (i3 + 1)), Nat.lt_succ_self _, hm, (.cons rfl (.cons rfl .nil)), rfl⟩
   | false =>
    replace hm := hm.ifn Bool.false_ne_true
    refine .cl rfl rfl rfl rfl pl134 (R2.wk _) (ref12_valid1_ok    e7) ?_
    refine .t (VB (true)) (e_un (ev_t rfl) rfl) ?_
    refine .m rfl ?_
    iterate 16 refine .k ?_
    refine .t (VB (true)) (e_pick (t := true) (ev_t rfl) rfl) ?_
    refine .nil ?_
    refine CdOK.cond_true rfl ?_
    refine .seq (.region (.t (VB (false)) (e_as rfl) ?_))
    refine .nil ?_
    refine CdOK.ret ?_
    refine ⟨.inr rfl, _, rfl, h, _, _, rfl, rfl, hC, ((renFlV rfl) : RenV _ _ _ _ (VB (false))), ?_⟩
    have hr := hm.ret; replace hr := Ev.ret hr; cases hr; exact ⟨rfl, rfl⟩
  intro c14; replace hm := hm.ifn c14
  refine .exit ?_
  refine .id ?_
  exact ⟨(), hm.ret, .nil, rfl⟩
 intro _ T0 hm
 refine CdOK.seq (.region (.t (VB (true)) (e_as rfl) ?_))
 refine .nil ?_
 refine CdOK.ret ?_
 refine ⟨.inr rfl, _, rfl, h, _, _, rfl, rfl, hC, ((renFlV rfl) : RenV _ _ _ _ (VB (true))), ?_⟩
 cases hm.ret; exact ⟨rfl, rfl⟩
def ref12_find.l1 (l_ : (List Tx)) (id_ : Int) : Nat → Int → Option (Sum Unit Int)
  | 0, _ => none
  | kk2 + 1, i1 => (if i1 < (l_.length : Int) then (if (0 : Int) ≤ i1 ∧ i1 < (l_.length : Int) then (if ((gd l_ i1).id_) = id_ then some (Sum.inr i1) else ref12_find.l1 l_ id_ kk2 (w64 (i1 + 1))) else none) else some (Sum.inl ()))
def ref12_find (l_ : (List Tx)) (id_ : Int) : Option Int := ((ref12_find.l1 l_ id_ FU 0).bind fun (z : Sum Unit Int) => match z with | .inl (s8 : Unit) => some (-1) | .inr r => some r)
theorem ref12_find_ok {h : Heap} {l_ : (List Tx)} {id_ : Int}   {r : Int} (hm : ref12_find l_ id_ = some r) : FnOK Try.prog 140 [.o (.c (.L 6 (l_.map Tx.cs))), VI (id_)] h (fun v h' => v = VI (r) ∧ h' = h) := by
 refine FnOK.fin ?_
 refine FnOK.bodyC (N := 20) Try.func140 rfl rfl rfl (fun hC => ?_)
 replace hm := Ev.of hm
 rw [ref12_find.eq_1] at hm
 show CdOK _ _ _ (look _ [(0, .o (.c (.L 6 (l_.map Tx.cs)))), (1, VI (id_))]) (h ++ ([] : Heap)) _
 refine .seq (.region (.t (VI (0)) (e_as rfl) ?_))
 refine .nil (CdOK.seq (.seq (.region (.t (VI (0)) (e_as rfl) ?_))))
 refine .nil ?_
 replace hm := hm.bnd
 refine CdOK.joinT (σ := Unit) (fun s => Sum.inl ()) hm (fun s => []) (fun s => h ++ ([] : Heap)) ?_ ?_
 ·intro hm
  refine .block ?_
  refine .loopE (σ := Int) (fun k s => Ev (ref12_find.l1 l_ id_ k s) _) (fun s => [(0, .o (.c (.L 6 (l_.map Tx.cs)))), (1, VI (id_)), (5, VI (s))]) (fun s => h ++ ([] : Heap)) FU 0 hm (.cons rfl (.cons rfl (.cons rfl .nil))) rfl ?_
  rintro kk2 i1 T0 hm
  replace hm : Ev (ref12_find.l1 l_ id_ kk2 i1) _ := hm
  cases kk2 with
  | zero => exact (Ev.non hm).elim
  | succ kk2 =>
  rw [ref12_find.l1.eq_2] at hm
  show CdOK _ _ _ (look T0 [(0, .o (.c (.L 6 (l_.map Tx.cs)))), (1, VI (id_)), (5, VI (i1))]) (h ++ ([] : Heap)) _
  iterate 2 refine .seq ?_
  refine .region ?_
  iterate 2 refine .m rfl ?_
  refine .t (VI ((l_.length : Int))) (e_lenM (ev_t rfl) is92) ?_
  refine .t (VB (decide (i1 < (l_.length : Int)))) (e_bin (ev_t rfl) (ev_t rfl) rfl rfl) ?_
  refine .nil ?_
  refine CdOK.condD (ev_t rfl) ?_ ?_
  ·intro c3; replace hm := hm.ifp c3
   refine .skip ?_
   refine CdOK.seq ?_
   refine .block ?_
   refine .seq (.region ?_)
   iterate 2 refine .m rfl ?_
   obtain ⟨c4, hm⟩ := hm.ifs
   refine .t (.o (.c (.rp [I ((gd l_ i1).id_), I ((gd l_ i1).state), I ((gd l_ i1).last), I ((gd l_ i1).until_), .L 1 (((gd l_ i1).pending).map cI), .L 1 (((gd l_ i1).saves).map cI)]))) (e_ixM (f := Tx.cs) (l := l_) (i := i1) (ev_t rfl) (ev_t rfl) el92 c4) ?_
   refine .t _ (e_faR fa108_0 (ev_t rfl) rfl) ?_
   refine .t _ (e_ldR1 (ev_t rfl) ty3 rfl) ?_
   refine .m rfl ?_
   refine .t (VB (decide (((gd l_ i1).id_) = id_))) (e_eqK (ev_t rfl) (ev_t rfl)) ?_
   refine .nil ?_
   refine CdOK.condD (ev_t rfl) ?_ ?_
   ·intro c5; replace hm := hm.ifp c5
    refine .seq (.region (.m rfl ?_))
    refine .a rfl ?_
    refine .nil ?_
    refine CdOK.ret ?_
    refine ⟨.inr rfl, _, rfl, h, _, _, rfl, rfl, hC, ((renFlV rfl) : RenV _ _ _ _ (VI (i1))), ?_⟩
    have hr := hm.ret; replace hr := Ev.ret hr; cases hr; exact ⟨rfl, rfl⟩
   intro c6; replace hm := hm.ifn c6
   refine .skip ?_
   refine CdOK.region (.m rfl ?_)
   refine .t (VI ((w64 (i1 + 1)))) (e_bin (ev_t rfl) rfl rfl rfl) ?_
   refine .a rfl ?_
   refine .nil (.id ?_)
   exact ⟨_, (w64 (i1 + 1)), Nat.lt_succ_self _, hm, (.cons rfl (.cons rfl (.cons rfl .nil))), rfl⟩
  intro c7; replace hm := hm.ifn c7
  refine .exit ?_
  refine .id ?_
  exact ⟨(), hm.ret, .nil, rfl⟩
 intro _ T0 hm
 refine CdOK.seq (.region (.t (VI ((-1))) (e_as rfl) ?_))
 refine .nil ?_
 refine CdOK.ret ?_
 refine ⟨.inr rfl, _, rfl, h, _, _, rfl, rfl, hC, ((renFlV rfl) : RenV _ _ _ _ (VI ((-1)))), ?_⟩
 cases hm.ret; exact ⟨rfl, rfl⟩
def ref12_Find (l_ : (List Tx)) (id_ : Int) : Option Int := ((ref12_find l_ id_).bind fun (x1 : Int) => some x1)
theorem ref12_Find_ok {h : Heap} {l_ : (List Tx)} {id_ : Int}   {r : Int} (hm : ref12_Find l_ id_ = some r) : FnOK Try.prog 74 [.o (.c (.L 6 (l_.map Tx.cs))), VI (id_)] h (fun v h' => v = VI (r) ∧ h' = h) := by
 refine FnOK.fin ?_
 refine FnOK.bodyC (N := 8) Try.func74 rfl rfl rfl (fun hC => ?_)
 replace hm := Ev.of hm
 rw [ref12_Find.eq_1] at hm
 show CdOK _ _ _ (look _ [(0, .o (.c (.L 6 (l_.map Tx.cs)))), (1, VI (id_))]) (h ++ ([] : Heap)) _
 refine .seq (.region (.t (VI (0)) (e_as rfl) ?_))
 refine .nil (CdOK.seq (.region ?_))
 iterate 2 refine .m rfl ?_
 obtain ⟨x1, e1, hm⟩ := hm.call
 refine .cl rfl rfl rfl rfl pl140 (R2.wk _) (ref12_find_ok    e1) ?_
 rintro _ _ ⟨rfl, rfl⟩
 refine .a rfl ?_
 refine .nil ?_
 refine CdOK.ret ?_
 refine ⟨.inr rfl, _, rfl, h, _, _, rfl, rfl, hC, ((renFlV rfl) : RenV _ _ _ _ (VI (x1))), ?_⟩
 cases hm.ret; exact ⟨rfl, rfl⟩
def ref12_Remove.l1 (l_ : (List Tx)) (id_ : Int) : Nat → (List Tx) → Int → Option (List Tx)
  | 0, _, _ => none
  | kk4 + 1, out2, i3 => (if i3 < (l_.length : Int) then (if (0 : Int) ≤ i3 ∧ i3 < (l_.length : Int) then (if ((gd l_ i3).id_) ≠ id_ then (if (0 : Int) ≤ i3 ∧ i3 < (l_.length : Int) then (if (out2).length + ([(gd l_ i3)] : List Tx).length ≤ 1759218604441 then ref12_Remove.l1 l_ id_ kk4 (out2 ++ ([(gd l_ i3)] : List Tx)) (w64 (i3 + 1)) else none) else none) else ref12_Remove.l1 l_ id_ kk4 out2 (w64 (i3 + 1))) else none) else some out2)
def ref12_Remove (l_ : (List Tx)) (id_ : Int) : Option (List Tx) := ((ref12_Remove.l1 l_ id_ FU ([] : List Tx) 0).bind fun (s12 : (List Tx)) => some s12)
theorem ref12_Remove_ok {h : Heap} {l_ : (List Tx)} {id_ : Int}   {r : (List Tx)} (hm : ref12_Remove l_ id_ = some r) : FnOK Try.prog 76 [.o (.c (.L 6 (l_.map Tx.cs))), VI (id_)] h (fun v h' => v = .o (.c (.L 6 (r.map Tx.cs))) ∧ h' = h) := by
 refine FnOK.fin ?_
 refine FnOK.bodyC (N := 28) Try.func76 rfl rfl rfl (fun hC => ?_)
 replace hm := Ev.of hm
 rw [ref12_Remove.eq_1] at hm
 show CdOK _ _ _ (look _ [(0, .o (.c (.L 6 (l_.map Tx.cs)))), (1, VI (id_))]) (h ++ ([] : Heap)) _
 refine .seq (.region (.t (.o (.c (.v (.slice none 0 0)))) (e_as rfl) ?_))
 refine .nil (CdOK.seq (.region (.t (.o (.c (.v (.slice none 0 0)))) (e_as rfl) ?_)))
 refine .nil (CdOK.seq (.seq (.region (.t (VI (0)) (e_as rfl) ?_))))
 refine .nil ?_
 replace hm := hm.bnd
 refine CdOK.joinT (σ := (List Tx)) (fun s => s) hm (fun s => [(5, .o (.c (.L 6 (s.map Tx.cs))))]) (fun s => h ++ ([] : Heap)) ?_ ?_
 ·intro hm
  refine .block ?_
  refine .re (σ := [1000]) (X := [(0, .o (.c (.L 6 (l_.map Tx.cs)))), (1, VI (id_)), (5, .o (.c (.g (h.length + 0) ((([] : List Tx)).length) 6 false))), (6, VI (0))]) (L' := [⟨(([] : List Tx).map Tx.cs).flatten, true, false⟩]) rfl rfl hC (by decide) (.dead 1000 _ rfl .nil) (.cons (renFlV rfl) (.cons (renFlV rfl) (.cons (.o (.c (.nilg _ _))) (.cons (renFlV rfl) .nil)))) ?_
  refine .loopE (σ := ((List Tx) × Int × Bool)) (fun k s => Ev (ref12_Remove.l1 l_ id_ k s.1 s.2.1) _) (fun s => [(0, .o (.c (.L 6 (l_.map Tx.cs)))), (1, VI (id_)), (5, .o (.c (.g (h.length + 0) ((s.1).length) 6 s.2.2))), (6, VI (s.2.1))]) (fun s => h ++ ([⟨(s.1.map Tx.cs).flatten, true, s.2.2⟩] : Heap)) FU (([] : List Tx), 0, false) hm (.cons rfl (.cons rfl (.cons rfl (.cons rfl .nil)))) rfl ?_
  rintro kk4 ⟨out2, i3, out2v⟩ T0 hm
  replace hm : Ev (ref12_Remove.l1 l_ id_ kk4 out2 i3) _ := hm
  cases kk4 with
  | zero => exact (Ev.non hm).elim
  | succ kk4 =>
  rw [ref12_Remove.l1.eq_2] at hm
  show CdOK _ _ _ (look T0 [(0, .o (.c (.L 6 (l_.map Tx.cs)))), (1, VI (id_)), (5, .o (.c (.g (h.length + 0) ((out2).length) 6 out2v))), (6, VI (i3))]) (h ++ ([⟨(out2.map Tx.cs).flatten, true, out2v⟩] : Heap)) _
  iterate 2 refine .seq ?_
  refine .region ?_
  iterate 2 refine .m rfl ?_
  refine .t (VI ((l_.length : Int))) (e_lenM (ev_t rfl) is92) ?_
  refine .t (VB (decide (i3 < (l_.length : Int)))) (e_bin (ev_t rfl) (ev_t rfl) rfl rfl) ?_
  refine .nil ?_
  refine CdOK.condD (ev_t rfl) ?_ ?_
  ·intro c5; replace hm := hm.ifp c5
   refine .skip ?_
   refine CdOK.seq ?_
   refine .block ?_
   refine .seq (.region ?_)
   iterate 2 refine .m rfl ?_
   obtain ⟨c6, hm⟩ := hm.ifs
   refine .t (.o (.c (.rp [I ((gd l_ i3).id_), I ((gd l_ i3).state), I ((gd l_ i3).last), I ((gd l_ i3).until_), .L 1 (((gd l_ i3).pending).map cI), .L 1 (((gd l_ i3).saves).map cI)]))) (e_ixM (f := Tx.cs) (l := l_) (i := i3) (ev_t rfl) (ev_t rfl) el92 c6) ?_
   refine .t _ (e_faR fa108_0 (ev_t rfl) rfl) ?_
   refine .t _ (e_ldR1 (ev_t rfl) ty3 rfl) ?_
   refine .m rfl ?_
   refine .t (VB (decide (((gd l_ i3).id_) ≠ id_))) (e_neK (ev_t rfl) (ev_t rfl)) ?_
   refine .nil ?_
   refine CdOK.condD (ev_t rfl) ?_ ?_
   ·intro c7; replace hm := hm.ifp c7
    refine .region ?_
    iterate 3 refine .m rfl ?_
    obtain ⟨c8, hm⟩ := hm.ifs
    refine .t (.o (.c (.rp [I ((gd l_ i3).id_), I ((gd l_ i3).state), I ((gd l_ i3).last), I ((gd l_ i3).until_), .L 1 (((gd l_ i3).pending).map cI), .L 1 (((gd l_ i3).saves).map cI)]))) (e_ixM (f := Tx.cs) (l := l_) (i := i3) (ev_t rfl) (ev_t rfl) el92 c8) ?_
    refine .t _ (e_ldRA (ev_t rfl) ty108 rfl rfl) ?_
    refine .t (.o (.c (.LC 6 (([(gd l_ i3)] : List Tx).map Tx.cs)))) (e_litF (xs := [[I ((gd l_ i3).id_), I ((gd l_ i3).state), I ((gd l_ i3).last), I ((gd l_ i3).until_), .L 1 (((gd l_ i3).pending).map cI), .L 1 (((gd l_ i3).saves).map cI)]]) (ys := ([(gd l_ i3)]).map Tx.cs) slt92 nl92 rfl rfl rfl rfl rfl rfl) ?_
    obtain ⟨c9, hm⟩ := hm.ifs
    refine .t (.o (.c (.g (h.length + 1) (((out2 ++ ([(gd l_ i3)] : List Tx))).length) 6 (out2v || decide (0 < ([(gd l_ i3)] : List Tx).length))))) (e_apG (k := 6) (q := 1759218604441) (m := ([(gd l_ i3)] : List Tx).length) (j := 0) (f := Tx.cs) (xs := out2) (ys := ([(gd l_ i3)] : List Tx)) (L' := [⟨(out2.map Tx.cs).flatten, true, false⟩, ⟨((out2 ++ ([(gd l_ i3)] : List Tx)).map Tx.cs).flatten, true, (out2v || decide (0 < ([(gd l_ i3)] : List Tx).length))⟩]) slt92 rfl (ev_t rfl) (ev_t rfl) (bx rfl rfl) (by intro x; rfl) src_LC rfl c9 rfl (by first | rfl | simp) rfl rfl) ?_
    refine .a rfl ?_
    refine .nil (CdOK.region (.m rfl ?_))
    refine .t (VI ((w64 (i3 + 1)))) (e_bin (ev_t rfl) rfl rfl rfl) ?_
    refine .a rfl ?_
    refine .nil ?_
    refine .re (σ := [1]) (X := [(0, .o (.c (.L 6 (l_.map Tx.cs)))), (1, VI (id_)), (5, .o (.c (.g (h.length + 0) (((out2 ++ ([(gd l_ i3)] : List Tx))).length) 6 (out2v || decide (0 < ([(gd l_ i3)] : List Tx).length))))), (6, VI ((w64 (i3 + 1))))]) (L' := [⟨((out2 ++ ([(gd l_ i3)] : List Tx)).map Tx.cs).flatten, true, (out2v || decide (0 < ([(gd l_ i3)] : List Tx).length))⟩]) rfl rfl hC (by decide) (.obj 1 rfl (renFl (flat_all (f := Tx.cs) (l := (out2 ++ ([(gd l_ i3)] : List Tx))) (by intro x; rfl))) .nil) (.cons (renFlV rfl) (.cons (renFlV rfl) (.cons (.o (.c (.gg 1 0 _ _ _ _ _ rfl (by first | rfl | (simp; done) | (dsimp only at *; simp only [List.length_take]; omega)) rfl))) (.cons (renFlV rfl) .nil)))) ?_
    exact ⟨_, ((out2 ++ ([(gd l_ i3)] : List Tx)), (w64 (i3 + 1)), (out2v || decide (0 < ([(gd l_ i3)] : List Tx).length))), Nat.lt_succ_self _, hm, (.cons rfl (.cons rfl (.cons rfl (.cons rfl .nil)))), rfl⟩
   intro c10; replace hm := hm.ifn c10
   refine .skip ?_
   refine CdOK.region (.m rfl ?_)
   refine .t (VI ((w64 (i3 + 1)))) (e_bin (ev_t rfl) rfl rfl rfl) ?_
   refine .a rfl ?_
   refine .nil (.id ?_)
   exact ⟨_, (out2, (w64 (i3 + 1)), out2v), Nat.lt_succ_self _, hm, (.cons rfl (.cons rfl (.cons rfl (.cons rfl .nil)))), rfl⟩
  intro c11; replace hm := hm.ifn c11
  refine .exit ?_
  refine .re (σ := []) (X := [(5, .o (.c (.L 6 (out2.map Tx.cs))))]) (L' := []) rfl rfl hC (by decide) .nil (.cons (.o (.c (.fzg 0 _ 6 _ (out2.map Tx.cs) rfl (by decide) (by first | exact List.length_map .. | simp) (lens_all (by intro x; rfl)) (vl_all (by intro x; rfl))))) .nil) ?_
  exact ⟨out2, hm.ret, (.cons rfl .nil), rfl⟩
 rintro out1 T0 hm
 refine CdOK.seq (.region (.m rfl ?_))
 refine .a rfl ?_
 refine .nil ?_
 refine CdOK.ret ?_
 refine ⟨.inr rfl, _, rfl, h, _, _, rfl, rfl, hC, ((renFlV rfl) : RenV _ _ _ _ (.o (.c (.L 6 (out1.map Tx.cs))))), ?_⟩
 cases hm.ret; exact ⟨rfl, rfl⟩
def ref12_settle (x_ : Tx) : Option Tx := (if x_.state = 2 then (if (x_.pending.length : Int) = 0 then some (⟨x_.id_, 1, x_.last, 0, x_.pending, x_.saves⟩ : Tx) else (if (0 : Int) ≤ (w64 ((x_.pending.length : Int) - 1)) ∧ (w64 ((x_.pending.length : Int) - 1)) < (x_.pending.length : Int) then (if (gd x_.pending (w64 ((x_.pending.length : Int) - 1))) ≤ x_.until_ then some (⟨x_.id_, 1, x_.last, 0, x_.pending, x_.saves⟩ : Tx) else some x_) else none)) else some x_)
theorem ref12_settle_ok {h : Heap} {x_ : Tx}   {r : Tx} (hm : ref12_settle x_ = some r) : FnOK Try.prog 142 [.o (.agg [I (x_.id_), I (x_.state), I (x_.last), I (x_.until_), .L 1 (x_.pending.map cI), .L 1 (x_.saves.map cI)])] h (fun v h' => v = .o (.agg [I (r.id_), I (r.state), I (r.last), I (r.until_), .L 1 (r.pending.map cI), .L 1 (r.saves.map cI)]) ∧ h' = h) := by
 refine FnOK.fin ?_
 refine FnOK.bodyC (N := 28) Try.func142 rfl rfl rfl (fun hC => ?_)
 replace hm := Ev.of hm
 rw [ref12_settle.eq_1] at hm
 show CdOK _ _ _ (look _ [(0, .o (.agg [I (x_.id_), I (x_.state), I (x_.last), I (x_.until_), .L 1 (x_.pending.map cI), .L 1 (x_.saves.map cI)]))]) (h ++ ([] : Heap)) _
 refine .seq (.region (.t (.o (.c (.ptr (h.length + 0) 0))) (e_boxN (L' := [⟨[I (x_.id_), I (x_.state), I (x_.last), I (x_.until_), .L 1 (x_.pending.map cI), .L 1 (x_.saves.map cI)], true, true⟩]) rfl (ev_t rfl) rfl rfl) ?_))
 refine .t (.o (.c (.ptr (h.length + 1) 0))) (e_allocN (L' := [⟨[I (x_.id_), I (x_.state), I (x_.last), I (x_.until_), .L 1 (x_.pending.map cI), .L 1 (x_.saves.map cI)], true, true⟩, ⟨[I (0), I (0), I (0), I (0), .v (.slice none 0 0), .v (.slice none 0 0)], true, true⟩]) rfl zo108 rfl rfl) ?_
 refine .nil (CdOK.seq (.seq ?_))
 refine .draw fol (by decide +kernel) ?_
 refine .t _ (e_fa' fa108_1 (ev_t rfl)) ?_
 refine .t _ (e_ldb1 (ev_t rfl) ty3 (bx rfl rfl) rfl) ?_
 refine .sd rfl rfl rfl (e_eqK (ev_t rfl) rfl) ?_ ?_
 ·intro c1; replace hm := hm.ifp c1
  refine .m rfl ?_
  refine .t _ (e_fa' fa108_4 (ev_t rfl)) ?_
  refine .t _ (e_ldb1 (ev_t rfl) ty27 (bx rfl rfl) rfl) ?_
  refine .t (VI ((x_.pending.length : Int))) (e_lenM (ev_t rfl) is27) ?_
  refine .sd rfl rfl rfl (e_eqK (ev_t rfl) rfl) ?_ ?_
  ·intro c2; replace hm := hm.ifp c2
   refine .m rfl ?_
   iterate 11 refine .k ?_
   refine .t (VB (true)) (e_pick (t := true) (ev_t rfl) rfl) ?_
   refine .t (VB (true)) (e_pick (t := true) (ev_t rfl) (ev_t rfl)) ?_
   refine .nil ?_
   refine CdOK.cond_true rfl ?_
   refine .region (.t _ (e_fa' fa108_1 (ev_t rfl)) ?_)
   refine .s0 rfl rfl (e_stN (L' := [⟨[I (x_.id_), I (1), I (x_.last), I (x_.until_), .L 1 (x_.pending.map cI), .L 1 (x_.saves.map cI)], true, true⟩, ⟨[I (0), I (0), I (0), I (0), .v (.slice none 0 0), .v (.slice none 0 0)], true, true⟩]) rfl (ev_t rfl) rfl ty3 rfl rfl rfl rfl rfl) ?_
   refine .t _ (e_fa' fa108_3 (ev_t rfl)) ?_
   refine .s0 rfl rfl (e_stN (L' := [⟨[I (x_.id_), I (1), I (x_.last), I (0), .L 1 (x_.pending.map cI), .L 1 (x_.saves.map cI)], true, true⟩, ⟨[I (0), I (0), I (0), I (0), .v (.slice none 0 0), .v (.slice none 0 0)], true, true⟩]) rfl (ev_t rfl) rfl ty3 rfl rfl rfl rfl rfl) ?_
   refine .nil (CdOK.seq (.region (.t _ (e_ldbA (ev_t rfl) ty108 (bx rfl rfl) rfl rfl) ?_)))
   refine .s0 rfl rfl (e_stN (L' := [⟨[I (x_.id_), I (1), I (x_.last), I (0), .L 1 (x_.pending.map cI), .L 1 (x_.saves.map cI)], true, true⟩, ⟨[I (x_.id_), I (1), I (x_.last), I (0), .L 1 (x_.pending.map cI), .L 1 (x_.saves.map cI)], true, true⟩]) rfl (ev_t rfl) (ev_t rfl) ty108 rfl rfl rfl rfl rfl) ?_
   refine .nil ?_
   refine CdOK.ret ?_
   refine ⟨.inr rfl, _, (resA_c (look_find rfl) (eLoad_A ty108 (bx rfl rfl) rfl rfl rfl) resA_n), h, _, _, rfl, rfl, hC, ((renFlV rfl) : RenV _ _ _ _ (.o (.agg [I (x_.id_), I (1), I (x_.last), I (0), .L 1 (x_.pending.map cI), .L 1 (x_.saves.map cI)]))), ?_⟩
   cases hm.ret; exact ⟨rfl, rfl⟩
  intro c3; replace hm := hm.ifn c3
  refine .m rfl ?_
  refine .t _ (e_fa' fa108_4 (ev_t rfl)) ?_
  refine .t _ (e_ldb1 (ev_t rfl) ty27 (bx rfl rfl) rfl) ?_
  refine .t _ (e_fa' fa108_4 (ev_t rfl)) ?_
  refine .t _ (e_ldb1 (ev_t rfl) ty27 (bx rfl rfl) rfl) ?_
  refine .t (VI ((x_.pending.length : Int))) (e_lenM (ev_t rfl) is27) ?_
  refine .t (VI ((w64 ((x_.pending.length : Int) - 1)))) (e_bin (ev_t rfl) rfl rfl rfl) ?_
  obtain ⟨c4, hm⟩ := hm.ifs
  refine .t (.o (.c (.rp [I ((gd x_.pending (w64 ((x_.pending.length : Int) - 1))))]))) (e_ixM (f := cI) (l := x_.pending) (i := (w64 ((x_.pending.length : Int) - 1))) (ev_t rfl) (ev_t rfl) el27 c4) ?_
  refine .t _ (e_ldR1 (ev_t rfl) ty3 rfl) ?_
  refine .t _ (e_fa' fa108_3 (ev_t rfl)) ?_
  refine .t _ (e_ldb1 (ev_t rfl) ty3 (bx rfl rfl) rfl) ?_
  refine .t (VB (decide ((gd x_.pending (w64 ((x_.pending.length : Int) - 1))) ≤ x_.until_))) (e_bin (ev_t rfl) (ev_t rfl) rfl rfl) ?_
  refine .t (VB (decide ((gd x_.pending (w64 ((x_.pending.length : Int) - 1))) ≤ x_.until_))) (e_pick (t := false) (ev_t rfl) (ev_t rfl)) ?_
  refine .t (VB (decide ((gd x_.pending (w64 ((x_.pending.length : Int) - 1))) ≤ x_.until_))) (e_pick (t := true) (ev_t rfl) (ev_t rfl)) ?_
  refine .nil ?_
  refine CdOK.condD (ev_t rfl) ?_ ?_
  ·intro c5; replace hm := hm.ifp c5
   refine .region (.t _ (e_fa' fa108_1 (ev_t rfl)) ?_)
   refine .s0 rfl rfl (e_stN (L' := [⟨[I (x_.id_), I (1), I (x_.last), I (x_.until_), .L 1 (x_.pending.map cI), .L 1 (x_.saves.map cI)], true, true⟩, ⟨[I (0), I (0), I (0), I (0), .v (.slice none 0 0), .v (.slice none 0 0)], true, true⟩]) rfl (ev_t rfl) rfl ty3 rfl rfl rfl rfl rfl) ?_
   refine .t _ (e_fa' fa108_3 (ev_t rfl)) ?_
   refine .s0 rfl rfl (e_stN (L' := [⟨[I (x_.id_), I (1), I (x_.last), I (0), .L 1 (x_.pending.map cI), .L 1 (x_.saves.map cI)], true, true⟩, ⟨[I (0), I (0), I (0), I (0), .v (.slice none 0 0), .v (.slice none 0 0)], true, true⟩]) rfl (ev_t rfl) rfl ty3 rfl rfl rfl rfl rfl) ?_
   refine .nil (CdOK.seq (.region (.t _ (e_ldbA (ev_t rfl) ty108 (bx rfl rfl) rfl rfl) ?_)))
   refine .s0 rfl rfl (e_stN (L' := [⟨[I (x_.id_), I (1), I (x_.last), I (0), .L 1 (x_.pending.map cI), .L 1 (x_.saves.map cI)], true, true⟩, ⟨[I (x_.id_), I (1), I (x_.last), I (0), .L 1 (x_.pending.map cI), .L 1 (x_.saves.map cI)], true, true⟩]) rfl (ev_t rfl) (ev_t rfl) ty108 rfl rfl rfl rfl rfl) ?_
   refine .nil ?_
   refine CdOK.ret ?_
   refine ⟨.inr rfl, _, (resA_c (look_find rfl) (eLoad_A ty108 (bx rfl rfl) rfl rfl rfl) resA_n), h, _, _, rfl, rfl, hC, ((renFlV rfl) : RenV _ _ _ _ (.o (.agg [I (x_.id_), I (1), I (x_.last), I (0), .L 1 (x_.pending.map cI), .L 1 (x_.saves.map cI)]))), ?_⟩
   cases hm.ret; exact ⟨rfl, rfl⟩
  intro c6; replace hm := hm.ifn c6
  refine .skip ?_
  refine CdOK.seq (.region (.t _ (e_ldbA (ev_t rfl) ty108 (bx rfl rfl) rfl rfl) ?_))
  refine .s0 rfl rfl (e_stN (L' := [⟨[I (x_.id_), I (x_.state), I (x_.last), I (x_.until_), .L 1 (x_.pending.map cI), .L 1 (x_.saves.map cI)], true, true⟩, ⟨[I (x_.id_), I (x_.state), I (x_.last), I (x_.until_), .L 1 (x_.pending.map cI), .L 1 (x_.saves.map cI)], true, true⟩]) rfl (ev_t rfl) (ev_t rfl) ty108 rfl rfl rfl rfl rfl) ?_
  refine .nil ?_
  refine CdOK.ret ?_
  refine ⟨.inr rfl, _, (resA_c (look_find rfl) (eLoad_A ty108 (bx rfl rfl) rfl rfl rfl) resA_n), h, _, _, rfl, rfl, hC, ((renFlV rfl) : RenV _ _ _ _ (.o (.agg [I (x_.id_), I (x_.state), I (x_.last), I (x_.until_), .L 1 (x_.pending.map cI), .L 1 (x_.saves.map cI)]))), ?_⟩
  cases hm.ret; exact ⟨rfl, rfl⟩
 intro c7; replace hm := hm.ifn c7
 refine .m rfl ?_
 iterate 17 refine .k ?_
 refine .t (VB (false)) (e_pick (t := false) (ev_t rfl) rfl) ?_
 refine .nil ?_
 refine CdOK.cond_false rfl ?_
 refine .skip ?_
 refine CdOK.seq (.region (.t _ (e_ldbA (ev_t rfl) ty108 (bx rfl rfl) rfl rfl) ?_))
 refine .s0 rfl rfl (e_stN (L' := [⟨[I (x_.id_), I (x_.state), I (x_.last), I (x_.until_), .L 1 (x_.pending.map cI), .L 1 (x_.saves.map cI)], true, true⟩, ⟨[I (x_.id_), I (x_.state), I (x_.last), I (x_.until_), .L 1 (x_.pending.map cI), .L 1 (x_.saves.map cI)], true, true⟩]) rfl (ev_t rfl) (ev_t rfl) ty108 rfl rfl rfl rfl rfl) ?_
 refine .nil ?_
 refine CdOK.ret ?_
 refine ⟨.inr rfl, _, (resA_c (look_find rfl) (eLoad_A ty108 (bx rfl rfl) rfl rfl rfl) resA_n), h, _, _, rfl, rfl, hC, ((renFlV rfl) : RenV _ _ _ _ (.o (.agg [I (x_.id_), I (x_.state), I (x_.last), I (x_.until_), .L 1 (x_.pending.map cI), .L 1 (x_.saves.map cI)]))), ?_⟩
 cases hm.ret; exact ⟨rfl, rfl⟩
def ref12_set (l_ : (List Tx)) (i_ : Int) (x_ : Tx) : Option (List Tx) := (if l_.length ≤ 1759218604441 then (if 0 < l_.length then (if (0 : Int) ≤ i_ ∧ i_ < (l_.length : Int) then (if (0 : Int) ≤ i_ ∧ i_ < (l_.length : Int) then some (l_.set (Int.toNat i_) x_) else none) else none) else none) else none)
theorem ref12_set_ok {h : Heap} {l_ : (List Tx)} {i_ : Int} {x_ : Tx}   {r : (List Tx)} (hm : ref12_set l_ i_ x_ = some r) : FnOK Try.prog 141 [.o (.c (.L 6 (l_.map Tx.cs))), VI (i_), .o (.agg [I (x_.id_), I (x_.state), I (x_.last), I (x_.until_), .L 1 (x_.pending.map cI), .L 1 (x_.saves.map cI)])] h (fun v h' => v = .o (.c (.L 6 (r.map Tx.cs))) ∧ h' = h) := by
 refine FnOK.fin ?_
 refine FnOK.bodyC (N := 15) Try.func141 rfl rfl rfl (fun hC => ?_)
 replace hm := Ev.of hm
 rw [ref12_set.eq_1] at hm
 show CdOK _ _ _ (look _ [(0, .o (.c (.L 6 (l_.map Tx.cs)))), (1, VI (i_)), (2, .o (.agg [I (x_.id_), I (x_.state), I (x_.last), I (x_.until_), .L 1 (x_.pending.map cI), .L 1 (x_.saves.map cI)]))]) (h ++ ([] : Heap)) _
 refine .seq (.region (.t (.o (.c (.ptr (h.length + 0) 0))) (e_boxN (L' := [⟨[I (x_.id_), I (x_.state), I (x_.last), I (x_.until_), .L 1 (x_.pending.map cI), .L 1 (x_.saves.map cI)], true, true⟩]) rfl (ev_t rfl) rfl rfl) ?_))
 refine .t (.o (.c (.v (.slice none 0 0)))) (e_as rfl) ?_
 refine .nil (CdOK.seq (.region (.m rfl ?_)))
 obtain ⟨c1, hm⟩ := hm.ifs
 refine .t (.o (.c (.g (h.length + 1) ((l_).length) 6 (decide (0 < l_.length))))) (e_apN (k := 6) (q := 1759218604441) (m := l_.length) (lv := (decide (0 < l_.length))) (f := Tx.cs) (xs := l_) (L' := [⟨[I (x_.id_), I (x_.state), I (x_.last), I (x_.until_), .L 1 (x_.pending.map cI), .L 1 (x_.saves.map cI)], true, true⟩, ⟨(l_.map Tx.cs).flatten, true, (decide (0 < l_.length))⟩]) slt92 rfl rfl (ev_t rfl) src_L c1 rfl rfl rfl rfl) ?_
 refine .a rfl ?_
 refine .nil (CdOK.seq ?_)
 obtain ⟨c2, hm⟩ := hm.ifs
 rw [show (decide (0 < l_.length)) = true from decide_eq_true c2]
 refine .region ?_
 iterate 2 refine .m rfl ?_
 refine .t _ (e_ldbA (ev_t rfl) ty108 (bx rfl rfl) rfl rfl) ?_
 obtain ⟨c3, hm⟩ := hm.ifs
 refine .t (.o (.c (.ptr (h.length + 1) (0 + (Int.toNat i_) * 6)))) (e_ixg (ev_t rfl) (ev_t rfl) el92 c3) ?_
 obtain ⟨c4, hm⟩ := hm.ifs
 refine .s0 rfl rfl (e_stg (k := 6) (off := 0) (f := Tx.cs) (l := l_) (i := i_) (x := x_) (L' := [⟨[I (x_.id_), I (x_.state), I (x_.last), I (x_.until_), .L 1 (x_.pending.map cI), .L 1 (x_.saves.map cI)], true, true⟩, ⟨((l_.set (Int.toNat i_) x_).map Tx.cs).flatten, true, true⟩]) rfl (ev_t rfl) (ev_t rfl) ty108 rfl (by intro x; rfl) rfl rfl c4 (by omega) rfl) ?_
 refine .nil (CdOK.seq (.region (.m rfl ?_)))
 refine .a rfl ?_
 refine .nil ?_
 refine CdOK.ret ?_
 refine ⟨.inr rfl, _, rfl, h, _, _, rfl, rfl, hC, ((.o (.c (.fzg 1 _ 6 _ ((l_.set (Int.toNat i_) x_).map Tx.cs) rfl (by decide) (by first | exact List.length_map .. | simp) (lens_all (by intro x; rfl)) (vl_all (by intro x; rfl))))) : RenV _ _ _ _ (.o (.c (.L 6 ((l_.set (Int.toNat i_) x_).map Tx.cs))))), ?_⟩
 cases hm.ret; exact ⟨rfl, rfl⟩
def ref12_active (l_ : (List Tx)) (id_ : Int) : Option (Int × Int) := ((ref12_Valid l_).bind fun (x1 : Bool) => (if (!x1) = true then some (0, 15) else ((ref12_find l_ id_).bind fun (x4 : Int) => (if x4 < 0 then some (0, 16) else (if (0 : Int) ≤ x4 ∧ x4 < (l_.length : Int) then (if ((gd l_ x4).state) ≠ 1 then some (0, 15) else some (x4, 0)) else none)))))
theorem ref12_active_ok {h : Heap} {l_ : (List Tx)} {id_ : Int}   {r : (Int × Int)} (hm : ref12_active l_ id_ = some r) : FnOK Try.prog 152 [.o (.c (.L 6 (l_.map Tx.cs))), VI (id_)] h (fun v h' => v = .tup [.c (I (r.1)), .c (I (r.2))] ∧ h' = h) := by
 refine FnOK.fin ?_
 refine FnOK.bodyC (N := 22) Try.func152 rfl rfl rfl (fun hC => ?_)
 replace hm := Ev.of hm
 rw [ref12_active.eq_1] at hm
 show CdOK _ _ _ (look _ [(0, .o (.c (.L 6 (l_.map Tx.cs)))), (1, VI (id_))]) (h ++ ([] : Heap)) _
 refine .seq (.region (.t (VI (0)) (e_as rfl) ?_))
 refine .t (VI (0)) (e_as rfl) ?_
 refine .nil (CdOK.seq (.seq (.region (.m rfl ?_))))
 obtain ⟨x1, e1, hm⟩ := hm.call
 refine .cl rfl rfl rfl rfl pl66 (R2.wk _) (ref12_Valid_ok    e1) ?_
 rintro _ _ ⟨rfl, rfl⟩
 refine .t (VB ((!x1))) (e_un (ev_t rfl) rfl) ?_
 refine .nil ?_
 refine CdOK.condB (ev_t rfl) ?_ ?_
 ·intro c2; replace hm := hm.ifp c2
  refine .seq (.region (.t (VI (0)) (e_as rfl) ?_))
  refine .t (VI (15)) (e_as rfl) ?_
  refine .nil ?_
  refine CdOK.ret ?_
  refine ⟨.inr rfl, _, rfl, h, _, _, rfl, rfl, hC, ((renFlV rfl) : RenV _ _ _ _ (.tup [.c (I (0)), .c (I (15))])), ?_⟩
  cases hm.ret; exact ⟨rfl, rfl⟩
 intro c3; replace hm := hm.ifn c3
 refine .skip ?_
 refine CdOK.seq (.region ?_)
 iterate 2 refine .m rfl ?_
 obtain ⟨x4, e4, hm⟩ := hm.call
 refine .cl rfl rfl rfl rfl pl140 (R2.wk _) (ref12_find_ok    e4) ?_
 rintro _ _ ⟨rfl, rfl⟩
 refine .a rfl ?_
 refine .nil (CdOK.seq (.seq (.region (.m rfl ?_))))
 refine .t (VB (decide (x4 < 0))) (e_bin (ev_t rfl) rfl rfl rfl) ?_
 refine .nil ?_
 refine CdOK.condD (ev_t rfl) ?_ ?_
 ·intro c5; replace hm := hm.ifp c5
  refine .seq (.region (.t (VI (0)) (e_as rfl) ?_))
  refine .t (VI (16)) (e_as rfl) ?_
  refine .nil ?_
  refine CdOK.ret ?_
  refine ⟨.inr rfl, _, rfl, h, _, _, rfl, rfl, hC, ((renFlV rfl) : RenV _ _ _ _ (.tup [.c (I (0)), .c (I (16))])), ?_⟩
  cases hm.ret; exact ⟨rfl, rfl⟩
 intro c6; replace hm := hm.ifn c6
 refine .skip ?_
 refine CdOK.seq (.seq (.region ?_))
 iterate 2 refine .m rfl ?_
 obtain ⟨c7, hm⟩ := hm.ifs
 refine .t (.o (.c (.rp [I ((gd l_ x4).id_), I ((gd l_ x4).state), I ((gd l_ x4).last), I ((gd l_ x4).until_), .L 1 (((gd l_ x4).pending).map cI), .L 1 (((gd l_ x4).saves).map cI)]))) (e_ixM (f := Tx.cs) (l := l_) (i := x4) (ev_t rfl) (ev_t rfl) el92 c7) ?_
 refine .t _ (e_faR fa108_1 (ev_t rfl) rfl) ?_
 refine .t _ (e_ldR1 (ev_t rfl) ty3 rfl) ?_
 refine .t (VB (decide (((gd l_ x4).state) ≠ 1))) (e_neK (ev_t rfl) rfl) ?_
 refine .nil ?_
 refine CdOK.condD (ev_t rfl) ?_ ?_
 ·intro c8; replace hm := hm.ifp c8
  refine .seq (.region (.t (VI (0)) (e_as rfl) ?_))
  refine .t (VI (15)) (e_as rfl) ?_
  refine .nil ?_
  refine CdOK.ret ?_
  refine ⟨.inr rfl, _, rfl, h, _, _, rfl, rfl, hC, ((renFlV rfl) : RenV _ _ _ _ (.tup [.c (I (0)), .c (I (15))])), ?_⟩
  cases hm.ret; exact ⟨rfl, rfl⟩
 intro c9; replace hm := hm.ifn c9
 refine .skip ?_
 refine CdOK.seq (.region (.m rfl ?_))
 refine .a rfl ?_
 refine .t (VI (0)) (e_as rfl) ?_
 refine .nil ?_
 refine CdOK.ret ?_
 refine ⟨.inr rfl, _, rfl, h, _, _, rfl, rfl, hC, ((renFlV rfl) : RenV _ _ _ _ (.tup [.c (I (x4)), .c (I (0))])), ?_⟩
 cases hm.ret; exact ⟨rfl, rfl⟩
def ref12_Save (l_ : (List Tx)) (id_ : Int) : Option ((List Tx) × Int) := ((ref12_active l_ id_).bind fun (x1 : (Int × Int)) => (if x1.2 ≠ 0 then some (([] : List Tx), x1.2) else (if (0 : Int) ≤ x1.1 ∧ x1.1 < (l_.length : Int) then (if (((gd l_ x1.1).saves).length : Int) = 8 then some (([] : List Tx), 21) else (if ((gd l_ x1.1).saves).length ≤ 17592186044416 then (if ((gd l_ x1.1).saves).length + ([(gd l_ x1.1).last] : List Int).length ≤ 17592186044416 then ((ref12_set l_ x1.1 (⟨(gd l_ x1.1).id_, (gd l_ x1.1).state, (gd l_ x1.1).last, (gd l_ x1.1).until_, (gd l_ x1.1).pending, ((gd l_ x1.1).saves ++ ([(gd l_ x1.1).last] : List Int))⟩ : Tx)).bind fun (x9 : (List Tx)) => some (x9, 0)) else none) else none)) else none)))
theorem ref12_Save_ok {h : Heap} {l_ : (List Tx)} {id_ : Int}   {r : ((List Tx) × Int)} (hm : ref12_Save l_ id_ = some r) : FnOK Try.prog 78 [.o (.c (.L 6 (l_.map Tx.cs))), VI (id_)] h (fun v h' => v = .tup [.c (.L 6 (r.1.map Tx.cs)), .c (I (r.2))] ∧ h' = h) := by
 refine FnOK.fin ?_
 refine FnOK.bodyC (N := 38) Try.func78 rfl rfl rfl (fun hC => ?_)
 replace hm := Ev.of hm
 rw [ref12_Save.eq_1] at hm
 show CdOK _ _ _ (look _ [(0, .o (.c (.L 6 (l_.map Tx.cs)))), (1, VI (id_))]) (h ++ ([] : Heap)) _
 refine .seq (.region (.t (.o (.c (.v (.slice none 0 0)))) (e_as rfl) ?_))
 refine .t (VI (0)) (e_as rfl) ?_
 refine .nil (CdOK.seq (.region ?_))
 iterate 2 refine .m rfl ?_
 obtain ⟨x1, e1, hm⟩ := hm.call
 refine .cl rfl rfl rfl rfl pl152 (R2.wk _) (ref12_active_ok    e1) ?_
 rintro _ _ ⟨rfl, rfl⟩
 refine .m rfl ?_
 refine .t (VI (x1.1)) (e_ext (ev_t rfl) rfl) ?_
 refine .t (VI (x1.2)) (e_ext (ev_t rfl) rfl) ?_
 iterate 2 refine .a rfl ?_
 refine .nil (CdOK.seq (.seq (.region (.m rfl ?_))))
 refine .t (VB (decide (x1.2 ≠ 0))) (e_neK (ev_t rfl) rfl) ?_
 refine .nil ?_
 refine CdOK.condD (ev_t rfl) ?_ ?_
 ·intro c2; replace hm := hm.ifp c2
  refine .seq (.region (.m rfl ?_))
  refine .t (.o (.c (.v (.slice none 0 0)))) (e_as rfl) ?_
  refine .a rfl ?_
  refine .nil ?_
  refine CdOK.ret ?_
  refine ⟨.inr rfl, _, rfl, h, _, _, rfl, rfl, hC, ((.tup (R2.of (.c (.wk (.fl _ rfl) (.nlL _))) (R2.of (.c (.fl _ rfl)) (R2.nil _)))) : RenV _ _ _ _ (.tup [.c (.L 6 (([] : List Tx).map Tx.cs)), .c (I (x1.2))])), ?_⟩
  cases hm.ret; exact ⟨rfl, rfl⟩
 intro c3; replace hm := hm.ifn c3
 refine .skip ?_
 refine CdOK.seq (.region ?_)
 iterate 2 refine .m rfl ?_
 obtain ⟨c4, hm⟩ := hm.ifs
 refine .t (.o (.c (.rp [I ((gd l_ x1.1).id_), I ((gd l_ x1.1).state), I ((gd l_ x1.1).last), I ((gd l_ x1.1).until_), .L 1 (((gd l_ x1.1).pending).map cI), .L 1 (((gd l_ x1.1).saves).map cI)]))) (e_ixM (f := Tx.cs) (l := l_) (i := x1.1) (ev_t rfl) (ev_t rfl) el92 c4) ?_
 refine .t _ (e_ldRA (ev_t rfl) ty108 rfl rfl) ?_
 refine .t (.o (.c (.ptr (h.length + 0) 0))) (e_allocN (L' := [⟨[I (0), I (0), I (0), I (0), .v (.slice none 0 0), .v (.slice none 0 0)], true, true⟩]) rfl zo108 rfl rfl) ?_
 refine .s0 rfl rfl (e_stN (L' := [⟨[I ((gd l_ x1.1).id_), I ((gd l_ x1.1).state), I ((gd l_ x1.1).last), I ((gd l_ x1.1).until_), .L 1 (((gd l_ x1.1).pending).map cI), .L 1 (((gd l_ x1.1).saves).map cI)], true, true⟩]) rfl (ev_t rfl) (ev_t rfl) ty108 rfl rfl rfl rfl rfl) ?_
 refine .nil (CdOK.seq (.seq (.region (.t _ (e_fa' fa108_5 (ev_t rfl)) ?_))))
 refine .t _ (e_ldb1 (ev_t rfl) ty27 (bx rfl rfl) rfl) ?_
 refine .t (VI ((((gd l_ x1.1).saves).length : Int))) (e_lenM (ev_t rfl) is27) ?_
 refine .t (VB (decide ((((gd l_ x1.1).saves).length : Int) = 8))) (e_eqK (ev_t rfl) rfl) ?_
 refine .nil ?_
 refine CdOK.condD (ev_t rfl) ?_ ?_
 ·intro c5; replace hm := hm.ifp c5
  refine .seq (.region (.t (.o (.c (.v (.slice none 0 0)))) (e_as rfl) ?_))
  refine .t (VI (21)) (e_as rfl) ?_
  refine .nil ?_
  refine CdOK.ret ?_
  refine ⟨.inr rfl, _, rfl, h, _, _, rfl, rfl, hC, ((.tup (R2.of (.c (.wk (.fl _ rfl) (.nlL _))) (R2.of (.c (.fl _ rfl)) (R2.nil _)))) : RenV _ _ _ _ (.tup [.c (.L 6 (([] : List Tx).map Tx.cs)), .c (I (21))])), ?_⟩
  cases hm.ret; exact ⟨rfl, rfl⟩
 intro c6; replace hm := hm.ifn c6
 refine .skip ?_
 refine CdOK.seq ?_
 refine .draw2 (ord := [0, 1, 3, 4, 5, 2, 6, 7, 8]) (chain := [2, 6, 8]) fol (by decide +kernel) (by decide +kernel) ?_
 refine .p _ (e_fa' fa108_5 (ev_t rfl)) ?_
 refine .q _ (e_ldb1 (ev_t rfl) ty27 (bx rfl rfl) rfl) ?_
 refine .p _ (e_fa' fa108_2 (ev_t rfl)) ?_
 refine .q _ (e_ldb1 (ev_t rfl) ty3 (bx rfl rfl) rfl) ?_
 refine .p (.o (.c (.LC 1 (([(gd l_ x1.1).last] : List Int).map cI)))) (e_lit (cs := [I ((gd l_ x1.1).last)]) (xs := ([(gd l_ x1.1).last]).map cI) slt27 nl27 rfl rfl rfl rfl rfl) ?_
 obtain ⟨c7, hm⟩ := hm.ifs
 refine .c (v := .o (.c (.g (h.length + 1) (((gd l_ x1.1).saves).length) 1 (decide (0 < ((gd l_ x1.1).saves).length))))) rfl rfl rfl rfl rfl (e_apN (k := 1) (q := 17592186044416) (m := ((gd l_ x1.1).saves).length) (lv := (decide (0 < ((gd l_ x1.1).saves).length))) (f := cI) (xs := (gd l_ x1.1).saves) (L' := [⟨[I ((gd l_ x1.1).id_), I ((gd l_ x1.1).state), I ((gd l_ x1.1).last), I ((gd l_ x1.1).until_), .L 1 (((gd l_ x1.1).pending).map cI), .L 1 (((gd l_ x1.1).saves).map cI)], true, true⟩, ⟨(((gd l_ x1.1).saves).map cI).flatten, true, (decide (0 < ((gd l_ x1.1).saves).length))⟩]) slt27 rfl rfl (ev_t rfl) src_L c7 rfl rfl rfl rfl) (.e rfl rfl (e_ldb1 (ev_t rfl) ty3 (bx rfl rfl) rfl) (.m (by decide +kernel) .nil)) ?_
 obtain ⟨c8, hm⟩ := hm.ifs
 refine .c (v := .o (.c (.g (h.length + 2) ((((gd l_ x1.1).saves ++ ([(gd l_ x1.1).last] : List Int))).length) 1 ((decide (0 < ((gd l_ x1.1).saves).length)) || decide (0 < ([(gd l_ x1.1).last] : List Int).length))))) rfl rfl rfl rfl rfl (e_apG (k := 1) (q := 17592186044416) (m := ([(gd l_ x1.1).last] : List Int).length) (j := 1) (f := cI) (xs := ((gd l_ x1.1).saves)) (ys := ([(gd l_ x1.1).last] : List Int)) (L' := [⟨[I ((gd l_ x1.1).id_), I ((gd l_ x1.1).state), I ((gd l_ x1.1).last), I ((gd l_ x1.1).until_), .L 1 (((gd l_ x1.1).pending).map cI), .L 1 (((gd l_ x1.1).saves).map cI)], true, true⟩, ⟨(((gd l_ x1.1).saves).map cI).flatten, true, false⟩, ⟨(((gd l_ x1.1).saves ++ ([(gd l_ x1.1).last] : List Int)).map cI).flatten, true, ((decide (0 < ((gd l_ x1.1).saves).length)) || decide (0 < ([(gd l_ x1.1).last] : List Int).length))⟩]) slt27 rfl (ev_t rfl) (ev_t rfl) (bx rfl rfl) (by intro x; rfl) src_LC rfl c8 rfl (by first | rfl | simp) rfl rfl) (.m (by decide +kernel) (.m (by decide +kernel) .nil)) ?_
 refine .p _ (e_fa' fa108_5 (ev_t rfl)) ?_
 refine .c0 rfl rfl rfl rfl (e_stN (L' := [⟨[I ((gd l_ x1.1).id_), I ((gd l_ x1.1).state), I ((gd l_ x1.1).last), I ((gd l_ x1.1).until_), .L 1 (((gd l_ x1.1).pending).map cI), .g (h.length + 2) ((((gd l_ x1.1).saves ++ ([(gd l_ x1.1).last] : List Int))).length) 1 ((decide (0 < ((gd l_ x1.1).saves).length)) || decide (0 < ([(gd l_ x1.1).last] : List Int).length))], true, true⟩, ⟨(((gd l_ x1.1).saves).map cI).flatten, true, false⟩, ⟨(((gd l_ x1.1).saves ++ ([(gd l_ x1.1).last] : List Int)).map cI).flatten, true, ((decide (0 < ((gd l_ x1.1).saves).length)) || decide (0 < ([(gd l_ x1.1).last] : List Int).length))⟩]) rfl (ev_t rfl) (ev_t rfl) ty27 rfl rfl rfl rfl rfl) (.m (by decide +kernel) (.m (by decide +kernel) .nil)) ?_
 refine .nil (CdOK.seq ?_)
 refine .re (σ := [0]) (X := [(0, .o (.c (.L 6 (l_.map Tx.cs)))), (1, VI (id_)), (4, .o (.c (.v (.slice none 0 0)))), (5, VI (0)), (6, VI (x1.1)), (7, VI (x1.2)), (8, .o (.c (.ptr (h.length + 0) 0))), (10, .o (.c (.L 6 (l_.map Tx.cs)))), (11, VI (id_)), (13, VI (x1.1)), (14, VI (x1.2)), (15, VI (x1.2)), (16, VB (decide (x1.2 ≠ 0))), (18, .o (.c (.L 6 (l_.map Tx.cs)))), (19, VI (x1.1)), (20, .o (.c (.rp [I ((gd l_ x1.1).id_), I ((gd l_ x1.1).state), I ((gd l_ x1.1).last), I ((gd l_ x1.1).until_), .L 1 (((gd l_ x1.1).pending).map cI), .L 1 (((gd l_ x1.1).saves).map cI)]))), (21, .o (.agg [I ((gd l_ x1.1).id_), I ((gd l_ x1.1).state), I ((gd l_ x1.1).last), I ((gd l_ x1.1).until_), .L 1 (((gd l_ x1.1).pending).map cI), .L 1 (((gd l_ x1.1).saves).map cI)])), (22, .o (.c (.ptr (h.length + 0) 5))), (23, .o (.c (.L 1 (((gd l_ x1.1).saves).map cI)))), (24, VI ((((gd l_ x1.1).saves).length : Int))), (25, VB (decide ((((gd l_ x1.1).saves).length : Int) = 8))), (26, .o (.c (.ptr (h.length + 0) 5))), (27, .o (.c (.L 1 (((gd l_ x1.1).saves).map cI)))), (29, .o (.c (.ptr (h.length + 0) 2))), (30, VI ((gd l_ x1.1).last)), (31, .o (.c (.LC 1 (([(gd l_ x1.1).last] : List Int).map cI)))), (32, .o (.c (.L 1 (((gd l_ x1.1).saves ++ ([(gd l_ x1.1).last] : List Int)).map cI)))), (33, .o (.c (.ptr (h.length + 0) 5)))]) (L' := [⟨[I ((gd l_ x1.1).id_), I ((gd l_ x1.1).state), I ((gd l_ x1.1).last), I ((gd l_ x1.1).until_), .L 1 (((gd l_ x1.1).pending).map cI), .L 1 (((gd l_ x1.1).saves ++ ([(gd l_ x1.1).last] : List Int)).map cI)], true, true⟩]) rfl rfl hC (by decide) (.obj 0 rfl (R2.of (.fl _ rfl) (R2.of (.fl _ rfl) (R2.of (.fl _ rfl) (R2.of (.fl _ rfl) (R2.of (.fl _ rfl) (R2.of (.fzg 2 _ 1 _ (((gd l_ x1.1).saves ++ ([(gd l_ x1.1).last] : List Int)).map cI) rfl (by decide) (by first | exact List.length_map .. | simp) (lens_all (by intro x; rfl)) (vl_all (by intro x; rfl))) (R2.nil _))))))) .nil) (.cons (renFlV rfl) (.cons (renFlV rfl) (.cons (.o (.c (.fl _ rfl))) (.cons (renFlV rfl) (.cons (renFlV rfl) (.cons (renFlV rfl) (.cons (.o (.c (.ptr 0 0 _ rfl))) (.cons (renFlV rfl) (.cons (renFlV rfl) (.cons (renFlV rfl) (.cons (renFlV rfl) (.cons (renFlV rfl) (.cons (renFlV rfl) (.cons (renFlV rfl) (.cons (renFlV rfl) (.cons (renFlV rfl) (.cons (renFlV rfl) (.cons (.o (.c (.ptr 0 0 _ rfl))) (.cons (renFlV rfl) (.cons (renFlV rfl) (.cons (renFlV rfl) (.cons (.o (.c (.ptr 0 0 _ rfl))) (.cons (renFlV rfl) (.cons (.o (.c (.ptr 0 0 _ rfl))) (.cons (renFlV rfl) (.cons (.o (.c (.fl _ rfl))) (.cons (.o (.c (.fzg 2 _ 1 _ (((gd l_ x1.1).saves ++ ([(gd l_ x1.1).last] : List Int)).map cI) rfl (by decide) (by first | exact List.length_map .. | simp) (lens_all (by intro x; rfl)) (vl_all (by intro x; rfl))))) (.cons (.o (.c (.ptr 0 0 _ rfl))) .nil)))))))))))))))))))))))))))) ?_
 refine .region ?_
 iterate 2 refine .m rfl ?_
 refine .t _ (e_ldbA (ev_t rfl) ty108 (bx rfl rfl) rfl rfl) ?_
 obtain ⟨x9, e9, hm⟩ := hm.call
 refine .cl rfl rfl rfl rfl pl141 (R2.wk _) (ref12_set_ok    e9) ?_
 rintro _ _ ⟨rfl, rfl⟩
 refine .a rfl ?_
 refine .t (VI (0)) (e_as rfl) ?_
 refine .nil ?_
 refine CdOK.ret ?_
 refine ⟨.inr rfl, _, rfl, h, _, _, rfl, rfl, hC, ((renFlV rfl) : RenV _ _ _ _ (.tup [.c (.L 6 (x9.map Tx.cs)), .c (I (0))])), ?_⟩
 cases hm.ret; exact ⟨rfl, rfl⟩
def ref12_Back (l_ : (List Tx)) (id_ : Int) (save : Int) : Option ((List Tx) × Int) := ((ref12_active l_ id_).bind fun (x1 : (Int × Int)) => (if x1.2 ≠ 0 then some (([] : List Tx), x1.2) else (if (0 : Int) ≤ x1.1 ∧ x1.1 < (l_.length : Int) then (if save < 0 then some (([] : List Tx), 19) else (if (((gd l_ x1.1).saves).length : Int) ≤ save then some (([] : List Tx), 19) else (if (0 : Int) ≤ (w64 (save + 1)) ∧ (w64 (save + 1)) ≤ (((gd l_ x1.1).saves).length : Int) then (if (((gd l_ x1.1).saves).take (Int.toNat (w64 (save + 1)))).length ≤ 17592186044416 then (if 0 < (((gd l_ x1.1).saves).take (Int.toNat (w64 (save + 1)))).length then (if (0 : Int) ≤ save ∧ save < ((((gd l_ x1.1).saves).take (Int.toNat (w64 (save + 1)))).length : Int) then (if (0 : Int) ≤ save ∧ save < ((((gd l_ x1.1).saves).take (Int.toNat (w64 (save + 1)))).length : Int) then ((ref12_settle (⟨(gd l_ x1.1).id_, 2, (gd l_ x1.1).last, (gd (((gd l_ x1.1).saves).take (Int.toNat (w64 (save + 1)))) save), (gd l_ x1.1).pending, (((gd l_ x1.1).saves).take (Int.toNat (w64 (save + 1))))⟩ : Tx)).bind fun (x14 : Tx) => ((ref12_set l_ x1.1 x14).bind fun (x15 : (List Tx)) => some (x15, 0))) else none) else none) else none) else none) else none))) else none)))
theorem ref12_Back_ok {h : Heap} {l_ : (List Tx)} {id_ : Int} {save : Int}   {r : ((List Tx) × Int)} (hm : ref12_Back l_ id_ save = some r) : FnOK Try.prog 132 [.o (.c (.L 6 (l_.map Tx.cs))), VI (id_), VI (save)] h (fun v h' => v = .tup [.c (.L 6 (r.1.map Tx.cs)), .c (I (r.2))] ∧ h' = h) := by
 refine FnOK.fin ?_
 refine FnOK.bodyC (N := 52) Try.func132 rfl rfl rfl (fun hC => ?_)
 replace hm := Ev.of hm
 rw [ref12_Back.eq_1] at hm
 show CdOK _ _ _ (look _ [(0, .o (.c (.L 6 (l_.map Tx.cs)))), (1, VI (id_)), (2, VI (save))]) (h ++ ([] : Heap)) _
 refine .seq (.region (.t (.o (.c (.v (.slice none 0 0)))) (e_as rfl) ?_))
 refine .t (VI (0)) (e_as rfl) ?_
 refine .nil (CdOK.seq (.region ?_))
 iterate 2 refine .m rfl ?_
 obtain ⟨x1, e1, hm⟩ := hm.call
 refine .cl rfl rfl rfl rfl pl152 (R2.wk _) (ref12_active_ok    e1) ?_
 rintro _ _ ⟨rfl, rfl⟩
 refine .m rfl ?_
 refine .t (VI (x1.1)) (e_ext (ev_t rfl) rfl) ?_
 refine .t (VI (x1.2)) (e_ext (ev_t rfl) rfl) ?_
 iterate 2 refine .a rfl ?_
 refine .nil (CdOK.seq (.seq (.region (.m rfl ?_))))
 refine .t (VB (decide (x1.2 ≠ 0))) (e_neK (ev_t rfl) rfl) ?_
 refine .nil ?_
 refine CdOK.condD (ev_t rfl) ?_ ?_
 ·intro c2; replace hm := hm.ifp c2
  refine .seq (.region (.m rfl ?_))
  refine .t (.o (.c (.v (.slice none 0 0)))) (e_as rfl) ?_
  refine .a rfl ?_
  refine .nil ?_
  refine CdOK.ret ?_
  refine ⟨.inr rfl, _, rfl, h, _, _, rfl, rfl, hC, ((.tup (R2.of (.c (.wk (.fl _ rfl) (.nlL _))) (R2.of (.c (.fl _ rfl)) (R2.nil _)))) : RenV _ _ _ _ (.tup [.c (.L 6 (([] : List Tx).map Tx.cs)), .c (I (x1.2))])), ?_⟩
  cases hm.ret; exact ⟨rfl, rfl⟩
 intro c3; replace hm := hm.ifn c3
 refine .skip ?_
 refine CdOK.seq (.region ?_)
 iterate 2 refine .m rfl ?_
 obtain ⟨c4, hm⟩ := hm.ifs
 refine .t (.o (.c (.rp [I ((gd l_ x1.1).id_), I ((gd l_ x1.1).state), I ((gd l_ x1.1).last), I ((gd l_ x1.1).until_), .L 1 (((gd l_ x1.1).pending).map cI), .L 1 (((gd l_ x1.1).saves).map cI)]))) (e_ixM (f := Tx.cs) (l := l_) (i := x1.1) (ev_t rfl) (ev_t rfl) el92 c4) ?_
 refine .t _ (e_ldRA (ev_t rfl) ty108 rfl rfl) ?_
 refine .t (.o (.c (.ptr (h.length + 0) 0))) (e_allocN (L' := [⟨[I (0), I (0), I (0), I (0), .v (.slice none 0 0), .v (.slice none 0 0)], true, true⟩]) rfl zo108 rfl rfl) ?_
 refine .s0 rfl rfl (e_stN (L' := [⟨[I ((gd l_ x1.1).id_), I ((gd l_ x1.1).state), I ((gd l_ x1.1).last), I ((gd l_ x1.1).until_), .L 1 (((gd l_ x1.1).pending).map cI), .L 1 (((gd l_ x1.1).saves).map cI)], true, true⟩]) rfl (ev_t rfl) (ev_t rfl) ty108 rfl rfl rfl rfl rfl) ?_
 refine .nil (CdOK.seq (.seq (.region (.m rfl ?_))))
 refine .sd rfl rfl rfl (e_bin (ev_t rfl) rfl rfl rfl) ?_ ?_
 ·intro c5; replace hm := hm.ifp c5
  refine .m rfl ?_
  iterate 5 refine .k ?_
  refine .t (VB (true)) (e_pick (t := true) (ev_t rfl) rfl) ?_
  refine .nil ?_
  refine CdOK.cond_true rfl ?_
  refine .seq (.region (.t (.o (.c (.v (.slice none 0 0)))) (e_as rfl) ?_))
  refine .t (VI (19)) (e_as rfl) ?_
  refine .nil ?_
  refine CdOK.ret ?_
  refine ⟨.inr rfl, _, rfl, h, _, _, rfl, rfl, hC, ((.tup (R2.of (.c (.wk (.fl _ rfl) (.nlL _))) (R2.of (.c (.fl _ rfl)) (R2.nil _)))) : RenV _ _ _ _ (.tup [.c (.L 6 (([] : List Tx).map Tx.cs)), .c (I (19))])), ?_⟩
  cases hm.ret; exact ⟨rfl, rfl⟩
 intro c6; replace hm := hm.ifn c6
 iterate 2 refine .m rfl ?_
 refine .t _ (e_fa' fa108_5 (ev_t rfl)) ?_
 refine .t _ (e_ldb1 (ev_t rfl) ty27 (bx rfl rfl) rfl) ?_
 refine .t (VI ((((gd l_ x1.1).saves).length : Int))) (e_lenM (ev_t rfl) is27) ?_
 refine .t (VB (decide ((((gd l_ x1.1).saves).length : Int) ≤ save))) (e_bin (ev_t rfl) (ev_t rfl) rfl rfl) ?_
 refine .t (VB (decide ((((gd l_ x1.1).saves).length : Int) ≤ save))) (e_pick (t := false) (ev_t rfl) (ev_t rfl)) ?_
 refine .nil ?_
 refine CdOK.condD (ev_t rfl) ?_ ?_
 ·intro c7; replace hm := hm.ifp c7
  refine .seq (.region (.t (.o (.c (.v (.slice none 0 0)))) (e_as rfl) ?_))
  refine .t (VI (19)) (e_as rfl) ?_
  refine .nil ?_
  refine CdOK.ret ?_
  refine ⟨.inr rfl, _, rfl, h, _, _, rfl, rfl, hC, ((.tup (R2.of (.c (.wk (.fl _ rfl) (.nlL _))) (R2.of (.c (.fl _ rfl)) (R2.nil _)))) : RenV _ _ _ _ (.tup [.c (.L 6 (([] : List Tx).map Tx.cs)), .c (I (19))])), ?_⟩
  cases hm.ret; exact ⟨rfl, rfl⟩
 intro c8; replace hm := hm.ifn c8
 refine .skip ?_
 refine CdOK.seq (.region (.t _ (e_fa' fa108_5 (ev_t rfl)) ?_))
 refine .t _ (e_ldb1 (ev_t rfl) ty27 (bx rfl rfl) rfl) ?_
 refine .m rfl ?_
 refine .t (VI ((w64 (save + 1)))) (e_bin (ev_t rfl) rfl rfl rfl) ?_
 obtain ⟨c9, hm⟩ := hm.ifs
 refine .t (.o (.c (.L 1 ((((gd l_ x1.1).saves).take (Int.toNat (w64 (save + 1)))).map cI)))) (e_slhM el27 (ev_t rfl) (ev_t rfl) c9) ?_
 obtain ⟨c10, hm⟩ := hm.ifs
 refine .t (.o (.c (.g (h.length + 1) (((((gd l_ x1.1).saves).take (Int.toNat (w64 (save + 1))))).length) 1 (decide (0 < (((gd l_ x1.1).saves).take (Int.toNat (w64 (save + 1)))).length))))) (e_apN (k := 1) (q := 17592186044416) (m := (((gd l_ x1.1).saves).take (Int.toNat (w64 (save + 1)))).length) (lv := (decide (0 < (((gd l_ x1.1).saves).take (Int.toNat (w64 (save + 1)))).length))) (f := cI) (xs := (((gd l_ x1.1).saves).take (Int.toNat (w64 (save + 1))))) (L' := [⟨[I ((gd l_ x1.1).id_), I ((gd l_ x1.1).state), I ((gd l_ x1.1).last), I ((gd l_ x1.1).until_), .L 1 (((gd l_ x1.1).pending).map cI), .L 1 (((gd l_ x1.1).saves).map cI)], true, true⟩, ⟨((((gd l_ x1.1).saves).take (Int.toNat (w64 (save + 1)))).map cI).flatten, true, (decide (0 < (((gd l_ x1.1).saves).take (Int.toNat (w64 (save + 1)))).length))⟩]) slt27 rfl rfl (ev_t rfl) src_L c10 rfl rfl rfl rfl) ?_
 refine .t _ (e_fa' fa108_5 (ev_t rfl)) ?_
 refine .s0 rfl rfl (e_stN (L' := [⟨[I ((gd l_ x1.1).id_), I ((gd l_ x1.1).state), I ((gd l_ x1.1).last), I ((gd l_ x1.1).until_), .L 1 (((gd l_ x1.1).pending).map cI), .g (h.length + 1) (((((gd l_ x1.1).saves).take (Int.toNat (w64 (save + 1))))).length) 1 (decide (0 < (((gd l_ x1.1).saves).take (Int.toNat (w64 (save + 1)))).length))], true, true⟩, ⟨((((gd l_ x1.1).saves).take (Int.toNat (w64 (save + 1)))).map cI).flatten, true, (decide (0 < (((gd l_ x1.1).saves).take (Int.toNat (w64 (save + 1)))).length))⟩]) rfl (ev_t rfl) (ev_t rfl) ty27 rfl rfl rfl rfl rfl) ?_
 refine .nil (CdOK.seq ?_)
 obtain ⟨c11, hm⟩ := hm.ifs
 rw [show (decide (0 < (((gd l_ x1.1).saves).take (Int.toNat (w64 (save + 1)))).length)) = true from decide_eq_true c11]
 refine .draw2 (ord := [0, 1, 2, 3, 4, 5, 6, 7, 8]) (chain := [6, 8]) fol (by decide +kernel) (by decide +kernel) ?_
 refine .p _ (e_fa' fa108_5 (ev_t rfl)) ?_
 refine .q _ (e_ldb1 (ev_t rfl) ty27 (bx rfl rfl) rfl) ?_
 refine .p (VI (save)) (e_mv (ev_t rfl)) ?_
 obtain ⟨c12, hm⟩ := hm.ifs
 refine .p (.o (.c (.ptr (h.length + 1) (0 + (Int.toNat save) * 1)))) (e_ixg (ev_t rfl) (ev_t rfl) el27 c12) ?_
 obtain ⟨c13, hm⟩ := hm.ifs
 refine .q (VI ((gd (((gd l_ x1.1).saves).take (Int.toNat (w64 (save + 1)))) save))) (e_ldg1 (b := (h.length + 1)) (o := 0 + (Int.toNat save) * 1) (k := 1) (off := 0) (f := cI) (l := (((gd l_ x1.1).saves).take (Int.toNat (w64 (save + 1))))) (i := save) (ev_t rfl) ty3 (bx rfl rfl) (by intro x; rfl) c13 rfl (by omega)) ?_
 refine .p _ (e_fa' fa108_1 (ev_t rfl)) ?_
 refine .c0 rfl rfl rfl rfl (e_stN (L' := [⟨[I ((gd l_ x1.1).id_), I (2), I ((gd l_ x1.1).last), I ((gd l_ x1.1).until_), .L 1 (((gd l_ x1.1).pending).map cI), .g (h.length + 1) (((((gd l_ x1.1).saves).take (Int.toNat (w64 (save + 1))))).length) 1 true], true, true⟩, ⟨((((gd l_ x1.1).saves).take (Int.toNat (w64 (save + 1)))).map cI).flatten, true, true⟩]) rfl (ev_t rfl) rfl ty3 rfl rfl rfl rfl rfl) (.e rfl rfl (e_ldg1 (b := (h.length + 1)) (o := 0 + (Int.toNat save) * 1) (k := 1) (off := 0) (f := cI) (l := (((gd l_ x1.1).saves).take (Int.toNat (w64 (save + 1))))) (i := save) (ev_t rfl) ty3 (bx rfl rfl) (by intro x; rfl) c13 rfl (by omega)) (.m (by decide +kernel) .nil)) ?_
 refine .p _ (e_fa' fa108_3 (ev_t rfl)) ?_
 refine .c0 rfl rfl rfl rfl (e_stN (L' := [⟨[I ((gd l_ x1.1).id_), I (2), I ((gd l_ x1.1).last), I ((gd (((gd l_ x1.1).saves).take (Int.toNat (w64 (save + 1)))) save)), .L 1 (((gd l_ x1.1).pending).map cI), .g (h.length + 1) (((((gd l_ x1.1).saves).take (Int.toNat (w64 (save + 1))))).length) 1 true], true, true⟩, ⟨((((gd l_ x1.1).saves).take (Int.toNat (w64 (save + 1)))).map cI).flatten, true, true⟩]) rfl (ev_t rfl) (ev_t rfl) ty3 rfl rfl rfl rfl rfl) (.m (by decide +kernel) (.m (by decide +kernel) .nil)) ?_
 refine .nil (CdOK.seq ?_)
 refine .re (σ := [0]) (X := [(0, .o (.c (.L 6 (l_.map Tx.cs)))), (1, VI (id_)), (2, VI (save)), (6, .o (.c (.v (.slice none 0 0)))), (7, VI (0)), (8, VI (x1.1)), (9, VI (x1.2)), (10, .o (.c (.ptr (h.length + 0) 0))), (12, .o (.c (.L 6 (l_.map Tx.cs)))), (13, VI (id_)), (15, VI (x1.1)), (16, VI (x1.2)), (17, VI (x1.2)), (18, VB (decide (x1.2 ≠ 0))), (20, .o (.c (.L 6 (l_.map Tx.cs)))), (21, VI (x1.1)), (22, .o (.c (.rp [I ((gd l_ x1.1).id_), I ((gd l_ x1.1).state), I ((gd l_ x1.1).last), I ((gd l_ x1.1).until_), .L 1 (((gd l_ x1.1).pending).map cI), .L 1 (((gd l_ x1.1).saves).map cI)]))), (23, .o (.agg [I ((gd l_ x1.1).id_), I ((gd l_ x1.1).state), I ((gd l_ x1.1).last), I ((gd l_ x1.1).until_), .L 1 (((gd l_ x1.1).pending).map cI), .L 1 (((gd l_ x1.1).saves).map cI)])), (24, VI (save)), (25, VB (false)), (26, VB (false)), (27, VI (save)), (28, .o (.c (.ptr (h.length + 0) 5))), (29, .o (.c (.L 1 (((gd l_ x1.1).saves).map cI)))), (30, VI ((((gd l_ x1.1).saves).length : Int))), (31, VB (decide ((((gd l_ x1.1).saves).length : Int) ≤ save))), (32, VB (decide ((((gd l_ x1.1).saves).length : Int) ≤ save))), (33, .o (.c (.ptr (h.length + 0) 5))), (34, .o (.c (.L 1 (((gd l_ x1.1).saves).map cI)))), (35, VI (save)), (36, VI ((w64 (save + 1)))), (37, .o (.c (.L 1 ((((gd l_ x1.1).saves).take (Int.toNat (w64 (save + 1)))).map cI)))), (38, .o (.c (.L 1 ((((gd l_ x1.1).saves).take (Int.toNat (w64 (save + 1)))).map cI)))), (39, .o (.c (.ptr (h.length + 0) 5))), (40, .o (.c (.ptr (h.length + 0) 5))), (41, .o (.c (.L 1 ((((gd l_ x1.1).saves).take (Int.toNat (w64 (save + 1)))).map cI)))), (42, VI (save)), (44, VI ((gd (((gd l_ x1.1).saves).take (Int.toNat (w64 (save + 1)))) save))), (45, .o (.c (.ptr (h.length + 0) 1))), (46, .o (.c (.ptr (h.length + 0) 3)))]) (L' := [⟨[I ((gd l_ x1.1).id_), I (2), I ((gd l_ x1.1).last), I ((gd (((gd l_ x1.1).saves).take (Int.toNat (w64 (save + 1)))) save)), .L 1 (((gd l_ x1.1).pending).map cI), .L 1 ((((gd l_ x1.1).saves).take (Int.toNat (w64 (save + 1)))).map cI)], true, true⟩]) rfl rfl hC (by decide) (.obj 0 rfl (R2.of (.fl _ rfl) (R2.of (.fl _ rfl) (R2.of (.fl _ rfl) (R2.of (.fl _ rfl) (R2.of (.fl _ rfl) (R2.of (.fzg 1 _ 1 _ ((((gd l_ x1.1).saves).take (Int.toNat (w64 (save + 1)))).map cI) rfl (by decide) (by first | exact List.length_map .. | simp) (lens_all (by intro x; rfl)) (vl_all (by intro x; rfl))) (R2.nil _))))))) .nil) (.cons (renFlV rfl) (.cons (renFlV rfl) (.cons (renFlV rfl) (.cons (.o (.c (.fl _ rfl))) (.cons (renFlV rfl) (.cons (renFlV rfl) (.cons (renFlV rfl) (.cons (.o (.c (.ptr 0 0 _ rfl))) (.cons (renFlV rfl) (.cons (renFlV rfl) (.cons (renFlV rfl) (.cons (renFlV rfl) (.cons (renFlV rfl) (.cons (renFlV rfl) (.cons (renFlV rfl) (.cons (renFlV rfl) (.cons (renFlV rfl) (.cons (renFlV rfl) (.cons (renFlV rfl) (.cons (renFlV rfl) (.cons (renFlV rfl) (.cons (renFlV rfl) (.cons (.o (.c (.ptr 0 0 _ rfl))) (.cons (renFlV rfl) (.cons (renFlV rfl) (.cons (renFlV rfl) (.cons (renFlV rfl) (.cons (.o (.c (.ptr 0 0 _ rfl))) (.cons (renFlV rfl) (.cons (renFlV rfl) (.cons (renFlV rfl) (.cons (renFlV rfl) (.cons (.o (.c (.fzg 1 _ 1 _ ((((gd l_ x1.1).saves).take (Int.toNat (w64 (save + 1)))).map cI) rfl (by decide) (by first | exact List.length_map .. | simp) (lens_all (by intro x; rfl)) (vl_all (by intro x; rfl))))) (.cons (.o (.c (.ptr 0 0 _ rfl))) (.cons (.o (.c (.ptr 0 0 _ rfl))) (.cons (.o (.c (.fzg 1 _ 1 _ ((((gd l_ x1.1).saves).take (Int.toNat (w64 (save + 1)))).map cI) rfl (by decide) (by first | exact List.length_map .. | simp) (lens_all (by intro x; rfl)) (vl_all (by intro x; rfl))))) (.cons (renFlV rfl) (.cons (renFlV rfl) (.cons (.o (.c (.ptr 0 0 _ rfl))) (.cons (.o (.c (.ptr 0 0 _ rfl))) .nil)))))))))))))))))))))))))))))))))))))))) ?_
 refine .region ?_
 iterate 2 refine .m rfl ?_
 refine .t _ (e_ldbA (ev_t rfl) ty108 (bx rfl rfl) rfl rfl) ?_
 obtain ⟨x14, e14, hm⟩ := hm.call
 refine .cl rfl rfl rfl rfl pl142 (R2.wk _) (ref12_settle_ok    e14) ?_
 rintro _ _ ⟨rfl, rfl⟩
 obtain ⟨x15, e15, hm⟩ := hm.call
 refine .cl rfl rfl rfl rfl pl141 (R2.wk _) (ref12_set_ok    e15) ?_
 rintro _ _ ⟨rfl, rfl⟩
 refine .a rfl ?_
 refine .t (VI (0)) (e_as rfl) ?_
 refine .nil ?_
 refine CdOK.ret ?_
 refine ⟨.inr rfl, _, rfl, h, _, _, rfl, rfl, hC, ((renFlV rfl) : RenV _ _ _ _ (.tup [.c (.L 6 (x15.map Tx.cs)), .c (I (0))])), ?_⟩
 cases hm.ret; exact ⟨rfl, rfl⟩
def ref12_ints.l1 (a_ : (List Int)) (b_ : (List Int)) : Nat → Int → Option (Sum Unit Bool)
  | 0, _ => none
  | kk4 + 1, i3 => (if i3 < (a_.length : Int) then (if (0 : Int) ≤ i3 ∧ i3 < (a_.length : Int) then (if (0 : Int) ≤ i3 ∧ i3 < (b_.length : Int) then (if (gd a_ i3) ≠ (gd b_ i3) then some (Sum.inr false) else ref12_ints.l1 a_ b_ kk4 (w64 (i3 + 1))) else none) else none) else some (Sum.inl ()))
def ref12_ints (a_ : (List Int)) (b_ : (List Int)) : Option Bool := (if (a_.length : Int) ≠ (b_.length : Int) then some false else ((ref12_ints.l1 a_ b_ FU 0).bind fun (z : Sum Unit Bool) => match z with | .inl (s11 : Unit) => some true | .inr r => some r))
theorem ref12_ints_ok {h : Heap} {a_ : (List Int)} {b_ : (List Int)}   {r : Bool} (hm : ref12_ints a_ b_ = some r) : FnOK Try.prog 143 [.o (.c (.L 1 (a_.map cI))), .o (.c (.L 1 (b_.map cI)))] h (fun v h' => v = VB (r) ∧ h' = h) := by
 refine FnOK.fin ?_
 refine FnOK.bodyC (N := 26) Try.func143 rfl rfl rfl (fun hC => ?_)
 replace hm := Ev.of hm
 rw [ref12_ints.eq_1] at hm
 show CdOK _ _ _ (look _ [(0, .o (.c (.L 1 (a_.map cI)))), (1, .o (.c (.L 1 (b_.map cI))))]) (h ++ ([] : Heap)) _
 refine .seq (.region (.t (VB (false)) (e_as rfl) ?_))
 refine .nil (CdOK.seq (.seq (.region (.m rfl ?_))))
 refine .t (VI ((a_.length : Int))) (e_lenM (ev_t rfl) is27) ?_
 refine .m rfl ?_
 refine .t (VI ((b_.length : Int))) (e_lenM (ev_t rfl) is27) ?_
 refine .t (VB (decide ((a_.length : Int) ≠ (b_.length : Int)))) (e_neK (ev_t rfl) (ev_t rfl)) ?_
 refine .nil ?_
 refine CdOK.condD (ev_t rfl) ?_ ?_
 ·intro c1; replace hm := hm.ifp c1
  refine .seq (.region (.t (VB (false)) (e_as rfl) ?_))
  refine .nil ?_
  refine CdOK.ret ?_
  refine ⟨.inr rfl, _, rfl, h, _, _, rfl, rfl, hC, ((renFlV rfl) : RenV _ _ _ _ (VB (false))), ?_⟩
  cases hm.ret; exact ⟨rfl, rfl⟩
 intro c2; replace hm := hm.ifn c2
 refine .skip ?_
 refine CdOK.seq (.seq (.region (.t (VI (0)) (e_as rfl) ?_)))
 refine .nil ?_
 replace hm := hm.bnd
 refine CdOK.joinT (σ := Unit) (fun s => Sum.inl ()) hm (fun s => []) (fun s => h ++ ([] : Heap)) ?_ ?_
 ·intro hm
  refine .block ?_
  refine .loopE (σ := Int) (fun k s => Ev (ref12_ints.l1 a_ b_ k s) _) (fun s => [(0, .o (.c (.L 1 (a_.map cI)))), (1, .o (.c (.L 1 (b_.map cI)))), (5, VI (s))]) (fun s => h ++ ([] : Heap)) FU 0 hm (.cons rfl (.cons rfl (.cons rfl .nil))) rfl ?_
  rintro kk4 i3 T0 hm
  replace hm : Ev (ref12_ints.l1 a_ b_ kk4 i3) _ := hm
  cases kk4 with
  | zero => exact (Ev.non hm).elim
  | succ kk4 =>
  rw [ref12_ints.l1.eq_2] at hm
  show CdOK _ _ _ (look T0 [(0, .o (.c (.L 1 (a_.map cI)))), (1, .o (.c (.L 1 (b_.map cI)))), (5, VI (i3))]) (h ++ ([] : Heap)) _
  iterate 2 refine .seq ?_
  refine .region ?_
  iterate 2 refine .m rfl ?_
  refine .t (VI ((a_.length : Int))) (e_lenM (ev_t rfl) is27) ?_
  refine .t (VB (decide (i3 < (a_.length : Int)))) (e_bin (ev_t rfl) (ev_t rfl) rfl rfl) ?_
  refine .nil ?_
  refine CdOK.condD (ev_t rfl) ?_ ?_
  ·intro c5; replace hm := hm.ifp c5
   refine .skip ?_
   refine CdOK.seq ?_
   refine .block ?_
   refine .seq ?_
   refine .draw fol (by decide +kernel) ?_
   iterate 2 refine .m rfl ?_
   obtain ⟨c6, hm⟩ := hm.ifs
   refine .t (.o (.c (.rp [I ((gd a_ i3))]))) (e_ixM (f := cI) (l := a_) (i := i3) (ev_t rfl) (ev_t rfl) el27 c6) ?_
   refine .t _ (e_ldR1 (ev_t rfl) ty3 rfl) ?_
   iterate 2 refine .m rfl ?_
   obtain ⟨c7, hm⟩ := hm.ifs
   refine .t (.o (.c (.rp [I ((gd b_ i3))]))) (e_ixM (f := cI) (l := b_) (i := i3) (ev_t rfl) (ev_t rfl) el27 c7) ?_
   refine .t _ (e_ldR1 (ev_t rfl) ty3 rfl) ?_
   refine .t (VB (decide ((gd a_ i3) ≠ (gd b_ i3)))) (e_neK (ev_t rfl) (ev_t rfl)) ?_
   refine .nil ?_
   refine CdOK.condD (ev_t rfl) ?_ ?_
   ·intro c8; replace hm := hm.ifp c8
    refine .seq (.region (.t (VB (false)) (e_as rfl) ?_))
    refine .nil ?_
    refine CdOK.ret ?_
    refine ⟨.inr rfl, _, rfl, h, _, _, rfl, rfl, hC, ((renFlV rfl) : RenV _ _ _ _ (VB (false))), ?_⟩
    have hr := hm.ret; replace hr := Ev.ret hr; cases hr; exact ⟨rfl, rfl⟩
   intro c9; replace hm := hm.ifn c9
   refine .skip ?_
   refine CdOK.region (.m rfl ?_)
   refine .t (VI ((w64 (i3 + 1)))) (e_bin (ev_t rfl) rfl rfl rfl) ?_
   refine .a rfl ?_
   refine .nil (.id ?_)
   exact ⟨_, (w64 (i3 + 1)), Nat.lt_succ_self _, hm, (.cons rfl (.cons rfl (.cons rfl .nil))), rfl⟩
  intro c10; replace hm := hm.ifn c10
  refine .exit ?_
  refine .id ?_
  exact ⟨(), hm.ret, .nil, rfl⟩
 intro _ T0 hm
 refine CdOK.seq (.region (.t (VB (true)) (e_as rfl) ?_))
 refine .nil ?_
 refine CdOK.ret ?_
 refine ⟨.inr rfl, _, rfl, h, _, _, rfl, rfl, hC, ((renFlV rfl) : RenV _ _ _ _ (VB (true))), ?_⟩
 cases hm.ret; exact ⟨rfl, rfl⟩
def ref12_Same.l1 (a_ : (List Tx)) (b_ : (List Tx)) : Nat → Int → Option (Sum Unit Bool)
  | 0, _ => none
  | kk4 + 1, i3 => (if i3 < (a_.length : Int) then (if (0 : Int) ≤ i3 ∧ i3 < (a_.length : Int) then (if (0 : Int) ≤ i3 ∧ i3 < (b_.length : Int) then (if ((gd a_ i3).id_) ≠ ((gd b_ i3).id_) then some (Sum.inr false) else (if ((gd a_ i3).state) ≠ ((gd b_ i3).state) then some (Sum.inr false) else (if ((gd a_ i3).last) ≠ ((gd b_ i3).last) then some (Sum.inr false) else (if ((gd a_ i3).until_) ≠ ((gd b_ i3).until_) then some (Sum.inr false) else ((ref12_ints ((gd a_ i3).pending) ((gd b_ i3).pending)).bind fun (x16 : Bool) => (if x16 = true then ((ref12_ints ((gd a_ i3).saves) ((gd b_ i3).saves)).bind fun (x17 : Bool) => (if (!x17) = true then some (Sum.inr false) else ref12_Same.l1 a_ b_ kk4 (w64 (i3 + 1)))) else some (Sum.inr false))))))) else none) else none) else some (Sum.inl ()))
def ref12_Same (a_ : (List Tx)) (b_ : (List Tx)) : Option Bool := (if (a_.length : Int) ≠ (b_.length : Int) then some false else ((ref12_Same.l1 a_ b_ FU 0).bind fun (z : Sum Unit Bool) => match z with | .inl (s21 : Unit) => some true | .inr r => some r))
theorem ref12_Same_ok {h : Heap} {a_ : (List Tx)} {b_ : (List Tx)}   {r : Bool} (hm : ref12_Same a_ b_ = some r) : FnOK Try.prog 70 [.o (.c (.L 6 (a_.map Tx.cs))), .o (.c (.L 6 (b_.map Tx.cs)))] h (fun v h' => v = VB (r) ∧ h' = h) := by
 refine FnOK.fin ?_
 refine FnOK.bodyC (N := 69) Try.func70 rfl rfl rfl (fun hC => ?_)
 replace hm := Ev.of hm
 rw [ref12_Same.eq_1] at hm
 show CdOK _ _ _ (look _ [(0, .o (.c (.L 6 (a_.map Tx.cs)))), (1, .o (.c (.L 6 (b_.map Tx.cs))))]) (h ++ ([] : Heap)) _
 refine .seq (.region (.t (VB (false)) (e_as rfl) ?_))
 refine .nil (CdOK.seq (.seq (.region (.m rfl ?_))))
 refine .t (VI ((a_.length : Int))) (e_lenM (ev_t rfl) is92) ?_
 refine .m rfl ?_
 refine .t (VI ((b_.length : Int))) (e_lenM (ev_t rfl) is92) ?_
 refine .t (VB (decide ((a_.length : Int) ≠ (b_.length : Int)))) (e_neK (ev_t rfl) (ev_t rfl)) ?_
 refine .nil ?_
 refine CdOK.condD (ev_t rfl) ?_ ?_
 ·intro c1; replace hm := hm.ifp c1
  refine .seq (.region (.t (VB (false)) (e_as rfl) ?_))
  refine .nil ?_
  refine CdOK.ret ?_
  refine ⟨.inr rfl, _, rfl, h, _, _, rfl, rfl, hC, ((renFlV rfl) : RenV _ _ _ _ (VB (false))), ?_⟩
  cases hm.ret; exact ⟨rfl, rfl⟩
 intro c2; replace hm := hm.ifn c2
 refine .skip ?_
 refine CdOK.seq (.seq (.region (.t (VI (0)) (e_as rfl) ?_)))
 refine .nil ?_
 replace hm := hm.bnd
 refine CdOK.joinT (σ := Unit) (fun s => Sum.inl ()) hm (fun s => []) (fun s => h ++ ([] : Heap)) ?_ ?_
 ·intro hm
  refine .block ?_
  refine .loopE (σ := Int) (fun k s => Ev (ref12_Same.l1 a_ b_ k s) _) (fun s => [(0, .o (.c (.L 6 (a_.map Tx.cs)))), (1, .o (.c (.L 6 (b_.map Tx.cs)))), (5, VI (s))]) (fun s => h ++ ([] : Heap)) FU 0 hm (.cons rfl (.cons rfl (.cons rfl .nil))) rfl ?_
  rintro kk4 i3 T0 hm
  replace hm : Ev (ref12_Same.l1 a_ b_ kk4 i3) _ := hm
  cases kk4 with
  | zero => exact (Ev.non hm).elim
  | succ kk4 =>
  rw [ref12_Same.l1.eq_2] at hm
  show CdOK _ _ _ (look T0 [(0, .o (.c (.L 6 (a_.map Tx.cs)))), (1, .o (.c (.L 6 (b_.map Tx.cs)))), (5, VI (i3))]) (h ++ ([] : Heap)) _
  iterate 2 refine .seq ?_
  refine .region ?_
  iterate 2 refine .m rfl ?_
  refine .t (VI ((a_.length : Int))) (e_lenM (ev_t rfl) is92) ?_
  refine .t (VB (decide (i3 < (a_.length : Int)))) (e_bin (ev_t rfl) (ev_t rfl) rfl rfl) ?_
  refine .nil ?_
  refine CdOK.condD (ev_t rfl) ?_ ?_
  ·intro c5; replace hm := hm.ifp c5
   refine .skip ?_
   refine CdOK.seq ?_
   refine .block ?_
   refine .seq ?_
   refine .draw2 (ord := [0, 1, 2, 3, 4, 5, 6, 7, 8, 9, 10, 11]) (chain := [8, 9, 10, 11]) fol (by decide +kernel) (by decide +kernel) ?_
   refine .p (.o (.c (.L 6 (a_.map Tx.cs)))) (e_mv (ev_t rfl)) ?_
   refine .p (VI (i3)) (e_mv (ev_t rfl)) ?_
   obtain ⟨c6, hm⟩ := hm.ifs
   refine .p (.o (.c (.rp [I ((gd a_ i3).id_), I ((gd a_ i3).state), I ((gd a_ i3).last), I ((gd a_ i3).until_), .L 1 (((gd a_ i3).pending).map cI), .L 1 (((gd a_ i3).saves).map cI)]))) (e_ixM (f := Tx.cs) (l := a_) (i := i3) (ev_t rfl) (ev_t rfl) el92 c6) ?_
   refine .q _ (e_ldRA (ev_t rfl) ty108 rfl rfl) ?_
   refine .p (.o (.c (.L 6 (b_.map Tx.cs)))) (e_mv (ev_t rfl)) ?_
   refine .p (VI (i3)) (e_mv (ev_t rfl)) ?_
   obtain ⟨c7, hm⟩ := hm.ifs
   refine .p (.o (.c (.rp [I ((gd b_ i3).id_), I ((gd b_ i3).state), I ((gd b_ i3).last), I ((gd b_ i3).until_), .L 1 (((gd b_ i3).pending).map cI), .L 1 (((gd b_ i3).saves).map cI)]))) (e_ixM (f := Tx.cs) (l := b_) (i := i3) (ev_t rfl) (ev_t rfl) el92 c7) ?_
   refine .q _ (e_ldRA (ev_t rfl) ty108 rfl rfl) ?_
   refine .c (v := .o (.c (.ptr (h.length + 0) 0))) rfl rfl rfl rfl rfl (e_allocN (L' := [⟨[I (0), I (0), I (0), I (0), .v (.slice none 0 0), .v (.slice none 0 0)], true, true⟩]) rfl zo108 rfl rfl) (.e rfl rfl (e_ldRA (ev_t rfl) ty108 rfl rfl) (.e rfl rfl (e_ldRA (ev_t rfl) ty108 rfl rfl) .nil)) ?_
   refine .c (v := .o (.c (.ptr (h.length + 1) 0))) rfl rfl rfl rfl rfl (e_allocN (L' := [⟨[I (0), I (0), I (0), I (0), .v (.slice none 0 0), .v (.slice none 0 0)], true, true⟩, ⟨[I (0), I (0), I (0), I (0), .v (.slice none 0 0), .v (.slice none 0 0)], true, true⟩]) rfl zo108 rfl rfl) (.e rfl rfl (e_ldRA (ev_t rfl) ty108 rfl rfl) (.e rfl rfl (e_ldRA (ev_t rfl) ty108 rfl rfl) .nil)) ?_
   refine .c0 rfl rfl rfl rfl (e_stN (L' := [⟨[I ((gd a_ i3).id_), I ((gd a_ i3).state), I ((gd a_ i3).last), I ((gd a_ i3).until_), .L 1 (((gd a_ i3).pending).map cI), .L 1 (((gd a_ i3).saves).map cI)], true, true⟩, ⟨[I (0), I (0), I (0), I (0), .v (.slice none 0 0), .v (.slice none 0 0)], true, true⟩]) rfl (ev_t rfl) (ev_t rfl) ty108 rfl rfl rfl rfl rfl) (.e rfl rfl (e_ldRA (ev_t rfl) ty108 rfl rfl) (.m (by decide +kernel) .nil)) ?_
   refine .c0 rfl rfl rfl rfl (e_stN (L' := [⟨[I ((gd a_ i3).id_), I ((gd a_ i3).state), I ((gd a_ i3).last), I ((gd a_ i3).until_), .L 1 (((gd a_ i3).pending).map cI), .L 1 (((gd a_ i3).saves).map cI)], true, true⟩, ⟨[I ((gd b_ i3).id_), I ((gd b_ i3).state), I ((gd b_ i3).last), I ((gd b_ i3).until_), .L 1 (((gd b_ i3).pending).map cI), .L 1 (((gd b_ i3).saves).map cI)], true, true⟩]) rfl (ev_t rfl) (ev_t rfl) ty108 rfl rfl rfl rfl rfl) (.m (by decide +kernel) (.m (by decide +kernel) .nil)) ?_
   refine .nil (CdOK.seq (.region (.t _ (e_fa' fa108_0 (ev_t rfl)) ?_)))
   refine .t _ (e_ldb1 (ev_t rfl) ty3 (bx rfl rfl) rfl) ?_
   refine .t _ (e_fa' fa108_0 (ev_t rfl)) ?_
   refine .t _ (e_ldb1 (ev_t rfl) ty3 (bx rfl rfl) rfl) ?_
   refine .sd rfl rfl rfl (e_neK (ev_t rfl) (ev_t rfl)) ?_ ?_
   ·intro c8; replace hm := hm.ifp c8
    refine .m rfl ?_
    iterate 5 refine .k ?_
    refine .t (VB (true)) (e_pick (t := true) (ev_t rfl) rfl) ?_
    refine .m rfl ?_
    iterate 5 refine .k ?_
    refine .t (VB (true)) (e_pick (t := true) (ev_t rfl) rfl) ?_
    refine .m rfl ?_
    iterate 5 refine .k ?_
    refine .t (VB (true)) (e_pick (t := true) (ev_t rfl) rfl) ?_
    refine .m rfl ?_
    iterate 6 refine .k ?_
    refine .t (VB (true)) (e_pick (t := true) (ev_t rfl) rfl) ?_
    refine .m rfl ?_
    iterate 6 refine .k ?_
    refine .t (VB (true)) (e_pick (t := true) (ev_t rfl) rfl) ?_
    refine .nil ?_
    refine CdOK.cond_true rfl ?_
    refine .seq (.region (.t (VB (false)) (e_as rfl) ?_))
    refine .nil ?_
    refine CdOK.ret ?_
    refine ⟨.inr rfl, _, rfl, h, _, _, rfl, rfl, hC, ((renFlV rfl) : RenV _ _ _ _ (VB (false))), ?_⟩
    have hr := hm.ret; replace hr := Ev.ret hr; cases hr; exact ⟨rfl, rfl⟩
   intro c9; replace hm := hm.ifn c9
   refine .m rfl ?_
   refine .t _ (e_fa' fa108_1 (ev_t rfl)) ?_
   refine .t _ (e_ldb1 (ev_t rfl) ty3 (bx rfl rfl) rfl) ?_
   refine .t _ (e_fa' fa108_1 (ev_t rfl)) ?_
   refine .t _ (e_ldb1 (ev_t rfl) ty3 (bx rfl rfl) rfl) ?_
   refine .sd rfl rfl rfl (e_neK (ev_t rfl) (ev_t rfl)) ?_ ?_
   ·intro c10; replace hm := hm.ifp c10
    refine .t (VB (true)) (e_pick (t := false) (ev_t rfl) (ev_t rfl)) ?_
    refine .m rfl ?_
    iterate 5 refine .k ?_
    refine .t (VB (true)) (e_pick (t := true) (ev_t rfl) rfl) ?_
    refine .m rfl ?_
    iterate 5 refine .k ?_
    refine .t (VB (true)) (e_pick (t := true) (ev_t rfl) rfl) ?_
    refine .m rfl ?_
    iterate 6 refine .k ?_
    refine .t (VB (true)) (e_pick (t := true) (ev_t rfl) rfl) ?_
    refine .m rfl ?_
    iterate 6 refine .k ?_
    refine .t (VB (true)) (e_pick (t := true) (ev_t rfl) rfl) ?_
    refine .nil ?_
    refine CdOK.cond_true rfl ?_
    refine .seq (.region (.t (VB (false)) (e_as rfl) ?_))
    refine .nil ?_
    refine CdOK.ret ?_
    refine ⟨.inr rfl, _, rfl, h, _, _, rfl, rfl, hC, ((renFlV rfl) : RenV _ _ _ _ (VB (false))), ?_⟩
    have hr := hm.ret; replace hr := Ev.ret hr; cases hr; exact ⟨rfl, rfl⟩
   intro c11; replace hm := hm.ifn c11
   refine .t (VB (false)) (e_pick (t := false) (ev_t rfl) (ev_t rfl)) ?_
   refine .m rfl ?_
   refine .t _ (e_fa' fa108_2 (ev_t rfl)) ?_
   refine .t _ (e_ldb1 (ev_t rfl) ty3 (bx rfl rfl) rfl) ?_
   refine .t _ (e_fa' fa108_2 (ev_t rfl)) ?_
   refine .t _ (e_ldb1 (ev_t rfl) ty3 (bx rfl rfl) rfl) ?_
   refine .sd rfl rfl rfl (e_neK (ev_t rfl) (ev_t rfl)) ?_ ?_
   ·intro c12; replace hm := hm.ifp c12
    refine .t (VB (true)) (e_pick (t := false) (ev_t rfl) (ev_t rfl)) ?_
    refine .m rfl ?_
    iterate 5 refine .k ?_
    refine .t (VB (true)) (e_pick (t := true) (ev_t rfl) rfl) ?_
    refine .m rfl ?_
    iterate 6 refine .k ?_
    refine .t (VB (true)) (e_pick (t := true) (ev_t rfl) rfl) ?_
    refine .m rfl ?_
    iterate 6 refine .k ?_
    refine .t (VB (true)) (e_pick (t := true) (ev_t rfl) rfl) ?_
    refine .nil ?_
    refine CdOK.cond_true rfl ?_
    refine .seq (.region (.t (VB (false)) (e_as rfl) ?_))
    refine .nil ?_
    refine CdOK.ret ?_
    refine ⟨.inr rfl, _, rfl, h, _, _, rfl, rfl, hC, ((renFlV rfl) : RenV _ _ _ _ (VB (false))), ?_⟩
    have hr := hm.ret; replace hr := Ev.ret hr; cases hr; exact ⟨rfl, rfl⟩
   intro c13; replace hm := hm.ifn c13
   refine .t (VB (false)) (e_pick (t := false) (ev_t rfl) (ev_t rfl)) ?_
   refine .m rfl ?_
   refine .t _ (e_fa' fa108_3 (ev_t rfl)) ?_
   refine .t _ (e_ldb1 (ev_t rfl) ty3 (bx rfl rfl) rfl) ?_
   refine .t _ (e_fa' fa108_3 (ev_t rfl)) ?_
   refine .t _ (e_ldb1 (ev_t rfl) ty3 (bx rfl rfl) rfl) ?_
   refine .sd rfl rfl rfl (e_neK (ev_t rfl) (ev_t rfl)) ?_ ?_
   ·intro c14; replace hm := hm.ifp c14
    refine .t (VB (true)) (e_pick (t := false) (ev_t rfl) (ev_t rfl)) ?_
    refine .m rfl ?_
    iterate 6 refine .k ?_
    refine .t (VB (true)) (e_pick (t := true) (ev_t rfl) rfl) ?_
    refine .m rfl ?_
    iterate 6 refine .k ?_
    refine .t (VB (true)) (e_pick (t := true) (ev_t rfl) rfl) ?_
    refine .nil ?_
    refine CdOK.cond_true rfl ?_
    refine .seq (.region (.t (VB (false)) (e_as rfl) ?_))
    refine .nil ?_
    refine CdOK.ret ?_
    refine ⟨.inr rfl, _, rfl, h, _, _, rfl, rfl, hC, ((renFlV rfl) : RenV _ _ _ _ (VB (false))), ?_⟩
    have hr := hm.ret; replace hr := Ev.ret hr; cases hr; exact ⟨rfl, rfl⟩
   intro c15; replace hm := hm.ifn c15
   refine .t (VB (false)) (e_pick (t := false) (ev_t rfl) (ev_t rfl)) ?_
   refine .m rfl ?_
   refine .t _ (e_fa' fa108_4 (ev_t rfl)) ?_
   refine .t _ (e_ldb1 (ev_t rfl) ty27 (bx rfl rfl) rfl) ?_
   refine .t _ (e_fa' fa108_4 (ev_t rfl)) ?_
   refine .t _ (e_ldb1 (ev_t rfl) ty27 (bx rfl rfl) rfl) ?_
   obtain ⟨x16, e16, hm⟩ := hm.call
   cases x16 with
   | true =>
    replace hm := hm.ifp rfl
    refine .cl rfl rfl rfl rfl pl143 (R2.wk _) (ref12_ints_ok    e16) ?_
    rintro _ _ ⟨rfl, rfl⟩
    refine .t (VB (false)) (e_un (ev_t rfl) rfl) ?_
    refine .t (VB (false)) (e_pick (t := false) (ev_t rfl) (ev_t rfl)) ?_
    refine .m rfl ?_
    refine .t _ (e_fa' fa108_5 (ev_t rfl)) ?_
    refine .t _ (e_ldb1 (ev_t rfl) ty27 (bx rfl rfl) rfl) ?_
    refine .t _ (e_fa' fa108_5 (ev_t rfl)) ?_
    refine .t _ (e_ldb1 (ev_t rfl) ty27 (bx rfl rfl) rfl) ?_
    obtain ⟨x17, e17, hm⟩ := hm.call
    refine .cl rfl rfl rfl rfl pl143 (R2.wk _) (ref12_ints_ok    e17) ?_
    rintro _ _ ⟨rfl, rfl⟩
    refine .t (VB ((!x17))) (e_un (ev_t rfl) rfl) ?_
    refine .t (VB ((!x17))) (e_pick (t := false) (ev_t rfl) (ev_t rfl)) ?_
    refine .nil ?_
    refine CdOK.condB (ev_t rfl) ?_ ?_
    ·intro c18; replace hm := hm.ifp c18
     refine .seq (.region (.t (VB (false)) (e_as rfl) ?_))
     refine .nil ?_
     refine CdOK.ret ?_
     refine ⟨.inr rfl, _, rfl, h, _, _, rfl, rfl, hC, ((renFlV rfl) : RenV _ _ _ _ (VB (false))), ?_⟩
     have hr := hm.ret; replace hr := Ev.ret hr; cases hr; exact ⟨rfl, rfl⟩
    intro c19; replace hm := hm.ifn c19
    refine .skip ?_
    refine CdOK.region (.m rfl ?_)
    refine .t (VI ((w64 (i3 + 1)))) (e_bin (ev_t rfl) rfl rfl rfl) ?_
    refine .a rfl ?_
    refine .nil ?_
    refine .re (σ := []) (X := [(0, .o (.c (.L 6 (a_.map Tx.cs)))), (1, .o (.c (.L 6 (b_.map Tx.cs)))), (5, VI ((w64 (i3 + 1))))]) (L' := []) rfl rfl hC (by decide) .nil (.cons (renFlV rfl) (.cons (renFlV rfl) (.cons (renFlV rfl) .nil))) ?_
    exact ⟨_, (w64 (i3 + 1)), Nat.lt_succ_self _, hm, (.cons rfl (.cons rfl (.cons rfl .nil))), rfl⟩
   | false =>
    replace hm := hm.ifn Bool.false_ne_true
    refine .cl rfl rfl rfl rfl pl143 (R2.wk _) (ref12_ints_ok    e16) ?_
    rintro _ _ ⟨rfl, rfl⟩
    refine .t (VB (true)) (e_un (ev_t rfl) rfl) ?_
    refine .t (VB (true)) (e_pick (t := false) (ev_t rfl) (ev_t rfl)) ?_
    refine .m rfl ?_
    iterate 6 refine .k ?_
    refine .t (VB (true)) (e_pick (t := true) (ev_t rfl) rfl) ?_
    refine .nil ?_
    refine CdOK.cond_true rfl ?_
    refine .seq (.region (.t (VB (false)) (e_as rfl) ?_))
    refine .nil ?_
    refine CdOK.ret ?_
    refine ⟨.inr rfl, _, rfl, h, _, _, rfl, rfl, hC, ((renFlV rfl) : RenV _ _ _ _ (VB (false))), ?_⟩
    have hr := hm.ret; replace hr := Ev.ret hr; cases hr; exact ⟨rfl, rfl⟩
  intro c20; replace hm := hm.ifn c20
  refine .exit ?_
  refine .id ?_
  exact ⟨(), hm.ret, .nil, rfl⟩
 intro _ T0 hm
 refine CdOK.seq (.region (.t (VB (true)) (e_as rfl) ?_))
 refine .nil ?_
 refine CdOK.ret ?_
 refine ⟨.inr rfl, _, rfl, h, _, _, rfl, rfl, hC, ((renFlV rfl) : RenV _ _ _ _ (VB (true))), ?_⟩
 cases hm.ret; exact ⟨rfl, rfl⟩
end Rv
