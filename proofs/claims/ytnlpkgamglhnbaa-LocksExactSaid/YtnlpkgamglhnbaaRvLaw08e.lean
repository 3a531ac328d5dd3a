/- Chapter 8: LocksExact, as a plain function. -/
import Derived.Test.YtnlpkgamglhnbaaRvLaw08z
import Derived.Test.YtnlpkgamglhnbaaRvR08b
set_option linter.unusedVariables false
set_option linter.unusedSimpArgs false
namespace Rv
open Go Go.RowKit Go.Proofs
theorem bo4 : boT Try.prog 4 = true := by decide +kernel
theorem el83 : ElF Try.prog 83 2 := .of (by decide +kernel)
theorem is83 : isSliceT Try.prog 83 = true := by decide +kernel
theorem pl17 : plainFn Try.prog 17 = true := by decide +kernel
theorem pl40 : plainFn Try.prog 40 = true := by decide +kernel
theorem pl45 : plainFn Try.prog 45 = true := by decide +kernel
theorem pl46 : plainFn Try.prog 46 = true := by decide +kernel
theorem pl49 : plainFn Try.prog 49 = true := by decide +kernel
theorem pl51 : plainFn Try.prog 51 = true := by decide +kernel
theorem pl52 : plainFn Try.prog 52 = true := by decide +kernel
theorem pl53 : plainFn Try.prog 53 = true := by decide +kernel
theorem pl54 : plainFn Try.prog 54 = true := by decide +kernel
theorem pl57 : plainFn Try.prog 57 = true := by decide +kernel
theorem slt83 : SlT Try.prog 83 2 ([.v (.slice none 0 0)] ++ [.v (.slice none 0 0)]) 48 := .of (e := 69) (by decide +kernel) (by kernel_rfl) rfl
/- pagemend/pagemendlaw08.odd -/
def law08_odd (t_ : Locks) (c_ : Codes) : Option (Locks × Codes) := ((Codes_Grant c_).bind fun (x1 : (Grant × Codes)) => ((((Codes_Next 4 x1.2).bind fun (x4 : (Int × Codes)) => (if x4.1 = 0 then ((Codes_Int x4.2).bind fun (x6 : (Int × Codes)) => ((Codes_Next 4 x6.2).bind fun (x7 : (Int × Codes)) => some ((⟨x6.1, x1.1.lock, x7.1⟩ : Grant), x7.2))) else some (x1.1, x4.2)))).bind fun (s9 : (Grant × Codes)) => ((Codes_Next 2 s9.2).bind fun (x10 : (Int × Codes)) => (if x10.1 = 0 then (if t_.held.length ≤ 4398046511104 then (if (t_.held).length + ([s9.1] : List Grant).length ≤ 4398046511104 then some ((⟨(t_.held ++ ([s9.1] : List Grant)), t_.waiting⟩ : Locks), x10.2) else none) else none) else (if t_.waiting.length ≤ 4398046511104 then (if (t_.waiting).length + ([s9.1] : List Grant).length ≤ 4398046511104 then some ((⟨t_.held, (t_.waiting ++ ([s9.1] : List Grant))⟩ : Locks), x10.2) else none) else none)))))
theorem law08_odd_ok {h : Heap} {t_ : Locks} {c_ : Codes} {b_c_ : Nat} (hb_c_ : h[b_c_]? = some ⟨[.L 1 (c_.l_.map c_u8), I (c_.at_)], true, true⟩)  {r : (Locks × Codes)} (hm : law08_odd t_ c_ = some r) : FnOK Try.prog 46 [.o (.c (.ptr b_c_ 0)), .o (.agg [.L 4 (t_.held.map Grant.cs), .L 4 (t_.waiting.map Grant.cs)])] h (fun v h' => v = .o (.agg [.L 4 (r.1.held.map Grant.cs), .L 4 (r.1.waiting.map Grant.cs)]) ∧ h' = h.set b_c_ ⟨[.L 1 (r.2.l_.map c_u8), I (r.2.at_)], true, true⟩) := by
 refine FnOK.fin ?_
 refine FnOK.bodyC (N := 35) Try.func46 rfl rfl rfl (fun hC => ?_)
 have hl_c_ := lt_of_get hb_c_
 rw [show h ++ [] = (h.set b_c_ ⟨[.L 1 (c_.l_.map c_u8), I (c_.at_)], true, true⟩) ++ ([] : Heap) from by rw [set_same hb_c_]]
 replace hm := Ev.of hm
 rw [law08_odd.eq_1] at hm
 show CdOK _ _ _ (look _ [(0, .o (.c (.ptr b_c_ 0))), (1, .o (.agg [.L 4 (t_.held.map Grant.cs), .L 4 (t_.waiting.map Grant.cs)]))]) ((h.set b_c_ ⟨[.L 1 (c_.l_.map c_u8), I (c_.at_)], true, true⟩) ++ ([] : Heap)) _
 refine .seq ?_
 refine .region ?_
 refine .t (.o (.c (.ptr (h.length + 0) 0))) (e_boxN (L' := [⟨[.L 4 (t_.held.map Grant.cs), .L 4 (t_.waiting.map Grant.cs)], true, true⟩]) (List.length_set ..) (ev_t rfl) rfl rfl) ?_
 refine .t (.o (.c (.ptr (h.length + 1) 0))) (e_allocN (L' := [⟨[.L 4 (t_.held.map Grant.cs), .L 4 (t_.waiting.map Grant.cs)], true, true⟩, ⟨[.v (.slice none 0 0), .v (.slice none 0 0)], true, true⟩]) (List.length_set ..) zo69 rfl rfl) ?_
 refine .nil ?_
 refine CdOK.seq ?_
 refine .region ?_
 refine .m rfl ?_
 obtain ⟨x1, e1, hm⟩ := hm.call
 refine .cl rfl rfl rfl rfl pl48 (R2.wk _) (Codes_Grant_ok  (b_c_ := b_c_) (pset hl_c_) e1) ?_
 rintro _ _ ⟨rfl, rfl⟩
 rw [show _ = (h.set b_c_ ⟨[.L 1 (x1.2.l_.map c_u8), I (x1.2.at_)], true, true⟩) ++ ([⟨[.L 4 (t_.held.map Grant.cs), .L 4 (t_.waiting.map Grant.cs)], true, true⟩, ⟨[.v (.slice none 0 0), .v (.slice none 0 0)], true, true⟩] : Heap) from (pset2 hl_c_)]
 refine .t (.o (.c (.ptr (h.length + 2) 0))) (e_allocN (L' := [⟨[.L 4 (t_.held.map Grant.cs), .L 4 (t_.waiting.map Grant.cs)], true, true⟩, ⟨[.v (.slice none 0 0), .v (.slice none 0 0)], true, true⟩, ⟨[I (0), I (0), I (0), I (0)], true, true⟩]) (List.length_set ..) zo75 rfl rfl) ?_
 refine .s0 rfl rfl (e_stN (L' := [⟨[.L 4 (t_.held.map Grant.cs), .L 4 (t_.waiting.map Grant.cs)], true, true⟩, ⟨[.v (.slice none 0 0), .v (.slice none 0 0)], true, true⟩, ⟨[I (x1.1.tx), I (x1.1.lock.page), I (x1.1.lock.slot), I (x1.1.mode)], true, true⟩]) (List.length_set ..) (ev_t rfl) (ev_t rfl) ty75 rfl rfl rfl rfl rfl) ?_
 refine .nil ?_
 replace hm := hm.bnd
 refine CdOK.joinE (σ := (Grant × Codes)) (fun s => (s.1, s.2)) hm (fun s => [(0, .o (.c (.ptr b_c_ 0))), (3, .o (.c (.ptr (h.length + 0) 0))), (4, .o (.c (.ptr (h.length + 1) 0))), (5, .o (.c (.ptr (h.length + 2) 0)))]) (fun s => (h.set b_c_ ⟨[.L 1 (s.2.l_.map c_u8), I (s.2.at_)], true, true⟩) ++ ([⟨[.L 4 (t_.held.map Grant.cs), .L 4 (t_.waiting.map Grant.cs)], true, true⟩, ⟨[.v (.slice none 0 0), .v (.slice none 0 0)], true, true⟩, ⟨[I (s.1.tx), I (s.1.lock.page), I (s.1.lock.slot), I (s.1.mode)], true, true⟩] : Heap)) ?_ ?_
 ·intro hm
  refine .seq ?_
  refine .region ?_
  refine .m rfl ?_
  obtain ⟨x4, e4, hm⟩ := hm.call
  refine .cl rfl rfl rfl rfl pl32 (R2.wk _) (Codes_Next_ok  (b_c_ := b_c_) (pset hl_c_) e4) ?_
  rintro _ _ ⟨rfl, rfl⟩
  rw [show _ = (h.set b_c_ ⟨[.L 1 (x4.2.l_.map c_u8), I (x4.2.at_)], true, true⟩) ++ ([⟨[.L 4 (t_.held.map Grant.cs), .L 4 (t_.waiting.map Grant.cs)], true, true⟩, ⟨[.v (.slice none 0 0), .v (.slice none 0 0)], true, true⟩, ⟨[I (x1.1.tx), I (x1.1.lock.page), I (x1.1.lock.slot), I (x1.1.mode)], true, true⟩] : Heap) from (pset2 hl_c_)]
  refine .t (VB (decide (x4.1 = 0))) (e_eqK (ev_t rfl) rfl) ?_
  refine .nil ?_
  refine CdOK.condD (ev_t rfl) ?_ ?_
  ·intro c5; replace hm := hm.ifp c5
   refine .region ?_
   refine .m rfl ?_
   obtain ⟨x6, e6, hm⟩ := hm.call
   refine .cl rfl rfl rfl rfl pl49 (R2.wk _) (Codes_Int_ok  (b_c_ := b_c_) (pset hl_c_) e6) ?_
   rintro _ _ ⟨rfl, rfl⟩
   rw [show _ = (h.set b_c_ ⟨[.L 1 (x6.2.l_.map c_u8), I (x6.2.at_)], true, true⟩) ++ ([⟨[.L 4 (t_.held.map Grant.cs), .L 4 (t_.waiting.map Grant.cs)], true, true⟩, ⟨[.v (.slice none 0 0), .v (.slice none 0 0)], true, true⟩, ⟨[I (x1.1.tx), I (x1.1.lock.page), I (x1.1.lock.slot), I (x1.1.mode)], true, true⟩] : Heap) from (pset2 hl_c_)]
   refine .m rfl ?_
   obtain ⟨x7, e7, hm⟩ := hm.call
   refine .cl rfl rfl rfl rfl pl32 (R2.wk _) (Codes_Next_ok  (b_c_ := b_c_) (pset hl_c_) e7) ?_
   rintro _ _ ⟨rfl, rfl⟩
   rw [show _ = (h.set b_c_ ⟨[.L 1 (x7.2.l_.map c_u8), I (x7.2.at_)], true, true⟩) ++ ([⟨[.L 4 (t_.held.map Grant.cs), .L 4 (t_.waiting.map Grant.cs)], true, true⟩, ⟨[.v (.slice none 0 0), .v (.slice none 0 0)], true, true⟩, ⟨[I (x1.1.tx), I (x1.1.lock.page), I (x1.1.lock.slot), I (x1.1.mode)], true, true⟩] : Heap) from (pset2 hl_c_)]
   refine .t _ (e_fa' fa75_0 (ev_t rfl)) ?_
   refine .s0 rfl rfl (e_stN (L' := [⟨[.L 4 (t_.held.map Grant.cs), .L 4 (t_.waiting.map Grant.cs)], true, true⟩, ⟨[.v (.slice none 0 0), .v (.slice none 0 0)], true, true⟩, ⟨[I (x6.1), I (x1.1.lock.page), I (x1.1.lock.slot), I (x1.1.mode)], true, true⟩]) (List.length_set ..) (ev_t rfl) (ev_t rfl) ty3 rfl rfl rfl rfl rfl) ?_
   refine .t _ (e_fa' fa75_2 (ev_t rfl)) ?_
   refine .s0 rfl rfl (e_stN (L' := [⟨[.L 4 (t_.held.map Grant.cs), .L 4 (t_.waiting.map Grant.cs)], true, true⟩, ⟨[.v (.slice none 0 0), .v (.slice none 0 0)], true, true⟩, ⟨[I (x6.1), I (x1.1.lock.page), I (x1.1.lock.slot), I (x7.1)], true, true⟩]) (List.length_set ..) (ev_t rfl) (ev_t rfl) ty3 rfl rfl rfl rfl rfl) ?_
   refine .nil ?_
   refine .id ?_
   exact ⟨((⟨x6.1, x1.1.lock, x7.1⟩ : Grant), x7.2), hm.ret, (.cons rfl (.cons rfl (.cons rfl (.cons rfl .nil)))), rfl⟩
  ·intro c8; replace hm := hm.ifn c8
   refine .skip ?_
   refine .id ?_
   exact ⟨(x1.1, x4.2), hm.ret, (.cons rfl (.cons rfl (.cons rfl (.cons rfl .nil)))), rfl⟩
 ·rintro ⟨bx2, bx3⟩ T0 hm
  show CdOK _ _ _ (look T0 [(0, .o (.c (.ptr b_c_ 0))), (3, .o (.c (.ptr (h.length + 0) 0))), (4, .o (.c (.ptr (h.length + 1) 0))), (5, .o (.c (.ptr (h.length + 2) 0)))]) ((h.set b_c_ ⟨[.L 1 (bx3.l_.map c_u8), I (bx3.at_)], true, true⟩) ++ ([⟨[.L 4 (t_.held.map Grant.cs), .L 4 (t_.waiting.map Grant.cs)], true, true⟩, ⟨[.v (.slice none 0 0), .v (.slice none 0 0)], true, true⟩, ⟨[I (bx2.tx), I (bx2.lock.page), I (bx2.lock.slot), I (bx2.mode)], true, true⟩] : Heap)) _
  refine .seq ?_
  refine .seq ?_
  refine .region ?_
  refine .m rfl ?_
  obtain ⟨x10, e10, hm⟩ := hm.call
  refine .cl rfl rfl rfl rfl pl32 (R2.wk _) (Codes_Next_ok  (b_c_ := b_c_) (pset hl_c_) e10) ?_
  rintro _ _ ⟨rfl, rfl⟩
  rw [show _ = (h.set b_c_ ⟨[.L 1 (x10.2.l_.map c_u8), I (x10.2.at_)], true, true⟩) ++ ([⟨[.L 4 (t_.held.map Grant.cs), .L 4 (t_.waiting.map Grant.cs)], true, true⟩, ⟨[.v (.slice none 0 0), .v (.slice none 0 0)], true, true⟩, ⟨[I (bx2.tx), I (bx2.lock.page), I (bx2.lock.slot), I (bx2.mode)], true, true⟩] : Heap) from (pset2 hl_c_)]
  refine .t (VB (decide (x10.1 = 0))) (e_eqK (ev_t rfl) rfl) ?_
  refine .nil ?_
  refine CdOK.condD (ev_t rfl) ?_ ?_
  ·intro c11; replace hm := hm.ifp c11
   refine .draw2 (ord := [0, 1, 3, 4, 2, 5, 6, 7]) (chain := [2, 5, 7]) fol (by decide +kernel) (by decide +kernel) ?_
   refine .p _ (e_fa' fa69_0 (ev_t rfl)) ?_
   refine .q _ (e_ldb1 (ev_t rfl) ty67 (bx (List.length_set ..) rfl) rfl) ?_
   refine .q _ (e_ldbA (ev_t rfl) ty75 (bx (List.length_set ..) rfl) rfl rfl) ?_
   refine .p (.o (.c (.LC 4 (([bx2] : List Grant).map Grant.cs)))) (e_lit (cs := [I (bx2.tx), I (bx2.lock.page), I (bx2.lock.slot), I (bx2.mode)]) (xs := ([bx2]).map Grant.cs) slt67 rfl rfl rfl rfl rfl) ?_
   obtain ⟨c12, hm⟩ := hm.ifs
   refine .c (v := .o (.c (.g (h.length + 3) ((t_.held).length) 4 (decide (0 < t_.held.length))))) rfl rfl rfl rfl rfl (e_apN (k := 4) (q := 4398046511104) (m := t_.held.length) (lv := (decide (0 < t_.held.length))) (f := Grant.cs) (xs := t_.held) (L' := [⟨[.L 4 (t_.held.map Grant.cs), .L 4 (t_.waiting.map Grant.cs)], true, true⟩, ⟨[.v (.slice none 0 0), .v (.slice none 0 0)], true, true⟩, ⟨[I (bx2.tx), I (bx2.lock.page), I (bx2.lock.slot), I (bx2.mode)], true, true⟩, ⟨(t_.held.map Grant.cs).flatten, true, (decide (0 < t_.held.length))⟩]) slt67 (List.length_set ..) rfl (ev_t rfl) src_L c12 rfl rfl rfl rfl) (.e rfl rfl (e_ldbA (ev_t rfl) ty75 (bx (List.length_set ..) rfl) rfl rfl) (.m (by decide +kernel) .nil)) ?_
   obtain ⟨c13, hm⟩ := hm.ifs
   refine .c (v := .o (.c (.g (h.length + 4) (((t_.held ++ ([bx2] : List Grant))).length) 4 ((decide (0 < t_.held.length)) || decide (0 < ([bx2] : List Grant).length))))) rfl rfl rfl rfl rfl (e_apG (k := 4) (q := 4398046511104) (m := ([bx2] : List Grant).length) (j := 3) (f := Grant.cs) (xs := t_.held) (ys := ([bx2] : List Grant)) (L' := [⟨[.L 4 (t_.held.map Grant.cs), .L 4 (t_.waiting.map Grant.cs)], true, true⟩, ⟨[.v (.slice none 0 0), .v (.slice none 0 0)], true, true⟩, ⟨[I (bx2.tx), I (bx2.lock.page), I (bx2.lock.slot), I (bx2.mode)], true, true⟩, ⟨(t_.held.map Grant.cs).flatten, true, false⟩, ⟨((t_.held ++ ([bx2] : List Grant)).map Grant.cs).flatten, true, ((decide (0 < t_.held.length)) || decide (0 < ([bx2] : List Grant).length))⟩]) slt67 (List.length_set ..) (ev_t rfl) (ev_t rfl) (bx (List.length_set ..) rfl) (by intro x; rfl) src_LC rfl c13 rfl (by first | rfl | simp) rfl rfl) (.m (by decide +kernel) (.m (by decide +kernel) .nil)) ?_
   refine .p _ (e_fa' fa69_0 (ev_t rfl)) ?_
   refine .c0 rfl rfl rfl rfl (e_stN (L' := [⟨[.g (h.length + 4) (((t_.held ++ ([bx2] : List Grant))).length) 4 ((decide (0 < t_.held.length)) || decide (0 < ([bx2] : List Grant).length)), .L 4 (t_.waiting.map Grant.cs)], true, true⟩, ⟨[.v (.slice none 0 0), .v (.slice none 0 0)], true, true⟩, ⟨[I (bx2.tx), I (bx2.lock.page), I (bx2.lock.slot), I (bx2.mode)], true, true⟩, ⟨(t_.held.map Grant.cs).flatten, true, false⟩, ⟨((t_.held ++ ([bx2] : List Grant)).map Grant.cs).flatten, true, ((decide (0 < t_.held.length)) || decide (0 < ([bx2] : List Grant).length))⟩]) (List.length_set ..) (ev_t rfl) (ev_t rfl) ty67 rfl rfl rfl rfl rfl) (.m (by decide +kernel) (.m (by decide +kernel) .nil)) ?_
   refine .nil ?_
   refine CdOK.seq ?_
   refine .region ?_
   refine .t _ (e_ldbA (ev_t rfl) ty69 (bx (List.length_set ..) rfl) rfl rfl) ?_
   refine .s0 rfl rfl (e_stN (L' := [⟨[.g (h.length + 4) (((t_.held ++ ([bx2] : List Grant))).length) 4 ((decide (0 < t_.held.length)) || decide (0 < ([bx2] : List Grant).length)), .L 4 (t_.waiting.map Grant.cs)], true, true⟩, ⟨[.g (h.length + 4) (((t_.held ++ ([bx2] : List Grant))).length) 4 ((decide (0 < t_.held.length)) || decide (0 < ([bx2] : List Grant).length)), .L 4 (t_.waiting.map Grant.cs)], true, true⟩, ⟨[I (bx2.tx), I (bx2.lock.page), I (bx2.lock.slot), I (bx2.mode)], true, true⟩, ⟨(t_.held.map Grant.cs).flatten, true, false⟩, ⟨((t_.held ++ ([bx2] : List Grant)).map Grant.cs).flatten, true, ((decide (0 < t_.held.length)) || decide (0 < ([bx2] : List Grant).length))⟩]) (List.length_set ..) (ev_t rfl) (ev_t rfl) ty69 rfl rfl rfl rfl rfl) ?_
   refine .nil ?_
   refine CdOK.ret ?_
   refine ⟨.inr rfl, _, (resA_c (look_find rfl) (eLoad_A ty69 (bx (List.length_set ..) rfl) rfl rfl rfl) resA_n), (h.set b_c_ ⟨[.L 1 (x10.2.l_.map c_u8), I (x10.2.at_)], true, true⟩), _, _, rfl, (List.length_set ..), (hC.set rfl), ((.o (.agg (R2.of (.fzg 4 _ 4 _ ((t_.held ++ ([bx2] : List Grant)).map Grant.cs) rfl (by decide) (by first | exact List.length_map .. | simp) (lens_all (by intro x; rfl)) (vl_all (by intro x; rfl))) (R2.of (.fl _ rfl) (R2.nil _))))) : RenV _ _ _ _ (.o (.agg [.L 4 ((t_.held ++ ([bx2] : List Grant)).map Grant.cs), .L 4 (t_.waiting.map Grant.cs)]))), ?_⟩
   cases hm.ret; exact ⟨rfl, rfl⟩
  ·intro c14; replace hm := hm.ifn c14
   refine .draw2 (ord := [0, 1, 3, 4, 2, 5, 6, 7]) (chain := [2, 5, 7]) fol (by decide +kernel) (by decide +kernel) ?_
   refine .p _ (e_fa' fa69_1 (ev_t rfl)) ?_
   refine .q _ (e_ldb1 (ev_t rfl) ty67 (bx (List.length_set ..) rfl) rfl) ?_
   refine .q _ (e_ldbA (ev_t rfl) ty75 (bx (List.length_set ..) rfl) rfl rfl) ?_
   refine .p (.o (.c (.LC 4 (([bx2] : List Grant).map Grant.cs)))) (e_lit (cs := [I (bx2.tx), I (bx2.lock.page), I (bx2.lock.slot), I (bx2.mode)]) (xs := ([bx2]).map Grant.cs) slt67 rfl rfl rfl rfl rfl) ?_
   obtain ⟨c15, hm⟩ := hm.ifs
   refine .c (v := .o (.c (.g (h.length + 3) ((t_.waiting).length) 4 (decide (0 < t_.waiting.length))))) rfl rfl rfl rfl rfl (e_apN (k := 4) (q := 4398046511104) (m := t_.waiting.length) (lv := (decide (0 < t_.waiting.length))) (f := Grant.cs) (xs := t_.waiting) (L' := [⟨[.L 4 (t_.held.map Grant.cs), .L 4 (t_.waiting.map Grant.cs)], true, true⟩, ⟨[.v (.slice none 0 0), .v (.slice none 0 0)], true, true⟩, ⟨[I (bx2.tx), I (bx2.lock.page), I (bx2.lock.slot), I (bx2.mode)], true, true⟩, ⟨(t_.waiting.map Grant.cs).flatten, true, (decide (0 < t_.waiting.length))⟩]) slt67 (List.length_set ..) rfl (ev_t rfl) src_L c15 rfl rfl rfl rfl) (.e rfl rfl (e_ldbA (ev_t rfl) ty75 (bx (List.length_set ..) rfl) rfl rfl) (.m (by decide +kernel) .nil)) ?_
   obtain ⟨c16, hm⟩ := hm.ifs
   refine .c (v := .o (.c (.g (h.length + 4) (((t_.waiting ++ ([bx2] : List Grant))).length) 4 ((decide (0 < t_.waiting.length)) || decide (0 < ([bx2] : List Grant).length))))) rfl rfl rfl rfl rfl (e_apG (k := 4) (q := 4398046511104) (m := ([bx2] : List Grant).length) (j := 3) (f := Grant.cs) (xs := t_.waiting) (ys := ([bx2] : List Grant)) (L' := [⟨[.L 4 (t_.held.map Grant.cs), .L 4 (t_.waiting.map Grant.cs)], true, true⟩, ⟨[.v (.slice none 0 0), .v (.slice none 0 0)], true, true⟩, ⟨[I (bx2.tx), I (bx2.lock.page), I (bx2.lock.slot), I (bx2.mode)], true, true⟩, ⟨(t_.waiting.map Grant.cs).flatten, true, false⟩, ⟨((t_.waiting ++ ([bx2] : List Grant)).map Grant.cs).flatten, true, ((decide (0 < t_.waiting.length)) || decide (0 < ([bx2] : List Grant).length))⟩]) slt67 (List.length_set ..) (ev_t rfl) (ev_t rfl) (bx (List.length_set ..) rfl) (by intro x; rfl) src_LC rfl c16 rfl (by first | rfl | simp) rfl rfl) (.m (by decide +kernel) (.m (by decide +kernel) .nil)) ?_
   refine .p _ (e_fa' fa69_1 (ev_t rfl)) ?_
   refine .c0 rfl rfl rfl rfl (e_stN (L' := [⟨[.L 4 (t_.held.map Grant.cs), .g (h.length + 4) (((t_.waiting ++ ([bx2] : List Grant))).length) 4 ((decide (0 < t_.waiting.length)) || decide (0 < ([bx2] : List Grant).length))], true, true⟩, ⟨[.v (.slice none 0 0), .v (.slice none 0 0)], true, true⟩, ⟨[I (bx2.tx), I (bx2.lock.page), I (bx2.lock.slot), I (bx2.mode)], true, true⟩, ⟨(t_.waiting.map Grant.cs).flatten, true, false⟩, ⟨((t_.waiting ++ ([bx2] : List Grant)).map Grant.cs).flatten, true, ((decide (0 < t_.waiting.length)) || decide (0 < ([bx2] : List Grant).length))⟩]) (List.length_set ..) (ev_t rfl) (ev_t rfl) ty67 rfl rfl rfl rfl rfl) (.m (by decide +kernel) (.m (by decide +kernel) .nil)) ?_
   refine .nil ?_
   refine CdOK.seq ?_
   refine .region ?_
   refine .t _ (e_ldbA (ev_t rfl) ty69 (bx (List.length_set ..) rfl) rfl rfl) ?_
   refine .s0 rfl rfl (e_stN (L' := [⟨[.L 4 (t_.held.map Grant.cs), .g (h.length + 4) (((t_.waiting ++ ([bx2] : List Grant))).length) 4 ((decide (0 < t_.waiting.length)) || decide (0 < ([bx2] : List Grant).length))], true, true⟩, ⟨[.L 4 (t_.held.map Grant.cs), .g (h.length + 4) (((t_.waiting ++ ([bx2] : List Grant))).length) 4 ((decide (0 < t_.waiting.length)) || decide (0 < ([bx2] : List Grant).length))], true, true⟩, ⟨[I (bx2.tx), I (bx2.lock.page), I (bx2.lock.slot), I (bx2.mode)], true, true⟩, ⟨(t_.waiting.map Grant.cs).flatten, true, false⟩, ⟨((t_.waiting ++ ([bx2] : List Grant)).map Grant.cs).flatten, true, ((decide (0 < t_.waiting.length)) || decide (0 < ([bx2] : List Grant).length))⟩]) (List.length_set ..) (ev_t rfl) (ev_t rfl) ty69 rfl rfl rfl rfl rfl) ?_
   refine .nil ?_
   refine CdOK.ret ?_
   refine ⟨.inr rfl, _, (resA_c (look_find rfl) (eLoad_A ty69 (bx (List.length_set ..) rfl) rfl rfl rfl) resA_n), (h.set b_c_ ⟨[.L 1 (x10.2.l_.map c_u8), I (x10.2.at_)], true, true⟩), _, _, rfl, (List.length_set ..), (hC.set rfl), ((.o (.agg (R2.of (.fl _ rfl) (R2.of (.fzg 4 _ 4 _ ((t_.waiting ++ ([bx2] : List Grant)).map Grant.cs) rfl (by decide) (by first | exact List.length_map .. | simp) (lens_all (by intro x; rfl)) (vl_all (by intro x; rfl))) (R2.nil _))))) : RenV _ _ _ _ (.o (.agg [.L 4 (t_.held.map Grant.cs), .L 4 ((t_.waiting ++ ([bx2] : List Grant)).map Grant.cs)]))), ?_⟩
   cases hm.ret; exact ⟨rfl, rfl⟩
/- pagemend/pagemendlaw08.LocksExact -/
def law08_LocksExact.l2 (raw : Locks) (g_ : Grant) (x11 : (Locks × Codes)) (x12 : (Locks × Codes)) (t6213 : Int) (x22 : (Grant × Codes)) (x23 : (Int × Codes)) (x24 : (Int × Codes)) (x25 : (Int × Codes)) (x26 : (Int × Codes)) : Nat → Int → Option (Sum Unit Bool)
  | 0, _ => none
  | kk28 + 1, t8627 => (if t8627 < (([g_, x22.1, (⟨x23.1, (⟨x24.1, x25.1⟩ : Lock), x26.1⟩ : Grant)] : List Grant).length : Int) then (if (0 : Int) ≤ t8627 ∧ t8627 < (([g_, x22.1, (⟨x23.1, (⟨x24.1, x25.1⟩ : Lock), x26.1⟩ : Grant)] : List Grant).length : Int) then ((locks_Request (⟨(gd ([raw, x11.1, x12.1] : List Locks) t6213).held, (gd ([raw, x11.1, x12.1] : List Locks) t6213).waiting⟩ : Locks) (⟨(gd ([g_, x22.1, (⟨x23.1, (⟨x24.1, x25.1⟩ : Lock), x26.1⟩ : Grant)] : List Grant) t8627).tx, (⟨(gd ([g_, x22.1, (⟨x23.1, (⟨x24.1, x25.1⟩ : Lock), x26.1⟩ : Grant)] : List Grant) t8627).lock.page, (gd ([g_, x22.1, (⟨x23.1, (⟨x24.1, x25.1⟩ : Lock), x26.1⟩ : Grant)] : List Grant) t8627).lock.slot⟩ : Lock), (gd ([g_, x22.1, (⟨x23.1, (⟨x24.1, x25.1⟩ : Lock), x26.1⟩ : Grant)] : List Grant) t8627).mode⟩ : Grant)).bind fun (x31 : (Locks × Bool × Int)) => ((ref08_Request (⟨(gd ([raw, x11.1, x12.1] : List Locks) t6213).held, (gd ([raw, x11.1, x12.1] : List Locks) t6213).waiting⟩ : Locks) (⟨(gd ([g_, x22.1, (⟨x23.1, (⟨x24.1, x25.1⟩ : Lock), x26.1⟩ : Grant)] : List Grant) t8627).tx, (⟨(gd ([g_, x22.1, (⟨x23.1, (⟨x24.1, x25.1⟩ : Lock), x26.1⟩ : Grant)] : List Grant) t8627).lock.page, (gd ([g_, x22.1, (⟨x23.1, (⟨x24.1, x25.1⟩ : Lock), x26.1⟩ : Grant)] : List Grant) t8627).lock.slot⟩ : Lock), (gd ([g_, x22.1, (⟨x23.1, (⟨x24.1, x25.1⟩ : Lock), x26.1⟩ : Grant)] : List Grant) t8627).mode⟩ : Grant)).bind fun (x32 : (Locks × Bool × Int)) => (if (!(x31.2.1 == x32.2.1)) = true then some (Sum.inr false) else (if x31.2.2 ≠ x32.2.2 then some (Sum.inr false) else ((ref08_Same x31.1 x32.1).bind fun (x37 : Bool) => (if x37 = true then ((locks_Mode (⟨(gd ([raw, x11.1, x12.1] : List Locks) t6213).held, (gd ([raw, x11.1, x12.1] : List Locks) t6213).waiting⟩ : Locks) ((gd ([g_, x22.1, (⟨x23.1, (⟨x24.1, x25.1⟩ : Lock), x26.1⟩ : Grant)] : List Grant) t8627).tx) (⟨(gd ([g_, x22.1, (⟨x23.1, (⟨x24.1, x25.1⟩ : Lock), x26.1⟩ : Grant)] : List Grant) t8627).lock.page, (gd ([g_, x22.1, (⟨x23.1, (⟨x24.1, x25.1⟩ : Lock), x26.1⟩ : Grant)] : List Grant) t8627).lock.slot⟩ : Lock)).bind fun (x38 : Int) => ((ref08_Mode (⟨(gd ([raw, x11.1, x12.1] : List Locks) t6213).held, (gd ([raw, x11.1, x12.1] : List Locks) t6213).waiting⟩ : Locks) ((gd ([g_, x22.1, (⟨x23.1, (⟨x24.1, x25.1⟩ : Lock), x26.1⟩ : Grant)] : List Grant) t8627).tx) (⟨(gd ([g_, x22.1, (⟨x23.1, (⟨x24.1, x25.1⟩ : Lock), x26.1⟩ : Grant)] : List Grant) t8627).lock.page, (gd ([g_, x22.1, (⟨x23.1, (⟨x24.1, x25.1⟩ : Lock), x26.1⟩ : Grant)] : List Grant) t8627).lock.slot⟩ : Lock)).bind fun (x39 : Int) => (if x38 ≠ x39 then some (Sum.inr false) else ((locks_Drop (⟨(gd ([raw, x11.1, x12.1] : List Locks) t6213).held, (gd ([raw, x11.1, x12.1] : List Locks) t6213).waiting⟩ : Locks) ((gd ([g_, x22.1, (⟨x23.1, (⟨x24.1, x25.1⟩ : Lock), x26.1⟩ : Grant)] : List Grant) t8627).tx) (⟨(gd ([g_, x22.1, (⟨x23.1, (⟨x24.1, x25.1⟩ : Lock), x26.1⟩ : Grant)] : List Grant) t8627).lock.page, (gd ([g_, x22.1, (⟨x23.1, (⟨x24.1, x25.1⟩ : Lock), x26.1⟩ : Grant)] : List Grant) t8627).lock.slot⟩ : Lock)).bind fun (x42 : Locks) => ((ref08_Drop (⟨(gd ([raw, x11.1, x12.1] : List Locks) t6213).held, (gd ([raw, x11.1, x12.1] : List Locks) t6213).waiting⟩ : Locks) ((gd ([g_, x22.1, (⟨x23.1, (⟨x24.1, x25.1⟩ : Lock), x26.1⟩ : Grant)] : List Grant) t8627).tx) (⟨(gd ([g_, x22.1, (⟨x23.1, (⟨x24.1, x25.1⟩ : Lock), x26.1⟩ : Grant)] : List Grant) t8627).lock.page, (gd ([g_, x22.1, (⟨x23.1, (⟨x24.1, x25.1⟩ : Lock), x26.1⟩ : Grant)] : List Grant) t8627).lock.slot⟩ : Lock)).bind fun (x43 : Locks) => ((ref08_Same x42 x43).bind fun (x44 : Bool) => (if (!x44) = true then some (Sum.inr false) else law08_LocksExact.l2 raw g_ x11 x12 t6213 x22 x23 x24 x25 x26 kk28 (w64 (t8627 + 1))))))))) else some (Sum.inr false))))))) else none) else some (Sum.inl ()))
def law08_LocksExact.l3 (raw : Locks) (tx : Int) (x11 : (Locks × Codes)) (x12 : (Locks × Codes)) (t6213 : Int) (x49 : (Int × Codes)) : Nat → Int → Option (Sum Unit Bool)
  | 0, _ => none
  | kk51 + 1, t15650 => (if t15650 < (([tx, (w64 (1 + x49.1))] : List Int).length : Int) then (if (0 : Int) ≤ t15650 ∧ t15650 < (([tx, (w64 (1 + x49.1))] : List Int).length : Int) then ((locks_Waiting (⟨(gd ([raw, x11.1, x12.1] : List Locks) t6213).held, (gd ([raw, x11.1, x12.1] : List Locks) t6213).waiting⟩ : Locks) (gd ([tx, (w64 (1 + x49.1))] : List Int) t15650)).bind fun (x54 : (Grant × Bool)) => ((ref08_Waiting (⟨(gd ([raw, x11.1, x12.1] : List Locks) t6213).held, (gd ([raw, x11.1, x12.1] : List Locks) t6213).waiting⟩ : Locks) (gd ([tx, (w64 (1 + x49.1))] : List Int) t15650)).bind fun (x55 : (Grant × Bool)) => (if ¬ x54.1 = x55.1 then some (Sum.inr false) else (if (!(x54.2 == x55.2)) = true then some (Sum.inr false) else ((locks_Cancel (⟨(gd ([raw, x11.1, x12.1] : List Locks) t6213).held, (gd ([raw, x11.1, x12.1] : List Locks) t6213).waiting⟩ : Locks) (gd ([tx, (w64 (1 + x49.1))] : List Int) t15650)).bind fun (x60 : Locks) => ((ref08_Cancel (⟨(gd ([raw, x11.1, x12.1] : List Locks) t6213).held, (gd ([raw, x11.1, x12.1] : List Locks) t6213).waiting⟩ : Locks) (gd ([tx, (w64 (1 + x49.1))] : List Int) t15650)).bind fun (x61 : Locks) => ((ref08_Same x60 x61).bind fun (x62 : Bool) => (if x62 = true then ((locks_Release (⟨(gd ([raw, x11.1, x12.1] : List Locks) t6213).held, (gd ([raw, x11.1, x12.1] : List Locks) t6213).waiting⟩ : Locks) (gd ([tx, (w64 (1 + x49.1))] : List Int) t15650)).bind fun (x63 : Locks) => ((ref08_Release (⟨(gd ([raw, x11.1, x12.1] : List Locks) t6213).held, (gd ([raw, x11.1, x12.1] : List Locks) t6213).waiting⟩ : Locks) (gd ([tx, (w64 (1 + x49.1))] : List Int) t15650)).bind fun (x64 : Locks) => ((ref08_Same x63 x64).bind fun (x65 : Bool) => (if (!x65) = true then some (Sum.inr false) else law08_LocksExact.l3 raw tx x11 x12 t6213 x49 kk51 (w64 (t15650 + 1)))))) else some (Sum.inr false))))))))) else none) else some (Sum.inl ()))
def law08_LocksExact.l1 (raw : Locks) (g_ : Grant) (tx : Int) (x11 : (Locks × Codes)) (x12 : (Locks × Codes)) : Nat → Int → Codes → Option (Sum Unit Bool)
  | 0, _, _ => none
  | kk15 + 1, t6213, bx14 => (if t6213 < (([raw, x11.1, x12.1] : List Locks).length : Int) then (if (0 : Int) ≤ t6213 ∧ t6213 < (([raw, x11.1, x12.1] : List Locks).length : Int) then ((locks_Valid (⟨(gd ([raw, x11.1, x12.1] : List Locks) t6213).held, (gd ([raw, x11.1, x12.1] : List Locks) t6213).waiting⟩ : Locks)).bind fun (x18 : Bool) => ((ref08_Valid (⟨(gd ([raw, x11.1, x12.1] : List Locks) t6213).held, (gd ([raw, x11.1, x12.1] : List Locks) t6213).waiting⟩ : Locks)).bind fun (x19 : Bool) => (if (!(x18 == x19)) = true then some (Sum.inr false) else ((Codes_Grant bx14).bind fun (x22 : (Grant × Codes)) => ((Codes_Int x22.2).bind fun (x23 : (Int × Codes)) => ((Codes_Int x23.2).bind fun (x24 : (Int × Codes)) => ((Codes_Next 3 x24.2).bind fun (x25 : (Int × Codes)) => ((Codes_Next 4 x25.2).bind fun (x26 : (Int × Codes)) => ((law08_LocksExact.l2 raw g_ x11 x12 t6213 x22 x23 x24 x25 x26 FU 0).bind fun (z : Sum Unit Bool) => match z with | .inl (s48 : Unit) => ((Codes_Next 5 x26.2).bind fun (x49 : (Int × Codes)) => ((law08_LocksExact.l3 raw tx x11 x12 t6213 x49 FU 0).bind fun (z : Sum Unit Bool) => match z with | .inl (s69 : Unit) => law08_LocksExact.l1 raw g_ tx x11 x12 kk15 (w64 (t6213 + 1)) x49.2 | .inr r => some (Sum.inr r))) | .inr r => some (Sum.inr r)))))))))) else none) else some (Sum.inl ()))
def law08_LocksExact (codes : (List Int)) (raw : Locks) (g_ : Grant) (tx : Int) : Option Bool := ((law08_awake ).bind fun (x1 : Bool) => (if x1 = true then (if 30 < (raw.held.length : Int) then (if 30 < (raw.held.length : Int) then some true else some (decide (30 < (raw.waiting.length : Int)))) else (if 30 < (raw.waiting.length : Int) then (if 30 < (raw.held.length : Int) then some true else some (decide (30 < (raw.waiting.length : Int)))) else ((New codes 200).bind fun (x10 : Codes) => ((Codes_Locks x10).bind fun (x11 : (Locks × Codes)) => ((law08_odd x11.1 x11.2).bind fun (x12 : (Locks × Codes)) => ((law08_LocksExact.l1 raw g_ tx x11 x12 FU 0 x12.2).bind fun (z : Sum Unit Bool) => match z with | .inl (s71 : Unit) => some true | .inr r => some r)))))) else (if 30 < (raw.held.length : Int) then some true else some (decide (30 < (raw.waiting.length : Int))))))
theorem law08_LocksExact_ok {h : Heap} {codes : (List Int)} {raw : Locks} {g_ : Grant} {tx : Int}   {r : Bool} (hm : law08_LocksExact codes raw g_ tx = some r) : FnOK Try.prog 10 [.o (.c (.L 1 (codes.map c_u8))), .o (.agg [.L 4 (raw.held.map Grant.cs), .L 4 (raw.waiting.map Grant.cs)]), .o (.agg [I (g_.tx), I (g_.lock.page), I (g_.lock.slot), I (g_.mode)]), VI (tx)] h (fun v h' => v = VB (r) ∧ h' = h) := by
 refine FnOK.fin ?_
 refine FnOK.bodyC (N := 202) Try.func10 rfl rfl rfl (fun hC => ?_)
 replace hm := Ev.of hm
 rw [law08_LocksExact.eq_1] at hm
 show CdOK _ _ _ (look _ [(0, .o (.c (.L 1 (codes.map c_u8)))), (1, .o (.agg [.L 4 (raw.held.map Grant.cs), .L 4 (raw.waiting.map Grant.cs)])), (2, .o (.agg [I (g_.tx), I (g_.lock.page), I (g_.lock.slot), I (g_.mode)])), (3, VI (tx))]) (h ++ ([] : Heap)) _
 refine .seq ?_
 refine .region ?_
 refine .t (.o (.c (.ptr (h.length + 0) 0))) (e_boxN (L' := [⟨[.L 4 (raw.held.map Grant.cs), .L 4 (raw.waiting.map Grant.cs)], true, true⟩]) rfl (ev_t rfl) rfl rfl) ?_
 refine .t (.o (.c (.ptr (h.length + 1) 0))) (e_boxN (L' := [⟨[.L 4 (raw.held.map Grant.cs), .L 4 (raw.waiting.map Grant.cs)], true, true⟩, ⟨[I (g_.tx), I (g_.lock.page), I (g_.lock.slot), I (g_.mode)], true, true⟩]) rfl (ev_t rfl) rfl rfl) ?_
 refine .t (VB (false)) (e_as rfl) ?_
 refine .nil ?_
 refine CdOK.seq ?_
 refine .seq ?_
 refine .region ?_
 obtain ⟨x1, e1, hm⟩ := hm.call
 cases x1 with
 | true =>
  replace hm := hm.ifp rfl
  refine .cl rfl rfl rfl rfl pl40 (R2.wk _) (law08_awake_ok    e1) ?_
  rintro _ _ ⟨rfl, rfl⟩
  refine .t (VB (false)) (e_un (ev_t rfl) rfl) ?_
  refine .m rfl ?_
  refine .t _ (e_fa' fa69_0 (ev_t rfl)) ?_
  refine .t _ (e_ldb1 (ev_t rfl) ty67 (bx rfl rfl) rfl) ?_
  refine .t (VI ((raw.held.length : Int))) (e_lenM (ev_t rfl) is67) ?_
  refine .sd rfl rfl rfl (e_bin (ev_t rfl) rfl rfl rfl) ?_ ?_
  ·intro c2; replace hm := hm.ifp c2
   refine .t (VB (true)) (e_pick (t := false) (ev_t rfl) (ev_t rfl)) ?_
   refine .m rfl ?_
   refine .k ?_
   refine .k ?_
   refine .k ?_
   refine .k ?_
   refine .t (VB (true)) (e_pick (t := true) (ev_t rfl) rfl) ?_
   refine .nil ?_
   refine CdOK.cond_true rfl ?_
   refine .seq ?_
   refine .region ?_
   refine .t _ (e_fa' fa69_0 (ev_t rfl)) ?_
   refine .t _ (e_ldb1 (ev_t rfl) ty67 (bx rfl rfl) rfl) ?_
   refine .t (VI ((raw.held.length : Int))) (e_lenM (ev_t rfl) is67) ?_
   refine .sd rfl rfl rfl (e_bin (ev_t rfl) rfl rfl rfl) ?_ ?_
   ·intro c3; replace hm := hm.ifp c3
    refine .m rfl ?_
    refine .k ?_
    refine .k ?_
    refine .k ?_
    refine .k ?_
    refine .t (VB (true)) (e_pick (t := true) (ev_t rfl) rfl) ?_
    refine .a rfl ?_
    refine .nil ?_
    refine CdOK.ret ?_
    refine ⟨.inr rfl, _, rfl, h, _, _, rfl, rfl, hC, ((renFlV rfl) : RenV _ _ _ _ (VB (true))), ?_⟩
    cases hm.ret; exact ⟨rfl, rfl⟩
   ·intro c4; replace hm := hm.ifn c4
    refine .m rfl ?_
    refine .t _ (e_fa' fa69_1 (ev_t rfl)) ?_
    refine .t _ (e_ldb1 (ev_t rfl) ty67 (bx rfl rfl) rfl) ?_
    refine .t (VI ((raw.waiting.length : Int))) (e_lenM (ev_t rfl) is67) ?_
    refine .t (VB (decide (30 < (raw.waiting.length : Int)))) (e_bin (ev_t rfl) rfl rfl rfl) ?_
    refine .t (VB (decide (30 < (raw.waiting.length : Int)))) (e_pick (t := false) (ev_t rfl) (ev_t rfl)) ?_
    refine .a rfl ?_
    refine .nil ?_
    refine CdOK.ret ?_
    refine ⟨.inr rfl, _, rfl, h, _, _, rfl, rfl, hC, ((renFlV rfl) : RenV _ _ _ _ (VB (decide (30 < (raw.waiting.length : Int))))), ?_⟩
    cases hm.ret; exact ⟨rfl, rfl⟩
  ·intro c5; replace hm := hm.ifn c5
   refine .t (VB (false)) (e_pick (t := false) (ev_t rfl) (ev_t rfl)) ?_
   refine .m rfl ?_
   refine .t _ (e_fa' fa69_1 (ev_t rfl)) ?_
   refine .t _ (e_ldb1 (ev_t rfl) ty67 (bx rfl rfl) rfl) ?_
   refine .t (VI ((raw.waiting.length : Int))) (e_lenM (ev_t rfl) is67) ?_
   refine .t (VB (decide (30 < (raw.waiting.length : Int)))) (e_bin (ev_t rfl) rfl rfl rfl) ?_
   refine .t (VB (decide (30 < (raw.waiting.length : Int)))) (e_pick (t := false) (ev_t rfl) (ev_t rfl)) ?_
   refine .nil ?_
   refine CdOK.condD (ev_t rfl) ?_ ?_
   ·intro c6; replace hm := hm.ifp c6
    refine .seq ?_
    refine .region ?_
    refine .t _ (e_fa' fa69_0 (ev_t rfl)) ?_
    refine .t _ (e_ldb1 (ev_t rfl) ty67 (bx rfl rfl) rfl) ?_
    refine .t (VI ((raw.held.length : Int))) (e_lenM (ev_t rfl) is67) ?_
    refine .sd rfl rfl rfl (e_bin (ev_t rfl) rfl rfl rfl) ?_ ?_
    ·intro c7; replace hm := hm.ifp c7
     refine .m rfl ?_
     refine .k ?_
     refine .k ?_
     refine .k ?_
     refine .k ?_
     refine .t (VB (true)) (e_pick (t := true) (ev_t rfl) rfl) ?_
     refine .a rfl ?_
     refine .nil ?_
     refine CdOK.ret ?_
     refine ⟨.inr rfl, _, rfl, h, _, _, rfl, rfl, hC, ((renFlV rfl) : RenV _ _ _ _ (VB (true))), ?_⟩
     cases hm.ret; exact ⟨rfl, rfl⟩
    ·intro c8; replace hm := hm.ifn c8
     refine .m rfl ?_
     refine .t _ (e_fa' fa69_1 (ev_t rfl)) ?_
     refine .t _ (e_ldb1 (ev_t rfl) ty67 (bx rfl rfl) rfl) ?_
     refine .t (VI ((raw.waiting.length : Int))) (e_lenM (ev_t rfl) is67) ?_
     refine .t (VB (decide (30 < (raw.waiting.length : Int)))) (e_bin (ev_t rfl) rfl rfl rfl) ?_
     refine .t (VB (decide (30 < (raw.waiting.length : Int)))) (e_pick (t := false) (ev_t rfl) (ev_t rfl)) ?_
     refine .a rfl ?_
     refine .nil ?_
     refine CdOK.ret ?_
     refine ⟨.inr rfl, _, rfl, h, _, _, rfl, rfl, hC, ((renFlV rfl) : RenV _ _ _ _ (VB (decide (30 < (raw.waiting.length : Int))))), ?_⟩
     cases hm.ret; exact ⟨rfl, rfl⟩
   ·intro c9; replace hm := hm.ifn c9
    refine .skip ?_
    refine CdOK.seq ?_
    refine .region ?_
    refine .m rfl ?_
    obtain ⟨x10, e10, hm⟩ := hm.call
    refine .cl rfl rfl rfl rfl pl17 (R2.wk _) (New_ok    e10) ?_
    rintro _ _ ⟨rfl, rfl⟩
    rw [show (h ++ ([⟨[.L 4 (raw.held.map Grant.cs), .L 4 (raw.waiting.map Grant.cs)], true, true⟩, ⟨[I (g_.tx), I (g_.lock.page), I (g_.lock.slot), I (g_.mode)], true, true⟩] : Heap)) ++ [⟨[.L 1 (x10.l_.map c_u8), I (x10.at_)], true, true⟩] = h ++ ([⟨[.L 4 (raw.held.map Grant.cs), .L 4 (raw.waiting.map Grant.cs)], true, true⟩, ⟨[I (g_.tx), I (g_.lock.page), I (g_.lock.slot), I (g_.mode)], true, true⟩, ⟨[.L 1 (x10.l_.map c_u8), I (x10.at_)], true, true⟩] : Heap) from apnd rfl, show (h ++ ([⟨[.L 4 (raw.held.map Grant.cs), .L 4 (raw.waiting.map Grant.cs)], true, true⟩, ⟨[I (g_.tx), I (g_.lock.page), I (g_.lock.slot), I (g_.mode)], true, true⟩] : Heap) : Heap).length = h.length + 2 from lenN rfl rfl]
    refine .a rfl ?_
    refine .nil ?_
    refine CdOK.seq ?_
    refine .region ?_
    refine .m rfl ?_
    obtain ⟨x11, e11, hm⟩ := hm.call
    refine .cl rfl rfl rfl rfl pl45 (R2.wk _) (Codes_Locks_ok  (b_c_ := (h.length + 2)) (bx rfl rfl) e11) ?_
    rintro _ _ ⟨rfl, rfl⟩
    rw [show _ = h ++ ([⟨[.L 4 (raw.held.map Grant.cs), .L 4 (raw.waiting.map Grant.cs)], true, true⟩, ⟨[I (g_.tx), I (g_.lock.page), I (g_.lock.slot), I (g_.mode)], true, true⟩, ⟨[.L 1 (x11.2.l_.map c_u8), I (x11.2.at_)], true, true⟩] : Heap) from (bset rfl rfl)]
    refine .t (.o (.c (.ptr (h.length + 3) 0))) (e_allocN (L' := [⟨[.L 4 (raw.held.map Grant.cs), .L 4 (raw.waiting.map Grant.cs)], true, true⟩, ⟨[I (g_.tx), I (g_.lock.page), I (g_.lock.slot), I (g_.mode)], true, true⟩, ⟨[.L 1 (x11.2.l_.map c_u8), I (x11.2.at_)], true, true⟩, ⟨[.v (.slice none 0 0), .v (.slice none 0 0)], true, true⟩]) rfl zo69 rfl rfl) ?_
    refine .s0 rfl rfl (e_stN (L' := [⟨[.L 4 (raw.held.map Grant.cs), .L 4 (raw.waiting.map Grant.cs)], true, true⟩, ⟨[I (g_.tx), I (g_.lock.page), I (g_.lock.slot), I (g_.mode)], true, true⟩, ⟨[.L 1 (x11.2.l_.map c_u8), I (x11.2.at_)], true, true⟩, ⟨[.L 4 (x11.1.held.map Grant.cs), .L 4 (x11.1.waiting.map Grant.cs)], true, true⟩]) rfl (ev_t rfl) (ev_t rfl) ty69 rfl rfl rfl rfl rfl) ?_
    refine .nil ?_
    refine CdOK.seq ?_
    refine .seq ?_
    refine .draw2 (ord := [0, 1, 2, 3, 7, 4, 5, 6]) (chain := [4]) fol (by decide +kernel) (by decide +kernel) ?_
    refine .q _ (e_ldbA (ev_t rfl) ty69 (bx rfl rfl) rfl rfl) ?_
    refine .q _ (e_ldbA (ev_t rfl) ty69 (bx rfl rfl) rfl rfl) ?_
    refine .p (.o (.c (.ptr (h.length + 2) 0))) (e_mv (ev_t rfl)) ?_
    refine .q _ (e_ldbA (ev_t rfl) ty69 (bx rfl rfl) rfl rfl) ?_
    refine .p (VI (0)) (e_mv rfl) ?_
    obtain ⟨x12, e12, hm⟩ := hm.call
    refine .cl rfl rfl rfl rfl rfl rfl pl46 (R2.wk _) (law08_odd_ok  (b_c_ := (h.length + 2)) (bx rfl rfl) e12) ?_
    rintro _ _ ⟨rfl, rfl⟩
    rw [show _ = h ++ ([⟨[.L 4 (raw.held.map Grant.cs), .L 4 (raw.waiting.map Grant.cs)], true, true⟩, ⟨[I (g_.tx), I (g_.lock.page), I (g_.lock.slot), I (g_.mode)], true, true⟩, ⟨[.L 1 (x12.2.l_.map c_u8), I (x12.2.at_)], true, true⟩, ⟨[.L 4 (x11.1.held.map Grant.cs), .L 4 (x11.1.waiting.map Grant.cs)], true, true⟩] : Heap) from (bset rfl rfl)]
    refine ⟨(.m (by decide +kernel) (.e rfl rfl (e_ldbA (ev_t rfl) ty69 (bx rfl rfl) rfl rfl) (.e rfl rfl (e_ldbA (ev_t rfl) ty69 (bx rfl rfl) rfl rfl) .nil))), ?_⟩
    refine .p (.o (.c (.LC 2 (([raw, x11.1, x12.1] : List Locks).map Locks.cs)))) (e_lit (cs := [.L 4 (raw.held.map Grant.cs), .L 4 (raw.waiting.map Grant.cs), .L 4 (x11.1.held.map Grant.cs), .L 4 (x11.1.waiting.map Grant.cs), .L 4 (x12.1.held.map Grant.cs), .L 4 (x12.1.waiting.map Grant.cs)]) (xs := ([raw, x11.1, x12.1]).map Locks.cs) slt83 rfl rfl rfl rfl rfl) ?_
    refine .p (VI ((([raw, x11.1, x12.1] : List Locks).length : Int))) (e_lenMC (ev_t rfl) is83) ?_
    refine .nil ?_
    replace hm := hm.bnd
    refine CdOK.joinT (σ := Unit) (fun s => Sum.inl ()) hm (fun s => []) (fun s => h ++ ([] : Heap)) ?_ ?_
    ·intro hm
     refine .block ?_
     refine .re (σ := [1, 2]) (X := [(3, VI (tx)), (6, .o (.c (.ptr (h.length + 0) 0))), (9, .o (.c (.ptr (h.length + 1) 0))), (60, .o (.c (.LC 2 (([raw, x11.1, x12.1] : List Locks).map Locks.cs)))), (61, VI ((([raw, x11.1, x12.1] : List Locks).length : Int))), (62, VI (0))]) (L' := [⟨[I (g_.tx), I (g_.lock.page), I (g_.lock.slot), I (g_.mode)], true, true⟩, ⟨[.L 1 (x12.2.l_.map c_u8), I (x12.2.at_)], true, true⟩]) rfl rfl hC (by decide) (.obj 1 rfl (renFl rfl) (.obj 2 rfl (renFl rfl) .nil)) (.cons (renFlV rfl) (.cons (.o (.c (.ptr 1 0 _ rfl))) (.cons (.o (.c (.ptr 2 1 _ rfl))) (.cons (.o (.c (.fl _ rfl))) (.cons (renFlV rfl) (.cons (renFlV rfl) .nil)))))) ?_
     refine .loopE (σ := (Int × Codes)) (fun k s => Ev (law08_LocksExact.l1 raw g_ tx x11 x12 k s.1 s.2) _) (fun s => [(3, VI (tx)), (6, .o (.c (.ptr (h.length + 0) 0))), (9, .o (.c (.ptr (h.length + 1) 0))), (60, .o (.c (.LC 2 (([raw, x11.1, x12.1] : List Locks).map Locks.cs)))), (61, VI ((([raw, x11.1, x12.1] : List Locks).length : Int))), (62, VI (s.1))]) (fun s => h ++ ([⟨[I (g_.tx), I (g_.lock.page), I (g_.lock.slot), I (g_.mode)], true, true⟩, ⟨[.L 1 (s.2.l_.map c_u8), I (s.2.at_)], true, true⟩] : Heap)) FU (0, x12.2) hm (.cons rfl (.cons rfl (.cons rfl (.cons rfl (.cons rfl (.cons rfl .nil)))))) rfl ?_
     rintro kk15 ⟨t6213, bx14⟩ T0 hm
     replace hm : Ev (law08_LocksExact.l1 raw g_ tx x11 x12 kk15 t6213 bx14) _ := hm
     cases kk15 with
     | zero => exact (Ev.non hm).elim
     | succ kk15 =>
     rw [law08_LocksExact.l1.eq_2] at hm
     show CdOK _ _ _ (look T0 [(3, VI (tx)), (6, .o (.c (.ptr (h.length + 0) 0))), (9, .o (.c (.ptr (h.length + 1) 0))), (60, .o (.c (.LC 2 (([raw, x11.1, x12.1] : List Locks).map Locks.cs)))), (61, VI ((([raw, x11.1, x12.1] : List Locks).length : Int))), (62, VI (t6213))]) (h ++ ([⟨[I (g_.tx), I (g_.lock.page), I (g_.lock.slot), I (g_.mode)], true, true⟩, ⟨[.L 1 (bx14.l_.map c_u8), I (bx14.at_)], true, true⟩] : Heap)) _
     refine .seq ?_
     refine .region ?_
     refine .t (VB (decide (t6213 < (([raw, x11.1, x12.1] : List Locks).length : Int)))) (e_bin (ev_t rfl) (ev_t rfl) rfl rfl) ?_
     refine .nil ?_
     refine CdOK.seq ?_
     refine .condD (ev_t rfl) ?_ ?_
     ·intro c16; replace hm := hm.ifp c16
      refine .skip ?_
      refine CdOK.seq ?_
      refine .block ?_
      refine .seq ?_
      refine .region ?_
      obtain ⟨c17, hm⟩ := hm.ifs
      refine .t (.o (.c (.rp [.L 4 (((gd ([raw, x11.1, x12.1] : List Locks) t6213).held).map Grant.cs), .L 4 (((gd ([raw, x11.1, x12.1] : List Locks) t6213).waiting).map Grant.cs)]))) (e_ixMC (f := Locks.cs) (l := ([raw, x11.1, x12.1] : List Locks)) (i := t6213) (ev_t rfl) (ev_t rfl) el83 c17) ?_
      refine .t _ (e_ldRA (ev_t rfl) ty69 rfl rfl) ?_
      refine .t (.o (.c (.ptr (h.length + 2) 0))) (e_allocN (L' := [⟨[I (g_.tx), I (g_.lock.page), I (g_.lock.slot), I (g_.mode)], true, true⟩, ⟨[.L 1 (bx14.l_.map c_u8), I (bx14.at_)], true, true⟩, ⟨[.v (.slice none 0 0), .v (.slice none 0 0)], true, true⟩]) rfl zo69 rfl rfl) ?_
      refine .s0 rfl rfl (e_stN (L' := [⟨[I (g_.tx), I (g_.lock.page), I (g_.lock.slot), I (g_.mode)], true, true⟩, ⟨[.L 1 (bx14.l_.map c_u8), I (bx14.at_)], true, true⟩, ⟨[.L 4 (((gd ([raw, x11.1, x12.1] : List Locks) t6213).held).map Grant.cs), .L 4 (((gd ([raw, x11.1, x12.1] : List Locks) t6213).waiting).map Grant.cs)], true, true⟩]) rfl (ev_t rfl) (ev_t rfl) ty69 rfl rfl rfl rfl rfl) ?_
      refine .nil ?_
      refine CdOK.seq ?_
      refine .seq ?_
      refine .draw fol (by decide +kernel) ?_
      refine .t _ (e_ldbA (ev_t rfl) ty69 (bx rfl rfl) rfl rfl) ?_
      obtain ⟨x18, e18, hm⟩ := hm.call
      refine .cl rfl rfl rfl rfl pl44 (R2.wk _) (locks_Valid_ok    e18) ?_
      refine .t _ (e_ldbA (ev_t rfl) ty69 (bx rfl rfl) rfl rfl) ?_
      obtain ⟨x19, e19, hm⟩ := hm.call
      refine .cl rfl rfl rfl rfl pl47 (R2.wk _) (ref08_Valid_ok    e19) ?_
      refine .t (VB ((!(x18 == x19)))) (e_neB (ev_t rfl) (ev_t rfl) bo4) ?_
      refine .nil ?_
      refine CdOK.condB (ev_t rfl) ?_ ?_
      ·intro c20; replace hm := hm.ifp c20
       refine .seq ?_
       refine .region ?_
       refine .t (VB (false)) (e_as rfl) ?_
       refine .nil ?_
       refine CdOK.ret ?_
       refine ⟨.inr rfl, _, rfl, h, _, _, rfl, rfl, hC, ((renFlV rfl) : RenV _ _ _ _ (VB (false))), ?_⟩
       have hr := hm.ret; replace hr := Ev.ret hr; cases hr; exact ⟨rfl, rfl⟩
      ·intro c21; replace hm := hm.ifn c21
       refine .skip ?_
       refine CdOK.seq ?_
       refine .seq ?_
       refine .draw2 (ord := [0, 1, 3, 5, 7, 10, 15, 2, 4, 6, 8, 9, 11, 12, 13, 14]) (chain := [2, 4, 6, 8, 11]) fol (by decide +kernel) (by decide +kernel) ?_
       refine .q _ (e_ldbA (ev_t rfl) ty75 (bx rfl rfl) rfl rfl) ?_
       refine .p (.o (.c (.ptr (h.length + 1) 0))) (e_mv (ev_t rfl)) ?_
       refine .p (.o (.c (.ptr (h.length + 1) 0))) (e_mv (ev_t rfl)) ?_
       refine .p (.o (.c (.ptr (h.length + 1) 0))) (e_mv (ev_t rfl)) ?_
       refine .p (.o (.c (.ptr (h.length + 1) 0))) (e_mv (ev_t rfl)) ?_
       refine .p (.o (.c (.ptr (h.length + 1) 0))) (e_mv (ev_t rfl)) ?_
       refine .p (VI (0)) (e_mv rfl) ?_
       obtain ⟨x22, e22, hm⟩ := hm.call
       refine .cl rfl rfl rfl rfl rfl rfl pl48 (R2.wk _) (Codes_Grant_ok  (b_c_ := (h.length + 1)) (bx rfl rfl) e22) ?_
       rintro _ _ ⟨rfl, rfl⟩
       rw [show _ = h ++ ([⟨[I (g_.tx), I (g_.lock.page), I (g_.lock.slot), I (g_.mode)], true, true⟩, ⟨[.L 1 (x22.2.l_.map c_u8), I (x22.2.at_)], true, true⟩, ⟨[.L 4 (((gd ([raw, x11.1, x12.1] : List Locks) t6213).held).map Grant.cs), .L 4 (((gd ([raw, x11.1, x12.1] : List Locks) t6213).waiting).map Grant.cs)], true, true⟩] : Heap) from (bset rfl rfl)]
       refine ⟨(.e rfl rfl (e_ldbA (ev_t rfl) ty75 (bx rfl rfl) rfl rfl) .nil), ?_⟩
       obtain ⟨x23, e23, hm⟩ := hm.call
       refine .cl rfl rfl rfl rfl rfl rfl pl49 (R2.wk _) (Codes_Int_ok  (b_c_ := (h.length + 1)) (bx rfl rfl) e23) ?_
       rintro _ _ ⟨rfl, rfl⟩
       rw [show _ = h ++ ([⟨[I (g_.tx), I (g_.lock.page), I (g_.lock.slot), I (g_.mode)], true, true⟩, ⟨[.L 1 (x23.2.l_.map c_u8), I (x23.2.at_)], true, true⟩, ⟨[.L 4 (((gd ([raw, x11.1, x12.1] : List Locks) t6213).held).map Grant.cs), .L 4 (((gd ([raw, x11.1, x12.1] : List Locks) t6213).waiting).map Grant.cs)], true, true⟩] : Heap) from (bset rfl rfl)]
       refine ⟨(.e rfl rfl (e_ldbA (ev_t rfl) ty75 (bx rfl rfl) rfl rfl) .nil), ?_⟩
       obtain ⟨x24, e24, hm⟩ := hm.call
       refine .cl rfl rfl rfl rfl rfl rfl pl49 (R2.wk _) (Codes_Int_ok  (b_c_ := (h.length + 1)) (bx rfl rfl) e24) ?_
       rintro _ _ ⟨rfl, rfl⟩
       rw [show _ = h ++ ([⟨[I (g_.tx), I (g_.lock.page), I (g_.lock.slot), I (g_.mode)], true, true⟩, ⟨[.L 1 (x24.2.l_.map c_u8), I (x24.2.at_)], true, true⟩, ⟨[.L 4 (((gd ([raw, x11.1, x12.1] : List Locks) t6213).held).map Grant.cs), .L 4 (((gd ([raw, x11.1, x12.1] : List Locks) t6213).waiting).map Grant.cs)], true, true⟩] : Heap) from (bset rfl rfl)]
       refine ⟨(.e rfl rfl (e_ldbA (ev_t rfl) ty75 (bx rfl rfl) rfl rfl) .nil), ?_⟩
       obtain ⟨x25, e25, hm⟩ := hm.call
       refine .cl rfl rfl rfl rfl rfl rfl pl32 (R2.wk _) (Codes_Next_ok  (b_c_ := (h.length + 1)) (bx rfl rfl) e25) ?_
       rintro _ _ ⟨rfl, rfl⟩
       rw [show _ = h ++ ([⟨[I (g_.tx), I (g_.lock.page), I (g_.lock.slot), I (g_.mode)], true, true⟩, ⟨[.L 1 (x25.2.l_.map c_u8), I (x25.2.at_)], true, true⟩, ⟨[.L 4 (((gd ([raw, x11.1, x12.1] : List Locks) t6213).held).map Grant.cs), .L 4 (((gd ([raw, x11.1, x12.1] : List Locks) t6213).waiting).map Grant.cs)], true, true⟩] : Heap) from (bset rfl rfl)]
       refine ⟨(.e rfl rfl (e_ldbA (ev_t rfl) ty75 (bx rfl rfl) rfl rfl) .nil), ?_⟩
       refine .p (.o (.agg [I (x24.1), I (x25.1)])) (e_bld (cs := [I (x24.1), I (x25.1)]) zo71 bl71 rfl rfl) ?_
       obtain ⟨x26, e26, hm⟩ := hm.call
       refine .cl rfl rfl rfl rfl rfl rfl pl32 (R2.wk _) (Codes_Next_ok  (b_c_ := (h.length + 1)) (bx rfl rfl) e26) ?_
       rintro _ _ ⟨rfl, rfl⟩
       rw [show _ = h ++ ([⟨[I (g_.tx), I (g_.lock.page), I (g_.lock.slot), I (g_.mode)], true, true⟩, ⟨[.L 1 (x26.2.l_.map c_u8), I (x26.2.at_)], true, true⟩, ⟨[.L 4 (((gd ([raw, x11.1, x12.1] : List Locks) t6213).held).map Grant.cs), .L 4 (((gd ([raw, x11.1, x12.1] : List Locks) t6213).waiting).map Grant.cs)], true, true⟩] : Heap) from (bset rfl rfl)]
       refine ⟨(.e rfl rfl (e_ldbA (ev_t rfl) ty75 (bx rfl rfl) rfl rfl) .nil), ?_⟩
       refine .p (.o (.agg [I (x23.1), I (x24.1), I (x25.1), I (x26.1)])) (e_bld (cs := [I (x23.1), I (x24.1), I (x25.1), I (x26.1)]) zo75 bl75 rfl rfl) ?_
       refine .p (.o (.c (.LC 4 (([g_, x22.1, (⟨x23.1, (⟨x24.1, x25.1⟩ : Lock), x26.1⟩ : Grant)] : List Grant).map Grant.cs)))) (e_lit (cs := [I (g_.tx), I (g_.lock.page), I (g_.lock.slot), I (g_.mode), I (x22.1.tx), I (x22.1.lock.page), I (x22.1.lock.slot), I (x22.1.mode), I (x23.1), I (x24.1), I (x25.1), I (x26.1)]) (xs := ([g_, x22.1, (⟨x23.1, (⟨x24.1, x25.1⟩ : Lock), x26.1⟩ : Grant)]).map Grant.cs) slt67 rfl rfl rfl rfl rfl) ?_
       refine .p (VI ((([g_, x22.1, (⟨x23.1, (⟨x24.1, x25.1⟩ : Lock), x26.1⟩ : Grant)] : List Grant).length : Int))) (e_lenMC (ev_t rfl) is67) ?_
       refine .nil ?_
       replace hm := hm.bnd
       refine CdOK.joinT (σ := Unit) (fun s => Sum.inl ()) hm (fun s => [(3, VI (tx)), (6, .o (.c (.ptr (h.length + 0) 0))), (9, .o (.c (.ptr (h.length + 1) 0))), (12, .o (.c (.ptr (h.length + 2) 0))), (60, .o (.c (.LC 2 (([raw, x11.1, x12.1] : List Locks).map Locks.cs)))), (61, VI ((([raw, x11.1, x12.1] : List Locks).length : Int))), (62, VI (t6213))]) (fun s => h ++ ([⟨[I (g_.tx), I (g_.lock.page), I (g_.lock.slot), I (g_.mode)], true, true⟩, ⟨[.L 1 (x26.2.l_.map c_u8), I (x26.2.at_)], true, true⟩, ⟨[.L 4 (((gd ([raw, x11.1, x12.1] : List Locks) t6213).held).map Grant.cs), .L 4 (((gd ([raw, x11.1, x12.1] : List Locks) t6213).waiting).map Grant.cs)], true, true⟩] : Heap)) ?_ ?_
       ·intro hm
        refine .block ?_
        refine .re (σ := [0, 1, 2]) (X := [(3, VI (tx)), (6, .o (.c (.ptr (h.length + 0) 0))), (9, .o (.c (.ptr (h.length + 1) 0))), (12, .o (.c (.ptr (h.length + 2) 0))), (60, .o (.c (.LC 2 (([raw, x11.1, x12.1] : List Locks).map Locks.cs)))), (61, VI ((([raw, x11.1, x12.1] : List Locks).length : Int))), (62, VI (t6213)), (84, .o (.c (.LC 4 (([g_, x22.1, (⟨x23.1, (⟨x24.1, x25.1⟩ : Lock), x26.1⟩ : Grant)] : List Grant).map Grant.cs)))), (85, VI ((([g_, x22.1, (⟨x23.1, (⟨x24.1, x25.1⟩ : Lock), x26.1⟩ : Grant)] : List Grant).length : Int))), (86, VI (0))]) (L' := [⟨[I (g_.tx), I (g_.lock.page), I (g_.lock.slot), I (g_.mode)], true, true⟩, ⟨[.L 1 (x26.2.l_.map c_u8), I (x26.2.at_)], true, true⟩, ⟨[.L 4 (((gd ([raw, x11.1, x12.1] : List Locks) t6213).held).map Grant.cs), .L 4 (((gd ([raw, x11.1, x12.1] : List Locks) t6213).waiting).map Grant.cs)], true, true⟩]) rfl rfl hC (by decide) (.obj 0 rfl (renFl rfl) (.obj 1 rfl (renFl rfl) (.obj 2 rfl (renFl rfl) .nil))) (.cons (renFlV rfl) (.cons (.o (.c (.ptr 0 0 _ rfl))) (.cons (.o (.c (.ptr 1 1 _ rfl))) (.cons (.o (.c (.ptr 2 2 _ rfl))) (.cons (.o (.c (.fl _ rfl))) (.cons (renFlV rfl) (.cons (renFlV rfl) (.cons (.o (.c (.fl _ rfl))) (.cons (renFlV rfl) (.cons (renFlV rfl) .nil)))))))))) ?_
        refine .loopE (σ := Int) (fun k s => Ev (law08_LocksExact.l2 raw g_ x11 x12 t6213 x22 x23 x24 x25 x26 k s) _) (fun s => [(3, VI (tx)), (6, .o (.c (.ptr (h.length + 0) 0))), (9, .o (.c (.ptr (h.length + 1) 0))), (12, .o (.c (.ptr (h.length + 2) 0))), (60, .o (.c (.LC 2 (([raw, x11.1, x12.1] : List Locks).map Locks.cs)))), (61, VI ((([raw, x11.1, x12.1] : List Locks).length : Int))), (62, VI (t6213)), (84, .o (.c (.LC 4 (([g_, x22.1, (⟨x23.1, (⟨x24.1, x25.1⟩ : Lock), x26.1⟩ : Grant)] : List Grant).map Grant.cs)))), (85, VI ((([g_, x22.1, (⟨x23.1, (⟨x24.1, x25.1⟩ : Lock), x26.1⟩ : Grant)] : List Grant).length : Int))), (86, VI (s))]) (fun s => h ++ ([⟨[I (g_.tx), I (g_.lock.page), I (g_.lock.slot), I (g_.mode)], true, true⟩, ⟨[.L 1 (x26.2.l_.map c_u8), I (x26.2.at_)], true, true⟩, ⟨[.L 4 (((gd ([raw, x11.1, x12.1] : List Locks) t6213).held).map Grant.cs), .L 4 (((gd ([raw, x11.1, x12.1] : List Locks) t6213).waiting).map Grant.cs)], true, true⟩] : Heap)) FU 0 hm (.cons rfl (.cons rfl (.cons rfl (.cons rfl (.cons rfl (.cons rfl (.cons rfl (.cons rfl (.cons rfl (.cons rfl .nil)))))))))) rfl ?_
        rintro kk28 t8627 T0 hm
        replace hm : Ev (law08_LocksExact.l2 raw g_ x11 x12 t6213 x22 x23 x24 x25 x26 kk28 t8627) _ := hm
        cases kk28 with
        | zero => exact (Ev.non hm).elim
        | succ kk28 =>
        rw [law08_LocksExact.l2.eq_2] at hm
        show CdOK _ _ _ (look T0 [(3, VI (tx)), (6, .o (.c (.ptr (h.length + 0) 0))), (9, .o (.c (.ptr (h.length + 1) 0))), (12, .o (.c (.ptr (h.length + 2) 0))), (60, .o (.c (.LC 2 (([raw, x11.1, x12.1] : List Locks).map Locks.cs)))), (61, VI ((([raw, x11.1, x12.1] : List Locks).length : Int))), (62, VI (t6213)), (84, .o (.c (.LC 4 (([g_, x22.1, (⟨x23.1, (⟨x24.1, x25.1⟩ : Lock), x26.1⟩ : Grant)] : List Grant).map Grant.cs)))), (85, VI ((([g_, x22.1, (⟨x23.1, (⟨x24.1, x25.1⟩ : Lock), x26.1⟩ : Grant)] : List Grant).length : Int))), (86, VI (t8627))]) (h ++ ([⟨[I (g_.tx), I (g_.lock.page), I (g_.lock.slot), I (g_.mode)], true, true⟩, ⟨[.L 1 (x26.2.l_.map c_u8), I (x26.2.at_)], true, true⟩, ⟨[.L 4 (((gd ([raw, x11.1, x12.1] : List Locks) t6213).held).map Grant.cs), .L 4 (((gd ([raw, x11.1, x12.1] : List Locks) t6213).waiting).map Grant.cs)], true, true⟩] : Heap)) _
        refine .seq ?_
        refine .region ?_
        refine .t (VB (decide (t8627 < (([g_, x22.1, (⟨x23.1, (⟨x24.1, x25.1⟩ : Lock), x26.1⟩ : Grant)] : List Grant).length : Int)))) (e_bin (ev_t rfl) (ev_t rfl) rfl rfl) ?_
        refine .nil ?_
        refine CdOK.seq ?_
        refine .condD (ev_t rfl) ?_ ?_
        ·intro c29; replace hm := hm.ifp c29
         refine .skip ?_
         refine CdOK.seq ?_
         refine .block ?_
         refine .seq ?_
         refine .region ?_
         obtain ⟨c30, hm⟩ := hm.ifs
         refine .t (.o (.c (.rp [I ((gd ([g_, x22.1, (⟨x23.1, (⟨x24.1, x25.1⟩ : Lock), x26.1⟩ : Grant)] : List Grant) t8627).tx), I ((gd ([g_, x22.1, (⟨x23.1, (⟨x24.1, x25.1⟩ : Lock), x26.1⟩ : Grant)] : List Grant) t8627).lock.page), I ((gd ([g_, x22.1, (⟨x23.1, (⟨x24.1, x25.1⟩ : Lock), x26.1⟩ : Grant)] : List Grant) t8627).lock.slot), I ((gd ([g_, x22.1, (⟨x23.1, (⟨x24.1, x25.1⟩ : Lock), x26.1⟩ : Grant)] : List Grant) t8627).mode)]))) (e_ixMC (f := Grant.cs) (l := ([g_, x22.1, (⟨x23.1, (⟨x24.1, x25.1⟩ : Lock), x26.1⟩ : Grant)] : List Grant)) (i := t8627) (ev_t rfl) (ev_t rfl) el67 c30) ?_
         refine .t _ (e_ldRA (ev_t rfl) ty75 rfl rfl) ?_
         refine .t (.o (.c (.ptr (h.length + 3) 0))) (e_allocN (L' := [⟨[I (g_.tx), I (g_.lock.page), I (g_.lock.slot), I (g_.mode)], true, true⟩, ⟨[.L 1 (x26.2.l_.map c_u8), I (x26.2.at_)], true, true⟩, ⟨[.L 4 (((gd ([raw, x11.1, x12.1] : List Locks) t6213).held).map Grant.cs), .L 4 (((gd ([raw, x11.1, x12.1] : List Locks) t6213).waiting).map Grant.cs)], true, true⟩, ⟨[I (0), I (0), I (0), I (0)], true, true⟩]) rfl zo75 rfl rfl) ?_
         refine .s0 rfl rfl (e_stN (L' := [⟨[I (g_.tx), I (g_.lock.page), I (g_.lock.slot), I (g_.mode)], true, true⟩, ⟨[.L 1 (x26.2.l_.map c_u8), I (x26.2.at_)], true, true⟩, ⟨[.L 4 (((gd ([raw, x11.1, x12.1] : List Locks) t6213).held).map Grant.cs), .L 4 (((gd ([raw, x11.1, x12.1] : List Locks) t6213).waiting).map Grant.cs)], true, true⟩, ⟨[I ((gd ([g_, x22.1, (⟨x23.1, (⟨x24.1, x25.1⟩ : Lock), x26.1⟩ : Grant)] : List Grant) t8627).tx), I ((gd ([g_, x22.1, (⟨x23.1, (⟨x24.1, x25.1⟩ : Lock), x26.1⟩ : Grant)] : List Grant) t8627).lock.page), I ((gd ([g_, x22.1, (⟨x23.1, (⟨x24.1, x25.1⟩ : Lock), x26.1⟩ : Grant)] : List Grant) t8627).lock.slot), I ((gd ([g_, x22.1, (⟨x23.1, (⟨x24.1, x25.1⟩ : Lock), x26.1⟩ : Grant)] : List Grant) t8627).mode)], true, true⟩]) rfl (ev_t rfl) (ev_t rfl) ty75 rfl rfl rfl rfl rfl) ?_
         refine .nil ?_
         refine CdOK.seq ?_
         refine .region ?_
         refine .t _ (e_ldbA (ev_t rfl) ty69 (bx rfl rfl) rfl rfl) ?_
         refine .t _ (e_ldbA (ev_t rfl) ty75 (bx rfl rfl) rfl rfl) ?_
         obtain ⟨x31, e31, hm⟩ := hm.call
         refine .cl rfl rfl rfl rfl pl41 (R2.wk _) (locks_Request_ok    e31) ?_
         rintro _ _ ⟨rfl, rfl⟩
         refine .m rfl ?_
         refine .t (.o (.agg [.L 4 (x31.1.held.map Grant.cs), .L 4 (x31.1.waiting.map Grant.cs)])) (e_ext (ev_t rfl) rfl) ?_
         refine .t (VB (x31.2.1)) (e_ext (ev_t rfl) rfl) ?_
         refine .t (VI (x31.2.2)) (e_ext (ev_t rfl) rfl) ?_
         refine .t (.o (.c (.ptr (h.length + 4) 0))) (e_allocN (L' := [⟨[I (g_.tx), I (g_.lock.page), I (g_.lock.slot), I (g_.mode)], true, true⟩, ⟨[.L 1 (x26.2.l_.map c_u8), I (x26.2.at_)], true, true⟩, ⟨[.L 4 (((gd ([raw, x11.1, x12.1] : List Locks) t6213).held).map Grant.cs), .L 4 (((gd ([raw, x11.1, x12.1] : List Locks) t6213).waiting).map Grant.cs)], true, true⟩, ⟨[I ((gd ([g_, x22.1, (⟨x23.1, (⟨x24.1, x25.1⟩ : Lock), x26.1⟩ : Grant)] : List Grant) t8627).tx), I ((gd ([g_, x22.1, (⟨x23.1, (⟨x24.1, x25.1⟩ : Lock), x26.1⟩ : Grant)] : List Grant) t8627).lock.page), I ((gd ([g_, x22.1, (⟨x23.1, (⟨x24.1, x25.1⟩ : Lock), x26.1⟩ : Grant)] : List Grant) t8627).lock.slot), I ((gd ([g_, x22.1, (⟨x23.1, (⟨x24.1, x25.1⟩ : Lock), x26.1⟩ : Grant)] : List Grant) t8627).mode)], true, true⟩, ⟨[.v (.slice none 0 0), .v (.slice none 0 0)], true, true⟩]) rfl zo69 rfl rfl) ?_
         refine .s0 rfl rfl (e_stN (L' := [⟨[I (g_.tx), I (g_.lock.page), I (g_.lock.slot), I (g_.mode)], true, true⟩, ⟨[.L 1 (x26.2.l_.map c_u8), I (x26.2.at_)], true, true⟩, ⟨[.L 4 (((gd ([raw, x11.1, x12.1] : List Locks) t6213).held).map Grant.cs), .L 4 (((gd ([raw, x11.1, x12.1] : List Locks) t6213).waiting).map Grant.cs)], true, true⟩, ⟨[I ((gd ([g_, x22.1, (⟨x23.1, (⟨x24.1, x25.1⟩ : Lock), x26.1⟩ : Grant)] : List Grant) t8627).tx), I ((gd ([g_, x22.1, (⟨x23.1, (⟨x24.1, x25.1⟩ : Lock), x26.1⟩ : Grant)] : List Grant) t8627).lock.page), I ((gd ([g_, x22.1, (⟨x23.1, (⟨x24.1, x25.1⟩ : Lock), x26.1⟩ : Grant)] : List Grant) t8627).lock.slot), I ((gd ([g_, x22.1, (⟨x23.1, (⟨x24.1, x25.1⟩ : Lock), x26.1⟩ : Grant)] : List Grant) t8627).mode)], true, true⟩, ⟨[.L 4 (x31.1.held.map Grant.cs), .L 4 (x31.1.waiting.map Grant.cs)], true, true⟩]) rfl (ev_t rfl) (ev_t rfl) ty69 rfl rfl rfl rfl rfl) ?_
         refine .a rfl ?_
         refine .a rfl ?_
         refine .nil ?_
         refine CdOK.seq ?_
         refine .region ?_
         refine .t _ (e_ldbA (ev_t rfl) ty69 (bx rfl rfl) rfl rfl) ?_
         refine .t _ (e_ldbA (ev_t rfl) ty75 (bx rfl rfl) rfl rfl) ?_
         obtain ⟨x32, e32, hm⟩ := hm.call
         refine .cl rfl rfl rfl rfl pl50 (R2.wk _) (ref08_Request_ok    e32) ?_
         rintro _ _ ⟨rfl, rfl⟩
         refine .m rfl ?_
         refine .t (.o (.agg [.L 4 (x32.1.held.map Grant.cs), .L 4 (x32.1.waiting.map Grant.cs)])) (e_ext (ev_t rfl) rfl) ?_
         refine .t (VB (x32.2.1)) (e_ext (ev_t rfl) rfl) ?_
         refine .t (VI (x32.2.2)) (e_ext (ev_t rfl) rfl) ?_
         refine .t (.o (.c (.ptr (h.length + 5) 0))) (e_allocN (L' := [⟨[I (g_.tx), I (g_.lock.page), I (g_.lock.slot), I (g_.mode)], true, true⟩, ⟨[.L 1 (x26.2.l_.map c_u8), I (x26.2.at_)], true, true⟩, ⟨[.L 4 (((gd ([raw, x11.1, x12.1] : List Locks) t6213).held).map Grant.cs), .L 4 (((gd ([raw, x11.1, x12.1] : List Locks) t6213).waiting).map Grant.cs)], true, true⟩, ⟨[I ((gd ([g_, x22.1, (⟨x23.1, (⟨x24.1, x25.1⟩ : Lock), x26.1⟩ : Grant)] : List Grant) t8627).tx), I ((gd ([g_, x22.1, (⟨x23.1, (⟨x24.1, x25.1⟩ : Lock), x26.1⟩ : Grant)] : List Grant) t8627).lock.page), I ((gd ([g_, x22.1, (⟨x23.1, (⟨x24.1, x25.1⟩ : Lock), x26.1⟩ : Grant)] : List Grant) t8627).lock.slot), I ((gd ([g_, x22.1, (⟨x23.1, (⟨x24.1, x25.1⟩ : Lock), x26.1⟩ : Grant)] : List Grant) t8627).mode)], true, true⟩, ⟨[.L 4 (x31.1.held.map Grant.cs), .L 4 (x31.1.waiting.map Grant.cs)], true, true⟩, ⟨[.v (.slice none 0 0), .v (.slice none 0 0)], true, true⟩]) rfl zo69 rfl rfl) ?_
         refine .s0 rfl rfl (e_stN (L' := [⟨[I (g_.tx), I (g_.lock.page), I (g_.lock.slot), I (g_.mode)], true, true⟩, ⟨[.L 1 (x26.2.l_.map c_u8), I (x26.2.at_)], true, true⟩, ⟨[.L 4 (((gd ([raw, x11.1, x12.1] : List Locks) t6213).held).map Grant.cs), .L 4 (((gd ([raw, x11.1, x12.1] : List Locks) t6213).waiting).map Grant.cs)], true, true⟩, ⟨[I ((gd ([g_, x22.1, (⟨x23.1, (⟨x24.1, x25.1⟩ : Lock), x26.1⟩ : Grant)] : List Grant) t8627).tx), I ((gd ([g_, x22.1, (⟨x23.1, (⟨x24.1, x25.1⟩ : Lock), x26.1⟩ : Grant)] : List Grant) t8627).lock.page), I ((gd ([g_, x22.1, (⟨x23.1, (⟨x24.1, x25.1⟩ : Lock), x26.1⟩ : Grant)] : List Grant) t8627).lock.slot), I ((gd ([g_, x22.1, (⟨x23.1, (⟨x24.1, x25.1⟩ : Lock), x26.1⟩ : Grant)] : List Grant) t8627).mode)], true, true⟩, ⟨[.L 4 (x31.1.held.map Grant.cs), .L 4 (x31.1.waiting.map Grant.cs)], true, true⟩, ⟨[.L 4 (x32.1.held.map Grant.cs), .L 4 (x32.1.waiting.map Grant.cs)], true, true⟩]) rfl (ev_t rfl) (ev_t rfl) ty69 rfl rfl rfl rfl rfl) ?_
         refine .a rfl ?_
         refine .a rfl ?_
         refine .nil ?_
         refine CdOK.seq ?_
         refine .draw fol (by decide +kernel) ?_
         refine .m rfl ?_
         refine .m rfl ?_
         refine .sb rfl rfl rfl (e_neB (ev_t rfl) (ev_t rfl) bo4) ?_ ?_
         ·intro c33; replace hm := hm.ifp c33
          refine .m rfl ?_
          refine .k ?_
          refine .k ?_
          refine .k ?_
          refine .t (VB (true)) (e_pick (t := true) (ev_t rfl) rfl) ?_
          refine .m rfl ?_
          refine .k ?_
          refine .k ?_
          refine .k ?_
          refine .k ?_
          refine .t (VB (true)) (e_pick (t := true) (ev_t rfl) rfl) ?_
          refine .m rfl ?_
          refine .k ?_
          refine .k ?_
          refine .k ?_
          refine .k ?_
          refine .k ?_
          refine .k ?_
          refine .k ?_
          refine .k ?_
          refine .k ?_
          refine .k ?_
          refine .k ?_
          refine .k ?_
          refine .k ?_
          refine .t (VB (true)) (e_pick (t := true) (ev_t rfl) rfl) ?_
          refine .m rfl ?_
          refine .k ?_
          refine .k ?_
          refine .k ?_
          refine .k ?_
          refine .k ?_
          refine .k ?_
          refine .k ?_
          refine .k ?_
          refine .k ?_
          refine .k ?_
          refine .k ?_
          refine .k ?_
          refine .k ?_
          refine .k ?_
          refine .t (VB (true)) (e_pick (t := true) (ev_t rfl) rfl) ?_
          refine .nil ?_
          refine CdOK.cond_true rfl ?_
          refine .seq ?_
          refine .region ?_
          refine .t (VB (false)) (e_as rfl) ?_
          refine .nil ?_
          refine CdOK.ret ?_
          refine ⟨.inr rfl, _, rfl, h, _, _, rfl, rfl, hC, ((renFlV rfl) : RenV _ _ _ _ (VB (false))), ?_⟩
          have hr := hm.ret; replace hr := Ev.ret hr; replace hr := Ev.ret hr; cases hr; exact ⟨rfl, rfl⟩
         ·intro c34; replace hm := hm.ifn (by rw [c34]; exact Bool.false_ne_true)
          refine .m rfl ?_
          refine .m rfl ?_
          refine .m rfl ?_
          refine .sd rfl rfl rfl (e_neK (ev_t rfl) (ev_t rfl)) ?_ ?_
          ·intro c35; replace hm := hm.ifp c35
           refine .t (VB (true)) (e_pick (t := false) (ev_t rfl) (ev_t rfl)) ?_
           refine .m rfl ?_
           refine .k ?_
           refine .k ?_
           refine .k ?_
           refine .k ?_
           refine .t (VB (true)) (e_pick (t := true) (ev_t rfl) rfl) ?_
           refine .m rfl ?_
           refine .k ?_
           refine .k ?_
           refine .k ?_
           refine .k ?_
           refine .k ?_
           refine .k ?_
           refine .k ?_
           refine .k ?_
           refine .k ?_
           refine .k ?_
           refine .k ?_
           refine .k ?_
           refine .k ?_
           refine .t (VB (true)) (e_pick (t := true) (ev_t rfl) rfl) ?_
           refine .m rfl ?_
           refine .k ?_
           refine .k ?_
           refine .k ?_
           refine .k ?_
           refine .k ?_
           refine .k ?_
           refine .k ?_
           refine .k ?_
           refine .k ?_
           refine .k ?_
           refine .k ?_
           refine .k ?_
           refine .k ?_
           refine .k ?_
           refine .t (VB (true)) (e_pick (t := true) (ev_t rfl) rfl) ?_
           refine .nil ?_
           refine CdOK.cond_true rfl ?_
           refine .seq ?_
           refine .region ?_
           refine .t (VB (false)) (e_as rfl) ?_
           refine .nil ?_
           refine CdOK.ret ?_
           refine ⟨.inr rfl, _, rfl, h, _, _, rfl, rfl, hC, ((renFlV rfl) : RenV _ _ _ _ (VB (false))), ?_⟩
           have hr := hm.ret; replace hr := Ev.ret hr; replace hr := Ev.ret hr; cases hr; exact ⟨rfl, rfl⟩
          ·intro c36; replace hm := hm.ifn c36
           refine .t (VB (false)) (e_pick (t := false) (ev_t rfl) (ev_t rfl)) ?_
           refine .m rfl ?_
           refine .t _ (e_ldbA (ev_t rfl) ty69 (bx rfl rfl) rfl rfl) ?_
           refine .t _ (e_ldbA (ev_t rfl) ty69 (bx rfl rfl) rfl rfl) ?_
           obtain ⟨x37, e37, hm⟩ := hm.call
           cases x37 with
           | true =>
            replace hm := hm.ifp rfl
            refine .cl rfl rfl rfl rfl pl51 (R2.wk _) (ref08_Same_ok    e37) ?_
            refine .t (VB (false)) (e_un (ev_t rfl) rfl) ?_
            refine .t (VB (false)) (e_pick (t := false) (ev_t rfl) (ev_t rfl)) ?_
            refine .m rfl ?_
            refine .t _ (e_ldbA (ev_t rfl) ty69 (bx rfl rfl) rfl rfl) ?_
            refine .t _ (e_fa' fa75_0 (ev_t rfl)) ?_
            refine .t _ (e_ldb1 (ev_t rfl) ty3 (bx rfl rfl) rfl) ?_
            refine .t _ (e_fa' fa75_1 (ev_t rfl)) ?_
            refine .t _ (e_ldbA (ev_t rfl) ty71 (bx rfl rfl) rfl rfl) ?_
            obtain ⟨x38, e38, hm⟩ := hm.call
            refine .cl rfl rfl rfl rfl pl42 (R2.wk _) (locks_Mode_ok    e38) ?_
            refine .t _ (e_ldbA (ev_t rfl) ty69 (bx rfl rfl) rfl rfl) ?_
            refine .t _ (e_fa' fa75_0 (ev_t rfl)) ?_
            refine .t _ (e_ldb1 (ev_t rfl) ty3 (bx rfl rfl) rfl) ?_
            refine .t _ (e_fa' fa75_1 (ev_t rfl)) ?_
            refine .t _ (e_ldbA (ev_t rfl) ty71 (bx rfl rfl) rfl rfl) ?_
            obtain ⟨x39, e39, hm⟩ := hm.call
            refine .cl rfl rfl rfl rfl pl52 (R2.wk _) (ref08_Mode_ok    e39) ?_
            refine .sd rfl rfl rfl (e_neK (ev_t rfl) (ev_t rfl)) ?_ ?_
            ·intro c40; replace hm := hm.ifp c40
             refine .t (VB (true)) (e_pick (t := false) (ev_t rfl) (ev_t rfl)) ?_
             refine .m rfl ?_
             refine .k ?_
             refine .k ?_
             refine .k ?_
             refine .k ?_
             refine .k ?_
             refine .k ?_
             refine .k ?_
             refine .k ?_
             refine .k ?_
             refine .k ?_
             refine .k ?_
             refine .k ?_
             refine .k ?_
             refine .k ?_
             refine .t (VB (true)) (e_pick (t := true) (ev_t rfl) rfl) ?_
             refine .nil ?_
             refine CdOK.cond_true rfl ?_
             refine .seq ?_
             refine .region ?_
             refine .t (VB (false)) (e_as rfl) ?_
             refine .nil ?_
             refine CdOK.ret ?_
             refine ⟨.inr rfl, _, rfl, h, _, _, rfl, rfl, hC, ((renFlV rfl) : RenV _ _ _ _ (VB (false))), ?_⟩
             have hr := hm.ret; replace hr := Ev.ret hr; replace hr := Ev.ret hr; cases hr; exact ⟨rfl, rfl⟩
            ·intro c41; replace hm := hm.ifn c41
             refine .t (VB (false)) (e_pick (t := false) (ev_t rfl) (ev_t rfl)) ?_
             refine .m rfl ?_
             refine .t _ (e_ldbA (ev_t rfl) ty69 (bx rfl rfl) rfl rfl) ?_
             refine .t _ (e_fa' fa75_0 (ev_t rfl)) ?_
             refine .t _ (e_ldb1 (ev_t rfl) ty3 (bx rfl rfl) rfl) ?_
             refine .t _ (e_fa' fa75_1 (ev_t rfl)) ?_
             refine .t _ (e_ldbA (ev_t rfl) ty71 (bx rfl rfl) rfl rfl) ?_
             obtain ⟨x42, e42, hm⟩ := hm.call
             refine .cl rfl rfl rfl rfl pl53 (R2.wk _) (locks_Drop_ok    e42) ?_
             refine .t _ (e_ldbA (ev_t rfl) ty69 (bx rfl rfl) rfl rfl) ?_
             refine .t _ (e_fa' fa75_0 (ev_t rfl)) ?_
             refine .t _ (e_ldb1 (ev_t rfl) ty3 (bx rfl rfl) rfl) ?_
             refine .t _ (e_fa' fa75_1 (ev_t rfl)) ?_
             refine .t _ (e_ldbA (ev_t rfl) ty71 (bx rfl rfl) rfl rfl) ?_
             obtain ⟨x43, e43, hm⟩ := hm.call
             refine .cl rfl rfl rfl rfl pl54 (R2.wk _) (ref08_Drop_ok    e43) ?_
             obtain ⟨x44, e44, hm⟩ := hm.call
             refine .cl rfl rfl rfl rfl pl51 (R2.wk _) (ref08_Same_ok    e44) ?_
             refine .t (VB ((!x44))) (e_un (ev_t rfl) rfl) ?_
             refine .t (VB ((!x44))) (e_pick (t := false) (ev_t rfl) (ev_t rfl)) ?_
             refine .nil ?_
             refine CdOK.condB (ev_t rfl) ?_ ?_
             ·intro c45; replace hm := hm.ifp c45
              refine .seq ?_
              refine .region ?_
              refine .t (VB (false)) (e_as rfl) ?_
              refine .nil ?_
              refine CdOK.ret ?_
              refine ⟨.inr rfl, _, rfl, h, _, _, rfl, rfl, hC, ((renFlV rfl) : RenV _ _ _ _ (VB (false))), ?_⟩
              have hr := hm.ret; replace hr := Ev.ret hr; replace hr := Ev.ret hr; cases hr; exact ⟨rfl, rfl⟩
             ·intro c46; replace hm := hm.ifn c46
              refine .skip ?_
              refine CdOK.region ?_
              refine .t (VI ((w64 (t8627 + 1)))) (e_bin (ev_t rfl) rfl rfl rfl) ?_
              refine .m rfl ?_
              refine .nil ?_
              refine .re (σ := [0, 1, 2]) (X := [(3, VI (tx)), (6, .o (.c (.ptr (h.length + 0) 0))), (9, .o (.c (.ptr (h.length + 1) 0))), (12, .o (.c (.ptr (h.length + 2) 0))), (60, .o (.c (.LC 2 (([raw, x11.1, x12.1] : List Locks).map Locks.cs)))), (61, VI ((([raw, x11.1, x12.1] : List Locks).length : Int))), (62, VI (t6213)), (84, .o (.c (.LC 4 (([g_, x22.1, (⟨x23.1, (⟨x24.1, x25.1⟩ : Lock), x26.1⟩ : Grant)] : List Grant).map Grant.cs)))), (85, VI ((([g_, x22.1, (⟨x23.1, (⟨x24.1, x25.1⟩ : Lock), x26.1⟩ : Grant)] : List Grant).length : Int))), (86, VI ((w64 (t8627 + 1))))]) (L' := [⟨[I (g_.tx), I (g_.lock.page), I (g_.lock.slot), I (g_.mode)], true, true⟩, ⟨[.L 1 (x26.2.l_.map c_u8), I (x26.2.at_)], true, true⟩, ⟨[.L 4 (((gd ([raw, x11.1, x12.1] : List Locks) t6213).held).map Grant.cs), .L 4 (((gd ([raw, x11.1, x12.1] : List Locks) t6213).waiting).map Grant.cs)], true, true⟩]) rfl rfl hC (by decide) (.obj 0 rfl (renFl rfl) (.obj 1 rfl (renFl rfl) (.obj 2 rfl (renFl rfl) .nil))) (.cons (renFlV rfl) (.cons (.o (.c (.ptr 0 0 _ rfl))) (.cons (.o (.c (.ptr 1 1 _ rfl))) (.cons (.o (.c (.ptr 2 2 _ rfl))) (.cons (.o (.c (.fl _ rfl))) (.cons (renFlV rfl) (.cons (renFlV rfl) (.cons (.o (.c (.fl _ rfl))) (.cons (renFlV rfl) (.cons (renFlV rfl) .nil)))))))))) ?_
              exact ⟨_, (w64 (t8627 + 1)), Nat.lt_succ_self _, hm, (.cons rfl (.cons rfl (.cons rfl (.cons rfl (.cons rfl (.cons rfl (.cons rfl (.cons rfl (.cons rfl (.cons rfl .nil)))))))))), rfl⟩
           | false =>
            replace hm := hm.ifn Bool.false_ne_true
            refine .cl rfl rfl rfl rfl pl51 (R2.wk _) (ref08_Same_ok    e37) ?_
            refine .t (VB (true)) (e_un (ev_t rfl) rfl) ?_
            refine .t (VB (true)) (e_pick (t := false) (ev_t rfl) (ev_t rfl)) ?_
            refine .m rfl ?_
            refine .k ?_
            refine .k ?_
            refine .k ?_
            refine .k ?_
            refine .k ?_
            refine .k ?_
            refine .k ?_
            refine .k ?_
            refine .k ?_
            refine .k ?_
            refine .k ?_
            refine .k ?_
            refine .k ?_
            refine .t (VB (true)) (e_pick (t := true) (ev_t rfl) rfl) ?_
            refine .m rfl ?_
            refine .k ?_
            refine .k ?_
            refine .k ?_
            refine .k ?_
            refine .k ?_
            refine .k ?_
            refine .k ?_
            refine .k ?_
            refine .k ?_
            refine .k ?_
            refine .k ?_
            refine .k ?_
            refine .k ?_
            refine .k ?_
            refine .t (VB (true)) (e_pick (t := true) (ev_t rfl) rfl) ?_
            refine .nil ?_
            refine CdOK.cond_true rfl ?_
            refine .seq ?_
            refine .region ?_
            refine .t (VB (false)) (e_as rfl) ?_
            refine .nil ?_
            refine CdOK.ret ?_
            refine ⟨.inr rfl, _, rfl, h, _, _, rfl, rfl, hC, ((renFlV rfl) : RenV _ _ _ _ (VB (false))), ?_⟩
            have hr := hm.ret; replace hr := Ev.ret hr; replace hr := Ev.ret hr; cases hr; exact ⟨rfl, rfl⟩
        ·intro c47; replace hm := hm.ifn c47
         refine .exit ?_
         refine .re (σ := [0, 1, 2]) (X := [(3, VI (tx)), (6, .o (.c (.ptr (h.length + 0) 0))), (9, .o (.c (.ptr (h.length + 1) 0))), (12, .o (.c (.ptr (h.length + 2) 0))), (60, .o (.c (.LC 2 (([raw, x11.1, x12.1] : List Locks).map Locks.cs)))), (61, VI ((([raw, x11.1, x12.1] : List Locks).length : Int))), (62, VI (t6213))]) (L' := [⟨[I (g_.tx), I (g_.lock.page), I (g_.lock.slot), I (g_.mode)], true, true⟩, ⟨[.L 1 (x26.2.l_.map c_u8), I (x26.2.at_)], true, true⟩, ⟨[.L 4 (((gd ([raw, x11.1, x12.1] : List Locks) t6213).held).map Grant.cs), .L 4 (((gd ([raw, x11.1, x12.1] : List Locks) t6213).waiting).map Grant.cs)], true, true⟩]) rfl rfl hC (by decide) (.obj 0 rfl (renFl rfl) (.obj 1 rfl (renFl rfl) (.obj 2 rfl (renFl rfl) .nil))) (.cons (renFlV rfl) (.cons (.o (.c (.ptr 0 0 _ rfl))) (.cons (.o (.c (.ptr 1 1 _ rfl))) (.cons (.o (.c (.ptr 2 2 _ rfl))) (.cons (.o (.c (.fl _ rfl))) (.cons (renFlV rfl) (.cons (renFlV rfl) .nil))))))) ?_
         exact ⟨(), hm.ret, (.cons rfl (.cons rfl (.cons rfl (.cons rfl (.cons rfl (.cons rfl (.cons rfl .nil))))))), rfl⟩
       ·intro _ T0 hm
        refine CdOK.seq ?_
        refine .region ?_
        refine .m rfl ?_
        refine .m rfl ?_
        obtain ⟨x49, e49, hm⟩ := hm.call
        refine .cl rfl rfl rfl rfl pl32 (R2.wk _) (Codes_Next_ok  (b_c_ := (h.length + 1)) (bx rfl rfl) e49) ?_
        rintro _ _ ⟨rfl, rfl⟩
        rw [show _ = h ++ ([⟨[I (g_.tx), I (g_.lock.page), I (g_.lock.slot), I (g_.mode)], true, true⟩, ⟨[.L 1 (x49.2.l_.map c_u8), I (x49.2.at_)], true, true⟩, ⟨[.L 4 (((gd ([raw, x11.1, x12.1] : List Locks) t6213).held).map Grant.cs), .L 4 (((gd ([raw, x11.1, x12.1] : List Locks) t6213).waiting).map Grant.cs)], true, true⟩] : Heap) from (bset rfl rfl)]
        refine .t (VI ((w64 (1 + x49.1)))) (e_bin rfl (ev_t rfl) rfl rfl) ?_
        refine .t (.o (.c (.LC 1 (([tx, (w64 (1 + x49.1))] : List Int).map cI)))) (e_lit (cs := [I (tx), I ((w64 (1 + x49.1)))]) (xs := ([tx, (w64 (1 + x49.1))]).map cI) slt27 rfl rfl rfl rfl rfl) ?_
        refine .t (VI ((([tx, (w64 (1 + x49.1))] : List Int).length : Int))) (e_lenMC (ev_t rfl) is27) ?_
        refine .t (VI (0)) (e_mv rfl) ?_
        refine .nil ?_
        replace hm := hm.bnd
        refine CdOK.joinT (σ := Unit) (fun s => Sum.inl ()) hm (fun s => [(3, VI (tx)), (6, .o (.c (.ptr (h.length + 0) 0))), (9, .o (.c (.ptr (h.length + 1) 0))), (60, .o (.c (.LC 2 (([raw, x11.1, x12.1] : List Locks).map Locks.cs)))), (61, VI ((([raw, x11.1, x12.1] : List Locks).length : Int))), (62, VI (t6213))]) (fun s => h ++ ([⟨[I (g_.tx), I (g_.lock.page), I (g_.lock.slot), I (g_.mode)], true, true⟩, ⟨[.L 1 (x49.2.l_.map c_u8), I (x49.2.at_)], true, true⟩] : Heap)) ?_ ?_
        ·intro hm
         refine .block ?_
         refine .re (σ := [0, 1, 2]) (X := [(3, VI (tx)), (6, .o (.c (.ptr (h.length + 0) 0))), (9, .o (.c (.ptr (h.length + 1) 0))), (12, .o (.c (.ptr (h.length + 2) 0))), (60, .o (.c (.LC 2 (([raw, x11.1, x12.1] : List Locks).map Locks.cs)))), (61, VI ((([raw, x11.1, x12.1] : List Locks).length : Int))), (62, VI (t6213)), (154, .o (.c (.LC 1 (([tx, (w64 (1 + x49.1))] : List Int).map cI)))), (155, VI ((([tx, (w64 (1 + x49.1))] : List Int).length : Int))), (156, VI (0))]) (L' := [⟨[I (g_.tx), I (g_.lock.page), I (g_.lock.slot), I (g_.mode)], true, true⟩, ⟨[.L 1 (x49.2.l_.map c_u8), I (x49.2.at_)], true, true⟩, ⟨[.L 4 (((gd ([raw, x11.1, x12.1] : List Locks) t6213).held).map Grant.cs), .L 4 (((gd ([raw, x11.1, x12.1] : List Locks) t6213).waiting).map Grant.cs)], true, true⟩]) rfl rfl hC (by decide) (.obj 0 rfl (renFl rfl) (.obj 1 rfl (renFl rfl) (.obj 2 rfl (renFl rfl) .nil))) (.cons (renFlV rfl) (.cons (.o (.c (.ptr 0 0 _ rfl))) (.cons (.o (.c (.ptr 1 1 _ rfl))) (.cons (.o (.c (.ptr 2 2 _ rfl))) (.cons (.o (.c (.fl _ rfl))) (.cons (renFlV rfl) (.cons (renFlV rfl) (.cons (.o (.c (.fl _ rfl))) (.cons (renFlV rfl) (.cons (renFlV rfl) .nil)))))))))) ?_
         refine .loopE (σ := Int) (fun k s => Ev (law08_LocksExact.l3 raw tx x11 x12 t6213 x49 k s) _) (fun s => [(3, VI (tx)), (6, .o (.c (.ptr (h.length + 0) 0))), (9, .o (.c (.ptr (h.length + 1) 0))), (12, .o (.c (.ptr (h.length + 2) 0))), (60, .o (.c (.LC 2 (([raw, x11.1, x12.1] : List Locks).map Locks.cs)))), (61, VI ((([raw, x11.1, x12.1] : List Locks).length : Int))), (62, VI (t6213)), (154, .o (.c (.LC 1 (([tx, (w64 (1 + x49.1))] : List Int).map cI)))), (155, VI ((([tx, (w64 (1 + x49.1))] : List Int).length : Int))), (156, VI (s))]) (fun s => h ++ ([⟨[I (g_.tx), I (g_.lock.page), I (g_.lock.slot), I (g_.mode)], true, true⟩, ⟨[.L 1 (x49.2.l_.map c_u8), I (x49.2.at_)], true, true⟩, ⟨[.L 4 (((gd ([raw, x11.1, x12.1] : List Locks) t6213).held).map Grant.cs), .L 4 (((gd ([raw, x11.1, x12.1] : List Locks) t6213).waiting).map Grant.cs)], true, true⟩] : Heap)) FU 0 hm (.cons rfl (.cons rfl (.cons rfl (.cons rfl (.cons rfl (.cons rfl (.cons rfl (.cons rfl (.cons rfl (.cons rfl .nil)))))))))) rfl ?_
         rintro kk51 t15650 T0 hm
         replace hm : Ev (law08_LocksExact.l3 raw tx x11 x12 t6213 x49 kk51 t15650) _ := hm
         cases kk51 with
         | zero => exact (Ev.non hm).elim
         | succ kk51 =>
         rw [law08_LocksExact.l3.eq_2] at hm
         show CdOK _ _ _ (look T0 [(3, VI (tx)), (6, .o (.c (.ptr (h.length + 0) 0))), (9, .o (.c (.ptr (h.length + 1) 0))), (12, .o (.c (.ptr (h.length + 2) 0))), (60, .o (.c (.LC 2 (([raw, x11.1, x12.1] : List Locks).map Locks.cs)))), (61, VI ((([raw, x11.1, x12.1] : List Locks).length : Int))), (62, VI (t6213)), (154, .o (.c (.LC 1 (([tx, (w64 (1 + x49.1))] : List Int).map cI)))), (155, VI ((([tx, (w64 (1 + x49.1))] : List Int).length : Int))), (156, VI (t15650))]) (h ++ ([⟨[I (g_.tx), I (g_.lock.page), I (g_.lock.slot), I (g_.mode)], true, true⟩, ⟨[.L 1 (x49.2.l_.map c_u8), I (x49.2.at_)], true, true⟩, ⟨[.L 4 (((gd ([raw, x11.1, x12.1] : List Locks) t6213).held).map Grant.cs), .L 4 (((gd ([raw, x11.1, x12.1] : List Locks) t6213).waiting).map Grant.cs)], true, true⟩] : Heap)) _
         refine .seq ?_
         refine .region ?_
         refine .t (VB (decide (t15650 < (([tx, (w64 (1 + x49.1))] : List Int).length : Int)))) (e_bin (ev_t rfl) (ev_t rfl) rfl rfl) ?_
         refine .nil ?_
         refine CdOK.seq ?_
         refine .condD (ev_t rfl) ?_ ?_
         ·intro c52; replace hm := hm.ifp c52
          refine .skip ?_
          refine CdOK.seq ?_
          refine .block ?_
          refine .seq ?_
          refine .region ?_
          obtain ⟨c53, hm⟩ := hm.ifs
          refine .t (.o (.c (.rp [I ((gd ([tx, (w64 (1 + x49.1))] : List Int) t15650))]))) (e_ixMC (f := cI) (l := ([tx, (w64 (1 + x49.1))] : List Int)) (i := t15650) (ev_t rfl) (ev_t rfl) el27 c53) ?_
          refine .t _ (e_ldR1 (ev_t rfl) ty3 rfl) ?_
          refine .a rfl ?_
          refine .nil ?_
          refine CdOK.seq ?_
          refine .region ?_
          refine .t _ (e_ldbA (ev_t rfl) ty69 (bx rfl rfl) rfl rfl) ?_
          refine .m rfl ?_
          obtain ⟨x54, e54, hm⟩ := hm.call
          refine .cl rfl rfl rfl rfl pl55 (R2.wk _) (locks_Waiting_ok    e54) ?_
          rintro _ _ ⟨rfl, rfl⟩
          refine .m rfl ?_
          refine .t (.o (.agg [I (x54.1.tx), I (x54.1.lock.page), I (x54.1.lock.slot), I (x54.1.mode)])) (e_ext (ev_t rfl) rfl) ?_
          refine .t (VB (x54.2)) (e_ext (ev_t rfl) rfl) ?_
          refine .t (.o (.c (.ptr (h.length + 3) 0))) (e_allocN (L' := [⟨[I (g_.tx), I (g_.lock.page), I (g_.lock.slot), I (g_.mode)], true, true⟩, ⟨[.L 1 (x49.2.l_.map c_u8), I (x49.2.at_)], true, true⟩, ⟨[.L 4 (((gd ([raw, x11.1, x12.1] : List Locks) t6213).held).map Grant.cs), .L 4 (((gd ([raw, x11.1, x12.1] : List Locks) t6213).waiting).map Grant.cs)], true, true⟩, ⟨[I (0), I (0), I (0), I (0)], true, true⟩]) rfl zo75 rfl rfl) ?_
          refine .s0 rfl rfl (e_stN (L' := [⟨[I (g_.tx), I (g_.lock.page), I (g_.lock.slot), I (g_.mode)], true, true⟩, ⟨[.L 1 (x49.2.l_.map c_u8), I (x49.2.at_)], true, true⟩, ⟨[.L 4 (((gd ([raw, x11.1, x12.1] : List Locks) t6213).held).map Grant.cs), .L 4 (((gd ([raw, x11.1, x12.1] : List Locks) t6213).waiting).map Grant.cs)], true, true⟩, ⟨[I (x54.1.tx), I (x54.1.lock.page), I (x54.1.lock.slot), I (x54.1.mode)], true, true⟩]) rfl (ev_t rfl) (ev_t rfl) ty75 rfl rfl rfl rfl rfl) ?_
          refine .a rfl ?_
          refine .nil ?_
          refine CdOK.seq ?_
          refine .region ?_
          refine .t _ (e_ldbA (ev_t rfl) ty69 (bx rfl rfl) rfl rfl) ?_
          refine .m rfl ?_
          obtain ⟨x55, e55, hm⟩ := hm.call
          refine .cl rfl rfl rfl rfl pl56 (R2.wk _) (ref08_Waiting_ok    e55) ?_
          rintro _ _ ⟨rfl, rfl⟩
          refine .m rfl ?_
          refine .t (.o (.agg [I (x55.1.tx), I (x55.1.lock.page), I (x55.1.lock.slot), I (x55.1.mode)])) (e_ext (ev_t rfl) rfl) ?_
          refine .t (VB (x55.2)) (e_ext (ev_t rfl) rfl) ?_
          refine .t (.o (.c (.ptr (h.length + 4) 0))) (e_allocN (L' := [⟨[I (g_.tx), I (g_.lock.page), I (g_.lock.slot), I (g_.mode)], true, true⟩, ⟨[.L 1 (x49.2.l_.map c_u8), I (x49.2.at_)], true, true⟩, ⟨[.L 4 (((gd ([raw, x11.1, x12.1] : List Locks) t6213).held).map Grant.cs), .L 4 (((gd ([raw, x11.1, x12.1] : List Locks) t6213).waiting).map Grant.cs)], true, true⟩, ⟨[I (x54.1.tx), I (x54.1.lock.page), I (x54.1.lock.slot), I (x54.1.mode)], true, true⟩, ⟨[I (0), I (0), I (0), I (0)], true, true⟩]) rfl zo75 rfl rfl) ?_
          refine .s0 rfl rfl (e_stN (L' := [⟨[I (g_.tx), I (g_.lock.page), I (g_.lock.slot), I (g_.mode)], true, true⟩, ⟨[.L 1 (x49.2.l_.map c_u8), I (x49.2.at_)], true, true⟩, ⟨[.L 4 (((gd ([raw, x11.1, x12.1] : List Locks) t6213).held).map Grant.cs), .L 4 (((gd ([raw, x11.1, x12.1] : List Locks) t6213).waiting).map Grant.cs)], true, true⟩, ⟨[I (x54.1.tx), I (x54.1.lock.page), I (x54.1.lock.slot), I (x54.1.mode)], true, true⟩, ⟨[I (x55.1.tx), I (x55.1.lock.page), I (x55.1.lock.slot), I (x55.1.mode)], true, true⟩]) rfl (ev_t rfl) (ev_t rfl) ty75 rfl rfl rfl rfl rfl) ?_
          refine .a rfl ?_
          refine .nil ?_
          refine CdOK.seq ?_
          refine .draw fol (by decide +kernel) ?_
          refine .t _ (e_ldbA (ev_t rfl) ty75 (bx rfl rfl) rfl rfl) ?_
          refine .t _ (e_ldbA (ev_t rfl) ty75 (bx rfl rfl) rfl rfl) ?_
          refine .sd rfl rfl rfl (e_eqA (ev_t rfl) (ev_t rfl) rfl rfl (eqs75_neq x54.1 x55.1)) ?_ ?_
          ·intro c56; replace hm := hm.ifp c56
           refine .m rfl ?_
           refine .k ?_
           refine .k ?_
           refine .k ?_
           refine .t (VB (true)) (e_pick (t := true) (ev_t rfl) rfl) ?_
           refine .m rfl ?_
           refine .k ?_
           refine .k ?_
           refine .k ?_
           refine .k ?_
           refine .k ?_
           refine .k ?_
           refine .k ?_
           refine .k ?_
           refine .t (VB (true)) (e_pick (t := true) (ev_t rfl) rfl) ?_
           refine .m rfl ?_
           refine .k ?_
           refine .k ?_
           refine .k ?_
           refine .k ?_
           refine .k ?_
           refine .k ?_
           refine .k ?_
           refine .k ?_
           refine .t (VB (true)) (e_pick (t := true) (ev_t rfl) rfl) ?_
           refine .nil ?_
           refine CdOK.cond_true rfl ?_
           refine .seq ?_
           refine .region ?_
           refine .t (VB (false)) (e_as rfl) ?_
           refine .nil ?_
           refine CdOK.ret ?_
           refine ⟨.inr rfl, _, rfl, h, _, _, rfl, rfl, hC, ((renFlV rfl) : RenV _ _ _ _ (VB (false))), ?_⟩
           have hr := hm.ret; replace hr := Ev.ret hr; replace hr := Ev.ret hr; cases hr; exact ⟨rfl, rfl⟩
          ·intro c57; replace hm := hm.ifn c57
           refine .m rfl ?_
           refine .m rfl ?_
           refine .m rfl ?_
           refine .sb rfl rfl rfl (e_neB (ev_t rfl) (ev_t rfl) bo4) ?_ ?_
           ·intro c58; replace hm := hm.ifp c58
            refine .t (VB (true)) (e_pick (t := false) (ev_t rfl) (ev_t rfl)) ?_
            refine .m rfl ?_
            refine .k ?_
            refine .k ?_
            refine .k ?_
            refine .k ?_
            refine .k ?_
            refine .k ?_
            refine .k ?_
            refine .k ?_
            refine .t (VB (true)) (e_pick (t := true) (ev_t rfl) rfl) ?_
            refine .m rfl ?_
            refine .k ?_
            refine .k ?_
            refine .k ?_
            refine .k ?_
            refine .k ?_
            refine .k ?_
            refine .k ?_
            refine .k ?_
            refine .t (VB (true)) (e_pick (t := true) (ev_t rfl) rfl) ?_
            refine .nil ?_
            refine CdOK.cond_true rfl ?_
            refine .seq ?_
            refine .region ?_
            refine .t (VB (false)) (e_as rfl) ?_
            refine .nil ?_
            refine CdOK.ret ?_
            refine ⟨.inr rfl, _, rfl, h, _, _, rfl, rfl, hC, ((renFlV rfl) : RenV _ _ _ _ (VB (false))), ?_⟩
            have hr := hm.ret; replace hr := Ev.ret hr; replace hr := Ev.ret hr; cases hr; exact ⟨rfl, rfl⟩
           ·intro c59; replace hm := hm.ifn (by rw [c59]; exact Bool.false_ne_true)
            refine .t (VB (false)) (e_pick (t := false) (ev_t rfl) (ev_t rfl)) ?_
            refine .m rfl ?_
            refine .t _ (e_ldbA (ev_t rfl) ty69 (bx rfl rfl) rfl rfl) ?_
            refine .m rfl ?_
            obtain ⟨x60, e60, hm⟩ := hm.call
            refine .cl rfl rfl rfl rfl pl57 (R2.wk _) (locks_Cancel_ok    e60) ?_
            refine .t _ (e_ldbA (ev_t rfl) ty69 (bx rfl rfl) rfl rfl) ?_
            refine .m rfl ?_
            obtain ⟨x61, e61, hm⟩ := hm.call
            refine .cl rfl rfl rfl rfl pl58 (R2.wk _) (ref08_Cancel_ok    e61) ?_
            obtain ⟨x62, e62, hm⟩ := hm.call
            cases x62 with
            | true =>
             replace hm := hm.ifp rfl
             refine .cl rfl rfl rfl rfl pl51 (R2.wk _) (ref08_Same_ok    e62) ?_
             refine .t (VB (false)) (e_un (ev_t rfl) rfl) ?_
             refine .t (VB (false)) (e_pick (t := false) (ev_t rfl) (ev_t rfl)) ?_
             refine .m rfl ?_
             refine .t _ (e_ldbA (ev_t rfl) ty69 (bx rfl rfl) rfl rfl) ?_
             refine .m rfl ?_
             obtain ⟨x63, e63, hm⟩ := hm.call
             refine .cl rfl rfl rfl rfl pl43 (R2.wk _) (locks_Release_ok    e63) ?_
             refine .t _ (e_ldbA (ev_t rfl) ty69 (bx rfl rfl) rfl rfl) ?_
             refine .m rfl ?_
             obtain ⟨x64, e64, hm⟩ := hm.call
             refine .cl rfl rfl rfl rfl pl59 (R2.wk _) (ref08_Release_ok    e64) ?_
             obtain ⟨x65, e65, hm⟩ := hm.call
             refine .cl rfl rfl rfl rfl pl51 (R2.wk _) (ref08_Same_ok    e65) ?_
             refine .t (VB ((!x65))) (e_un (ev_t rfl) rfl) ?_
             refine .t (VB ((!x65))) (e_pick (t := false) (ev_t rfl) (ev_t rfl)) ?_
             refine .nil ?_
             refine CdOK.condB (ev_t rfl) ?_ ?_
             ·intro c66; replace hm := hm.ifp c66
              refine .seq ?_
              refine .region ?_
              refine .t (VB (false)) (e_as rfl) ?_
              refine .nil ?_
              refine CdOK.ret ?_
              refine ⟨.inr rfl, _, rfl, h, _, _, rfl, rfl, hC, ((renFlV rfl) : RenV _ _ _ _ (VB (false))), ?_⟩
              have hr := hm.ret; replace hr := Ev.ret hr; replace hr := Ev.ret hr; cases hr; exact ⟨rfl, rfl⟩
             ·intro c67; replace hm := hm.ifn c67
              refine .skip ?_
              refine CdOK.region ?_
              refine .t (VI ((w64 (t15650 + 1)))) (e_bin (ev_t rfl) rfl rfl rfl) ?_
              refine .m rfl ?_
              refine .nil ?_
              refine .re (σ := [0, 1, 2]) (X := [(3, VI (tx)), (6, .o (.c (.ptr (h.length + 0) 0))), (9, .o (.c (.ptr (h.length + 1) 0))), (12, .o (.c (.ptr (h.length + 2) 0))), (60, .o (.c (.LC 2 (([raw, x11.1, x12.1] : List Locks).map Locks.cs)))), (61, VI ((([raw, x11.1, x12.1] : List Locks).length : Int))), (62, VI (t6213)), (154, .o (.c (.LC 1 (([tx, (w64 (1 + x49.1))] : List Int).map cI)))), (155, VI ((([tx, (w64 (1 + x49.1))] : List Int).length : Int))), (156, VI ((w64 (t15650 + 1))))]) (L' := [⟨[I (g_.tx), I (g_.lock.page), I (g_.lock.slot), I (g_.mode)], true, true⟩, ⟨[.L 1 (x49.2.l_.map c_u8), I (x49.2.at_)], true, true⟩, ⟨[.L 4 (((gd ([raw, x11.1, x12.1] : List Locks) t6213).held).map Grant.cs), .L 4 (((gd ([raw, x11.1, x12.1] : List Locks) t6213).waiting).map Grant.cs)], true, true⟩]) rfl rfl hC (by decide) (.obj 0 rfl (renFl rfl) (.obj 1 rfl (renFl rfl) (.obj 2 rfl (renFl rfl) .nil))) (.cons (renFlV rfl) (.cons (.o (.c (.ptr 0 0 _ rfl))) (.cons (.o (.c (.ptr 1 1 _ rfl))) (.cons (.o (.c (.ptr 2 2 _ rfl))) (.cons (.o (.c (.fl _ rfl))) (.cons (renFlV rfl) (.cons (renFlV rfl) (.cons (.o (.c (.fl _ rfl))) (.cons (renFlV rfl) (.cons (renFlV rfl) .nil)))))))))) ?_
              exact ⟨_, (w64 (t15650 + 1)), Nat.lt_succ_self _, hm, (.cons rfl (.cons rfl (.cons rfl (.cons rfl (.cons rfl (.cons rfl (.cons rfl (.cons rfl (.cons rfl (.cons rfl .nil)))))))))), rfl⟩
            | false =>
             replace hm := hm.ifn Bool.false_ne_true
             refine .cl rfl rfl rfl rfl pl51 (R2.wk _) (ref08_Same_ok    e62) ?_
             refine .t (VB (true)) (e_un (ev_t rfl) rfl) ?_
             refine .t (VB (true)) (e_pick (t := false) (ev_t rfl) (ev_t rfl)) ?_
             refine .m rfl ?_
             refine .k ?_
             refine .k ?_
             refine .k ?_
             refine .k ?_
             refine .k ?_
             refine .k ?_
             refine .k ?_
             refine .k ?_
             refine .t (VB (true)) (e_pick (t := true) (ev_t rfl) rfl) ?_
             refine .nil ?_
             refine CdOK.cond_true rfl ?_
             refine .seq ?_
             refine .region ?_
             refine .t (VB (false)) (e_as rfl) ?_
             refine .nil ?_
             refine CdOK.ret ?_
             refine ⟨.inr rfl, _, rfl, h, _, _, rfl, rfl, hC, ((renFlV rfl) : RenV _ _ _ _ (VB (false))), ?_⟩
             have hr := hm.ret; replace hr := Ev.ret hr; replace hr := Ev.ret hr; cases hr; exact ⟨rfl, rfl⟩
         ·intro c68; replace hm := hm.ifn c68
          refine .exit ?_
          refine .re (σ := [0, 1]) (X := [(3, VI (tx)), (6, .o (.c (.ptr (h.length + 0) 0))), (9, .o (.c (.ptr (h.length + 1) 0))), (60, .o (.c (.LC 2 (([raw, x11.1, x12.1] : List Locks).map Locks.cs)))), (61, VI ((([raw, x11.1, x12.1] : List Locks).length : Int))), (62, VI (t6213))]) (L' := [⟨[I (g_.tx), I (g_.lock.page), I (g_.lock.slot), I (g_.mode)], true, true⟩, ⟨[.L 1 (x49.2.l_.map c_u8), I (x49.2.at_)], true, true⟩]) rfl rfl hC (by decide) (.obj 0 rfl (renFl rfl) (.obj 1 rfl (renFl rfl) .nil)) (.cons (renFlV rfl) (.cons (.o (.c (.ptr 0 0 _ rfl))) (.cons (.o (.c (.ptr 1 1 _ rfl))) (.cons (.o (.c (.fl _ rfl))) (.cons (renFlV rfl) (.cons (renFlV rfl) .nil)))))) ?_
          exact ⟨(), hm.ret, (.cons rfl (.cons rfl (.cons rfl (.cons rfl (.cons rfl (.cons rfl .nil)))))), rfl⟩
        ·intro _ T0 hm
         refine CdOK.region ?_
         refine .t (VI ((w64 (t6213 + 1)))) (e_bin (ev_t rfl) rfl rfl rfl) ?_
         refine .m rfl ?_
         refine .nil ?_
         refine .re (σ := [0, 1]) (X := [(3, VI (tx)), (6, .o (.c (.ptr (h.length + 0) 0))), (9, .o (.c (.ptr (h.length + 1) 0))), (60, .o (.c (.LC 2 (([raw, x11.1, x12.1] : List Locks).map Locks.cs)))), (61, VI ((([raw, x11.1, x12.1] : List Locks).length : Int))), (62, VI ((w64 (t6213 + 1))))]) (L' := [⟨[I (g_.tx), I (g_.lock.page), I (g_.lock.slot), I (g_.mode)], true, true⟩, ⟨[.L 1 (x49.2.l_.map c_u8), I (x49.2.at_)], true, true⟩]) rfl rfl hC (by decide) (.obj 0 rfl (renFl rfl) (.obj 1 rfl (renFl rfl) .nil)) (.cons (renFlV rfl) (.cons (.o (.c (.ptr 0 0 _ rfl))) (.cons (.o (.c (.ptr 1 1 _ rfl))) (.cons (.o (.c (.fl _ rfl))) (.cons (renFlV rfl) (.cons (renFlV rfl) .nil)))))) ?_
         exact ⟨_, ((w64 (t6213 + 1)), x49.2), Nat.lt_succ_self _, hm, (.cons rfl (.cons rfl (.cons rfl (.cons rfl (.cons rfl (.cons rfl .nil)))))), rfl⟩
     ·intro c70; replace hm := hm.ifn c70
      refine .exit ?_
      refine .re (σ := []) (X := []) (L' := []) rfl rfl hC (by decide) .nil .nil ?_
      exact ⟨(), hm.ret, .nil, rfl⟩
    ·intro _ T0 hm
     refine CdOK.seq ?_
     refine .region ?_
     refine .t (VB (true)) (e_as rfl) ?_
     refine .nil ?_
     refine CdOK.ret ?_
     refine ⟨.inr rfl, _, rfl, h, _, _, rfl, rfl, hC, ((renFlV rfl) : RenV _ _ _ _ (VB (true))), ?_⟩
     cases hm.ret; exact ⟨rfl, rfl⟩
 | false =>
  replace hm := hm.ifn Bool.false_ne_true
  refine .cl rfl rfl rfl rfl pl40 (R2.wk _) (law08_awake_ok    e1) ?_
  rintro _ _ ⟨rfl, rfl⟩
  refine .t (VB (true)) (e_un (ev_t rfl) rfl) ?_
  refine .m rfl ?_
  refine .k ?_
  refine .k ?_
  refine .k ?_
  refine .k ?_
  refine .t (VB (true)) (e_pick (t := true) (ev_t rfl) rfl) ?_
  refine .m rfl ?_
  refine .k ?_
  refine .k ?_
  refine .k ?_
  refine .k ?_
  refine .t (VB (true)) (e_pick (t := true) (ev_t rfl) rfl) ?_
  refine .nil ?_
  refine CdOK.cond_true rfl ?_
  refine .seq ?_
  refine .region ?_
  refine .t _ (e_fa' fa69_0 (ev_t rfl)) ?_
  refine .t _ (e_ldb1 (ev_t rfl) ty67 (bx rfl rfl) rfl) ?_
  refine .t (VI ((raw.held.length : Int))) (e_lenM (ev_t rfl) is67) ?_
  refine .sd rfl rfl rfl (e_bin (ev_t rfl) rfl rfl rfl) ?_ ?_
  ·intro c72; replace hm := hm.ifp c72
   refine .m rfl ?_
   refine .k ?_
   refine .k ?_
   refine .k ?_
   refine .k ?_
   refine .t (VB (true)) (e_pick (t := true) (ev_t rfl) rfl) ?_
   refine .a rfl ?_
   refine .nil ?_
   refine CdOK.ret ?_
   refine ⟨.inr rfl, _, rfl, h, _, _, rfl, rfl, hC, ((renFlV rfl) : RenV _ _ _ _ (VB (true))), ?_⟩
   cases hm.ret; exact ⟨rfl, rfl⟩
  ·intro c73; replace hm := hm.ifn c73
   refine .m rfl ?_
   refine .t _ (e_fa' fa69_1 (ev_t rfl)) ?_
   refine .t _ (e_ldb1 (ev_t rfl) ty67 (bx rfl rfl) rfl) ?_
   refine .t (VI ((raw.waiting.length : Int))) (e_lenM (ev_t rfl) is67) ?_
   refine .t (VB (decide (30 < (raw.waiting.length : Int)))) (e_bin (ev_t rfl) rfl rfl rfl) ?_
   refine .t (VB (decide (30 < (raw.waiting.length : Int)))) (e_pick (t := false) (ev_t rfl) (ev_t rfl)) ?_
   refine .a rfl ?_
   refine .nil ?_
   refine CdOK.ret ?_
   refine ⟨.inr rfl, _, rfl, h, _, _, rfl, rfl, hC, ((renFlV rfl) : RenV _ _ _ _ (VB (decide (30 < (raw.waiting.length : Int))))), ?_⟩
   cases hm.ret; exact ⟨rfl, rfl⟩
end Rv
