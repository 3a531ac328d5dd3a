/- The row of the law LocksExact. Printed by a program of this workplace. -/
import Derived.Test.YtnlpkgamglhnbaaRows
import Derived.Test.YtnlpkgamglhnbaaRvLaw08e
import Derived.Test.YtnlpkgamglhnbaaRvPLkEx
import Derived.Test.YtnlpkgamglhnbaaRvRow2
import Derived.WalkKit
import Derived.ProofKit
import Derived.OpenShut
import Derived.ShutString
import Derived.ChangeOld
import Derived.Below
import Derived.SizedLaws
set_option linter.unusedVariables false
namespace Go.Proofs.Ytnlpkgamglhnbaa.locksExact
open Go.ChangeShapes Go.WideShapes Go.ChangeAt Go.RowKit
open Go.ChangeMaps (open_string shut_string)
theorem own : ownKnob Try.prog.godebug = none := by kernel_rfl
theorem laidOut : laidOutB Try.prog = true := by kernel_rfl
section
open Rv
theorem op3 (w : World) : Opn Try.prog w 3 (fun x : Int => [.v (.int .i64 x)]) (fun x => (Lit.int .i64 x).wf = true) := op_int Try.underlying3
abbrev Q71 (y : Lock) : Prop := (Lit.int .i64 y.page).wf = true ∧ (Lit.int .i64 y.slot).wf = true
theorem op71 (w : World) : Opn Try.prog w 71 Lock.cs Q71 := by
  intro H enc base spare held fuel cs x h
  obtain ⟨xs, n, _, _, hl, hx, hf⟩ := DataW.trod_struct Try.underlying71 h
  replace hl : cs.length = 2 := hl.trans (by kernel_rfl)
  replace hx : xs.length = 2 := hx
  have h0 := hf 0 _ rfl
  rw [List.getElem?_eq_getElem (by omega)] at h0
  obtain ⟨y0, r0, q0⟩ := op3 w h0
  replace r0 : R2 (FC (mu0 w).F) _ ((cs.drop 0).take (Try.prog.cellsOf 3)) := r0
  rw [show Try.prog.cellsOf 3 = 1 by kernel_rfl] at r0
  have h1 := hf 1 _ rfl
  rw [List.getElem?_eq_getElem (by omega)] at h1
  obtain ⟨y1, r1, q1⟩ := op3 w h1
  replace r1 : R2 (FC (mu0 w).F) _ ((cs.drop 1).take (Try.prog.cellsOf 3)) := r1
  rw [show Try.prog.cellsOf 3 = 1 by kernel_rfl] at r1
  have d1 : cs.drop 1 = (cs.drop 1).take 1 := dlast (by omega)
  have d0 : cs.drop 0 = (cs.drop 0).take 1 ++ _ := (dpiece (b := 1) rfl).trans (congrArg _ d1)
  refine ⟨⟨y0, y1⟩, ?_, q0, q1⟩
  rw [show cs = cs.drop 0 from rfl, d0]
  exact (R2.append r0 r1)
abbrev Q75 (y : Grant) : Prop := (Lit.int .i64 y.tx).wf = true ∧ Q71 (y.lock) ∧ (Lit.int .i64 y.mode).wf = true
theorem op75 (w : World) : Opn Try.prog w 75 Grant.cs Q75 := by
  intro H enc base spare held fuel cs x h
  obtain ⟨xs, n, _, _, hl, hx, hf⟩ := DataW.trod_struct Try.underlying75 h
  replace hl : cs.length = 4 := hl.trans (by kernel_rfl)
  replace hx : xs.length = 3 := hx
  have h0 := hf 0 _ rfl
  rw [List.getElem?_eq_getElem (by omega)] at h0
  obtain ⟨y0, r0, q0⟩ := op3 w h0
  replace r0 : R2 (FC (mu0 w).F) _ ((cs.drop 0).take (Try.prog.cellsOf 3)) := r0
  rw [show Try.prog.cellsOf 3 = 1 by kernel_rfl] at r0
  have h1 := hf 1 _ rfl
  rw [List.getElem?_eq_getElem (by omega)] at h1
  obtain ⟨y1, r1, q1⟩ := op71 w h1
  replace r1 : R2 (FC (mu0 w).F) _ ((cs.drop 1).take (Try.prog.cellsOf 71)) := r1
  rw [show Try.prog.cellsOf 71 = 2 by kernel_rfl] at r1
  have h2 := hf 2 _ rfl
  rw [List.getElem?_eq_getElem (by omega)] at h2
  obtain ⟨y2, r2, q2⟩ := op3 w h2
  replace r2 : R2 (FC (mu0 w).F) _ ((cs.drop 3).take (Try.prog.cellsOf 3)) := r2
  rw [show Try.prog.cellsOf 3 = 1 by kernel_rfl] at r2
  have d2 : cs.drop 3 = (cs.drop 3).take 1 := dlast (by omega)
  have d1 : cs.drop 1 = (cs.drop 1).take 2 ++ _ := (dpiece (b := 3) rfl).trans (congrArg _ d2)
  have d0 : cs.drop 0 = (cs.drop 0).take 1 ++ _ := (dpiece (b := 1) rfl).trans (congrArg _ d1)
  refine ⟨⟨y0, y1, y2⟩, ?_, q0, q1, q2⟩
  rw [show cs = cs.drop 0 from rfl, d0]
  exact (R2.append r0 (R2.append r1 r2))
abbrev Q67 (l : List Grant) : Prop := ∀ y ∈ l, Q75 y
theorem op67 (w : World) : Opn Try.prog w 67 (fun l : List Grant => [.L 4 (l.map Grant.cs)]) Q67 := op_slice (k := 4) Try.underlying67 (by kernel_rfl) (by decide) (fun _ => rfl) (op75 w)
abbrev Q69 (y : Locks) : Prop := Q67 (y.held) ∧ Q67 (y.waiting)
theorem op69 (w : World) : Opn Try.prog w 69 Locks.cs Q69 := by
  intro H enc base spare held fuel cs x h
  obtain ⟨xs, n, _, _, hl, hx, hf⟩ := DataW.trod_struct Try.underlying69 h
  replace hl : cs.length = 2 := hl.trans (by kernel_rfl)
  replace hx : xs.length = 2 := hx
  have h0 := hf 0 _ rfl
  rw [List.getElem?_eq_getElem (by omega)] at h0
  obtain ⟨y0, r0, q0⟩ := op67 w h0
  replace r0 : R2 (FC (mu0 w).F) _ ((cs.drop 0).take (Try.prog.cellsOf 67)) := r0
  rw [show Try.prog.cellsOf 67 = 1 by kernel_rfl] at r0
  have h1 := hf 1 _ rfl
  rw [List.getElem?_eq_getElem (by omega)] at h1
  obtain ⟨y1, r1, q1⟩ := op67 w h1
  replace r1 : R2 (FC (mu0 w).F) _ ((cs.drop 1).take (Try.prog.cellsOf 67)) := r1
  rw [show Try.prog.cellsOf 67 = 1 by kernel_rfl] at r1
  have d1 : cs.drop 1 = (cs.drop 1).take 1 := dlast (by omega)
  have d0 : cs.drop 0 = (cs.drop 0).take 1 ++ _ := (dpiece (b := 1) rfl).trans (congrArg _ d1)
  refine ⟨⟨y0, y1⟩, ?_, q0, q1⟩
  rw [show cs = cs.drop 0 from rfl, d0]
  exact (R2.append r0 r1)
end
theorem walk (w : World) (a0 : Option Addr) (len0 cap0 : Nat) (z0 : List Int) (v1 : Value) (y1 : Rv.Locks) (v2 : Value) (y2 : Rv.Grant) (a3 : Int) (w0 : Rv.IsRow .u8 w a0 len0 cap0 z0) (r1 : Rv.RV (Rv.mu0 w) (.o (.agg (Rv.Locks.cs y1))) v1) (q1 : Q69 y1) (r2 : Rv.RV (Rv.mu0 w) (.o (.agg (Rv.Grant.cs y2))) v2) (q2 : Q75 y2) (w3 : (Lit.int .i64 a3).wf = true) :
    Calls Try.prog 10 #[.slice a0 len0 cap0, v1, v2, .int .i64 a3] w fun e w' => e = .returned (.bool true) ∧ Below w.heap.size w w' := by
  have hm := Rv.law08_LocksExact_true (z0.take len0) y1 y2 a3 (Rv.row_wf w0) w3
  exact Rv.row_calls (us := [.slice a0 len0 cap0, v1, v2, .int .i64 a3]) (Rv.law08_LocksExact_ok (h := []) hm) (Rv.R2.cons (Rv.row_ints w0) (Rv.R2.cons r1 (Rv.R2.cons r2 (Rv.R2.cons Rv.row_int (Rv.R2.nil _)))))
set_option maxRecDepth 100000 in
theorem lifted (os : Os) (started : os.Started) (H : Type) (enc : TypeId × Value → H) :
    ReturnsInHanded {} Try.checked os 10 .any (Rows.locksExactSpec.pre6 enc Try.prog Try.f10 Rows.locksExactRow.domain false) (Rows.locksExactSpec.post enc Try.prog Try.f10 false true false false) := by
  refine returnsInHanded_of_change_sized (C := Try.checked) own started (by kernel_rfl) Try.func10
    (ChangeSpec.witness6 (enc := enc) (C := Try.checked) false ⟨#[], #[.slice none 0 0, .agg #[.slice none 0 0, .slice none 0 0], .agg #[.int .i64 0, .int .i64 0, .int .i64 0, .int .i64 0], .int .i64 0], []⟩ 8 (by kernel_rfl) (by kernel_rfl) (by kernel_rfl) (by kernel_rfl)) ?_
  intro W base args ds gs before hval0 hW hcnd hsz0 _
  have hsz : (DataW.weightsEach Try.prog (Try.f10.params.toList ++ Rows.locksExactSpec.plain.varTypes Try.prog) (ds ++ gs)).all (· ≤ reachBytes) = true := hsz0
  have hval : ∀ (j : Nat) t v, Try.f10.params[j]? = some t → args[j]? = some v → Value.okWide Try.prog W .any base t v := hval0
  have hW' := hW
  obtain ⟨p, q, hA0, hV, rfl, hfz, hnd⟩ := hW
  have hA : DataW.TrodAll enc Try.prog W 0 (fun _ => true) true Try.f10.params.toList args.toList ds p := hA0
  rw [Try.params10] at hA hval hsz
  obtain ⟨v0, vs0, d0, ds0, p0, q0, hargs, rfl, rfl, h0, r0⟩ := trodAll_cons hA
  obtain ⟨v1, vs1, d1, ds1, p1, q1, rfl, rfl, rfl, h1, r1⟩ := trodAll_cons r0
  obtain ⟨v2, vs2, d2, ds2, p2, q2, rfl, rfl, rfl, h2, r2⟩ := trodAll_cons r1
  obtain ⟨v3, vs3, d3, ds3, p3, q3, rfl, rfl, rfl, h3, r3⟩ := trodAll_cons r2
  obtain ⟨rfl, rfl, rfl⟩ := trodAll_nil r3
  obtain rfl : args = #[v0, v1, v2, v3] := by cases args; simp_all
  obtain ⟨rfl, rfl⟩ := trodVars_none hV
  obtain ⟨a0, len0, cap0, rfl⟩ := okWide_slice Try.underlying22 (hval 0 22 v0 rfl rfl)
  have k0 := h0
  have lt0 : ∀ x ∈ p0, x.block < W.heap.size := by obtain ⟨m, hm⟩ := k0; exact DataW.trod_lt m _ _ _ hm
  obtain ⟨z0, w0⟩ : ∃ zs, Rv.IsRow .u8 W a0 len0 cap0 zs := by
    obtain ⟨fuel, hf⟩ := h0
    rcases open_ints Try.underlying22 Try.underlying5 (by kernel_rfl) hf with ⟨hcs, _⟩ | ⟨x, l, c, zs, hcs, _, hl, hm, hz, _, hcell, hwz⟩
    · simp [Value.cells] at hcs
      obtain ⟨rfl, rfl, rfl⟩ := hcs
      exact ⟨[], .inl ⟨rfl, rfl, rfl, rfl⟩⟩
    · simp [Value.cells] at hcs
      obtain ⟨rfl, rfl, rfl⟩ := hcs
      exact ⟨zs, .inr ⟨_, rfl, hl, hm, by simpa using hz, hcell, hwz⟩⟩
  obtain ⟨us1, rfl, _⟩ := okWide_struct Try.underlying69 (hval 1 69 v1 rfl rfl)
  have k1 := h1
  have lt1 : ∀ x ∈ p1, x.block < W.heap.size := by obtain ⟨m, hm⟩ := k1; exact DataW.trod_lt m _ _ _ hm
  obtain ⟨y1, w1, q1⟩ : ∃ y, Rv.R2 (Rv.FC (Rv.mu0 W).F) (Rv.Locks.cs y) us1.toList ∧ Q69 y := by obtain ⟨fuel, hf⟩ := h1; exact op69 W hf
  obtain ⟨us2, rfl, _⟩ := okWide_struct Try.underlying75 (hval 2 75 v2 rfl rfl)
  have k2 := h2
  have lt2 : ∀ x ∈ p2, x.block < W.heap.size := by obtain ⟨m, hm⟩ := k2; exact DataW.trod_lt m _ _ _ hm
  obtain ⟨y2, w2, q2⟩ : ∃ y, Rv.R2 (Rv.FC (Rv.mu0 W).F) (Rv.Grant.cs y) us2.toList ∧ Q75 y := by obtain ⟨fuel, hf⟩ := h2; exact op75 W hf
  obtain ⟨a3, rfl, rfl, rfl, w3⟩ := open_int Try.underlying3 (hval 3 3 v3 rfl rfl) h3
  clear hA0 hval0 hsz0 hsz
  refine (walk W a0 len0 cap0 z0 _ y1 _ y2 a3 w0 (Rv.op_agg w1) q1 (Rv.op_agg w2) q2 w3).mono fun e W' ⟨he, bel⟩ => ?_
  subst he
  exact ⟨_, rfl, _, _, _, [], _, [], hW', trodAll_mk1 (shut_bool Try.underlying4 _), (trodAll_cons_mk (Below.trod laidOut (by kernel_rfl) (of_decide_eq_true (by kernel_rfl)) k0 bel lt0) (trodAll_cons_mk (Below.trod laidOut (by kernel_rfl) (of_decide_eq_true (by kernel_rfl)) k1 bel lt1) (trodAll_cons_mk (Below.trod laidOut (by kernel_rfl) (of_decide_eq_true (by kernel_rfl)) k2 bel lt2) (trodAll_cons_mk (shut_int Try.underlying3 w3) trodAll_mk0)))), rfl, bel.frame _, fun h => by cases h⟩
theorem over : Rows.locksExactRow.holds Try.pinned (OpenSpec.ofChange Rows.locksExactSpec) :=
  OpenClaim.holds_of_wide 10 Try.f10 rfl rfl rfl rfl rfl rfl rfl ⟨rfl, rfl, rfl, rfl, rfl⟩ rfl rfl rfl rfl rfl (by kernel_rfl) Try.func10 (by kernel_rfl)
    (of_decide_eq_true (by kernel_rfl)) (by unfold Func.isWrapper; first | (rw [if_pos (by decide +kernel)]; kernel_rfl) | (rw [if_neg (by decide +kernel)]; exact ⟨rfl, rfl⟩))
    (fun os started H enc _ => lifted os started H enc)
theorem proved : Rows.LocksExactSaid := over
end Go.Proofs.Ytnlpkgamglhnbaa.locksExact
namespace Go.Proofs.Ytnlpkgamglhnbaa
/-- The row, under a short name, for the claim. -/
theorem locksExact_holds : Rows.LocksExactSaid := locksExact.proved
end Go.Proofs.Ytnlpkgamglhnbaa

