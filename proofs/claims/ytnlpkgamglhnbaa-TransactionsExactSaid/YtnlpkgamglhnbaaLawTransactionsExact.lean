import Derived.Test.YtnlpkgamglhnbaaRows
import Derived.Test.YtnlpkgamglhnbaaRvLaw12e
import Derived.Test.YtnlpkgamglhnbaaRvPTx
import Derived.Test.YtnlpkgamglhnbaaRvRow2
import Derived.WalkKit
import Derived.ProofKit
import Derived.OpenShut
import Derived.ShutString
import Derived.ChangeOld
import Derived.Below
import Derived.SizedLaws
set_option linter.unusedVariables false
namespace Go.Proofs.Ytnlpkgamglhnbaa.transactionsExact
open Go.ChangeShapes Go.WideShapes Go.ChangeAt Go.RowKit
open Go.ChangeMaps (open_string shut_string)
theorem own : ownKnob Try.prog.godebug = none := by kernel_rfl
theorem laidOut : laidOutB Try.prog = true := by kernel_rfl
section
open Rv
theorem op3 (w : World) : Opn Try.prog w 3 (fun x : Int => [.v (.int .i64 x)]) (fun x => (Lit.int .i64 x).wf = true) := op_int Try.underlying3
abbrev Q27 (l : List Int) : Prop := l.length ≤ maxLen ∧ ∀ y ∈ l, (Lit.int .i64 y).wf = true
theorem op27 (w : World) : Opn Try.prog w 27 (fun l : List Int => [.L 1 (l.map cI)]) Q27 := op_slice (k := 1) Try.underlying27 (by kernel_rfl) (by decide) (fun _ => rfl) (op3 w)
abbrev Q108 (y : Tx) : Prop := (Lit.int .i64 y.id_).wf = true ∧ (Lit.int .i64 y.state).wf = true ∧ (Lit.int .i64 y.last).wf = true ∧ (Lit.int .i64 y.until_).wf = true ∧ Q27 (y.pending) ∧ Q27 (y.saves)
theorem op108 (w : World) : Opn Try.prog w 108 Tx.cs Q108 := by
  intro H enc base spare held fuel cs x h
  obtain ⟨xs, n, _, _, hl, hx, hf⟩ := DataW.trod_struct Try.underlying108 h
  replace hl : cs.length = 6 := hl.trans (by kernel_rfl)
  replace hx : xs.length = 6 := hx
  have h0 := hf 0 _ rfl
  rw [List.getElem?_eq_getElem (by omega)] at h0
  obtain ⟨y0, r0, q0⟩ := op3 w h0
  replace r0 : R2 (FC (mu0 w).F) _ ((cs.drop 0).take (Try.prog.cellsOf 3)) := r0
  rw [show Try.prog.cellsOf 3 = 1 by kernel_rfl] at r0
  have h1 := hf 1 _ rfl
  rw [List.getElem?_eq_getElem (by omega)] at h1
  obtain ⟨y1, r1, q1⟩ := op3 w h1
  replace r1 : R2 (FC (mu0 w).F) _ ((cs.drop 1).take (Try.prog.cellsOf 3)) := r1
  rw [show Try.prog.cellsOf 3 = 1 by kernel_rfl] at r1
  have h2 := hf 2 _ rfl
  rw [List.getElem?_eq_getElem (by omega)] at h2
  obtain ⟨y2, r2, q2⟩ := op3 w h2
  replace r2 : R2 (FC (mu0 w).F) _ ((cs.drop 2).take (Try.prog.cellsOf 3)) := r2
  rw [show Try.prog.cellsOf 3 = 1 by kernel_rfl] at r2
  have h3 := hf 3 _ rfl
  rw [List.getElem?_eq_getElem (by omega)] at h3
  obtain ⟨y3, r3, q3⟩ := op3 w h3
  replace r3 : R2 (FC (mu0 w).F) _ ((cs.drop 3).take (Try.prog.cellsOf 3)) := r3
  rw [show Try.prog.cellsOf 3 = 1 by kernel_rfl] at r3
  have h4 := hf 4 _ rfl
  rw [List.getElem?_eq_getElem (by omega)] at h4
  obtain ⟨y4, r4, q4⟩ := op27 w h4
  replace r4 : R2 (FC (mu0 w).F) _ ((cs.drop 4).take (Try.prog.cellsOf 27)) := r4
  rw [show Try.prog.cellsOf 27 = 1 by kernel_rfl] at r4
  have h5 := hf 5 _ rfl
  rw [List.getElem?_eq_getElem (by omega)] at h5
  obtain ⟨y5, r5, q5⟩ := op27 w h5
  replace r5 : R2 (FC (mu0 w).F) _ ((cs.drop 5).take (Try.prog.cellsOf 27)) := r5
  rw [show Try.prog.cellsOf 27 = 1 by kernel_rfl] at r5
  have d5 : cs.drop 5 = (cs.drop 5).take 1 := dlast (by omega)
  have d4 : cs.drop 4 = (cs.drop 4).take 1 ++ _ := (dpiece (b := 5) rfl).trans (congrArg _ d5)
  have d3 : cs.drop 3 = (cs.drop 3).take 1 ++ _ := (dpiece (b := 4) rfl).trans (congrArg _ d4)
  have d2 : cs.drop 2 = (cs.drop 2).take 1 ++ _ := (dpiece (b := 3) rfl).trans (congrArg _ d3)
  have d1 : cs.drop 1 = (cs.drop 1).take 1 ++ _ := (dpiece (b := 2) rfl).trans (congrArg _ d2)
  have d0 : cs.drop 0 = (cs.drop 0).take 1 ++ _ := (dpiece (b := 1) rfl).trans (congrArg _ d1)
  refine ⟨⟨y0, y1, y2, y3, y4, y5⟩, ?_, q0, q1, q2, q3, q4, q5⟩
  rw [show cs = cs.drop 0 from rfl, d0]
  exact (R2.append r0 (R2.append r1 (R2.append r2 (R2.append r3 (R2.append r4 r5)))))
abbrev Q92 (l : List Tx) : Prop := l.length ≤ maxLen ∧ ∀ y ∈ l, Q108 y
theorem op92 (w : World) : Opn Try.prog w 92 (fun l : List Tx => [.L 6 (l.map Tx.cs)]) Q92 := op_slice (k := 6) Try.underlying92 (by kernel_rfl) (by decide) (fun _ => rfl) (op108 w)
theorem op4 (w : World) : Opn Try.prog w 4 (fun x : Bool => [.v (.bool x)]) (fun _ => True) := op_bool Try.underlying4
theorem op9 (w : World) : Opn Try.prog w 9 (fun x : ByteArray => [.v (.string x)]) (fun x => x.size ≤ maxLen) := op_str Try.underlying9
abbrev Q55 (y : ACell) : Prop := True ∧ (y.data).size ≤ maxLen
theorem op55 (w : World) : Opn Try.prog w 55 ACell.cs Q55 := by
  intro H enc base spare held fuel cs x h
  obtain ⟨xs, n, _, _, hl, hx, hf⟩ := DataW.trod_struct Try.underlying55 h
  replace hl : cs.length = 2 := hl.trans (by kernel_rfl)
  replace hx : xs.length = 2 := hx
  have h0 := hf 0 _ rfl
  rw [List.getElem?_eq_getElem (by omega)] at h0
  obtain ⟨y0, r0, q0⟩ := op4 w h0
  replace r0 : R2 (FC (mu0 w).F) _ ((cs.drop 0).take (Try.prog.cellsOf 4)) := r0
  rw [show Try.prog.cellsOf 4 = 1 by kernel_rfl] at r0
  have h1 := hf 1 _ rfl
  rw [List.getElem?_eq_getElem (by omega)] at h1
  obtain ⟨y1, r1, q1⟩ := op9 w h1
  replace r1 : R2 (FC (mu0 w).F) _ ((cs.drop 1).take (Try.prog.cellsOf 9)) := r1
  rw [show Try.prog.cellsOf 9 = 1 by kernel_rfl] at r1
  have d1 : cs.drop 1 = (cs.drop 1).take 1 := dlast (by omega)
  have d0 : cs.drop 0 = (cs.drop 0).take 1 ++ _ := (dpiece (b := 1) rfl).trans (congrArg _ d1)
  refine ⟨⟨y0, y1⟩, ?_, q0, q1⟩
  rw [show cs = cs.drop 0 from rfl, d0]
  exact (R2.append r0 r1)
abbrev Q57 (y : Change) : Prop := (Lit.int .i64 y.page).wf = true ∧ (Lit.int .i64 y.slot).wf = true ∧ Q55 (y.before) ∧ Q55 (y.after)
theorem op57 (w : World) : Opn Try.prog w 57 Change.cs Q57 := by
  intro H enc base spare held fuel cs x h
  obtain ⟨xs, n, _, _, hl, hx, hf⟩ := DataW.trod_struct Try.underlying57 h
  replace hl : cs.length = 6 := hl.trans (by kernel_rfl)
  replace hx : xs.length = 4 := hx
  have h0 := hf 0 _ rfl
  rw [List.getElem?_eq_getElem (by omega)] at h0
  obtain ⟨y0, r0, q0⟩ := op3 w h0
  replace r0 : R2 (FC (mu0 w).F) _ ((cs.drop 0).take (Try.prog.cellsOf 3)) := r0
  rw [show Try.prog.cellsOf 3 = 1 by kernel_rfl] at r0
  have h1 := hf 1 _ rfl
  rw [List.getElem?_eq_getElem (by omega)] at h1
  obtain ⟨y1, r1, q1⟩ := op3 w h1
  replace r1 : R2 (FC (mu0 w).F) _ ((cs.drop 1).take (Try.prog.cellsOf 3)) := r1
  rw [show Try.prog.cellsOf 3 = 1 by kernel_rfl] at r1
  have h2 := hf 2 _ rfl
  rw [List.getElem?_eq_getElem (by omega)] at h2
  obtain ⟨y2, r2, q2⟩ := op55 w h2
  replace r2 : R2 (FC (mu0 w).F) _ ((cs.drop 2).take (Try.prog.cellsOf 55)) := r2
  rw [show Try.prog.cellsOf 55 = 2 by kernel_rfl] at r2
  have h3 := hf 3 _ rfl
  rw [List.getElem?_eq_getElem (by omega)] at h3
  obtain ⟨y3, r3, q3⟩ := op55 w h3
  replace r3 : R2 (FC (mu0 w).F) _ ((cs.drop 4).take (Try.prog.cellsOf 55)) := r3
  rw [show Try.prog.cellsOf 55 = 2 by kernel_rfl] at r3
  have d3 : cs.drop 4 = (cs.drop 4).take 2 := dlast (by omega)
  have d2 : cs.drop 2 = (cs.drop 2).take 2 ++ _ := (dpiece (b := 4) rfl).trans (congrArg _ d3)
  have d1 : cs.drop 1 = (cs.drop 1).take 1 ++ _ := (dpiece (b := 2) rfl).trans (congrArg _ d2)
  have d0 : cs.drop 0 = (cs.drop 0).take 1 ++ _ := (dpiece (b := 1) rfl).trans (congrArg _ d1)
  refine ⟨⟨y0, y1, y2, y3⟩, ?_, q0, q1, q2, q3⟩
  rw [show cs = cs.drop 0 from rfl, d0]
  exact (R2.append r0 (R2.append r1 (R2.append r2 r3)))
abbrev Q59 (y : AEntry) : Prop := (Lit.int .i64 y.lsn).wf = true ∧ (Lit.int .i64 y.kind_).wf = true ∧ (Lit.int .i64 y.tx).wf = true ∧ (Lit.int .i64 y.prevTx).wf = true ∧ (Lit.int .i64 y.prevPage).wf = true ∧ (Lit.int .i64 y.ref).wf = true ∧ Q57 (y.change) ∧ (y.blob).size ≤ maxLen
theorem op59 (w : World) : Opn Try.prog w 59 AEntry.cs Q59 := by
  intro H enc base spare held fuel cs x h
  obtain ⟨xs, n, _, _, hl, hx, hf⟩ := DataW.trod_struct Try.underlying59 h
  replace hl : cs.length = 13 := hl.trans (by kernel_rfl)
  replace hx : xs.length = 8 := hx
  have h0 := hf 0 _ rfl
  rw [List.getElem?_eq_getElem (by omega)] at h0
  obtain ⟨y0, r0, q0⟩ := op3 w h0
  replace r0 : R2 (FC (mu0 w).F) _ ((cs.drop 0).take (Try.prog.cellsOf 3)) := r0
  rw [show Try.prog.cellsOf 3 = 1 by kernel_rfl] at r0
  have h1 := hf 1 _ rfl
  rw [List.getElem?_eq_getElem (by omega)] at h1
  obtain ⟨y1, r1, q1⟩ := op3 w h1
  replace r1 : R2 (FC (mu0 w).F) _ ((cs.drop 1).take (Try.prog.cellsOf 3)) := r1
  rw [show Try.prog.cellsOf 3 = 1 by kernel_rfl] at r1
  have h2 := hf 2 _ rfl
  rw [List.getElem?_eq_getElem (by omega)] at h2
  obtain ⟨y2, r2, q2⟩ := op3 w h2
  replace r2 : R2 (FC (mu0 w).F) _ ((cs.drop 2).take (Try.prog.cellsOf 3)) := r2
  rw [show Try.prog.cellsOf 3 = 1 by kernel_rfl] at r2
  have h3 := hf 3 _ rfl
  rw [List.getElem?_eq_getElem (by omega)] at h3
  obtain ⟨y3, r3, q3⟩ := op3 w h3
  replace r3 : R2 (FC (mu0 w).F) _ ((cs.drop 3).take (Try.prog.cellsOf 3)) := r3
  rw [show Try.prog.cellsOf 3 = 1 by kernel_rfl] at r3
  have h4 := hf 4 _ rfl
  rw [List.getElem?_eq_getElem (by omega)] at h4
  obtain ⟨y4, r4, q4⟩ := op3 w h4
  replace r4 : R2 (FC (mu0 w).F) _ ((cs.drop 4).take (Try.prog.cellsOf 3)) := r4
  rw [show Try.prog.cellsOf 3 = 1 by kernel_rfl] at r4
  have h5 := hf 5 _ rfl
  rw [List.getElem?_eq_getElem (by omega)] at h5
  obtain ⟨y5, r5, q5⟩ := op3 w h5
  replace r5 : R2 (FC (mu0 w).F) _ ((cs.drop 5).take (Try.prog.cellsOf 3)) := r5
  rw [show Try.prog.cellsOf 3 = 1 by kernel_rfl] at r5
  have h6 := hf 6 _ rfl
  rw [List.getElem?_eq_getElem (by omega)] at h6
  obtain ⟨y6, r6, q6⟩ := op57 w h6
  replace r6 : R2 (FC (mu0 w).F) _ ((cs.drop 6).take (Try.prog.cellsOf 57)) := r6
  rw [show Try.prog.cellsOf 57 = 6 by kernel_rfl] at r6
  have h7 := hf 7 _ rfl
  rw [List.getElem?_eq_getElem (by omega)] at h7
  obtain ⟨y7, r7, q7⟩ := op9 w h7
  replace r7 : R2 (FC (mu0 w).F) _ ((cs.drop 12).take (Try.prog.cellsOf 9)) := r7
  rw [show Try.prog.cellsOf 9 = 1 by kernel_rfl] at r7
  have d7 : cs.drop 12 = (cs.drop 12).take 1 := dlast (by omega)
  have d6 : cs.drop 6 = (cs.drop 6).take 6 ++ _ := (dpiece (b := 12) rfl).trans (congrArg _ d7)
  have d5 : cs.drop 5 = (cs.drop 5).take 1 ++ _ := (dpiece (b := 6) rfl).trans (congrArg _ d6)
  have d4 : cs.drop 4 = (cs.drop 4).take 1 ++ _ := (dpiece (b := 5) rfl).trans (congrArg _ d5)
  have d3 : cs.drop 3 = (cs.drop 3).take 1 ++ _ := (dpiece (b := 4) rfl).trans (congrArg _ d4)
  have d2 : cs.drop 2 = (cs.drop 2).take 1 ++ _ := (dpiece (b := 3) rfl).trans (congrArg _ d3)
  have d1 : cs.drop 1 = (cs.drop 1).take 1 ++ _ := (dpiece (b := 2) rfl).trans (congrArg _ d2)
  have d0 : cs.drop 0 = (cs.drop 0).take 1 ++ _ := (dpiece (b := 1) rfl).trans (congrArg _ d1)
  refine ⟨⟨y0, y1, y2, y3, y4, y5, y6, y7⟩, ?_, q0, q1, q2, q3, q4, q5, q6, q7⟩
  rw [show cs = cs.drop 0 from rfl, d0]
  exact (R2.append r0 (R2.append r1 (R2.append r2 (R2.append r3 (R2.append r4 (R2.append r5 (R2.append r6 r7)))))))
end
theorem walk (w : World) (a0 : Option Addr) (len0 cap0 : Nat) (z0 : List Int) (v1 : Value) (y1 : List Rv.Tx) (v2 : Value) (y2 : Rv.AEntry) (a3 : Int) (w0 : Rv.IsRow .u8 w a0 len0 cap0 z0) (r1 : Rv.RV (Rv.mu0 w) (.o (.c (Rv.Cell.L 6 (y1.map Rv.Tx.cs)))) v1) (q1 : Q92 y1) (r2 : Rv.RV (Rv.mu0 w) (.o (.agg (Rv.AEntry.cs y2))) v2) (q2 : Q59 y2) (w3 : (Lit.int .i64 a3).wf = true) :
    Calls Try.prog 13 #[.slice a0 len0 cap0, v1, v2, .int .i64 a3] w fun e w' => e = .returned (.bool true) ∧ Below w.heap.size w w' := by
  have hm := Rv.law12_TransactionsExact_true (z0.take len0) y1 y2 a3 (Rv.row_wf w0) q1 w3
  exact Rv.row_calls (us := [.slice a0 len0 cap0, v1, v2, .int .i64 a3]) (Rv.law12_TransactionsExact_ok (h := []) hm) (Rv.R2.cons (Rv.row_ints w0) (Rv.R2.cons r1 (Rv.R2.cons r2 (Rv.R2.cons Rv.row_int (Rv.R2.nil _)))))
set_option maxRecDepth 100000 in
theorem lifted (os : Os) (started : os.Started) (H : Type) (enc : TypeId × Value → H) :
    ReturnsInHanded {} Try.checked os 13 .any (Rows.transactionsExactSpec.pre6 enc Try.prog Try.f13 Rows.transactionsExactRow.domain false) (Rows.transactionsExactSpec.post enc Try.prog Try.f13 false true false false) := by
  refine returnsInHanded_of_change_sized (C := Try.checked) own started (by kernel_rfl) Try.func13
    (ChangeSpec.witness6 (enc := enc) (C := Try.checked) false ⟨#[], #[.slice none 0 0, .slice none 0 0, .agg #[.int .i64 0, .int .i64 0, .int .i64 0, .int .i64 0, .int .i64 0, .int .i64 0, .int .i64 0, .int .i64 0, .bool false, .string ByteArray.empty, .bool false, .string ByteArray.empty, .string ByteArray.empty], .int .i64 0], []⟩ 8 (by kernel_rfl) (by kernel_rfl) (by kernel_rfl) (by kernel_rfl)) ?_
  intro W base args ds gs before hval0 hW hcnd hsz0 _
  have hsz : (DataW.weightsEach Try.prog (Try.f13.params.toList ++ Rows.transactionsExactSpec.plain.varTypes Try.prog) (ds ++ gs)).all (· ≤ reachBytes) = true := hsz0
  have hval : ∀ (j : Nat) t v, Try.f13.params[j]? = some t → args[j]? = some v → Value.okWide Try.prog W .any base t v := hval0
  have hW' := hW
  obtain ⟨p, q, hA0, hV, rfl, hfz, hnd⟩ := hW
  have hA : DataW.TrodAll enc Try.prog W 0 (fun _ => true) true Try.f13.params.toList args.toList ds p := hA0
  rw [Try.params13] at hA hval hsz
  obtain ⟨v0, vs0, d0, ds0, p0, q0, hargs, rfl, rfl, h0, r0⟩ := trodAll_cons hA
  obtain ⟨v1, vs1, d1, ds1, p1, q1, rfl, rfl, rfl, h1, r1⟩ := trodAll_cons r0
  obtain ⟨v2, vs2, d2, ds2, p2, q2, rfl, rfl, rfl, h2, r2⟩ := trodAll_cons r1
  obtain ⟨v3, vs3, d3, ds3, p3, q3, rfl, rfl, rfl, h3, r3⟩ := trodAll_cons r2
  obtain ⟨rfl, rfl, rfl⟩ := trodAll_nil r3
  obtain rfl : args = #[v0, v1, v2, v3] := by cases args; simp_all
  obtain ⟨rfl, rfl⟩ := trodVars_none hV
  obtain ⟨a0, len0, cap0, rfl⟩ := okWide_slice Try.underlying22 (hval 0 22 v0 rfl rfl)
  have k0 := h0
  have lt0 : ∀ x ∈ p0, x.block < W.heap.size := by obtain ⟨m, hm⟩ := k0; exact DataW.trod_lt m _ _ _ hm
  obtain ⟨z0, w0⟩ : ∃ zs, Rv.IsRow .u8 W a0 len0 cap0 zs := by
    obtain ⟨fuel, hf⟩ := h0
    rcases open_ints Try.underlying22 Try.underlying5 (by kernel_rfl) hf with ⟨hcs, _⟩ | ⟨x, l, c, zs, hcs, _, hl, hm, hz, _, hcell, hwz⟩
    · simp [Value.cells] at hcs
      obtain ⟨rfl, rfl, rfl⟩ := hcs
      exact ⟨[], .inl ⟨rfl, rfl, rfl, rfl⟩⟩
    · simp [Value.cells] at hcs
      obtain ⟨rfl, rfl, rfl⟩ := hcs
      exact ⟨zs, .inr ⟨_, rfl, hl, hm, by simpa using hz, hcell, hwz⟩⟩
  obtain ⟨a1, len1, cap1, rfl⟩ := okWide_slice Try.underlying92 (hval 1 92 v1 rfl rfl)
  have k1 := h1
  have lt1 : ∀ x ∈ p1, x.block < W.heap.size := by obtain ⟨m, hm⟩ := k1; exact DataW.trod_lt m _ _ _ hm
  obtain ⟨y1, w1, q1⟩ : ∃ y, Rv.R2 (Rv.FC (Rv.mu0 W).F) ([Rv.Cell.L 6 (y.map Rv.Tx.cs)]) [.slice a1 len1 cap1] ∧ Q92 y := by obtain ⟨fuel, hf⟩ := h1; exact op92 W hf
  obtain ⟨us2, rfl, _⟩ := okWide_struct Try.underlying59 (hval 2 59 v2 rfl rfl)
  have k2 := h2
  have lt2 : ∀ x ∈ p2, x.block < W.heap.size := by obtain ⟨m, hm⟩ := k2; exact DataW.trod_lt m _ _ _ hm
  obtain ⟨y2, w2, q2⟩ : ∃ y, Rv.R2 (Rv.FC (Rv.mu0 W).F) (Rv.AEntry.cs y) us2.toList ∧ Q59 y := by obtain ⟨fuel, hf⟩ := h2; exact op59 W hf
  obtain ⟨a3, rfl, rfl, rfl, w3⟩ := open_int Try.underlying3 (hval 3 3 v3 rfl rfl) h3
  clear hA0 hval0 hsz0 hsz
  refine (walk W a0 len0 cap0 z0 _ y1 _ y2 a3 w0 (Rv.op_one w1) q1 (Rv.op_agg w2) q2 w3).mono fun e W' ⟨he, bel⟩ => ?_
  subst he
  exact ⟨_, rfl, _, _, _, [], _, [], hW', trodAll_mk1 (shut_bool Try.underlying4 _), (trodAll_cons_mk (Below.trod laidOut (by kernel_rfl) (of_decide_eq_true (by kernel_rfl)) k0 bel lt0) (trodAll_cons_mk (Below.trod laidOut (by kernel_rfl) (of_decide_eq_true (by kernel_rfl)) k1 bel lt1) (trodAll_cons_mk (Below.trod laidOut (by kernel_rfl) (of_decide_eq_true (by kernel_rfl)) k2 bel lt2) (trodAll_cons_mk (shut_int Try.underlying3 w3) trodAll_mk0)))), rfl, bel.frame _, fun h => by cases h⟩
theorem over : Rows.transactionsExactRow.holds Try.pinned (OpenSpec.ofChange Rows.transactionsExactSpec) :=
  OpenClaim.holds_of_wide 13 Try.f13 rfl rfl rfl rfl rfl rfl rfl ⟨rfl, rfl, rfl, rfl, rfl⟩ rfl rfl rfl rfl rfl (by kernel_rfl) Try.func13 (by kernel_rfl)
    (of_decide_eq_true (by kernel_rfl)) (by unfold Func.isWrapper; first | (rw [if_pos (by decide +kernel)]; kernel_rfl) | (rw [if_neg (by decide +kernel)]; exact ⟨rfl, rfl⟩))
    (fun os started H enc _ => lifted os started H enc)
theorem proved : Rows.TransactionsExactSaid := over
end Go.Proofs.Ytnlpkgamglhnbaa.transactionsExact
namespace Go.Proofs.Ytnlpkgamglhnbaa
/-- The row, under a short name, for the claim. -/
theorem transactionsExact_holds : Rows.TransactionsExactSaid := transactionsExact.proved
end Go.Proofs.Ytnlpkgamglhnbaa

