import Derived.Test.YtnlpkgamglhnbaaRvLaw12z
import Derived.Test.YtnlpkgamglhnbaaRvLaw12d
set_option linter.unusedVariables false
set_option linter.unusedSimpArgs false
namespace Rv
open Go Go.RowKit Go.Proofs
theorem bo4 : boT Try.prog 4 = true := by decide +kernel
theorem el50 : ElF Try.prog 50 13 := .of (by decide +kernel)
theorem el96 : ElF Try.prog 96 1 := .of (by decide +kernel)
theorem is50 : isSliceT Try.prog 50 = true := by decide +kernel
theorem is96 : isSliceT Try.prog 96 = true := by decide +kernel
theorem nl50 : nlT Try.prog 50 = [] := by kernel_rfl
theorem nl96 : nlT Try.prog 96 = [] := by kernel_rfl
theorem pl17 : plainFn Try.prog 17 = true := by decide +kernel
theorem pl62 : plainFn Try.prog 62 = true := by decide +kernel
theorem pl63 : plainFn Try.prog 63 = true := by decide +kernel
theorem pl64 : plainFn Try.prog 64 = true := by decide +kernel
theorem pl70 : plainFn Try.prog 70 = true := by decide +kernel
theorem pl79 : plainFn Try.prog 79 = true := by decide +kernel
theorem slt50 : SlT Try.prog 50 13 ([.v (.int .i64 0)] ++ [.v (.int .i64 0)] ++ [.v (.int .i64 0)] ++ [.v (.int .i64 0)] ++ [.v (.int .i64 0)] ++ [.v (.int .i64 0)] ++ [.v (.int .i64 0)] ++ [.v (.int .i64 0)] ++ [Bo false] ++ [.v (.string ⟨#[]⟩)] ++ [Bo false] ++ [.v (.string ⟨#[]⟩)] ++ [.v (.string ⟨#[]⟩)]) 128 := .of (e := 59) (by decide +kernel) (by kernel_rfl) rfl
theorem slt96 : SlT Try.prog 96 1 ([.v (.slice none 0 0)]) 24 := .of (e := 92) (by decide +kernel) (by kernel_rfl) rfl
def law12_back (x_ : (List Tx)) (k_ : Int) (save : Int) : Option Bool := ((transactions_Back x_ k_ save).bind fun (x1 : ((List Tx) × Int)) => ((ref12_Back x_ k_ save).bind fun (x2 : ((List Tx) × Int)) => (if x1.2 = x2.2 then ((ref12_Same x1.1 x2.1).bind fun (x4 : Bool) => some x4) else some false)))
theorem law12_back_ok {h : Heap} {x_ : (List Tx)} {k_ : Int} {save : Int}   {r : Bool} (hm : law12_back x_ k_ save = some r) : FnOK Try.prog 79 [.o (.c (.L 6 (x_.map Tx.cs))), VI (k_), VI (save)] h (fun v h' => v = VB (r) ∧ h' = h) := by
 refine FnOK.fin ?_
 refine FnOK.bodyC (N := 33) Try.func79 rfl rfl rfl (fun hC => ?_)
 replace hm := Ev.of hm
 rw [law12_back.eq_1] at hm
 show CdOK _ _ _ (look _ [(0, .o (.c (.L 6 (x_.map Tx.cs)))), (1, VI (k_)), (2, VI (save))]) (h ++ ([] : Heap)) _
 refine .seq (.region (.t (VB (false)) (e_as rfl) ?_))
 refine .nil (CdOK.seq (.region ?_))
 iterate 3 refine .m rfl ?_
 obtain ⟨x1, e1, hm⟩ := hm.call
 refine .cl rfl rfl rfl rfl pl131 (R2.wk _) (transactions_Back_ok    e1) ?_
 rintro _ _ ⟨rfl, rfl⟩
 refine .m rfl ?_
 refine .t (.o (.c (.L 6 (x1.1.map Tx.cs)))) (e_ext (ev_t rfl) rfl) ?_
 refine .t (VI (x1.2)) (e_ext (ev_t rfl) rfl) ?_
 iterate 2 refine .a rfl ?_
 refine .nil (CdOK.seq (.region ?_))
 iterate 3 refine .m rfl ?_
 obtain ⟨x2, e2, hm⟩ := hm.call
 refine .cl rfl rfl rfl rfl pl132 (R2.wk _) (ref12_Back_ok    e2) ?_
 rintro _ _ ⟨rfl, rfl⟩
 refine .m rfl ?_
 refine .t (.o (.c (.L 6 (x2.1.map Tx.cs)))) (e_ext (ev_t rfl) rfl) ?_
 refine .t (VI (x2.2)) (e_ext (ev_t rfl) rfl) ?_
 iterate 2 refine .a rfl ?_
 refine .nil (CdOK.seq (.region ?_))
 iterate 2 refine .m rfl ?_
 refine .sd rfl rfl rfl (e_eqK (ev_t rfl) (ev_t rfl)) ?_ ?_
 ·intro c3; replace hm := hm.ifp c3
  iterate 3 refine .m rfl ?_
  obtain ⟨x4, e4, hm⟩ := hm.call
  refine .cl rfl rfl rfl rfl pl70 (R2.wk _) (ref12_Same_ok    e4) ?_
  rintro _ _ ⟨rfl, rfl⟩
  refine .t (VB (x4)) (e_pick (t := true) (ev_t rfl) (ev_t rfl)) ?_
  refine .a rfl ?_
  refine .nil ?_
  refine CdOK.ret ?_
  refine ⟨.inr rfl, _, rfl, h, _, _, rfl, rfl, hC, ((renFlV rfl) : RenV _ _ _ _ (VB (x4))), ?_⟩
  cases hm.ret; exact ⟨rfl, rfl⟩
 intro c5; replace hm := hm.ifn c5
 refine .m rfl ?_
 iterate 3 refine .k ?_
 refine .t (VB (false)) (e_pick (t := false) (ev_t rfl) rfl) ?_
 refine .a rfl ?_
 refine .nil ?_
 refine CdOK.ret ?_
 refine ⟨.inr rfl, _, rfl, h, _, _, rfl, rfl, hC, ((renFlV rfl) : RenV _ _ _ _ (VB (false))), ?_⟩
 cases hm.ret; exact ⟨rfl, rfl⟩
def law12_TransactionsExact.l2 (raw : (List Tx)) (e_ : AEntry) (x5 : ((List Tx) × Int × Codes)) (x6 : ((List Tx) × Codes)) (t507 : Int) (x17 : (AEntry × Codes)) (x19 : (AEntry × Codes)) : Nat → Int → Option (Sum Unit Bool)
  | 0, _ => none
  | kk21 + 1, t7820 => (if t7820 < (([e_, x17.1, x19.1] : List AEntry).length : Int) then (if (0 : Int) ≤ t7820 ∧ t7820 < (([e_, x17.1, x19.1] : List AEntry).length : Int) then ((transactions_Note (gd ([raw, x5.1, x6.1] : List (List Tx)) t507) (⟨(gd ([e_, x17.1, x19.1] : List AEntry) t7820).lsn, (gd ([e_, x17.1, x19.1] : List AEntry) t7820).kind_, (gd ([e_, x17.1, x19.1] : List AEntry) t7820).tx, (gd ([e_, x17.1, x19.1] : List AEntry) t7820).prevTx, (gd ([e_, x17.1, x19.1] : List AEntry) t7820).prevPage, (gd ([e_, x17.1, x19.1] : List AEntry) t7820).ref, (⟨(gd ([e_, x17.1, x19.1] : List AEntry) t7820).change.page, (gd ([e_, x17.1, x19.1] : List AEntry) t7820).change.slot, (⟨(gd ([e_, x17.1, x19.1] : List AEntry) t7820).change.before.set_, (gd ([e_, x17.1, x19.1] : List AEntry) t7820).change.before.data⟩ : ACell), (⟨(gd ([e_, x17.1, x19.1] : List AEntry) t7820).change.after.set_, (gd ([e_, x17.1, x19.1] : List AEntry) t7820).change.after.data⟩ : ACell)⟩ : Change), (gd ([e_, x17.1, x19.1] : List AEntry) t7820).blob⟩ : AEntry)).bind fun (x24 : ((List Tx) × Int)) => ((ref12_Note (gd ([raw, x5.1, x6.1] : List (List Tx)) t507) (⟨(gd ([e_, x17.1, x19.1] : List AEntry) t7820).lsn, (gd ([e_, x17.1, x19.1] : List AEntry) t7820).kind_, (gd ([e_, x17.1, x19.1] : List AEntry) t7820).tx, (gd ([e_, x17.1, x19.1] : List AEntry) t7820).prevTx, (gd ([e_, x17.1, x19.1] : List AEntry) t7820).prevPage, (gd ([e_, x17.1, x19.1] : List AEntry) t7820).ref, (⟨(gd ([e_, x17.1, x19.1] : List AEntry) t7820).change.page, (gd ([e_, x17.1, x19.1] : List AEntry) t7820).change.slot, (⟨(gd ([e_, x17.1, x19.1] : List AEntry) t7820).change.before.set_, (gd ([e_, x17.1, x19.1] : List AEntry) t7820).change.before.data⟩ : ACell), (⟨(gd ([e_, x17.1, x19.1] : List AEntry) t7820).change.after.set_, (gd ([e_, x17.1, x19.1] : List AEntry) t7820).change.after.data⟩ : ACell)⟩ : Change), (gd ([e_, x17.1, x19.1] : List AEntry) t7820).blob⟩ : AEntry)).bind fun (x25 : ((List Tx) × Int)) => (if x24.2 ≠ x25.2 then some (Sum.inr false) else ((ref12_Same x24.1 x25.1).bind fun (x28 : Bool) => (if (!x28) = true then some (Sum.inr false) else law12_TransactionsExact.l2 raw e_ x5 x6 t507 x17 x19 kk21 (w64 (t7820 + 1))))))) else none) else some (Sum.inl ()))
def law12_TransactionsExact.l3 (raw : (List Tx)) (id_ : Int) (x5 : ((List Tx) × Int × Codes)) (x6 : ((List Tx) × Codes)) (t507 : Int) (x33 : (Int × Codes)) : Nat → Int → Option (Sum Unit Bool)
  | 0, _ => none
  | kk35 + 1, t11034 => (if t11034 < (([id_, (w64 (1 + x33.1))] : List Int).length : Int) then (if (0 : Int) ≤ t11034 ∧ t11034 < (([id_, (w64 (1 + x33.1))] : List Int).length : Int) then ((transactions_Begin (gd ([raw, x5.1, x6.1] : List (List Tx)) t507) (gd ([id_, (w64 (1 + x33.1))] : List Int) t11034)).bind fun (x38 : ((List Tx) × Int)) => ((ref12_Begin (gd ([raw, x5.1, x6.1] : List (List Tx)) t507) (gd ([id_, (w64 (1 + x33.1))] : List Int) t11034)).bind fun (x39 : ((List Tx) × Int)) => (if x38.2 ≠ x39.2 then some (Sum.inr false) else ((ref12_Same x38.1 x39.1).bind fun (x42 : Bool) => (if x42 = true then ((transactions_Find (gd ([raw, x5.1, x6.1] : List (List Tx)) t507) (gd ([id_, (w64 (1 + x33.1))] : List Int) t11034)).bind fun (x43 : Int) => ((ref12_Find (gd ([raw, x5.1, x6.1] : List (List Tx)) t507) (gd ([id_, (w64 (1 + x33.1))] : List Int) t11034)).bind fun (x44 : Int) => (if x43 ≠ x44 then some (Sum.inr false) else ((transactions_Remove (gd ([raw, x5.1, x6.1] : List (List Tx)) t507) (gd ([id_, (w64 (1 + x33.1))] : List Int) t11034)).bind fun (x47 : (List Tx)) => ((ref12_Remove (gd ([raw, x5.1, x6.1] : List (List Tx)) t507) (gd ([id_, (w64 (1 + x33.1))] : List Int) t11034)).bind fun (x48 : (List Tx)) => ((ref12_Same x47 x48).bind fun (x49 : Bool) => (if (!x49) = true then some (Sum.inr false) else ((transactions_Save (gd ([raw, x5.1, x6.1] : List (List Tx)) t507) (gd ([id_, (w64 (1 + x33.1))] : List Int) t11034)).bind fun (x52 : ((List Tx) × Int)) => ((ref12_Save (gd ([raw, x5.1, x6.1] : List (List Tx)) t507) (gd ([id_, (w64 (1 + x33.1))] : List Int) t11034)).bind fun (x53 : ((List Tx) × Int)) => (if x52.2 ≠ x53.2 then some (Sum.inr false) else ((ref12_Same x52.1 x53.1).bind fun (x56 : Bool) => (if (!x56) = true then some (Sum.inr false) else ((law12_back (gd ([raw, x5.1, x6.1] : List (List Tx)) t507) (gd ([id_, (w64 (1 + x33.1))] : List Int) t11034) id_).bind fun (x59 : Bool) => (if x59 = true then ((law12_back (gd ([raw, x5.1, x6.1] : List (List Tx)) t507) (gd ([id_, (w64 (1 + x33.1))] : List Int) t11034) 0).bind fun (x60 : Bool) => (if x60 = true then ((law12_back (gd ([raw, x5.1, x6.1] : List (List Tx)) t507) (gd ([id_, (w64 (1 + x33.1))] : List Int) t11034) 1).bind fun (x61 : Bool) => (if (!x61) = true then some (Sum.inr false) else law12_TransactionsExact.l3 raw id_ x5 x6 t507 x33 kk35 (w64 (t11034 + 1)))) else some (Sum.inr false))) else some (Sum.inr false))))))))))))))) else some (Sum.inr false)))))) else none) else some (Sum.inl ()))
def law12_TransactionsExact.l1 (raw : (List Tx)) (e_ : AEntry) (id_ : Int) (x5 : ((List Tx) × Int × Codes)) (x6 : ((List Tx) × Codes)) : Nat → Int → Codes → Option (Sum Unit Bool)
  | 0, _, _ => none
  | kk9 + 1, t507, bx8 => (if t507 < (([raw, x5.1, x6.1] : List (List Tx)).length : Int) then (if (0 : Int) ≤ t507 ∧ t507 < (([raw, x5.1, x6.1] : List (List Tx)).length : Int) then ((transactions_Valid (gd ([raw, x5.1, x6.1] : List (List Tx)) t507)).bind fun (x12 : Bool) => ((ref12_Valid (gd ([raw, x5.1, x6.1] : List (List Tx)) t507)).bind fun (x13 : Bool) => (if (!(x12 == x13)) = true then some (Sum.inr false) else ((Codes_Next 4 bx8).bind fun (x16 : (Int × Codes)) => ((law12_next x5.1 (w64 (1 + x16.1)) (w64 (x5.2.1 + 1)) x16.2).bind fun (x17 : (AEntry × Codes)) => ((Codes_Next 4 x17.2).bind fun (x18 : (Int × Codes)) => ((law12_next x5.1 (w64 (1 + x18.1)) (w64 (x5.2.1 + 1)) x18.2).bind fun (x19 : (AEntry × Codes)) => ((law12_TransactionsExact.l2 raw e_ x5 x6 t507 x17 x19 FU 0).bind fun (z : Sum Unit Bool) => match z with | .inl (s32 : Unit) => ((Codes_Next 5 x19.2).bind fun (x33 : (Int × Codes)) => ((law12_TransactionsExact.l3 raw id_ x5 x6 t507 x33 FU 0).bind fun (z : Sum Unit Bool) => match z with | .inl (s65 : Unit) => law12_TransactionsExact.l1 raw e_ id_ x5 x6 kk9 (w64 (t507 + 1)) x33.2 | .inr r => some (Sum.inr r))) | .inr r => some (Sum.inr r))))))))) else none) else some (Sum.inl ()))
def law12_TransactionsExact (codes : (List Int)) (raw : (List Tx)) (e_ : AEntry) (id_ : Int) : Option Bool := ((law12_awake ).bind fun (x1 : Bool) => (if x1 = true then (if 30 < (raw.length : Int) then some (decide (30 < (raw.length : Int))) else ((New codes 260).bind fun (x4 : Codes) => ((law12_table x4).bind fun (x5 : ((List Tx) × Int × Codes)) => ((law12_odd x5.1 x5.2.2).bind fun (x6 : ((List Tx) × Codes)) => ((law12_TransactionsExact.l1 raw e_ id_ x5 x6 FU 0 x6.2).bind fun (z : Sum Unit Bool) => match z with | .inl (s67 : Unit) => some true | .inr r => some r))))) else some (decide (30 < (raw.length : Int)))))
set_option maxHeartbeats 4000000 in
theorem law12_TransactionsExact_ok {h : Heap} {codes : (List Int)} {raw : (List Tx)} {e_ : AEntry} {id_ : Int}   {r : Bool} (hm : law12_TransactionsExact codes raw e_ id_ = some r) : FnOK Try.prog 13 [.o (.c (.L 1 (codes.map c_u8))), .o (.c (.L 6 (raw.map Tx.cs))), .o (.agg [I (e_.lsn), I (e_.kind_), I (e_.tx), I (e_.prevTx), I (e_.prevPage), I (e_.ref), I (e_.change.page), I (e_.change.slot), Bo (e_.change.before.set_), .v (.string e_.change.before.data), Bo (e_.change.after.set_), .v (.string e_.change.after.data), .v (.string e_.blob)]), VI (id_)] h (fun v h' => v = VB (r) ∧ h' = h) := by
 refine FnOK.fin ?_
 refine FnOK.bodyC (N := 194) Try.func13 rfl rfl rfl (fun hC => ?_)
 replace hm := Ev.of hm
 rw [law12_TransactionsExact.eq_1] at hm
 show CdOK _ _ _ (look _ [(0, .o (.c (.L 1 (codes.map c_u8)))), (1, .o (.c (.L 6 (raw.map Tx.cs)))), (2, .o (.agg [I (e_.lsn), I (e_.kind_), I (e_.tx), I (e_.prevTx), I (e_.prevPage), I (e_.ref), I (e_.change.page), I (e_.change.slot), Bo (e_.change.before.set_), .v (.string e_.change.before.data), Bo (e_.change.after.set_), .v (.string e_.change.after.data), .v (.string e_.blob)])), (3, VI (id_))]) (h ++ ([] : Heap)) _
 refine .seq (.region (.t (.o (.c (.ptr (h.length + 0) 0))) (e_boxN (L' := [⟨[I (e_.lsn), I (e_.kind_), I (e_.tx), I (e_.prevTx), I (e_.prevPage), I (e_.ref), I (e_.change.page), I (e_.change.slot), Bo (e_.change.before.set_), .v (.string e_.change.before.data), Bo (e_.change.after.set_), .v (.string e_.change.after.data), .v (.string e_.blob)], true, true⟩]) rfl (ev_t rfl) rfl rfl) ?_))
 refine .t (VB (false)) (e_as rfl) ?_
 refine .nil (CdOK.seq (.seq (.region ?_)))
 obtain ⟨x1, e1, hm⟩ := hm.call
 cases x1 with
 | true =>
  replace hm := hm.ifp rfl
  refine .cl rfl rfl rfl rfl pl62 (R2.wk _) (law12_awake_ok    e1) ?_
  rintro _ _ ⟨rfl, rfl⟩
  refine .t (VB (false)) (e_un (ev_t rfl) rfl) ?_
  iterate 2 refine .m rfl ?_
  refine .t (VI ((raw.length : Int))) (e_lenM (ev_t rfl) is92) ?_
  refine .t (VB (decide (30 < (raw.length : Int)))) (e_bin (ev_t rfl) rfl rfl rfl) ?_
  refine .t (VB (decide (30 < (raw.length : Int)))) (e_pick (t := false) (ev_t rfl) (ev_t rfl)) ?_
  refine .nil ?_
  refine CdOK.condD (ev_t rfl) ?_ ?_
  ·intro c2; replace hm := hm.ifp c2
   refine .seq (.region (.m rfl ?_))
   refine .t (VI ((raw.length : Int))) (e_lenM (ev_t rfl) is92) ?_
   refine .t (VB (decide (30 < (raw.length : Int)))) (e_bin (ev_t rfl) rfl rfl rfl) ?_
   refine .a rfl ?_
   refine .nil ?_
   refine CdOK.ret ?_
   refine ⟨.inr rfl, _, rfl, h, _, _, rfl, rfl, hC, ((renFlV rfl) : RenV _ _ _ _ (VB (decide (30 < (raw.length : Int))))), ?_⟩
   cases hm.ret; exact ⟨rfl, rfl⟩
  intro c3; replace hm := hm.ifn c3
  refine .skip ?_
  refine CdOK.seq (.region (.m rfl ?_))
  obtain ⟨x4, e4, hm⟩ := hm.call
  refine .cl rfl rfl rfl rfl pl17 (R2.wk _) (New_ok    e4) ?_
  rintro _ _ ⟨rfl, rfl⟩
  rw [show (h ++ ([⟨[I (e_.lsn), I (e_.kind_), I (e_.tx), I (e_.prevTx), I (e_.prevPage), I (e_.ref), I (e_.change.page), I (e_.change.slot), Bo (e_.change.before.set_), .v (.string e_.change.before.data), Bo (e_.change.after.set_), .v (.string e_.change.after.data), .v (.string e_.blob)], true, true⟩] : Heap)) ++ [⟨[.L 1 (x4.l_.map c_u8), I (x4.at_)], true, true⟩] = h ++ ([⟨[I (e_.lsn), I (e_.kind_), I (e_.tx), I (e_.prevTx), I (e_.prevPage), I (e_.ref), I (e_.change.page), I (e_.change.slot), Bo (e_.change.before.set_), .v (.string e_.change.before.data), Bo (e_.change.after.set_), .v (.string e_.change.after.data), .v (.string e_.blob)], true, true⟩, ⟨[.L 1 (x4.l_.map c_u8), I (x4.at_)], true, true⟩] : Heap) from apnd rfl, show (h ++ ([⟨[I (e_.lsn), I (e_.kind_), I (e_.tx), I (e_.prevTx), I (e_.prevPage), I (e_.ref), I (e_.change.page), I (e_.change.slot), Bo (e_.change.before.set_), .v (.string e_.change.before.data), Bo (e_.change.after.set_), .v (.string e_.change.after.data), .v (.string e_.blob)], true, true⟩] : Heap) : Heap).length = h.length + 1 from lenN rfl rfl]
  refine .a rfl ?_
  refine .nil (CdOK.seq (.region (.m rfl ?_)))
  obtain ⟨x5, e5, hm⟩ := hm.call
  refine .cl rfl rfl rfl rfl pl63 (R2.wk _) (law12_table_ok  (b_c_ := (h.length + 1)) (bx rfl rfl) e5) ?_
  rintro _ _ ⟨rfl, rfl⟩
  rw [show _ = h ++ ([⟨[I (e_.lsn), I (e_.kind_), I (e_.tx), I (e_.prevTx), I (e_.prevPage), I (e_.ref), I (e_.change.page), I (e_.change.slot), Bo (e_.change.before.set_), .v (.string e_.change.before.data), Bo (e_.change.after.set_), .v (.string e_.change.after.data), .v (.string e_.blob)], true, true⟩, ⟨[.L 1 (x5.2.2.l_.map c_u8), I (x5.2.2.at_)], true, true⟩] : Heap) from (bset rfl rfl)]
  refine .m rfl ?_
  refine .t (.o (.c (.L 6 (x5.1.map Tx.cs)))) (e_ext (ev_t rfl) rfl) ?_
  refine .t (VI (x5.2.1)) (e_ext (ev_t rfl) rfl) ?_
  iterate 2 refine .a rfl ?_
  refine .nil (CdOK.seq (.seq (.region ?_)))
  iterate 4 refine .m rfl ?_
  obtain ⟨x6, e6, hm⟩ := hm.call
  refine .cl rfl rfl rfl rfl pl64 (R2.wk _) (law12_odd_ok  (b_c_ := (h.length + 1)) (bx rfl rfl) e6) ?_
  rintro _ _ ⟨rfl, rfl⟩
  rw [show _ = h ++ ([⟨[I (e_.lsn), I (e_.kind_), I (e_.tx), I (e_.prevTx), I (e_.prevPage), I (e_.ref), I (e_.change.page), I (e_.change.slot), Bo (e_.change.before.set_), .v (.string e_.change.before.data), Bo (e_.change.after.set_), .v (.string e_.change.after.data), .v (.string e_.blob)], true, true⟩, ⟨[.L 1 (x6.2.l_.map c_u8), I (x6.2.at_)], true, true⟩] : Heap) from (bset rfl rfl)]
  refine .t (.o (.c (.LC 1 (([raw, x5.1, x6.1] : List (List Tx)).map (cL 6 Tx.cs))))) (e_lit (cs := [.L 6 (raw.map Tx.cs), .L 6 (x5.1.map Tx.cs), .L 6 (x6.1.map Tx.cs)]) (xs := ([raw, x5.1, x6.1]).map (cL 6 Tx.cs)) slt96 nl96 rfl rfl rfl rfl rfl) ?_
  refine .t (VI ((([raw, x5.1, x6.1] : List (List Tx)).length : Int))) (e_lenMC (ev_t rfl) is96) ?_
  refine .t (VI (0)) (e_mv rfl) ?_
  refine .nil ?_
  replace hm := hm.bnd
  refine CdOK.joinT (σ := Unit) (fun s => Sum.inl ()) hm (fun s => []) (fun s => h ++ ([] : Heap)) ?_ ?_
  ·intro hm
   refine .block ?_
   refine .re (σ := [0, 1]) (X := [(3, VI (id_)), (6, .o (.c (.ptr (h.length + 0) 0))), (9, .o (.c (.ptr (h.length + 1) 0))), (10, .o (.c (.L 6 (x5.1.map Tx.cs)))), (11, VI (x5.2.1)), (48, .o (.c (.LC 1 (([raw, x5.1, x6.1] : List (List Tx)).map (cL 6 Tx.cs))))), (49, VI ((([raw, x5.1, x6.1] : List (List Tx)).length : Int))), (50, VI (0))]) (L' := [⟨[I (e_.lsn), I (e_.kind_), I (e_.tx), I (e_.prevTx), I (e_.prevPage), I (e_.ref), I (e_.change.page), I (e_.change.slot), Bo (e_.change.before.set_), .v (.string e_.change.before.data), Bo (e_.change.after.set_), .v (.string e_.change.after.data), .v (.string e_.blob)], true, true⟩, ⟨[.L 1 (x6.2.l_.map c_u8), I (x6.2.at_)], true, true⟩]) rfl rfl hC (by decide) (.obj 0 rfl (renFl rfl) (.obj 1 rfl (renFl rfl) .nil)) (.cons (renFlV rfl) (.cons (.o (.c (.ptr 0 0 _ rfl))) (.cons (.o (.c (.ptr 1 1 _ rfl))) (.cons (renFlV rfl) (.cons (renFlV rfl) (.cons (.o (.c (.fl _ rfl))) (.cons (renFlV rfl) (.cons (renFlV rfl) .nil)))))))) ?_
   refine .loopE (σ := (Int × Codes)) (fun k s => Ev (law12_TransactionsExact.l1 raw e_ id_ x5 x6 k s.1 s.2) _) (fun s => [(3, VI (id_)), (6, .o (.c (.ptr (h.length + 0) 0))), (9, .o (.c (.ptr (h.length + 1) 0))), (10, .o (.c (.L 6 (x5.1.map Tx.cs)))), (11, VI (x5.2.1)), (48, .o (.c (.LC 1 (([raw, x5.1, x6.1] : List (List Tx)).map (cL 6 Tx.cs))))), (49, VI ((([raw, x5.1, x6.1] : List (List Tx)).length : Int))), (50, VI (s.1))]) (fun s => h ++ ([⟨[I (e_.lsn), I (e_.kind_), I (e_.tx), I (e_.prevTx), I (e_.prevPage), I (e_.ref), I (e_.change.page), I (e_.change.slot), Bo (e_.change.before.set_), .v (.string e_.change.before.data), Bo (e_.change.after.set_), .v (.string e_.change.after.data), .v (.string e_.blob)], true, true⟩, ⟨[.L 1 (s.2.l_.map c_u8), I (s.2.at_)], true, true⟩] : Heap)) FU (0, x6.2) hm (.cons rfl (.cons rfl (.cons rfl (.cons rfl (.cons rfl (.cons rfl (.cons rfl (.cons rfl .nil)))))))) rfl ?_
   rintro kk9 ⟨t507, bx8⟩ T0 hm
   replace hm : Ev (law12_TransactionsExact.l1 raw e_ id_ x5 x6 kk9 t507 bx8) _ := hm
   cases kk9 with
   | zero => exact (Ev.non hm).elim
   | succ kk9 =>
   rw [law12_TransactionsExact.l1.eq_2] at hm
   show CdOK _ _ _ (look T0 [(3, VI (id_)), (6, .o (.c (.ptr (h.length + 0) 0))), (9, .o (.c (.ptr (h.length + 1) 0))), (10, .o (.c (.L 6 (x5.1.map Tx.cs)))), (11, VI (x5.2.1)), (48, .o (.c (.LC 1 (([raw, x5.1, x6.1] : List (List Tx)).map (cL 6 Tx.cs))))), (49, VI ((([raw, x5.1, x6.1] : List (List Tx)).length : Int))), (50, VI (t507))]) (h ++ ([⟨[I (e_.lsn), I (e_.kind_), I (e_.tx), I (e_.prevTx), I (e_.prevPage), I (e_.ref), I (e_.change.page), I (e_.change.slot), Bo (e_.change.before.set_), .v (.string e_.change.before.data), Bo (e_.change.after.set_), .v (.string e_.change.after.data), .v (.string e_.blob)], true, true⟩, ⟨[.L 1 (bx8.l_.map c_u8), I (bx8.at_)], true, true⟩] : Heap)) _
   refine .seq (.region (.t (VB (decide (t507 < (([raw, x5.1, x6.1] : List (List Tx)).length : Int)))) (e_bin (ev_t rfl) (ev_t rfl) rfl rfl) ?_))
   refine .nil (CdOK.seq ?_)
   refine .condD (ev_t rfl) ?_ ?_
   ·intro c10; replace hm := hm.ifp c10
    refine .skip ?_
    refine CdOK.seq ?_
    refine .block ?_
    refine .seq (.region ?_)
    obtain ⟨c11, hm⟩ := hm.ifs
    refine .t (.o (.c (.rp [.L 6 ((gd ([raw, x5.1, x6.1] : List (List Tx)) t507).map Tx.cs)]))) (e_ixMC (f := (cL 6 Tx.cs)) (l := ([raw, x5.1, x6.1] : List (List Tx))) (i := t507) (ev_t rfl) (ev_t rfl) el96 c11) ?_
    refine .t _ (e_ldR1 (ev_t rfl) ty92 rfl) ?_
    refine .a rfl ?_
    refine .nil (CdOK.seq (.seq (.region (.m rfl ?_))))
    obtain ⟨x12, e12, hm⟩ := hm.call
    refine .cl rfl rfl rfl rfl pl65 (R2.wk _) (transactions_Valid_ok    e12) ?_
    rintro _ _ ⟨rfl, rfl⟩
    refine .m rfl ?_
    obtain ⟨x13, e13, hm⟩ := hm.call
    refine .cl rfl rfl rfl rfl pl66 (R2.wk _) (ref12_Valid_ok    e13) ?_
    rintro _ _ ⟨rfl, rfl⟩
    refine .t (VB ((!(x12 == x13)))) (e_neB (ev_t rfl) (ev_t rfl) bo4) ?_
    refine .nil ?_
    refine CdOK.condB (ev_t rfl) ?_ ?_
    ·intro c14; replace hm := hm.ifp c14
     refine .seq (.region (.t (VB (false)) (e_as rfl) ?_))
     refine .nil ?_
     refine CdOK.ret ?_
     refine ⟨.inr rfl, _, rfl, h, _, _, rfl, rfl, hC, ((renFlV rfl) : RenV _ _ _ _ (VB (false))), ?_⟩
     have hr := hm.ret; replace hr := Ev.ret hr; cases hr; exact ⟨rfl, rfl⟩
    intro c15; replace hm := hm.ifn c15
    refine .skip ?_
    refine CdOK.seq (.seq ?_)
    refine .draw2 (ord := [0, 1, 2, 3, 6, 7, 9, 10, 11, 14, 15, 19, 4, 5, 8, 12, 13, 16, 17, 18]) (chain := [4, 8, 12, 16]) fol (by decide +kernel) (by decide +kernel) ?_
    refine .q _ (e_ldbA (ev_t rfl) ty59 (bx rfl rfl) rfl rfl) ?_
    refine .p (.o (.c (.ptr (h.length + 1) 0))) (e_mv (ev_t rfl)) ?_
    refine .p (.o (.c (.L 6 (x5.1.map Tx.cs)))) (e_mv (ev_t rfl)) ?_
    refine .p (.o (.c (.ptr (h.length + 1) 0))) (e_mv (ev_t rfl)) ?_
    refine .p (VI (x5.2.1)) (e_mv (ev_t rfl)) ?_
    refine .p (VI ((w64 (x5.2.1 + 1)))) (e_bin (ev_t rfl) rfl rfl rfl) ?_
    refine .p (.o (.c (.ptr (h.length + 1) 0))) (e_mv (ev_t rfl)) ?_
    refine .p (.o (.c (.L 6 (x5.1.map Tx.cs)))) (e_mv (ev_t rfl)) ?_
    refine .p (.o (.c (.ptr (h.length + 1) 0))) (e_mv (ev_t rfl)) ?_
    refine .p (VI (x5.2.1)) (e_mv (ev_t rfl)) ?_
    refine .p (VI ((w64 (x5.2.1 + 1)))) (e_bin (ev_t rfl) rfl rfl rfl) ?_
    refine .p (VI (0)) (e_mv rfl) ?_
    obtain ⟨x16, e16, hm⟩ := hm.call
    refine .cl rfl rfl rfl rfl rfl rfl pl32 (R2.wk _) (Codes_Next_ok  (b_c_ := (h.length + 1)) (bx rfl rfl) e16) ?_
    rintro _ _ ⟨rfl, rfl⟩
    rw [show _ = h ++ ([⟨[I (e_.lsn), I (e_.kind_), I (e_.tx), I (e_.prevTx), I (e_.prevPage), I (e_.ref), I (e_.change.page), I (e_.change.slot), Bo (e_.change.before.set_), .v (.string e_.change.before.data), Bo (e_.change.after.set_), .v (.string e_.change.after.data), .v (.string e_.blob)], true, true⟩, ⟨[.L 1 (x16.2.l_.map c_u8), I (x16.2.at_)], true, true⟩] : Heap) from (bset rfl rfl)]
    refine ⟨(.e rfl rfl (e_ldbA (ev_t rfl) ty59 (bx rfl rfl) rfl rfl) .nil), ?_⟩
    refine .p (VI ((w64 (1 + x16.1)))) (e_bin rfl (ev_t rfl) rfl rfl) ?_
    obtain ⟨x17, e17, hm⟩ := hm.call
    refine .cl rfl rfl rfl rfl rfl rfl pl67 (R2.wk _) (law12_next_ok  (b_c_ := (h.length + 1)) (bx rfl rfl) e17) ?_
    rintro _ _ ⟨rfl, rfl⟩
    rw [show _ = h ++ ([⟨[I (e_.lsn), I (e_.kind_), I (e_.tx), I (e_.prevTx), I (e_.prevPage), I (e_.ref), I (e_.change.page), I (e_.change.slot), Bo (e_.change.before.set_), .v (.string e_.change.before.data), Bo (e_.change.after.set_), .v (.string e_.change.after.data), .v (.string e_.blob)], true, true⟩, ⟨[.L 1 (x17.2.l_.map c_u8), I (x17.2.at_)], true, true⟩] : Heap) from (bset rfl rfl)]
    refine ⟨(.e rfl rfl (e_ldbA (ev_t rfl) ty59 (bx rfl rfl) rfl rfl) .nil), ?_⟩
    obtain ⟨x18, e18, hm⟩ := hm.call
    refine .cl rfl rfl rfl rfl rfl rfl pl32 (R2.wk _) (Codes_Next_ok  (b_c_ := (h.length + 1)) (bx rfl rfl) e18) ?_
    rintro _ _ ⟨rfl, rfl⟩
    rw [show _ = h ++ ([⟨[I (e_.lsn), I (e_.kind_), I (e_.tx), I (e_.prevTx), I (e_.prevPage), I (e_.ref), I (e_.change.page), I (e_.change.slot), Bo (e_.change.before.set_), .v (.string e_.change.before.data), Bo (e_.change.after.set_), .v (.string e_.change.after.data), .v (.string e_.blob)], true, true⟩, ⟨[.L 1 (x18.2.l_.map c_u8), I (x18.2.at_)], true, true⟩] : Heap) from (bset rfl rfl)]
    refine ⟨(.e rfl rfl (e_ldbA (ev_t rfl) ty59 (bx rfl rfl) rfl rfl) .nil), ?_⟩
    refine .p (VI ((w64 (1 + x18.1)))) (e_bin rfl (ev_t rfl) rfl rfl) ?_
    obtain ⟨x19, e19, hm⟩ := hm.call
    refine .cl rfl rfl rfl rfl rfl rfl pl67 (R2.wk _) (law12_next_ok  (b_c_ := (h.length + 1)) (bx rfl rfl) e19) ?_
    rintro _ _ ⟨rfl, rfl⟩
    rw [show _ = h ++ ([⟨[I (e_.lsn), I (e_.kind_), I (e_.tx), I (e_.prevTx), I (e_.prevPage), I (e_.ref), I (e_.change.page), I (e_.change.slot), Bo (e_.change.before.set_), .v (.string e_.change.before.data), Bo (e_.change.after.set_), .v (.string e_.change.after.data), .v (.string e_.blob)], true, true⟩, ⟨[.L 1 (x19.2.l_.map c_u8), I (x19.2.at_)], true, true⟩] : Heap) from (bset rfl rfl)]
    refine ⟨(.e rfl rfl (e_ldbA (ev_t rfl) ty59 (bx rfl rfl) rfl rfl) .nil), ?_⟩
    refine .p (.o (.c (.LC 13 (([e_, x17.1, x19.1] : List AEntry).map AEntry.cs)))) (e_litF (xs := [[I (e_.lsn), I (e_.kind_), I (e_.tx), I (e_.prevTx), I (e_.prevPage), I (e_.ref), I (e_.change.page), I (e_.change.slot), Bo (e_.change.before.set_), .v (.string e_.change.before.data), Bo (e_.change.after.set_), .v (.string e_.change.after.data), .v (.string e_.blob)], [I (x17.1.lsn), I (x17.1.kind_), I (x17.1.tx), I (x17.1.prevTx), I (x17.1.prevPage), I (x17.1.ref), I (x17.1.change.page), I (x17.1.change.slot), Bo (x17.1.change.before.set_), .v (.string x17.1.change.before.data), Bo (x17.1.change.after.set_), .v (.string x17.1.change.after.data), .v (.string x17.1.blob)], [I (x19.1.lsn), I (x19.1.kind_), I (x19.1.tx), I (x19.1.prevTx), I (x19.1.prevPage), I (x19.1.ref), I (x19.1.change.page), I (x19.1.change.slot), Bo (x19.1.change.before.set_), .v (.string x19.1.change.before.data), Bo (x19.1.change.after.set_), .v (.string x19.1.change.after.data), .v (.string x19.1.blob)]]) (ys := ([e_, x17.1, x19.1]).map AEntry.cs) slt50 nl50 rfl rfl rfl rfl rfl rfl) ?_
    refine .p (VI ((([e_, x17.1, x19.1] : List AEntry).length : Int))) (e_lenMC (ev_t rfl) is50) ?_
    refine .nil ?_
    replace hm := hm.bnd
    refine CdOK.joinT (σ := Unit) (fun s => Sum.inl ()) hm (fun s => [(3, VI (id_)), (6, .o (.c (.ptr (h.length + 0) 0))), (9, .o (.c (.ptr (h.length + 1) 0))), (10, .o (.c (.L 6 (x5.1.map Tx.cs)))), (11, VI (x5.2.1)), (13, .o (.c (.L 6 ((gd ([raw, x5.1, x6.1] : List (List Tx)) t507).map Tx.cs)))), (48, .o (.c (.LC 1 (([raw, x5.1, x6.1] : List (List Tx)).map (cL 6 Tx.cs))))), (49, VI ((([raw, x5.1, x6.1] : List (List Tx)).length : Int))), (50, VI (t507))]) (fun s => h ++ ([⟨[I (e_.lsn), I (e_.kind_), I (e_.tx), I (e_.prevTx), I (e_.prevPage), I (e_.ref), I (e_.change.page), I (e_.change.slot), Bo (e_.change.before.set_), .v (.string e_.change.before.data), Bo (e_.change.after.set_), .v (.string e_.change.after.data), .v (.string e_.blob)], true, true⟩, ⟨[.L 1 (x19.2.l_.map c_u8), I (x19.2.at_)], true, true⟩] : Heap)) ?_ ?_
    ·intro hm
     refine .block ?_
     refine .re (σ := [0, 1]) (X := [(3, VI (id_)), (6, .o (.c (.ptr (h.length + 0) 0))), (9, .o (.c (.ptr (h.length + 1) 0))), (10, .o (.c (.L 6 (x5.1.map Tx.cs)))), (11, VI (x5.2.1)), (13, .o (.c (.L 6 ((gd ([raw, x5.1, x6.1] : List (List Tx)) t507).map Tx.cs)))), (48, .o (.c (.LC 1 (([raw, x5.1, x6.1] : List (List Tx)).map (cL 6 Tx.cs))))), (49, VI ((([raw, x5.1, x6.1] : List (List Tx)).length : Int))), (50, VI (t507)), (76, .o (.c (.LC 13 (([e_, x17.1, x19.1] : List AEntry).map AEntry.cs)))), (77, VI ((([e_, x17.1, x19.1] : List AEntry).length : Int))), (78, VI (0))]) (L' := [⟨[I (e_.lsn), I (e_.kind_), I (e_.tx), I (e_.prevTx), I (e_.prevPage), I (e_.ref), I (e_.change.page), I (e_.change.slot), Bo (e_.change.before.set_), .v (.string e_.change.before.data), Bo (e_.change.after.set_), .v (.string e_.change.after.data), .v (.string e_.blob)], true, true⟩, ⟨[.L 1 (x19.2.l_.map c_u8), I (x19.2.at_)], true, true⟩]) rfl rfl hC (by decide) (.obj 0 rfl (renFl rfl) (.obj 1 rfl (renFl rfl) .nil)) (.cons (renFlV rfl) (.cons (.o (.c (.ptr 0 0 _ rfl))) (.cons (.o (.c (.ptr 1 1 _ rfl))) (.cons (renFlV rfl) (.cons (renFlV rfl) (.cons (renFlV rfl) (.cons (.o (.c (.fl _ rfl))) (.cons (renFlV rfl) (.cons (renFlV rfl) (.cons (.o (.c (.fl _ rfl))) (.cons (renFlV rfl) (.cons (renFlV rfl) .nil)))))))))))) ?_
     refine .loopE (σ := Int) (fun k s => Ev (law12_TransactionsExact.l2 raw e_ x5 x6 t507 x17 x19 k s) _) (fun s => [(3, VI (id_)), (6, .o (.c (.ptr (h.length + 0) 0))), (9, .o (.c (.ptr (h.length + 1) 0))), (10, .o (.c (.L 6 (x5.1.map Tx.cs)))), (11, VI (x5.2.1)), (13, .o (.c (.L 6 ((gd ([raw, x5.1, x6.1] : List (List Tx)) t507).map Tx.cs)))), (48, .o (.c (.LC 1 (([raw, x5.1, x6.1] : List (List Tx)).map (cL 6 Tx.cs))))), (49, VI ((([raw, x5.1, x6.1] : List (List Tx)).length : Int))), (50, VI (t507)), (76, .o (.c (.LC 13 (([e_, x17.1, x19.1] : List AEntry).map AEntry.cs)))), (77, VI ((([e_, x17.1, x19.1] : List AEntry).length : Int))), (78, VI (s))]) (fun s => h ++ ([⟨[I (e_.lsn), I (e_.kind_), I (e_.tx), I (e_.prevTx), I (e_.prevPage), I (e_.ref), I (e_.change.page), I (e_.change.slot), Bo (e_.change.before.set_), .v (.string e_.change.before.data), Bo (e_.change.after.set_), .v (.string e_.change.after.data), .v (.string e_.blob)], true, true⟩, ⟨[.L 1 (x19.2.l_.map c_u8), I (x19.2.at_)], true, true⟩] : Heap)) FU 0 hm (.cons rfl (.cons rfl (.cons rfl (.cons rfl (.cons rfl (.cons rfl (.cons rfl (.cons rfl (.cons rfl (.cons rfl (.cons rfl (.cons rfl .nil)))))))))))) rfl ?_
     rintro kk21 t7820 T0 hm
     replace hm : Ev (law12_TransactionsExact.l2 raw e_ x5 x6 t507 x17 x19 kk21 t7820) _ := hm
     cases kk21 with
     | zero => exact (Ev.non hm).elim
     | succ kk21 =>
     rw [law12_TransactionsExact.l2.eq_2] at hm
     show CdOK _ _ _ (look T0 [(3, VI (id_)), (6, .o (.c (.ptr (h.length + 0) 0))), (9, .o (.c (.ptr (h.length + 1) 0))), (10, .o (.c (.L 6 (x5.1.map Tx.cs)))), (11, VI (x5.2.1)), (13, .o (.c (.L 6 ((gd ([raw, x5.1, x6.1] : List (List Tx)) t507).map Tx.cs)))), (48, .o (.c (.LC 1 (([raw, x5.1, x6.1] : List (List Tx)).map (cL 6 Tx.cs))))), (49, VI ((([raw, x5.1, x6.1] : List (List Tx)).length : Int))), (50, VI (t507)), (76, .o (.c (.LC 13 (([e_, x17.1, x19.1] : List AEntry).map AEntry.cs)))), (77, VI ((([e_, x17.1, x19.1] : List AEntry).length : Int))), (78, VI (t7820))]) (h ++ ([⟨[I (e_.lsn), I (e_.kind_), I (e_.tx), I (e_.prevTx), I (e_.prevPage), I (e_.ref), I (e_.change.page), I (e_.change.slot), Bo (e_.change.before.set_), .v (.string e_.change.before.data), Bo (e_.change.after.set_), .v (.string e_.change.after.data), .v (.string e_.blob)], true, true⟩, ⟨[.L 1 (x19.2.l_.map c_u8), I (x19.2.at_)], true, true⟩] : Heap)) _
     refine .seq (.region (.t (VB (decide (t7820 < (([e_, x17.1, x19.1] : List AEntry).length : Int)))) (e_bin (ev_t rfl) (ev_t rfl) rfl rfl) ?_))
     refine .nil (CdOK.seq ?_)
     refine .condD (ev_t rfl) ?_ ?_
     ·intro c22; replace hm := hm.ifp c22
      refine .skip ?_
      refine CdOK.seq ?_
      refine .block ?_
      refine .seq (.region ?_)
      obtain ⟨c23, hm⟩ := hm.ifs
      refine .t (.o (.c (.rp [I ((gd ([e_, x17.1, x19.1] : List AEntry) t7820).lsn), I ((gd ([e_, x17.1, x19.1] : List AEntry) t7820).kind_), I ((gd ([e_, x17.1, x19.1] : List AEntry) t7820).tx), I ((gd ([e_, x17.1, x19.1] : List AEntry) t7820).prevTx), I ((gd ([e_, x17.1, x19.1] : List AEntry) t7820).prevPage), I ((gd ([e_, x17.1, x19.1] : List AEntry) t7820).ref), I ((gd ([e_, x17.1, x19.1] : List AEntry) t7820).change.page), I ((gd ([e_, x17.1, x19.1] : List AEntry) t7820).change.slot), Bo ((gd ([e_, x17.1, x19.1] : List AEntry) t7820).change.before.set_), .v (.string ((gd ([e_, x17.1, x19.1] : List AEntry) t7820).change.before.data)), Bo ((gd ([e_, x17.1, x19.1] : List AEntry) t7820).change.after.set_), .v (.string ((gd ([e_, x17.1, x19.1] : List AEntry) t7820).change.after.data)), .v (.string ((gd ([e_, x17.1, x19.1] : List AEntry) t7820).blob))]))) (e_ixMC (f := AEntry.cs) (l := ([e_, x17.1, x19.1] : List AEntry)) (i := t7820) (ev_t rfl) (ev_t rfl) el50 c23) ?_
      refine .t _ (e_ldRA (ev_t rfl) ty59 rfl rfl) ?_
      refine .t (.o (.c (.ptr (h.length + 2) 0))) (e_allocN (L' := [⟨[I (e_.lsn), I (e_.kind_), I (e_.tx), I (e_.prevTx), I (e_.prevPage), I (e_.ref), I (e_.change.page), I (e_.change.slot), Bo (e_.change.before.set_), .v (.string e_.change.before.data), Bo (e_.change.after.set_), .v (.string e_.change.after.data), .v (.string e_.blob)], true, true⟩, ⟨[.L 1 (x19.2.l_.map c_u8), I (x19.2.at_)], true, true⟩, ⟨[I (0), I (0), I (0), I (0), I (0), I (0), I (0), I (0), Bo false, .v (.string (⟨#[]⟩ : ByteArray)), Bo false, .v (.string (⟨#[]⟩ : ByteArray)), .v (.string (⟨#[]⟩ : ByteArray))], true, true⟩]) rfl zo59 rfl rfl) ?_
      refine .s0 rfl rfl (e_stN (L' := [⟨[I (e_.lsn), I (e_.kind_), I (e_.tx), I (e_.prevTx), I (e_.prevPage), I (e_.ref), I (e_.change.page), I (e_.change.slot), Bo (e_.change.before.set_), .v (.string e_.change.before.data), Bo (e_.change.after.set_), .v (.string e_.change.after.data), .v (.string e_.blob)], true, true⟩, ⟨[.L 1 (x19.2.l_.map c_u8), I (x19.2.at_)], true, true⟩, ⟨[I ((gd ([e_, x17.1, x19.1] : List AEntry) t7820).lsn), I ((gd ([e_, x17.1, x19.1] : List AEntry) t7820).kind_), I ((gd ([e_, x17.1, x19.1] : List AEntry) t7820).tx), I ((gd ([e_, x17.1, x19.1] : List AEntry) t7820).prevTx), I ((gd ([e_, x17.1, x19.1] : List AEntry) t7820).prevPage), I ((gd ([e_, x17.1, x19.1] : List AEntry) t7820).ref), I ((gd ([e_, x17.1, x19.1] : List AEntry) t7820).change.page), I ((gd ([e_, x17.1, x19.1] : List AEntry) t7820).change.slot), Bo ((gd ([e_, x17.1, x19.1] : List AEntry) t7820).change.before.set_), .v (.string ((gd ([e_, x17.1, x19.1] : List AEntry) t7820).change.before.data)), Bo ((gd ([e_, x17.1, x19.1] : List AEntry) t7820).change.after.set_), .v (.string ((gd ([e_, x17.1, x19.1] : List AEntry) t7820).change.after.data)), .v (.string ((gd ([e_, x17.1, x19.1] : List AEntry) t7820).blob))], true, true⟩]) rfl (ev_t rfl) (ev_t rfl) ty59 rfl rfl rfl rfl rfl) ?_
      refine .nil (CdOK.seq (.region (.m rfl ?_)))
      refine .t _ (e_ldbA (ev_t rfl) ty59 (bx rfl rfl) rfl rfl) ?_
      obtain ⟨x24, e24, hm⟩ := hm.call
      refine .cl rfl rfl rfl rfl pl68 (R2.wk _) (transactions_Note_ok    e24) ?_
      rintro _ _ ⟨rfl, rfl⟩
      refine .m rfl ?_
      refine .t (.o (.c (.L 6 (x24.1.map Tx.cs)))) (e_ext (ev_t rfl) rfl) ?_
      refine .t (VI (x24.2)) (e_ext (ev_t rfl) rfl) ?_
      iterate 2 refine .a rfl ?_
      refine .nil (CdOK.seq (.region (.m rfl ?_)))
      refine .t _ (e_ldbA (ev_t rfl) ty59 (bx rfl rfl) rfl rfl) ?_
      obtain ⟨x25, e25, hm⟩ := hm.call
      refine .cl rfl rfl rfl rfl pl69 (R2.wk _) (ref12_Note_ok    e25) ?_
      rintro _ _ ⟨rfl, rfl⟩
      refine .m rfl ?_
      refine .t (.o (.c (.L 6 (x25.1.map Tx.cs)))) (e_ext (ev_t rfl) rfl) ?_
      refine .t (VI (x25.2)) (e_ext (ev_t rfl) rfl) ?_
      iterate 2 refine .a rfl ?_
      refine .nil (CdOK.seq (.region ?_))
      iterate 2 refine .m rfl ?_
      refine .sd rfl rfl rfl (e_neK (ev_t rfl) (ev_t rfl)) ?_ ?_
      ·intro c26; replace hm := hm.ifp c26
       refine .m rfl ?_
       iterate 4 refine .k ?_
       refine .t (VB (true)) (e_pick (t := true) (ev_t rfl) rfl) ?_
       refine .nil ?_
       refine CdOK.cond_true rfl ?_
       refine .seq (.region (.t (VB (false)) (e_as rfl) ?_))
       refine .nil ?_
       refine CdOK.ret ?_
       refine ⟨.inr rfl, _, rfl, h, _, _, rfl, rfl, hC, ((renFlV rfl) : RenV _ _ _ _ (VB (false))), ?_⟩
       have hr := hm.ret; replace hr := Ev.ret hr; replace hr := Ev.ret hr; cases hr; exact ⟨rfl, rfl⟩
      intro c27; replace hm := hm.ifn c27
      iterate 3 refine .m rfl ?_
      obtain ⟨x28, e28, hm⟩ := hm.call
      refine .cl rfl rfl rfl rfl pl70 (R2.wk _) (ref12_Same_ok    e28) ?_
      rintro _ _ ⟨rfl, rfl⟩
      refine .t (VB ((!x28))) (e_un (ev_t rfl) rfl) ?_
      refine .t (VB ((!x28))) (e_pick (t := false) (ev_t rfl) (ev_t rfl)) ?_
      refine .nil ?_
      refine CdOK.condB (ev_t rfl) ?_ ?_
      ·intro c29; replace hm := hm.ifp c29
       refine .seq (.region (.t (VB (false)) (e_as rfl) ?_))
       refine .nil ?_
       refine CdOK.ret ?_
       refine ⟨.inr rfl, _, rfl, h, _, _, rfl, rfl, hC, ((renFlV rfl) : RenV _ _ _ _ (VB (false))), ?_⟩
       have hr := hm.ret; replace hr := Ev.ret hr; replace hr := Ev.ret hr; cases hr; exact ⟨rfl, rfl⟩
      intro c30; replace hm := hm.ifn c30
      refine .skip ?_
      refine CdOK.region (.t (VI ((w64 (t7820 + 1)))) (e_bin (ev_t rfl) rfl rfl rfl) ?_)
      refine .m rfl ?_
      refine .nil ?_
      refine .re (σ := [0, 1]) (X := [(3, VI (id_)), (6, .o (.c (.ptr (h.length + 0) 0))), (9, .o (.c (.ptr (h.length + 1) 0))), (10, .o (.c (.L 6 (x5.1.map Tx.cs)))), (11, VI (x5.2.1)), (13, .o (.c (.L 6 ((gd ([raw, x5.1, x6.1] : List (List Tx)) t507).map Tx.cs)))), (48, .o (.c (.LC 1 (([raw, x5.1, x6.1] : List (List Tx)).map (cL 6 Tx.cs))))), (49, VI ((([raw, x5.1, x6.1] : List (List Tx)).length : Int))), (50, VI (t507)), (76, .o (.c (.LC 13 (([e_, x17.1, x19.1] : List AEntry).map AEntry.cs)))), (77, VI ((([e_, x17.1, x19.1] : List AEntry).length : Int))), (78, VI ((w64 (t7820 + 1))))]) (L' := [⟨[I (e_.lsn), I (e_.kind_), I (e_.tx), I (e_.prevTx), I (e_.prevPage), I (e_.ref), I (e_.change.page), I (e_.change.slot), Bo (e_.change.before.set_), .v (.string e_.change.before.data), Bo (e_.change.after.set_), .v (.string e_.change.after.data), .v (.string e_.blob)], true, true⟩, ⟨[.L 1 (x19.2.l_.map c_u8), I (x19.2.at_)], true, true⟩]) rfl rfl hC (by decide) (.obj 0 rfl (renFl rfl) (.obj 1 rfl (renFl rfl) .nil)) (.cons (renFlV rfl) (.cons (.o (.c (.ptr 0 0 _ rfl))) (.cons (.o (.c (.ptr 1 1 _ rfl))) (.cons (renFlV rfl) (.cons (renFlV rfl) (.cons (renFlV rfl) (.cons (.o (.c (.fl _ rfl))) (.cons (renFlV rfl) (.cons (renFlV rfl) (.cons (.o (.c (.fl _ rfl))) (.cons (renFlV rfl) (.cons (renFlV rfl) .nil)))))))))))) ?_
      exact ⟨_, (w64 (t7820 + 1)), Nat.lt_succ_self _, hm, (.cons rfl (.cons rfl (.cons rfl (.cons rfl (.cons rfl (.cons rfl (.cons rfl (.cons rfl (.cons rfl (.cons rfl (.cons rfl (.cons rfl .nil)))))))))))), rfl⟩
     intro c31; replace hm := hm.ifn c31
     refine .exit ?_
     refine .re (σ := [0, 1]) (X := [(3, VI (id_)), (6, .o (.c (.ptr (h.length + 0) 0))), (9, .o (.c (.ptr (h.length + 1) 0))), (10, .o (.c (.L 6 (x5.1.map Tx.cs)))), (11, VI (x5.2.1)), (13, .o (.c (.L 6 ((gd ([raw, x5.1, x6.1] : List (List Tx)) t507).map Tx.cs)))), (48, .o (.c (.LC 1 (([raw, x5.1, x6.1] : List (List Tx)).map (cL 6 Tx.cs))))), (49, VI ((([raw, x5.1, x6.1] : List (List Tx)).length : Int))), (50, VI (t507))]) (L' := [⟨[I (e_.lsn), I (e_.kind_), I (e_.tx), I (e_.prevTx), I (e_.prevPage), I (e_.ref), I (e_.change.page), I (e_.change.slot), Bo (e_.change.before.set_), .v (.string e_.change.before.data), Bo (e_.change.after.set_), .v (.string e_.change.after.data), .v (.string e_.blob)], true, true⟩, ⟨[.L 1 (x19.2.l_.map c_u8), I (x19.2.at_)], true, true⟩]) rfl rfl hC (by decide) (.obj 0 rfl (renFl rfl) (.obj 1 rfl (renFl rfl) .nil)) (.cons (renFlV rfl) (.cons (.o (.c (.ptr 0 0 _ rfl))) (.cons (.o (.c (.ptr 1 1 _ rfl))) (.cons (renFlV rfl) (.cons (renFlV rfl) (.cons (renFlV rfl) (.cons (.o (.c (.fl _ rfl))) (.cons (renFlV rfl) (.cons (renFlV rfl) .nil))))))))) ?_
     exact ⟨(), hm.ret, (.cons rfl (.cons rfl (.cons rfl (.cons rfl (.cons rfl (.cons rfl (.cons rfl (.cons rfl (.cons rfl .nil))))))))), rfl⟩
    intro _ T0 hm
    refine CdOK.seq (.region ?_)
    iterate 2 refine .m rfl ?_
    obtain ⟨x33, e33, hm⟩ := hm.call
    refine .cl rfl rfl rfl rfl pl32 (R2.wk _) (Codes_Next_ok  (b_c_ := (h.length + 1)) (bx rfl rfl) e33) ?_
    rintro _ _ ⟨rfl, rfl⟩
    rw [show _ = h ++ ([⟨[I (e_.lsn), I (e_.kind_), I (e_.tx), I (e_.prevTx), I (e_.prevPage), I (e_.ref), I (e_.change.page), I (e_.change.slot), Bo (e_.change.before.set_), .v (.string e_.change.before.data), Bo (e_.change.after.set_), .v (.string e_.change.after.data), .v (.string e_.blob)], true, true⟩, ⟨[.L 1 (x33.2.l_.map c_u8), I (x33.2.at_)], true, true⟩] : Heap) from (bset rfl rfl)]
    refine .t (VI ((w64 (1 + x33.1)))) (e_bin rfl (ev_t rfl) rfl rfl) ?_
    refine .t (.o (.c (.LC 1 (([id_, (w64 (1 + x33.1))] : List Int).map cI)))) (e_lit (cs := [I (id_), I ((w64 (1 + x33.1)))]) (xs := ([id_, (w64 (1 + x33.1))]).map cI) slt27 nl27 rfl rfl rfl rfl rfl) ?_
    refine .t (VI ((([id_, (w64 (1 + x33.1))] : List Int).length : Int))) (e_lenMC (ev_t rfl) is27) ?_
    refine .t (VI (0)) (e_mv rfl) ?_
    refine .nil ?_
    replace hm := hm.bnd
    refine CdOK.joinT (σ := Unit) (fun s => Sum.inl ()) hm (fun s => [(3, VI (id_)), (6, .o (.c (.ptr (h.length + 0) 0))), (9, .o (.c (.ptr (h.length + 1) 0))), (10, .o (.c (.L 6 (x5.1.map Tx.cs)))), (11, VI (x5.2.1)), (48, .o (.c (.LC 1 (([raw, x5.1, x6.1] : List (List Tx)).map (cL 6 Tx.cs))))), (49, VI ((([raw, x5.1, x6.1] : List (List Tx)).length : Int))), (50, VI (t507))]) (fun s => h ++ ([⟨[I (e_.lsn), I (e_.kind_), I (e_.tx), I (e_.prevTx), I (e_.prevPage), I (e_.ref), I (e_.change.page), I (e_.change.slot), Bo (e_.change.before.set_), .v (.string e_.change.before.data), Bo (e_.change.after.set_), .v (.string e_.change.after.data), .v (.string e_.blob)], true, true⟩, ⟨[.L 1 (x33.2.l_.map c_u8), I (x33.2.at_)], true, true⟩] : Heap)) ?_ ?_
    ·intro hm
     refine .block ?_
     refine .re (σ := [0, 1]) (X := [(3, VI (id_)), (6, .o (.c (.ptr (h.length + 0) 0))), (9, .o (.c (.ptr (h.length + 1) 0))), (10, .o (.c (.L 6 (x5.1.map Tx.cs)))), (11, VI (x5.2.1)), (13, .o (.c (.L 6 ((gd ([raw, x5.1, x6.1] : List (List Tx)) t507).map Tx.cs)))), (48, .o (.c (.LC 1 (([raw, x5.1, x6.1] : List (List Tx)).map (cL 6 Tx.cs))))), (49, VI ((([raw, x5.1, x6.1] : List (List Tx)).length : Int))), (50, VI (t507)), (108, .o (.c (.LC 1 (([id_, (w64 (1 + x33.1))] : List Int).map cI)))), (109, VI ((([id_, (w64 (1 + x33.1))] : List Int).length : Int))), (110, VI (0))]) (L' := [⟨[I (e_.lsn), I (e_.kind_), I (e_.tx), I (e_.prevTx), I (e_.prevPage), I (e_.ref), I (e_.change.page), I (e_.change.slot), Bo (e_.change.before.set_), .v (.string e_.change.before.data), Bo (e_.change.after.set_), .v (.string e_.change.after.data), .v (.string e_.blob)], true, true⟩, ⟨[.L 1 (x33.2.l_.map c_u8), I (x33.2.at_)], true, true⟩]) rfl rfl hC (by decide) (.obj 0 rfl (renFl rfl) (.obj 1 rfl (renFl rfl) .nil)) (.cons (renFlV rfl) (.cons (.o (.c (.ptr 0 0 _ rfl))) (.cons (.o (.c (.ptr 1 1 _ rfl))) (.cons (renFlV rfl) (.cons (renFlV rfl) (.cons (renFlV rfl) (.cons (.o (.c (.fl _ rfl))) (.cons (renFlV rfl) (.cons (renFlV rfl) (.cons (.o (.c (.fl _ rfl))) (.cons (renFlV rfl) (.cons (renFlV rfl) .nil)))))))))))) ?_
     refine .loopE (σ := Int) (fun k s => Ev (law12_TransactionsExact.l3 raw id_ x5 x6 t507 x33 k s) _) (fun s => [(3, VI (id_)), (6, .o (.c (.ptr (h.length + 0) 0))), (9, .o (.c (.ptr (h.length + 1) 0))), (10, .o (.c (.L 6 (x5.1.map Tx.cs)))), (11, VI (x5.2.1)), (13, .o (.c (.L 6 ((gd ([raw, x5.1, x6.1] : List (List Tx)) t507).map Tx.cs)))), (48, .o (.c (.LC 1 (([raw, x5.1, x6.1] : List (List Tx)).map (cL 6 Tx.cs))))), (49, VI ((([raw, x5.1, x6.1] : List (List Tx)).length : Int))), (50, VI (t507)), (108, .o (.c (.LC 1 (([id_, (w64 (1 + x33.1))] : List Int).map cI)))), (109, VI ((([id_, (w64 (1 + x33.1))] : List Int).length : Int))), (110, VI (s))]) (fun s => h ++ ([⟨[I (e_.lsn), I (e_.kind_), I (e_.tx), I (e_.prevTx), I (e_.prevPage), I (e_.ref), I (e_.change.page), I (e_.change.slot), Bo (e_.change.before.set_), .v (.string e_.change.before.data), Bo (e_.change.after.set_), .v (.string e_.change.after.data), .v (.string e_.blob)], true, true⟩, ⟨[.L 1 (x33.2.l_.map c_u8), I (x33.2.at_)], true, true⟩] : Heap)) FU 0 hm (.cons rfl (.cons rfl (.cons rfl (.cons rfl (.cons rfl (.cons rfl (.cons rfl (.cons rfl (.cons rfl (.cons rfl (.cons rfl (.cons rfl .nil)))))))))))) rfl ?_
     rintro kk35 t11034 T0 hm
     replace hm : Ev (law12_TransactionsExact.l3 raw id_ x5 x6 t507 x33 kk35 t11034) _ := hm
     cases kk35 with
     | zero => exact (Ev.non hm).elim
     | succ kk35 =>
     rw [law12_TransactionsExact.l3.eq_2] at hm
     show CdOK _ _ _ (look T0 [(3, VI (id_)), (6, .o (.c (.ptr (h.length + 0) 0))), (9, .o (.c (.ptr (h.length + 1) 0))), (10, .o (.c (.L 6 (x5.1.map Tx.cs)))), (11, VI (x5.2.1)), (13, .o (.c (.L 6 ((gd ([raw, x5.1, x6.1] : List (List Tx)) t507).map Tx.cs)))), (48, .o (.c (.LC 1 (([raw, x5.1, x6.1] : List (List Tx)).map (cL 6 Tx.cs))))), (49, VI ((([raw, x5.1, x6.1] : List (List Tx)).length : Int))), (50, VI (t507)), (108, .o (.c (.LC 1 (([id_, (w64 (1 + x33.1))] : List Int).map cI)))), (109, VI ((([id_, (w64 (1 + x33.1))] : List Int).length : Int))), (110, VI (t11034))]) (h ++ ([⟨[I (e_.lsn), I (e_.kind_), I (e_.tx), I (e_.prevTx), I (e_.prevPage), I (e_.ref), I (e_.change.page), I (e_.change.slot), Bo (e_.change.before.set_), .v (.string e_.change.before.data), Bo (e_.change.after.set_), .v (.string e_.change.after.data), .v (.string e_.blob)], true, true⟩, ⟨[.L 1 (x33.2.l_.map c_u8), I (x33.2.at_)], true, true⟩] : Heap)) _
     refine .seq (.region (.t (VB (decide (t11034 < (([id_, (w64 (1 + x33.1))] : List Int).length : Int)))) (e_bin (ev_t rfl) (ev_t rfl) rfl rfl) ?_))
     refine .nil (CdOK.seq ?_)
     refine .condD (ev_t rfl) ?_ ?_
     ·intro c36; replace hm := hm.ifp c36
      refine .skip ?_
      refine CdOK.seq ?_
      refine .block ?_
      refine .seq (.region ?_)
      obtain ⟨c37, hm⟩ := hm.ifs
      refine .t (.o (.c (.rp [I ((gd ([id_, (w64 (1 + x33.1))] : List Int) t11034))]))) (e_ixMC (f := cI) (l := ([id_, (w64 (1 + x33.1))] : List Int)) (i := t11034) (ev_t rfl) (ev_t rfl) el27 c37) ?_
      refine .t _ (e_ldR1 (ev_t rfl) ty3 rfl) ?_
      refine .a rfl ?_
      refine .nil (CdOK.seq (.region ?_))
      iterate 2 refine .m rfl ?_
      obtain ⟨x38, e38, hm⟩ := hm.call
      refine .cl rfl rfl rfl rfl pl71 (R2.wk _) (transactions_Begin_ok    e38) ?_
      rintro _ _ ⟨rfl, rfl⟩
      refine .m rfl ?_
      refine .t (.o (.c (.L 6 (x38.1.map Tx.cs)))) (e_ext (ev_t rfl) rfl) ?_
      refine .t (VI (x38.2)) (e_ext (ev_t rfl) rfl) ?_
      iterate 2 refine .a rfl ?_
      refine .nil (CdOK.seq (.region ?_))
      iterate 2 refine .m rfl ?_
      obtain ⟨x39, e39, hm⟩ := hm.call
      refine .cl rfl rfl rfl rfl pl72 (R2.wk _) (ref12_Begin_ok    e39) ?_
      rintro _ _ ⟨rfl, rfl⟩
      refine .m rfl ?_
      refine .t (.o (.c (.L 6 (x39.1.map Tx.cs)))) (e_ext (ev_t rfl) rfl) ?_
      refine .t (VI (x39.2)) (e_ext (ev_t rfl) rfl) ?_
      iterate 2 refine .a rfl ?_
      refine .nil (CdOK.seq (.seq (.region ?_)))
      iterate 2 refine .m rfl ?_
      refine .sd rfl rfl rfl (e_neK (ev_t rfl) (ev_t rfl)) ?_ ?_
      ·intro c40; replace hm := hm.ifp c40
       refine .m rfl ?_
       iterate 4 refine .k ?_
       refine .t (VB (true)) (e_pick (t := true) (ev_t rfl) rfl) ?_
       refine .m rfl ?_
       iterate 7 refine .k ?_
       refine .t (VB (true)) (e_pick (t := true) (ev_t rfl) rfl) ?_
       refine .m rfl ?_
       iterate 8 refine .k ?_
       refine .t (VB (true)) (e_pick (t := true) (ev_t rfl) rfl) ?_
       refine .nil ?_
       refine CdOK.cond_true rfl ?_
       refine .seq (.region (.t (VB (false)) (e_as rfl) ?_))
       refine .nil ?_
       refine CdOK.ret ?_
       refine ⟨.inr rfl, _, rfl, h, _, _, rfl, rfl, hC, ((renFlV rfl) : RenV _ _ _ _ (VB (false))), ?_⟩
       have hr := hm.ret; replace hr := Ev.ret hr; replace hr := Ev.ret hr; cases hr; exact ⟨rfl, rfl⟩
      intro c41; replace hm := hm.ifn c41
      iterate 3 refine .m rfl ?_
      obtain ⟨x42, e42, hm⟩ := hm.call
      cases x42 with
      | true =>
       replace hm := hm.ifp rfl
       refine .cl rfl rfl rfl rfl pl70 (R2.wk _) (ref12_Same_ok    e42) ?_
       rintro _ _ ⟨rfl, rfl⟩
       refine .t (VB (false)) (e_un (ev_t rfl) rfl) ?_
       refine .t (VB (false)) (e_pick (t := false) (ev_t rfl) (ev_t rfl)) ?_
       iterate 3 refine .m rfl ?_
       obtain ⟨x43, e43, hm⟩ := hm.call
       refine .cl rfl rfl rfl rfl pl73 (R2.wk _) (transactions_Find_ok    e43) ?_
       rintro _ _ ⟨rfl, rfl⟩
       iterate 2 refine .m rfl ?_
       obtain ⟨x44, e44, hm⟩ := hm.call
       refine .cl rfl rfl rfl rfl pl74 (R2.wk _) (ref12_Find_ok    e44) ?_
       rintro _ _ ⟨rfl, rfl⟩
       refine .sd rfl rfl rfl (e_neK (ev_t rfl) (ev_t rfl)) ?_ ?_
       ·intro c45; replace hm := hm.ifp c45
        refine .t (VB (true)) (e_pick (t := false) (ev_t rfl) (ev_t rfl)) ?_
        refine .m rfl ?_
        iterate 8 refine .k ?_
        refine .t (VB (true)) (e_pick (t := true) (ev_t rfl) rfl) ?_
        refine .nil ?_
        refine CdOK.cond_true rfl ?_
        refine .seq (.region (.t (VB (false)) (e_as rfl) ?_))
        refine .nil ?_
        refine CdOK.ret ?_
        refine ⟨.inr rfl, _, rfl, h, _, _, rfl, rfl, hC, ((renFlV rfl) : RenV _ _ _ _ (VB (false))), ?_⟩
        have hr := hm.ret; replace hr := Ev.ret hr; replace hr := Ev.ret hr; cases hr; exact ⟨rfl, rfl⟩
       intro c46; replace hm := hm.ifn c46
       refine .t (VB (false)) (e_pick (t := false) (ev_t rfl) (ev_t rfl)) ?_
       iterate 3 refine .m rfl ?_
       obtain ⟨x47, e47, hm⟩ := hm.call
       refine .cl rfl rfl rfl rfl pl75 (R2.wk _) (transactions_Remove_ok    e47) ?_
       rintro _ _ ⟨rfl, rfl⟩
       iterate 2 refine .m rfl ?_
       obtain ⟨x48, e48, hm⟩ := hm.call
       refine .cl rfl rfl rfl rfl pl76 (R2.wk _) (ref12_Remove_ok    e48) ?_
       rintro _ _ ⟨rfl, rfl⟩
       obtain ⟨x49, e49, hm⟩ := hm.call
       refine .cl rfl rfl rfl rfl pl70 (R2.wk _) (ref12_Same_ok    e49) ?_
       rintro _ _ ⟨rfl, rfl⟩
       refine .t (VB ((!x49))) (e_un (ev_t rfl) rfl) ?_
       refine .t (VB ((!x49))) (e_pick (t := false) (ev_t rfl) (ev_t rfl)) ?_
       refine .nil ?_
       refine CdOK.condB (ev_t rfl) ?_ ?_
       ·intro c50; replace hm := hm.ifp c50
        refine .seq (.region (.t (VB (false)) (e_as rfl) ?_))
        refine .nil ?_
        refine CdOK.ret ?_
        refine ⟨.inr rfl, _, rfl, h, _, _, rfl, rfl, hC, ((renFlV rfl) : RenV _ _ _ _ (VB (false))), ?_⟩
        have hr := hm.ret; replace hr := Ev.ret hr; replace hr := Ev.ret hr; cases hr; exact ⟨rfl, rfl⟩
       intro c51; replace hm := hm.ifn c51
       refine .skip ?_
       refine CdOK.seq (.region ?_)
       iterate 2 refine .m rfl ?_
       obtain ⟨x52, e52, hm⟩ := hm.call
       refine .cl rfl rfl rfl rfl pl77 (R2.wk _) (transactions_Save_ok    e52) ?_
       rintro _ _ ⟨rfl, rfl⟩
       refine .m rfl ?_
       refine .t (.o (.c (.L 6 (x52.1.map Tx.cs)))) (e_ext (ev_t rfl) rfl) ?_
       refine .t (VI (x52.2)) (e_ext (ev_t rfl) rfl) ?_
       iterate 2 refine .a rfl ?_
       refine .nil (CdOK.seq (.region ?_))
       iterate 2 refine .m rfl ?_
       obtain ⟨x53, e53, hm⟩ := hm.call
       refine .cl rfl rfl rfl rfl pl78 (R2.wk _) (ref12_Save_ok    e53) ?_
       rintro _ _ ⟨rfl, rfl⟩
       refine .m rfl ?_
       refine .t (.o (.c (.L 6 (x53.1.map Tx.cs)))) (e_ext (ev_t rfl) rfl) ?_
       refine .t (VI (x53.2)) (e_ext (ev_t rfl) rfl) ?_
       iterate 2 refine .a rfl ?_
       refine .nil (CdOK.seq (.seq (.region ?_)))
       iterate 2 refine .m rfl ?_
       refine .sd rfl rfl rfl (e_neK (ev_t rfl) (ev_t rfl)) ?_ ?_
       ·intro c54; replace hm := hm.ifp c54
        refine .m rfl ?_
        iterate 4 refine .k ?_
        refine .t (VB (true)) (e_pick (t := true) (ev_t rfl) rfl) ?_
        refine .nil ?_
        refine CdOK.cond_true rfl ?_
        refine .seq (.region (.t (VB (false)) (e_as rfl) ?_))
        refine .nil ?_
        refine CdOK.ret ?_
        refine ⟨.inr rfl, _, rfl, h, _, _, rfl, rfl, hC, ((renFlV rfl) : RenV _ _ _ _ (VB (false))), ?_⟩
        have hr := hm.ret; replace hr := Ev.ret hr; replace hr := Ev.ret hr; cases hr; exact ⟨rfl, rfl⟩
       intro c55; replace hm := hm.ifn c55
       iterate 3 refine .m rfl ?_
       obtain ⟨x56, e56, hm⟩ := hm.call
       refine .cl rfl rfl rfl rfl pl70 (R2.wk _) (ref12_Same_ok    e56) ?_
       rintro _ _ ⟨rfl, rfl⟩
       refine .t (VB ((!x56))) (e_un (ev_t rfl) rfl) ?_
       refine .t (VB ((!x56))) (e_pick (t := false) (ev_t rfl) (ev_t rfl)) ?_
       refine .nil ?_
       refine CdOK.condB (ev_t rfl) ?_ ?_
       ·intro c57; replace hm := hm.ifp c57
        refine .seq (.region (.t (VB (false)) (e_as rfl) ?_))
        refine .nil ?_
        refine CdOK.ret ?_
        refine ⟨.inr rfl, _, rfl, h, _, _, rfl, rfl, hC, ((renFlV rfl) : RenV _ _ _ _ (VB (false))), ?_⟩
        have hr := hm.ret; replace hr := Ev.ret hr; replace hr := Ev.ret hr; cases hr; exact ⟨rfl, rfl⟩
       intro c58; replace hm := hm.ifn c58
       refine .skip ?_
       refine CdOK.seq (.region ?_)
       iterate 3 refine .m rfl ?_
       obtain ⟨x59, e59, hm⟩ := hm.call
       cases x59 with
       | true =>
        replace hm := hm.ifp rfl
        refine .cl rfl rfl rfl rfl pl79 (R2.wk _) (law12_back_ok    e59) ?_
        rintro _ _ ⟨rfl, rfl⟩
        refine .t (VB (false)) (e_un (ev_t rfl) rfl) ?_
        iterate 3 refine .m rfl ?_
        obtain ⟨x60, e60, hm⟩ := hm.call
        cases x60 with
        | true =>
         replace hm := hm.ifp rfl
         refine .cl rfl rfl rfl rfl pl79 (R2.wk _) (law12_back_ok    e60) ?_
         rintro _ _ ⟨rfl, rfl⟩
         refine .t (VB (false)) (e_un (ev_t rfl) rfl) ?_
         refine .t (VB (false)) (e_pick (t := false) (ev_t rfl) (ev_t rfl)) ?_
         iterate 3 refine .m rfl ?_
         obtain ⟨x61, e61, hm⟩ := hm.call
         refine .cl rfl rfl rfl rfl pl79 (R2.wk _) (law12_back_ok    e61) ?_
         rintro _ _ ⟨rfl, rfl⟩
         refine .t (VB ((!x61))) (e_un (ev_t rfl) rfl) ?_
         refine .t (VB ((!x61))) (e_pick (t := false) (ev_t rfl) (ev_t rfl)) ?_
         refine .nil ?_
         refine CdOK.condB (ev_t rfl) ?_ ?_
         ·intro c62; replace hm := hm.ifp c62
          refine .seq (.region (.t (VB (false)) (e_as rfl) ?_))
          refine .nil ?_
          refine CdOK.ret ?_
          refine ⟨.inr rfl, _, rfl, h, _, _, rfl, rfl, hC, ((renFlV rfl) : RenV _ _ _ _ (VB (false))), ?_⟩
          have hr := hm.ret; replace hr := Ev.ret hr; replace hr := Ev.ret hr; cases hr; exact ⟨rfl, rfl⟩
         intro c63; replace hm := hm.ifn c63
         refine .skip ?_
         refine CdOK.region (.t (VI ((w64 (t11034 + 1)))) (e_bin (ev_t rfl) rfl rfl rfl) ?_)
         refine .m rfl ?_
         refine .nil ?_
         refine .re (σ := [0, 1]) (X := [(3, VI (id_)), (6, .o (.c (.ptr (h.length + 0) 0))), (9, .o (.c (.ptr (h.length + 1) 0))), (10, .o (.c (.L 6 (x5.1.map Tx.cs)))), (11, VI (x5.2.1)), (13, .o (.c (.L 6 ((gd ([raw, x5.1, x6.1] : List (List Tx)) t507).map Tx.cs)))), (48, .o (.c (.LC 1 (([raw, x5.1, x6.1] : List (List Tx)).map (cL 6 Tx.cs))))), (49, VI ((([raw, x5.1, x6.1] : List (List Tx)).length : Int))), (50, VI (t507)), (108, .o (.c (.LC 1 (([id_, (w64 (1 + x33.1))] : List Int).map cI)))), (109, VI ((([id_, (w64 (1 + x33.1))] : List Int).length : Int))), (110, VI ((w64 (t11034 + 1))))]) (L' := [⟨[I (e_.lsn), I (e_.kind_), I (e_.tx), I (e_.prevTx), I (e_.prevPage), I (e_.ref), I (e_.change.page), I (e_.change.slot), Bo (e_.change.before.set_), .v (.string e_.change.before.data), Bo (e_.change.after.set_), .v (.string e_.change.after.data), .v (.string e_.blob)], true, true⟩, ⟨[.L 1 (x33.2.l_.map c_u8), I (x33.2.at_)], true, true⟩]) rfl rfl hC (by decide) (.obj 0 rfl (renFl rfl) (.obj 1 rfl (renFl rfl) .nil)) (.cons (renFlV rfl) (.cons (.o (.c (.ptr 0 0 _ rfl))) (.cons (.o (.c (.ptr 1 1 _ rfl))) (.cons (renFlV rfl) (.cons (renFlV rfl) (.cons (renFlV rfl) (.cons (.o (.c (.fl _ rfl))) (.cons (renFlV rfl) (.cons (renFlV rfl) (.cons (.o (.c (.fl _ rfl))) (.cons (renFlV rfl) (.cons (renFlV rfl) .nil)))))))))))) ?_
         exact ⟨_, (w64 (t11034 + 1)), Nat.lt_succ_self _, hm, (.cons rfl (.cons rfl (.cons rfl (.cons rfl (.cons rfl (.cons rfl (.cons rfl (.cons rfl (.cons rfl (.cons rfl (.cons rfl (.cons rfl .nil)))))))))))), rfl⟩
        | false =>
         replace hm := hm.ifn Bool.false_ne_true
         refine .cl rfl rfl rfl rfl pl79 (R2.wk _) (law12_back_ok    e60) ?_
         rintro _ _ ⟨rfl, rfl⟩
         refine .t (VB (true)) (e_un (ev_t rfl) rfl) ?_
         refine .t (VB (true)) (e_pick (t := false) (ev_t rfl) (ev_t rfl)) ?_
         refine .m rfl ?_
         iterate 4 refine .k ?_
         refine .t (VB (true)) (e_pick (t := true) (ev_t rfl) rfl) ?_
         refine .nil ?_
         refine CdOK.cond_true rfl ?_
         refine .seq (.region (.t (VB (false)) (e_as rfl) ?_))
         refine .nil ?_
         refine CdOK.ret ?_
         refine ⟨.inr rfl, _, rfl, h, _, _, rfl, rfl, hC, ((renFlV rfl) : RenV _ _ _ _ (VB (false))), ?_⟩
         have hr := hm.ret; replace hr := Ev.ret hr; replace hr := Ev.ret hr; cases hr; exact ⟨rfl, rfl⟩
       | false =>
        replace hm := hm.ifn Bool.false_ne_true
        refine .cl rfl rfl rfl rfl pl79 (R2.wk _) (law12_back_ok    e59) ?_
        rintro _ _ ⟨rfl, rfl⟩
        refine .t (VB (true)) (e_un (ev_t rfl) rfl) ?_
        refine .m rfl ?_
        iterate 4 refine .k ?_
        refine .t (VB (true)) (e_pick (t := true) (ev_t rfl) rfl) ?_
        refine .m rfl ?_
        iterate 4 refine .k ?_
        refine .t (VB (true)) (e_pick (t := true) (ev_t rfl) rfl) ?_
        refine .nil ?_
        refine CdOK.cond_true rfl ?_
        refine .seq (.region (.t (VB (false)) (e_as rfl) ?_))
        refine .nil ?_
        refine CdOK.ret ?_
        refine ⟨.inr rfl, _, rfl, h, _, _, rfl, rfl, hC, ((renFlV rfl) : RenV _ _ _ _ (VB (false))), ?_⟩
        have hr := hm.ret; replace hr := Ev.ret hr; replace hr := Ev.ret hr; cases hr; exact ⟨rfl, rfl⟩
      | false =>
       replace hm := hm.ifn Bool.false_ne_true
       refine .cl rfl rfl rfl rfl pl70 (R2.wk _) (ref12_Same_ok    e42) ?_
       rintro _ _ ⟨rfl, rfl⟩
       refine .t (VB (true)) (e_un (ev_t rfl) rfl) ?_
       refine .t (VB (true)) (e_pick (t := false) (ev_t rfl) (ev_t rfl)) ?_
       refine .m rfl ?_
       iterate 7 refine .k ?_
       refine .t (VB (true)) (e_pick (t := true) (ev_t rfl) rfl) ?_
       refine .m rfl ?_
       iterate 8 refine .k ?_
       refine .t (VB (true)) (e_pick (t := true) (ev_t rfl) rfl) ?_
       refine .nil ?_
       refine CdOK.cond_true rfl ?_
       refine .seq (.region (.t (VB (false)) (e_as rfl) ?_))
       refine .nil ?_
       refine CdOK.ret ?_
       refine ⟨.inr rfl, _, rfl, h, _, _, rfl, rfl, hC, ((renFlV rfl) : RenV _ _ _ _ (VB (false))), ?_⟩
       have hr := hm.ret; replace hr := Ev.ret hr; replace hr := Ev.ret hr; cases hr; exact ⟨rfl, rfl⟩
     intro c64; replace hm := hm.ifn c64
     refine .exit ?_
     refine .re (σ := [0, 1]) (X := [(3, VI (id_)), (6, .o (.c (.ptr (h.length + 0) 0))), (9, .o (.c (.ptr (h.length + 1) 0))), (10, .o (.c (.L 6 (x5.1.map Tx.cs)))), (11, VI (x5.2.1)), (48, .o (.c (.LC 1 (([raw, x5.1, x6.1] : List (List Tx)).map (cL 6 Tx.cs))))), (49, VI ((([raw, x5.1, x6.1] : List (List Tx)).length : Int))), (50, VI (t507))]) (L' := [⟨[I (e_.lsn), I (e_.kind_), I (e_.tx), I (e_.prevTx), I (e_.prevPage), I (e_.ref), I (e_.change.page), I (e_.change.slot), Bo (e_.change.before.set_), .v (.string e_.change.before.data), Bo (e_.change.after.set_), .v (.string e_.change.after.data), .v (.string e_.blob)], true, true⟩, ⟨[.L 1 (x33.2.l_.map c_u8), I (x33.2.at_)], true, true⟩]) rfl rfl hC (by decide) (.obj 0 rfl (renFl rfl) (.obj 1 rfl (renFl rfl) .nil)) (.cons (renFlV rfl) (.cons (.o (.c (.ptr 0 0 _ rfl))) (.cons (.o (.c (.ptr 1 1 _ rfl))) (.cons (renFlV rfl) (.cons (renFlV rfl) (.cons (.o (.c (.fl _ rfl))) (.cons (renFlV rfl) (.cons (renFlV rfl) .nil)))))))) ?_
     exact ⟨(), hm.ret, (.cons rfl (.cons rfl (.cons rfl (.cons rfl (.cons rfl (.cons rfl (.cons rfl (.cons rfl .nil)))))))), rfl⟩
    intro _ T0 hm
    refine CdOK.region (.t (VI ((w64 (t507 + 1)))) (e_bin (ev_t rfl) rfl rfl rfl) ?_)
    refine .m rfl ?_
    refine .nil ?_
    refine .re (σ := [0, 1]) (X := [(3, VI (id_)), (6, .o (.c (.ptr (h.length + 0) 0))), (9, .o (.c (.ptr (h.length + 1) 0))), (10, .o (.c (.L 6 (x5.1.map Tx.cs)))), (11, VI (x5.2.1)), (48, .o (.c (.LC 1 (([raw, x5.1, x6.1] : List (List Tx)).map (cL 6 Tx.cs))))), (49, VI ((([raw, x5.1, x6.1] : List (List Tx)).length : Int))), (50, VI ((w64 (t507 + 1))))]) (L' := [⟨[I (e_.lsn), I (e_.kind_), I (e_.tx), I (e_.prevTx), I (e_.prevPage), I (e_.ref), I (e_.change.page), I (e_.change.slot), Bo (e_.change.before.set_), .v (.string e_.change.before.data), Bo (e_.change.after.set_), .v (.string e_.change.after.data), .v (.string e_.blob)], true, true⟩, ⟨[.L 1 (x33.2.l_.map c_u8), I (x33.2.at_)], true, true⟩]) rfl rfl hC (by decide) (.obj 0 rfl (renFl rfl) (.obj 1 rfl (renFl rfl) .nil)) (.cons (renFlV rfl) (.cons (.o (.c (.ptr 0 0 _ rfl))) (.cons (.o (.c (.ptr 1 1 _ rfl))) (.cons (renFlV rfl) (.cons (renFlV rfl) (.cons (.o (.c (.fl _ rfl))) (.cons (renFlV rfl) (.cons (renFlV rfl) .nil)))))))) ?_
    exact ⟨_, ((w64 (t507 + 1)), x33.2), Nat.lt_succ_self _, hm, (.cons rfl (.cons rfl (.cons rfl (.cons rfl (.cons rfl (.cons rfl (.cons rfl (.cons rfl .nil)))))))), rfl⟩
   intro c66; replace hm := hm.ifn c66
   refine .exit ?_
   refine .re (σ := []) (X := []) (L' := []) rfl rfl hC (by decide) .nil .nil ?_
   exact ⟨(), hm.ret, .nil, rfl⟩
  intro _ T0 hm
  refine CdOK.seq (.region (.t (VB (true)) (e_as rfl) ?_))
  refine .nil ?_
  refine CdOK.ret ?_
  refine ⟨.inr rfl, _, rfl, h, _, _, rfl, rfl, hC, ((renFlV rfl) : RenV _ _ _ _ (VB (true))), ?_⟩
  cases hm.ret; exact ⟨rfl, rfl⟩
 | false =>
  replace hm := hm.ifn Bool.false_ne_true
  refine .cl rfl rfl rfl rfl pl62 (R2.wk _) (law12_awake_ok    e1) ?_
  rintro _ _ ⟨rfl, rfl⟩
  refine .t (VB (true)) (e_un (ev_t rfl) rfl) ?_
  refine .m rfl ?_
  iterate 3 refine .k ?_
  refine .t (VB (true)) (e_pick (t := true) (ev_t rfl) rfl) ?_
  refine .nil ?_
  refine CdOK.cond_true rfl ?_
  refine .seq (.region (.m rfl ?_))
  refine .t (VI ((raw.length : Int))) (e_lenM (ev_t rfl) is92) ?_
  refine .t (VB (decide (30 < (raw.length : Int)))) (e_bin (ev_t rfl) rfl rfl rfl) ?_
  refine .a rfl ?_
  refine .nil ?_
  refine CdOK.ret ?_
  refine ⟨.inr rfl, _, rfl, h, _, _, rfl, rfl, hC, ((renFlV rfl) : RenV _ _ _ _ (VB (decide (30 < (raw.length : Int))))), ?_⟩
  cases hm.ret; exact ⟨rfl, rfl⟩
end Rv
