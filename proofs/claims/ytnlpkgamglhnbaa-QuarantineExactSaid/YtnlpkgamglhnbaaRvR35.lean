/- Chapter 35: the statements' functions, as plain functions. -/
import Derived.Test.YtnlpkgamglhnbaaRvR35s
set_option linter.unusedVariables false
set_option linter.unusedSimpArgs false
namespace Rv
open Go Go.RowKit Go.Proofs
theorem pl23 : plainFn Try.prog 23 = true := by decide +kernel
theorem pl27 : plainFn Try.prog 27 = true := by decide +kernel
theorem pl29 : plainFn Try.prog 29 = true := by decide +kernel
theorem pl85 : plainFn Try.prog 85 = true := by decide +kernel
theorem pl87 : plainFn Try.prog 87 = true := by decide +kernel
/- pagemend/pagemendref35.has -/
def ref35_has.l1 (l_ : (List Int)) (n_ : Int) : Nat → Int → Option (Sum Unit Bool)
  | 0, _ => none
  | kk2 + 1, i1 => (if i1 < (l_.length : Int) then (if (0 : Int) ≤ i1 ∧ i1 < (l_.length : Int) then (if (gd l_ i1) = n_ then some (Sum.inr true) else ref35_has.l1 l_ n_ kk2 (w64 (i1 + 1))) else none) else some (Sum.inl ()))
theorem ref35_has.l1_s (l_ : (List Int)) (n_ : Int) (kk2 : Nat) (i1 : Int) : ref35_has.l1 l_ n_ (kk2 + 1) i1 = (if i1 < (l_.length : Int) then (if (0 : Int) ≤ i1 ∧ i1 < (l_.length : Int) then (if (gd l_ i1) = n_ then some (Sum.inr true) else ref35_has.l1 l_ n_ kk2 (w64 (i1 + 1))) else none) else some (Sum.inl ())) := rfl
def ref35_has (l_ : (List Int)) (n_ : Int) : Option Bool := ((ref35_has.l1 l_ n_ FU 0).bind fun (z : Sum Unit Bool) => match z with | .inl (s8 : Unit) => some false | .inr r => some r)
theorem ref35_has.eq (l_ : (List Int)) (n_ : Int) : ref35_has l_ n_ = ((ref35_has.l1 l_ n_ FU 0).bind fun (z : Sum Unit Bool) => match z with | .inl (s8 : Unit) => some false | .inr r => some r) := rfl
theorem ref35_has_ok {h : Heap} {l_ : (List Int)} {n_ : Int}  {r : Bool} (hm : ref35_has l_ n_ = some r) : FnOK Try.prog 85 [.o (.c (.L 1 (l_.map cI))), VI (n_)] h (fun v h' => v = VB (r) ∧ h' = h) := by
  refine FnOK.fin ?_
  refine FnOK.bodyC (N := 18) Try.func85 rfl rfl rfl (fun hC => ?_)
  replace hm := Ev.of hm
  rw [ref35_has.eq] at hm
  show CdOK _ _ _ (look _ [(0, .o (.c (.L 1 (l_.map cI)))), (1, VI (n_))]) (h ++ ([] : Heap)) _
  refine CdOK.seq ?_
  refine CdOK.region ?_
  refine RgOK.s (v := VB (false)) rfl rfl rfl (e_as rfl) ?_
  refine RgOK.nil ?_
  show CdOK _ _ _ _ _ _
  refine CdOK.seq ?_
  refine CdOK.seq ?_
  refine CdOK.region ?_
  refine RgOK.s (v := VI (0)) rfl rfl rfl (e_as rfl) ?_
  refine RgOK.nil ?_
  show CdOK _ _ _ _ _ _
  replace hm := hm.bnd
  refine CdOK.joinT (σ := Unit) (fun s => Sum.inl ()) hm (fun s => []) (fun s => h ++ ([] : Heap)) ?_ ?_
  · intro hm
    refine CdOK.block ?_
    refine CdOK.loopE (σ := Int) (fun k s => Ev (ref35_has.l1 l_ n_ k s) _) (fun s => [(0, .o (.c (.L 1 (l_.map cI)))), (1, VI (n_)), (5, VI (s))]) (fun s => h ++ ([] : Heap)) FU 0 hm (.cons rfl (.cons rfl (.cons rfl .nil))) rfl ?_
    rintro kk2 i1 T0 hm
    replace hm : Ev (ref35_has.l1 l_ n_ kk2 i1) _ := hm
    cases kk2 with
    | zero => exact (Ev.non hm).elim
    | succ kk2 =>
    rw [ref35_has.l1_s] at hm
    show CdOK _ _ _ (look T0 [(0, .o (.c (.L 1 (l_.map cI)))), (1, VI (n_)), (5, VI (i1))]) (h ++ ([] : Heap)) _
    refine CdOK.seq ?_
    refine CdOK.seq ?_
    refine CdOK.region ?_
    refine RgOK.s (v := VI (i1)) rfl rfl rfl (e_mv (ev_t rfl)) ?_
    refine RgOK.s (v := .o (.c (.L 1 (l_.map cI)))) rfl rfl rfl (e_mv (ev_t rfl)) ?_
    refine RgOK.s (v := VI ((l_.length : Int))) rfl rfl rfl (e_lenM (ev_t rfl) is27) ?_
    refine RgOK.s (v := VB (decide (i1 < (l_.length : Int)))) rfl rfl rfl (e_bin (ev_t rfl) (ev_t rfl) rfl rfl) ?_
    refine RgOK.nil ?_
    show CdOK _ _ _ _ _ _
    refine CdOK.condD (ev_t rfl) ?_ ?_
    · intro c3; replace hm := hm.ifp c3
      refine CdOK.skip ?_
      show CdOK _ _ _ _ _ _
      refine CdOK.seq ?_
      refine CdOK.block ?_
      refine CdOK.seq ?_
      refine CdOK.region ?_
      refine RgOK.s (v := .o (.c (.L 1 (l_.map cI)))) rfl rfl rfl (e_mv (ev_t rfl)) ?_
      refine RgOK.s (v := VI (i1)) rfl rfl rfl (e_mv (ev_t rfl)) ?_
      obtain ⟨c4, hm⟩ := hm.ifs
      refine RgOK.s (v := .o (.c (.rp [I ((gd l_ i1))]))) rfl rfl rfl (e_ixM (f := cI) (l := l_) (i := i1) (ev_t rfl) (ev_t rfl) el27 c4) ?_
      refine RgOK.s (v := VI ((gd l_ i1))) rfl rfl rfl (e_ldR1 (ev_t rfl) ty3 rfl) ?_
      refine RgOK.s (v := VI (n_)) rfl rfl rfl (e_mv (ev_t rfl)) ?_
      refine RgOK.s (v := VB (decide ((gd l_ i1) = n_))) rfl rfl rfl (e_eqK (ev_t rfl) (ev_t rfl)) ?_
      refine RgOK.nil ?_
      show CdOK _ _ _ _ _ _
      refine CdOK.condD (ev_t rfl) ?_ ?_
      · intro c5; replace hm := hm.ifp c5
        refine CdOK.seq ?_
        refine CdOK.region ?_
        refine RgOK.s (v := VB (true)) rfl rfl rfl (e_as rfl) ?_
        refine RgOK.nil ?_
        show CdOK _ _ _ _ _ _
        refine CdOK.ret ?_
        refine ⟨.inr rfl, _, rfl, h, [], _, rfl, rfl, hC, ((renFlV rfl) : RenV _ _ _ _ (VB (true))), ?_⟩
        have hr := hm.ret
        replace hr := Ev.ret hr
        subst hr
        exact ⟨rfl, rfl⟩
      · intro c6; replace hm := hm.ifn c6
        refine CdOK.skip ?_
        show CdOK _ _ _ _ _ _
        refine CdOK.region ?_
        refine RgOK.s (v := VI (i1)) rfl rfl rfl (e_mv (ev_t rfl)) ?_
        refine RgOK.s (v := VI ((w64 (i1 + 1)))) rfl rfl rfl (e_bin (ev_t rfl) rfl rfl rfl) ?_
        refine RgOK.s (v := VI ((w64 (i1 + 1)))) rfl rfl rfl (e_as (ev_t rfl)) ?_
        refine RgOK.nil ?_
        refine Told.id ?_
        exact ⟨_, (w64 (i1 + 1)), Nat.lt_succ_self _, hm, (.cons rfl (.cons rfl (.cons rfl .nil))), rfl⟩
    · intro c7; replace hm := hm.ifn c7
      refine CdOK.exit ?_
      refine Told.id ?_
      exact ⟨(), hm.ret, .nil, rfl⟩
  · intro _ T0 hm
    show CdOK _ _ _ _ _ _
    refine CdOK.seq ?_
    refine CdOK.region ?_
    refine RgOK.s (v := VB (false)) rfl rfl rfl (e_as rfl) ?_
    refine RgOK.nil ?_
    show CdOK _ _ _ _ _ _
    refine CdOK.ret ?_
    refine ⟨.inr rfl, _, rfl, h, [], _, rfl, rfl, hC, ((renFlV rfl) : RenV _ _ _ _ (VB (false))), ?_⟩
    have hr := hm.ret
    subst hr
    exact ⟨rfl, rfl⟩
/- pagemend/pagemendref35.Valid -/
def ref35_Valid.l1 (r_ : Remap) : Nat → Int → Int → Option (Sum Int Bool)
  | 0, _, _ => none
  | kk14 + 1, own12, i13 => (if i13 < (r_.bad.length : Int) then (((if (0 : Int) ≤ i13 ∧ i13 < (r_.bad.length : Int) then (if (gd r_.bad i13) < 0 then some (Sum.inr false) else (if (0 : Int) ≤ i13 ∧ i13 < (r_.bad.length : Int) then (if (w64 (r_.pages + r_.spares)) ≤ (gd r_.bad i13) then some (Sum.inr false) else (if 0 < i13 then (if (0 : Int) ≤ (w64 (i13 - 1)) ∧ (w64 (i13 - 1)) < (r_.bad.length : Int) then (if (0 : Int) ≤ i13 ∧ i13 < (r_.bad.length : Int) then (if (gd r_.bad i13) ≤ (gd r_.bad (w64 (i13 - 1))) then some (Sum.inr false) else some (Sum.inl ())) else none) else none) else some (Sum.inl ()))) else none)) else none)).bind fun (z : Sum Unit Bool) => match z with | .inl (s28 : Unit) => (if (0 : Int) ≤ i13 ∧ i13 < (r_.bad.length : Int) then (if (gd r_.bad i13) < r_.pages then ref35_Valid.l1 r_ kk14 (w64 (own12 + 1)) (w64 (i13 + 1)) else ref35_Valid.l1 r_ kk14 own12 (w64 (i13 + 1))) else none) | .inr r => some (Sum.inr r)) else some (Sum.inl own12))
theorem ref35_Valid.l1_s (r_ : Remap) (kk14 : Nat) (own12 : Int) (i13 : Int) : ref35_Valid.l1 r_ (kk14 + 1) own12 i13 = (if i13 < (r_.bad.length : Int) then (((if (0 : Int) ≤ i13 ∧ i13 < (r_.bad.length : Int) then (if (gd r_.bad i13) < 0 then some (Sum.inr false) else (if (0 : Int) ≤ i13 ∧ i13 < (r_.bad.length : Int) then (if (w64 (r_.pages + r_.spares)) ≤ (gd r_.bad i13) then some (Sum.inr false) else (if 0 < i13 then (if (0 : Int) ≤ (w64 (i13 - 1)) ∧ (w64 (i13 - 1)) < (r_.bad.length : Int) then (if (0 : Int) ≤ i13 ∧ i13 < (r_.bad.length : Int) then (if (gd r_.bad i13) ≤ (gd r_.bad (w64 (i13 - 1))) then some (Sum.inr false) else some (Sum.inl ())) else none) else none) else some (Sum.inl ()))) else none)) else none)).bind fun (z : Sum Unit Bool) => match z with | .inl (s28 : Unit) => (if (0 : Int) ≤ i13 ∧ i13 < (r_.bad.length : Int) then (if (gd r_.bad i13) < r_.pages then ref35_Valid.l1 r_ kk14 (w64 (own12 + 1)) (w64 (i13 + 1)) else ref35_Valid.l1 r_ kk14 own12 (w64 (i13 + 1))) else none) | .inr r => some (Sum.inr r)) else some (Sum.inl own12)) := rfl
def ref35_Valid.l3 (r_ : Remap) (i34 : Int) : Nat → Int → Option (Sum Unit Bool)
  | 0, _ => none
  | kk65 + 1, k64 => (if k64 < i34 then (if (0 : Int) ≤ k64 ∧ k64 < (r_.places.length : Int) then (if ((gd r_.places k64).address) = ((gd r_.places i34).address) then some (Sum.inr false) else ref35_Valid.l3 r_ i34 kk65 (w64 (k64 + 1))) else none) else some (Sum.inl ()))
theorem ref35_Valid.l3_s (r_ : Remap) (i34 : Int) (kk65 : Nat) (k64 : Int) : ref35_Valid.l3 r_ i34 (kk65 + 1) k64 = (if k64 < i34 then (if (0 : Int) ≤ k64 ∧ k64 < (r_.places.length : Int) then (if ((gd r_.places k64).address) = ((gd r_.places i34).address) then some (Sum.inr false) else ref35_Valid.l3 r_ i34 kk65 (w64 (k64 + 1))) else none) else some (Sum.inl ())) := rfl
def ref35_Valid.l2 (r_ : Remap) : Nat → Int → Option (Sum Unit Bool)
  | 0, _ => none
  | kk35 + 1, i34 => (if i34 < (r_.places.length : Int) then (if (0 : Int) ≤ i34 ∧ i34 < (r_.places.length : Int) then (((if ((gd r_.places i34).page) < 0 then some (Sum.inr false) else (if r_.pages ≤ ((gd r_.places i34).page) then some (Sum.inr false) else (if 0 < i34 then (if (0 : Int) ≤ (w64 (i34 - 1)) ∧ (w64 (i34 - 1)) < (r_.places.length : Int) then (if ((gd r_.places i34).page) ≤ ((gd r_.places (w64 (i34 - 1))).page) then some (Sum.inr false) else (if ((gd r_.places i34).address) < r_.pages then some (Sum.inr false) else (if (w64 (r_.pages + r_.spares)) ≤ ((gd r_.places i34).address) then some (Sum.inr false) else ((ref35_has r_.bad ((gd r_.places i34).address)).bind fun (x50 : Bool) => (if x50 = true then some (Sum.inr false) else ((ref35_has r_.bad ((gd r_.places i34).page)).bind fun (x51 : Bool) => (if (!x51) = true then some (Sum.inr false) else some (Sum.inl ())))))))) else none) else (if ((gd r_.places i34).address) < r_.pages then some (Sum.inr false) else (if (w64 (r_.pages + r_.spares)) ≤ ((gd r_.places i34).address) then some (Sum.inr false) else ((ref35_has r_.bad ((gd r_.places i34).address)).bind fun (x59 : Bool) => (if x59 = true then some (Sum.inr false) else ((ref35_has r_.bad ((gd r_.places i34).page)).bind fun (x60 : Bool) => (if (!x60) = true then some (Sum.inr false) else some (Sum.inl ()))))))))))).bind fun (z : Sum Unit Bool) => match z with | .inl (s63 : Unit) => ((ref35_Valid.l3 r_ i34 FU 0).bind fun (z : Sum Unit Bool) => match z with | .inl (s71 : Unit) => ref35_Valid.l2 r_ kk35 (w64 (i34 + 1)) | .inr r => some (Sum.inr r)) | .inr r => some (Sum.inr r)) else none) else some (Sum.inl ()))
theorem ref35_Valid.l2_s (r_ : Remap) (kk35 : Nat) (i34 : Int) : ref35_Valid.l2 r_ (kk35 + 1) i34 = (if i34 < (r_.places.length : Int) then (if (0 : Int) ≤ i34 ∧ i34 < (r_.places.length : Int) then (((if ((gd r_.places i34).page) < 0 then some (Sum.inr false) else (if r_.pages ≤ ((gd r_.places i34).page) then some (Sum.inr false) else (if 0 < i34 then (if (0 : Int) ≤ (w64 (i34 - 1)) ∧ (w64 (i34 - 1)) < (r_.places.length : Int) then (if ((gd r_.places i34).page) ≤ ((gd r_.places (w64 (i34 - 1))).page) then some (Sum.inr false) else (if ((gd r_.places i34).address) < r_.pages then some (Sum.inr false) else (if (w64 (r_.pages + r_.spares)) ≤ ((gd r_.places i34).address) then some (Sum.inr false) else ((ref35_has r_.bad ((gd r_.places i34).address)).bind fun (x50 : Bool) => (if x50 = true then some (Sum.inr false) else ((ref35_has r_.bad ((gd r_.places i34).page)).bind fun (x51 : Bool) => (if (!x51) = true then some (Sum.inr false) else some (Sum.inl ())))))))) else none) else (if ((gd r_.places i34).address) < r_.pages then some (Sum.inr false) else (if (w64 (r_.pages + r_.spares)) ≤ ((gd r_.places i34).address) then some (Sum.inr false) else ((ref35_has r_.bad ((gd r_.places i34).address)).bind fun (x59 : Bool) => (if x59 = true then some (Sum.inr false) else ((ref35_has r_.bad ((gd r_.places i34).page)).bind fun (x60 : Bool) => (if (!x60) = true then some (Sum.inr false) else some (Sum.inl ()))))))))))).bind fun (z : Sum Unit Bool) => match z with | .inl (s63 : Unit) => ((ref35_Valid.l3 r_ i34 FU 0).bind fun (z : Sum Unit Bool) => match z with | .inl (s71 : Unit) => ref35_Valid.l2 r_ kk35 (w64 (i34 + 1)) | .inr r => some (Sum.inr r)) | .inr r => some (Sum.inr r)) else none) else some (Sum.inl ())) := rfl
def ref35_Valid (r_ : Remap) : Option Bool := (if r_.pages < 1 then some false else (if 64 < r_.pages then some false else (if r_.spares < 0 then some false else (if 16 < r_.spares then some false else (if 64 < (w64 (r_.pages + r_.spares)) then some false else ((ref35_Valid.l1 r_ FU 0 0).bind fun (z : Sum Int Bool) => match z with | .inl (s33 : Int) => ((ref35_Valid.l2 r_ FU 0).bind fun (z : Sum Unit Bool) => match z with | .inl (s73 : Unit) => some (decide ((r_.places.length : Int) = s33)) | .inr r => some r) | .inr r => some r))))))
theorem ref35_Valid.eq (r_ : Remap) : ref35_Valid r_ = (if r_.pages < 1 then some false else (if 64 < r_.pages then some false else (if r_.spares < 0 then some false else (if 16 < r_.spares then some false else (if 64 < (w64 (r_.pages + r_.spares)) then some false else ((ref35_Valid.l1 r_ FU 0 0).bind fun (z : Sum Int Bool) => match z with | .inl (s33 : Int) => ((ref35_Valid.l2 r_ FU 0).bind fun (z : Sum Unit Bool) => match z with | .inl (s73 : Unit) => some (decide ((r_.places.length : Int) = s33)) | .inr r => some r) | .inr r => some r)))))) := rfl
theorem ref35_Valid_ok {h : Heap} {r_ : Remap}  {r : Bool} (hm : ref35_Valid r_ = some r) : FnOK Try.prog 23 [.o (.agg [I (r_.pages), I (r_.spares), .L 2 (r_.places.map Place.cs), .L 1 (r_.bad.map cI)])] h (fun v h' => v = VB (r) ∧ h' = h) := by
  refine FnOK.fin ?_
  refine FnOK.bodyC (N := 177) Try.func23 rfl rfl rfl (fun hC => ?_)
  replace hm := Ev.of hm
  rw [ref35_Valid.eq] at hm
  show CdOK _ _ _ (look _ [(0, .o (.agg [I (r_.pages), I (r_.spares), .L 2 (r_.places.map Place.cs), .L 1 (r_.bad.map cI)]))]) (h ++ ([] : Heap)) _
  refine CdOK.seq ?_
  refine CdOK.region ?_
  refine RgOK.s (v := .o (.c (.ptr (h.length + 0) 0))) rfl rfl rfl (e_boxN (L' := [⟨[I (r_.pages), I (r_.spares), .L 2 (r_.places.map Place.cs), .L 1 (r_.bad.map cI)], true, true⟩]) rfl (ev_t rfl) rfl rfl) ?_
  refine RgOK.s (v := VB (false)) rfl rfl rfl (e_as rfl) ?_
  refine RgOK.nil ?_
  show CdOK _ _ _ _ _ _
  refine CdOK.seq ?_
  refine CdOK.seq ?_
  refine CdOK.region ?_
  refine RgOK.s (v := .o (.c (.ptr (h.length + 0) 0))) rfl rfl rfl (e_fa' fa29_0 (ev_t rfl)) ?_
  refine RgOK.s (v := VI (r_.pages)) rfl rfl rfl (e_ldb1 (ev_t rfl) ty3 (bx rfl rfl) rfl) ?_
  refine RgOK.sd rfl rfl rfl (e_bin (ev_t rfl) rfl rfl rfl) ?_ ?_
  · intro c1; replace hm := hm.ifp c1
    refine RgOK.s (v := VB (true)) rfl rfl rfl (e_mv (ev_t rfl)) ?_
    refine RgOK.sk rfl rfl rfl ?_
    refine RgOK.sk rfl rfl rfl ?_
    refine RgOK.sk rfl rfl rfl ?_
    refine RgOK.s (v := VB (true)) rfl rfl rfl (e_pick (t := true) (ev_t rfl) rfl) ?_
    refine RgOK.s (v := VB (true)) rfl rfl rfl (e_mv (ev_t rfl)) ?_
    refine RgOK.sk rfl rfl rfl ?_
    refine RgOK.sk rfl rfl rfl ?_
    refine RgOK.sk rfl rfl rfl ?_
    refine RgOK.s (v := VB (true)) rfl rfl rfl (e_pick (t := true) (ev_t rfl) rfl) ?_
    refine RgOK.s (v := VB (true)) rfl rfl rfl (e_mv (ev_t rfl)) ?_
    refine RgOK.sk rfl rfl rfl ?_
    refine RgOK.sk rfl rfl rfl ?_
    refine RgOK.sk rfl rfl rfl ?_
    refine RgOK.s (v := VB (true)) rfl rfl rfl (e_pick (t := true) (ev_t rfl) rfl) ?_
    refine RgOK.s (v := VB (true)) rfl rfl rfl (e_mv (ev_t rfl)) ?_
    refine RgOK.sk rfl rfl rfl ?_
    refine RgOK.sk rfl rfl rfl ?_
    refine RgOK.sk rfl rfl rfl ?_
    refine RgOK.sk rfl rfl rfl ?_
    refine RgOK.sk rfl rfl rfl ?_
    refine RgOK.sk rfl rfl rfl ?_
    refine RgOK.s (v := VB (true)) rfl rfl rfl (e_pick (t := true) (ev_t rfl) rfl) ?_
    refine RgOK.nil ?_
    show CdOK _ _ _ _ _ _
    refine CdOK.cond_true rfl ?_
    refine CdOK.seq ?_
    refine CdOK.region ?_
    refine RgOK.s (v := VB (false)) rfl rfl rfl (e_as rfl) ?_
    refine RgOK.nil ?_
    show CdOK _ _ _ _ _ _
    refine CdOK.ret ?_
    refine ⟨.inr rfl, _, rfl, h, [⟨[I (r_.pages), I (r_.spares), .L 2 (r_.places.map Place.cs), .L 1 (r_.bad.map cI)], true, true⟩], _, rfl, rfl, hC, ((renFlV rfl) : RenV _ _ _ _ (VB (false))), ?_⟩
    have hr := hm.ret
    subst hr
    exact ⟨rfl, rfl⟩
  · intro c2; replace hm := hm.ifn c2
    refine RgOK.s (v := VB (false)) rfl rfl rfl (e_mv (ev_t rfl)) ?_
    refine RgOK.s (v := .o (.c (.ptr (h.length + 0) 0))) rfl rfl rfl (e_fa' fa29_0 (ev_t rfl)) ?_
    refine RgOK.s (v := VI (r_.pages)) rfl rfl rfl (e_ldb1 (ev_t rfl) ty3 (bx rfl rfl) rfl) ?_
    refine RgOK.sd rfl rfl rfl (e_bin (ev_t rfl) rfl rfl rfl) ?_ ?_
    · intro c3; replace hm := hm.ifp c3
      refine RgOK.s (v := VB (true)) rfl rfl rfl (e_pick (t := false) (ev_t rfl) (ev_t rfl)) ?_
      refine RgOK.s (v := VB (true)) rfl rfl rfl (e_mv (ev_t rfl)) ?_
      refine RgOK.sk rfl rfl rfl ?_
      refine RgOK.sk rfl rfl rfl ?_
      refine RgOK.sk rfl rfl rfl ?_
      refine RgOK.s (v := VB (true)) rfl rfl rfl (e_pick (t := true) (ev_t rfl) rfl) ?_
      refine RgOK.s (v := VB (true)) rfl rfl rfl (e_mv (ev_t rfl)) ?_
      refine RgOK.sk rfl rfl rfl ?_
      refine RgOK.sk rfl rfl rfl ?_
      refine RgOK.sk rfl rfl rfl ?_
      refine RgOK.s (v := VB (true)) rfl rfl rfl (e_pick (t := true) (ev_t rfl) rfl) ?_
      refine RgOK.s (v := VB (true)) rfl rfl rfl (e_mv (ev_t rfl)) ?_
      refine RgOK.sk rfl rfl rfl ?_
      refine RgOK.sk rfl rfl rfl ?_
      refine RgOK.sk rfl rfl rfl ?_
      refine RgOK.sk rfl rfl rfl ?_
      refine RgOK.sk rfl rfl rfl ?_
      refine RgOK.sk rfl rfl rfl ?_
      refine RgOK.s (v := VB (true)) rfl rfl rfl (e_pick (t := true) (ev_t rfl) rfl) ?_
      refine RgOK.nil ?_
      show CdOK _ _ _ _ _ _
      refine CdOK.cond_true rfl ?_
      refine CdOK.seq ?_
      refine CdOK.region ?_
      refine RgOK.s (v := VB (false)) rfl rfl rfl (e_as rfl) ?_
      refine RgOK.nil ?_
      show CdOK _ _ _ _ _ _
      refine CdOK.ret ?_
      refine ⟨.inr rfl, _, rfl, h, [⟨[I (r_.pages), I (r_.spares), .L 2 (r_.places.map Place.cs), .L 1 (r_.bad.map cI)], true, true⟩], _, rfl, rfl, hC, ((renFlV rfl) : RenV _ _ _ _ (VB (false))), ?_⟩
      have hr := hm.ret
      subst hr
      exact ⟨rfl, rfl⟩
    · intro c4; replace hm := hm.ifn c4
      refine RgOK.s (v := VB (false)) rfl rfl rfl (e_pick (t := false) (ev_t rfl) (ev_t rfl)) ?_
      refine RgOK.s (v := VB (false)) rfl rfl rfl (e_mv (ev_t rfl)) ?_
      refine RgOK.s (v := .o (.c (.ptr (h.length + 0) 1))) rfl rfl rfl (e_fa' fa29_1 (ev_t rfl)) ?_
      refine RgOK.s (v := VI (r_.spares)) rfl rfl rfl (e_ldb1 (ev_t rfl) ty3 (bx rfl rfl) rfl) ?_
      refine RgOK.sd rfl rfl rfl (e_bin (ev_t rfl) rfl rfl rfl) ?_ ?_
      · intro c5; replace hm := hm.ifp c5
        refine RgOK.s (v := VB (true)) rfl rfl rfl (e_pick (t := false) (ev_t rfl) (ev_t rfl)) ?_
        refine RgOK.s (v := VB (true)) rfl rfl rfl (e_mv (ev_t rfl)) ?_
        refine RgOK.sk rfl rfl rfl ?_
        refine RgOK.sk rfl rfl rfl ?_
        refine RgOK.sk rfl rfl rfl ?_
        refine RgOK.s (v := VB (true)) rfl rfl rfl (e_pick (t := true) (ev_t rfl) rfl) ?_
        refine RgOK.s (v := VB (true)) rfl rfl rfl (e_mv (ev_t rfl)) ?_
        refine RgOK.sk rfl rfl rfl ?_
        refine RgOK.sk rfl rfl rfl ?_
        refine RgOK.sk rfl rfl rfl ?_
        refine RgOK.sk rfl rfl rfl ?_
        refine RgOK.sk rfl rfl rfl ?_
        refine RgOK.sk rfl rfl rfl ?_
        refine RgOK.s (v := VB (true)) rfl rfl rfl (e_pick (t := true) (ev_t rfl) rfl) ?_
        refine RgOK.nil ?_
        show CdOK _ _ _ _ _ _
        refine CdOK.cond_true rfl ?_
        refine CdOK.seq ?_
        refine CdOK.region ?_
        refine RgOK.s (v := VB (false)) rfl rfl rfl (e_as rfl) ?_
        refine RgOK.nil ?_
        show CdOK _ _ _ _ _ _
        refine CdOK.ret ?_
        refine ⟨.inr rfl, _, rfl, h, [⟨[I (r_.pages), I (r_.spares), .L 2 (r_.places.map Place.cs), .L 1 (r_.bad.map cI)], true, true⟩], _, rfl, rfl, hC, ((renFlV rfl) : RenV _ _ _ _ (VB (false))), ?_⟩
        have hr := hm.ret
        subst hr
        exact ⟨rfl, rfl⟩
      · intro c6; replace hm := hm.ifn c6
        refine RgOK.s (v := VB (false)) rfl rfl rfl (e_pick (t := false) (ev_t rfl) (ev_t rfl)) ?_
        refine RgOK.s (v := VB (false)) rfl rfl rfl (e_mv (ev_t rfl)) ?_
        refine RgOK.s (v := .o (.c (.ptr (h.length + 0) 1))) rfl rfl rfl (e_fa' fa29_1 (ev_t rfl)) ?_
        refine RgOK.s (v := VI (r_.spares)) rfl rfl rfl (e_ldb1 (ev_t rfl) ty3 (bx rfl rfl) rfl) ?_
        refine RgOK.sd rfl rfl rfl (e_bin (ev_t rfl) rfl rfl rfl) ?_ ?_
        · intro c7; replace hm := hm.ifp c7
          refine RgOK.s (v := VB (true)) rfl rfl rfl (e_pick (t := false) (ev_t rfl) (ev_t rfl)) ?_
          refine RgOK.s (v := VB (true)) rfl rfl rfl (e_mv (ev_t rfl)) ?_
          refine RgOK.sk rfl rfl rfl ?_
          refine RgOK.sk rfl rfl rfl ?_
          refine RgOK.sk rfl rfl rfl ?_
          refine RgOK.sk rfl rfl rfl ?_
          refine RgOK.sk rfl rfl rfl ?_
          refine RgOK.sk rfl rfl rfl ?_
          refine RgOK.s (v := VB (true)) rfl rfl rfl (e_pick (t := true) (ev_t rfl) rfl) ?_
          refine RgOK.nil ?_
          show CdOK _ _ _ _ _ _
          refine CdOK.cond_true rfl ?_
          refine CdOK.seq ?_
          refine CdOK.region ?_
          refine RgOK.s (v := VB (false)) rfl rfl rfl (e_as rfl) ?_
          refine RgOK.nil ?_
          show CdOK _ _ _ _ _ _
          refine CdOK.ret ?_
          refine ⟨.inr rfl, _, rfl, h, [⟨[I (r_.pages), I (r_.spares), .L 2 (r_.places.map Place.cs), .L 1 (r_.bad.map cI)], true, true⟩], _, rfl, rfl, hC, ((renFlV rfl) : RenV _ _ _ _ (VB (false))), ?_⟩
          have hr := hm.ret
          subst hr
          exact ⟨rfl, rfl⟩
        · intro c8; replace hm := hm.ifn c8
          refine RgOK.s (v := VB (false)) rfl rfl rfl (e_pick (t := false) (ev_t rfl) (ev_t rfl)) ?_
          refine RgOK.s (v := VB (false)) rfl rfl rfl (e_mv (ev_t rfl)) ?_
          refine RgOK.s (v := .o (.c (.ptr (h.length + 0) 0))) rfl rfl rfl (e_fa' fa29_0 (ev_t rfl)) ?_
          refine RgOK.s (v := VI (r_.pages)) rfl rfl rfl (e_ldb1 (ev_t rfl) ty3 (bx rfl rfl) rfl) ?_
          refine RgOK.s (v := .o (.c (.ptr (h.length + 0) 1))) rfl rfl rfl (e_fa' fa29_1 (ev_t rfl)) ?_
          refine RgOK.s (v := VI (r_.spares)) rfl rfl rfl (e_ldb1 (ev_t rfl) ty3 (bx rfl rfl) rfl) ?_
          refine RgOK.s (v := VI ((w64 (r_.pages + r_.spares)))) rfl rfl rfl (e_bin (ev_t rfl) (ev_t rfl) rfl rfl) ?_
          refine RgOK.s (v := VB (decide (64 < (w64 (r_.pages + r_.spares))))) rfl rfl rfl (e_bin (ev_t rfl) rfl rfl rfl) ?_
          refine RgOK.s (v := VB (decide (64 < (w64 (r_.pages + r_.spares))))) rfl rfl rfl (e_pick (t := false) (ev_t rfl) (ev_t rfl)) ?_
          refine RgOK.nil ?_
          show CdOK _ _ _ _ _ _
          refine CdOK.condD (ev_t rfl) ?_ ?_
          · intro c9; replace hm := hm.ifp c9
            refine CdOK.seq ?_
            refine CdOK.region ?_
            refine RgOK.s (v := VB (false)) rfl rfl rfl (e_as rfl) ?_
            refine RgOK.nil ?_
            show CdOK _ _ _ _ _ _
            refine CdOK.ret ?_
            refine ⟨.inr rfl, _, rfl, h, [⟨[I (r_.pages), I (r_.spares), .L 2 (r_.places.map Place.cs), .L 1 (r_.bad.map cI)], true, true⟩], _, rfl, rfl, hC, ((renFlV rfl) : RenV _ _ _ _ (VB (false))), ?_⟩
            have hr := hm.ret
            subst hr
            exact ⟨rfl, rfl⟩
          · intro c10; replace hm := hm.ifn c10
            refine CdOK.skip ?_
            show CdOK _ _ _ _ _ _
            refine CdOK.seq ?_
            refine CdOK.region ?_
            refine RgOK.s (v := VI (0)) rfl rfl rfl (e_as rfl) ?_
            refine RgOK.nil ?_
            show CdOK _ _ _ _ _ _
            refine CdOK.seq ?_
            refine CdOK.seq ?_
            refine CdOK.region ?_
            refine RgOK.s (v := VI (0)) rfl rfl rfl (e_as rfl) ?_
            refine RgOK.nil ?_
            show CdOK _ _ _ _ _ _
            replace hm := hm.bnd
            refine CdOK.joinT (σ := Int) (fun s => Sum.inl s) hm (fun s => [(1, .o (.c (.ptr (h.length + 0) 0))), (3, VI (s))]) (fun s => h ++ ([⟨[I (r_.pages), I (r_.spares), .L 2 (r_.places.map Place.cs), .L 1 (r_.bad.map cI)], true, true⟩] : Heap)) ?_ ?_
            · intro hm
              refine CdOK.block ?_
              refine CdOK.loopE (σ := (Int × Int)) (fun k s => Ev (ref35_Valid.l1 r_ k s.1 s.2) _) (fun s => [(1, .o (.c (.ptr (h.length + 0) 0))), (3, VI (s.1)), (4, VI (s.2))]) (fun s => h ++ ([⟨[I (r_.pages), I (r_.spares), .L 2 (r_.places.map Place.cs), .L 1 (r_.bad.map cI)], true, true⟩] : Heap)) FU (0, 0) hm (.cons rfl (.cons rfl (.cons rfl .nil))) rfl ?_
              rintro kk14 ⟨own12, i13⟩ T0 hm
              replace hm : Ev (ref35_Valid.l1 r_ kk14 own12 i13) _ := hm
              cases kk14 with
              | zero => exact (Ev.non hm).elim
              | succ kk14 =>
              rw [ref35_Valid.l1_s] at hm
              show CdOK _ _ _ (look T0 [(1, .o (.c (.ptr (h.length + 0) 0))), (3, VI (own12)), (4, VI (i13))]) (h ++ ([⟨[I (r_.pages), I (r_.spares), .L 2 (r_.places.map Place.cs), .L 1 (r_.bad.map cI)], true, true⟩] : Heap)) _
              refine CdOK.seq ?_
              refine CdOK.seq ?_
              refine CdOK.region ?_
              refine RgOK.s (v := VI (i13)) rfl rfl rfl (e_mv (ev_t rfl)) ?_
              refine RgOK.s (v := .o (.c (.ptr (h.length + 0) 3))) rfl rfl rfl (e_fa' fa29_3 (ev_t rfl)) ?_
              refine RgOK.s (v := .o (.c (.L 1 (r_.bad.map cI)))) rfl rfl rfl (e_ldb1 (ev_t rfl) ty27 (bx rfl rfl) rfl) ?_
              refine RgOK.s (v := VI ((r_.bad.length : Int))) rfl rfl rfl (e_lenM (ev_t rfl) is27) ?_
              refine RgOK.s (v := VB (decide (i13 < (r_.bad.length : Int)))) rfl rfl rfl (e_bin (ev_t rfl) (ev_t rfl) rfl rfl) ?_
              refine RgOK.nil ?_
              show CdOK _ _ _ _ _ _
              refine CdOK.condD (ev_t rfl) ?_ ?_
              · intro c15; replace hm := hm.ifp c15
                refine CdOK.skip ?_
                show CdOK _ _ _ _ _ _
                refine CdOK.seq ?_
                refine CdOK.block ?_
                replace hm := hm.bnd
                refine CdOK.joinE (σ := Unit) (fun s => Sum.inl ()) hm (fun s => [(1, .o (.c (.ptr (h.length + 0) 0))), (3, VI (own12)), (4, VI (i13))]) (fun s => h ++ ([⟨[I (r_.pages), I (r_.spares), .L 2 (r_.places.map Place.cs), .L 1 (r_.bad.map cI)], true, true⟩] : Heap)) ?_ ?_
                · intro hm
                  refine CdOK.seq ?_
                  refine CdOK.draw fol (by decide +kernel) ?_
                  refine DrOK.s (v := .o (.c (.ptr (h.length + 0) 3))) rfl rfl rfl (e_fa' fa29_3 (ev_t rfl)) ?_
                  refine DrOK.s (v := .o (.c (.L 1 (r_.bad.map cI)))) rfl rfl rfl (e_ldb1 (ev_t rfl) ty27 (bx rfl rfl) rfl) ?_
                  refine DrOK.s (v := VI (i13)) rfl rfl rfl (e_mv (ev_t rfl)) ?_
                  obtain ⟨c16, hm⟩ := hm.ifs
                  refine DrOK.s (v := .o (.c (.rp [I ((gd r_.bad i13))]))) rfl rfl rfl (e_ixM (f := cI) (l := r_.bad) (i := i13) (ev_t rfl) (ev_t rfl) el27 c16) ?_
                  refine DrOK.s (v := VI ((gd r_.bad i13))) rfl rfl rfl (e_ldR1 (ev_t rfl) ty3 rfl) ?_
                  refine DrOK.sd rfl rfl rfl (e_bin (ev_t rfl) rfl rfl rfl) ?_ ?_
                  · intro c17; replace hm := hm.ifp c17
                    refine DrOK.s (v := VB (true)) rfl rfl rfl (e_mv (ev_t rfl)) ?_
                    refine DrOK.sk rfl rfl rfl ?_
                    refine DrOK.sk rfl rfl rfl ?_
                    refine DrOK.sk rfl rfl rfl ?_
                    refine DrOK.sk rfl rfl rfl ?_
                    refine DrOK.sk rfl rfl rfl ?_
                    refine DrOK.sk rfl rfl rfl ?_
                    refine DrOK.sk rfl rfl rfl ?_
                    refine DrOK.sk rfl rfl rfl ?_
                    refine DrOK.sk rfl rfl rfl ?_
                    refine DrOK.sk rfl rfl rfl ?_
                    refine DrOK.sk rfl rfl rfl ?_
                    refine DrOK.s (v := VB (true)) rfl rfl rfl (e_pick (t := true) (ev_t rfl) rfl) ?_
                    refine DrOK.s (v := VB (true)) rfl rfl rfl (e_mv (ev_t rfl)) ?_
                    refine DrOK.sk rfl rfl rfl ?_
                    refine DrOK.sk rfl rfl rfl ?_
                    refine DrOK.sk rfl rfl rfl ?_
                    refine DrOK.sk rfl rfl rfl ?_
                    refine DrOK.sk rfl rfl rfl ?_
                    refine DrOK.sk rfl rfl rfl ?_
                    refine DrOK.sk rfl rfl rfl ?_
                    refine DrOK.sk rfl rfl rfl ?_
                    refine DrOK.sk rfl rfl rfl ?_
                    refine DrOK.sk rfl rfl rfl ?_
                    refine DrOK.sk rfl rfl rfl ?_
                    refine DrOK.sk rfl rfl rfl ?_
                    refine DrOK.sk rfl rfl rfl ?_
                    refine DrOK.sk rfl rfl rfl ?_
                    refine DrOK.sk rfl rfl rfl ?_
                    refine DrOK.sk rfl rfl rfl ?_
                    refine DrOK.s (v := VB (true)) rfl rfl rfl (e_pick (t := true) (ev_t rfl) rfl) ?_
                    refine DrOK.nil ?_
                    show CdOK _ _ _ _ _ _
                    refine CdOK.cond_true rfl ?_
                    refine CdOK.seq ?_
                    refine CdOK.region ?_
                    refine RgOK.s (v := VB (false)) rfl rfl rfl (e_as rfl) ?_
                    refine RgOK.nil ?_
                    show CdOK _ _ _ _ _ _
                    refine CdOK.ret ?_
                    refine ⟨.inr rfl, _, rfl, h, [⟨[I (r_.pages), I (r_.spares), .L 2 (r_.places.map Place.cs), .L 1 (r_.bad.map cI)], true, true⟩], _, rfl, rfl, hC, ((renFlV rfl) : RenV _ _ _ _ (VB (false))), ?_⟩
                    have hr := hm.ret
                    replace hr := Ev.ret hr
                    replace hr := Ev.ret hr
                    subst hr
                    exact ⟨rfl, rfl⟩
                  · intro c18; replace hm := hm.ifn c18
                    refine DrOK.s (v := VB (false)) rfl rfl rfl (e_mv (ev_t rfl)) ?_
                    refine DrOK.s (v := .o (.c (.ptr (h.length + 0) 3))) rfl rfl rfl (e_fa' fa29_3 (ev_t rfl)) ?_
                    refine DrOK.s (v := .o (.c (.L 1 (r_.bad.map cI)))) rfl rfl rfl (e_ldb1 (ev_t rfl) ty27 (bx rfl rfl) rfl) ?_
                    refine DrOK.s (v := VI (i13)) rfl rfl rfl (e_mv (ev_t rfl)) ?_
                    obtain ⟨c19, hm⟩ := hm.ifs
                    refine DrOK.s (v := .o (.c (.rp [I ((gd r_.bad i13))]))) rfl rfl rfl (e_ixM (f := cI) (l := r_.bad) (i := i13) (ev_t rfl) (ev_t rfl) el27 c19) ?_
                    refine DrOK.s (v := VI ((gd r_.bad i13))) rfl rfl rfl (e_ldR1 (ev_t rfl) ty3 rfl) ?_
                    refine DrOK.s (v := .o (.c (.ptr (h.length + 0) 0))) rfl rfl rfl (e_fa' fa29_0 (ev_t rfl)) ?_
                    refine DrOK.s (v := VI (r_.pages)) rfl rfl rfl (e_ldb1 (ev_t rfl) ty3 (bx rfl rfl) rfl) ?_
                    refine DrOK.s (v := .o (.c (.ptr (h.length + 0) 1))) rfl rfl rfl (e_fa' fa29_1 (ev_t rfl)) ?_
                    refine DrOK.s (v := VI (r_.spares)) rfl rfl rfl (e_ldb1 (ev_t rfl) ty3 (bx rfl rfl) rfl) ?_
                    refine DrOK.s (v := VI ((w64 (r_.pages + r_.spares)))) rfl rfl rfl (e_bin (ev_t rfl) (ev_t rfl) rfl rfl) ?_
                    refine DrOK.sd rfl rfl rfl (e_bin (ev_t rfl) (ev_t rfl) rfl rfl) ?_ ?_
                    · intro c20; replace hm := hm.ifp c20
                      refine DrOK.s (v := VB (true)) rfl rfl rfl (e_pick (t := false) (ev_t rfl) (ev_t rfl)) ?_
                      refine DrOK.s (v := VB (true)) rfl rfl rfl (e_mv (ev_t rfl)) ?_
                      refine DrOK.sk rfl rfl rfl ?_
                      refine DrOK.sk rfl rfl rfl ?_
                      refine DrOK.sk rfl rfl rfl ?_
                      refine DrOK.sk rfl rfl rfl ?_
                      refine DrOK.sk rfl rfl rfl ?_
                      refine DrOK.sk rfl rfl rfl ?_
                      refine DrOK.sk rfl rfl rfl ?_
                      refine DrOK.sk rfl rfl rfl ?_
                      refine DrOK.sk rfl rfl rfl ?_
                      refine DrOK.sk rfl rfl rfl ?_
                      refine DrOK.sk rfl rfl rfl ?_
                      refine DrOK.sk rfl rfl rfl ?_
                      refine DrOK.sk rfl rfl rfl ?_
                      refine DrOK.sk rfl rfl rfl ?_
                      refine DrOK.sk rfl rfl rfl ?_
                      refine DrOK.sk rfl rfl rfl ?_
                      refine DrOK.s (v := VB (true)) rfl rfl rfl (e_pick (t := true) (ev_t rfl) rfl) ?_
                      refine DrOK.nil ?_
                      show CdOK _ _ _ _ _ _
                      refine CdOK.cond_true rfl ?_
                      refine CdOK.seq ?_
                      refine CdOK.region ?_
                      refine RgOK.s (v := VB (false)) rfl rfl rfl (e_as rfl) ?_
                      refine RgOK.nil ?_
                      show CdOK _ _ _ _ _ _
                      refine CdOK.ret ?_
                      refine ⟨.inr rfl, _, rfl, h, [⟨[I (r_.pages), I (r_.spares), .L 2 (r_.places.map Place.cs), .L 1 (r_.bad.map cI)], true, true⟩], _, rfl, rfl, hC, ((renFlV rfl) : RenV _ _ _ _ (VB (false))), ?_⟩
                      have hr := hm.ret
                      replace hr := Ev.ret hr
                      replace hr := Ev.ret hr
                      subst hr
                      exact ⟨rfl, rfl⟩
                    · intro c21; replace hm := hm.ifn c21
                      refine DrOK.s (v := VB (false)) rfl rfl rfl (e_pick (t := false) (ev_t rfl) (ev_t rfl)) ?_
                      refine DrOK.s (v := VB (false)) rfl rfl rfl (e_mv (ev_t rfl)) ?_
                      refine DrOK.s (v := VI (i13)) rfl rfl rfl (e_mv (ev_t rfl)) ?_
                      refine DrOK.sd rfl rfl rfl (e_bin (ev_t rfl) rfl rfl rfl) ?_ ?_
                      · intro c22; replace hm := hm.ifp c22
                        refine DrOK.s (v := VB (true)) rfl rfl rfl (e_mv (ev_t rfl)) ?_
                        refine DrOK.s (v := .o (.c (.ptr (h.length + 0) 3))) rfl rfl rfl (e_fa' fa29_3 (ev_t rfl)) ?_
                        refine DrOK.s (v := .o (.c (.L 1 (r_.bad.map cI)))) rfl rfl rfl (e_ldb1 (ev_t rfl) ty27 (bx rfl rfl) rfl) ?_
                        refine DrOK.s (v := VI (i13)) rfl rfl rfl (e_mv (ev_t rfl)) ?_
                        refine DrOK.s (v := VI ((w64 (i13 - 1)))) rfl rfl rfl (e_bin (ev_t rfl) rfl rfl rfl) ?_
                        obtain ⟨c23, hm⟩ := hm.ifs
                        refine DrOK.s (v := .o (.c (.rp [I ((gd r_.bad (w64 (i13 - 1))))]))) rfl rfl rfl (e_ixM (f := cI) (l := r_.bad) (i := (w64 (i13 - 1))) (ev_t rfl) (ev_t rfl) el27 c23) ?_
                        refine DrOK.s (v := VI ((gd r_.bad (w64 (i13 - 1))))) rfl rfl rfl (e_ldR1 (ev_t rfl) ty3 rfl) ?_
                        refine DrOK.s (v := .o (.c (.ptr (h.length + 0) 3))) rfl rfl rfl (e_fa' fa29_3 (ev_t rfl)) ?_
                        refine DrOK.s (v := .o (.c (.L 1 (r_.bad.map cI)))) rfl rfl rfl (e_ldb1 (ev_t rfl) ty27 (bx rfl rfl) rfl) ?_
                        refine DrOK.s (v := VI (i13)) rfl rfl rfl (e_mv (ev_t rfl)) ?_
                        obtain ⟨c24, hm⟩ := hm.ifs
                        refine DrOK.s (v := .o (.c (.rp [I ((gd r_.bad i13))]))) rfl rfl rfl (e_ixM (f := cI) (l := r_.bad) (i := i13) (ev_t rfl) (ev_t rfl) el27 c24) ?_
                        refine DrOK.s (v := VI ((gd r_.bad i13))) rfl rfl rfl (e_ldR1 (ev_t rfl) ty3 rfl) ?_
                        refine DrOK.s (v := VB (decide ((gd r_.bad i13) ≤ (gd r_.bad (w64 (i13 - 1)))))) rfl rfl rfl (e_bin (ev_t rfl) (ev_t rfl) rfl rfl) ?_
                        refine DrOK.s (v := VB (decide ((gd r_.bad i13) ≤ (gd r_.bad (w64 (i13 - 1)))))) rfl rfl rfl (e_pick (t := true) (ev_t rfl) (ev_t rfl)) ?_
                        refine DrOK.s (v := VB (decide ((gd r_.bad i13) ≤ (gd r_.bad (w64 (i13 - 1)))))) rfl rfl rfl (e_pick (t := false) (ev_t rfl) (ev_t rfl)) ?_
                        refine DrOK.nil ?_
                        show CdOK _ _ _ _ _ _
                        refine CdOK.condD (ev_t rfl) ?_ ?_
                        · intro c25; replace hm := hm.ifp c25
                          refine CdOK.seq ?_
                          refine CdOK.region ?_
                          refine RgOK.s (v := VB (false)) rfl rfl rfl (e_as rfl) ?_
                          refine RgOK.nil ?_
                          show CdOK _ _ _ _ _ _
                          refine CdOK.ret ?_
                          refine ⟨.inr rfl, _, rfl, h, [⟨[I (r_.pages), I (r_.spares), .L 2 (r_.places.map Place.cs), .L 1 (r_.bad.map cI)], true, true⟩], _, rfl, rfl, hC, ((renFlV rfl) : RenV _ _ _ _ (VB (false))), ?_⟩
                          have hr := hm.ret
                          replace hr := Ev.ret hr
                          replace hr := Ev.ret hr
                          subst hr
                          exact ⟨rfl, rfl⟩
                        · intro c26; replace hm := hm.ifn c26
                          refine CdOK.skip ?_
                          refine Told.id ?_
                          exact ⟨(), hm.ret, (.cons rfl (.cons rfl (.cons rfl .nil))), rfl⟩
                      · intro c27; replace hm := hm.ifn c27
                        refine DrOK.s (v := VB (false)) rfl rfl rfl (e_mv (ev_t rfl)) ?_
                        refine DrOK.sk rfl rfl rfl ?_
                        refine DrOK.sk rfl rfl rfl ?_
                        refine DrOK.sk rfl rfl rfl ?_
                        refine DrOK.sk rfl rfl rfl ?_
                        refine DrOK.sk rfl rfl rfl ?_
                        refine DrOK.sk rfl rfl rfl ?_
                        refine DrOK.sk rfl rfl rfl ?_
                        refine DrOK.sk rfl rfl rfl ?_
                        refine DrOK.sk rfl rfl rfl ?_
                        refine DrOK.sk rfl rfl rfl ?_
                        refine DrOK.sk rfl rfl rfl ?_
                        refine DrOK.sk rfl rfl rfl ?_
                        refine DrOK.s (v := VB (false)) rfl rfl rfl (e_pick (t := false) (ev_t rfl) rfl) ?_
                        refine DrOK.s (v := VB (false)) rfl rfl rfl (e_pick (t := false) (ev_t rfl) (ev_t rfl)) ?_
                        refine DrOK.nil ?_
                        show CdOK _ _ _ _ _ _
                        refine CdOK.cond_false rfl ?_
                        refine CdOK.skip ?_
                        refine Told.id ?_
                        exact ⟨(), hm.ret, (.cons rfl (.cons rfl (.cons rfl .nil))), rfl⟩
                · intro _ T0 hm
                  show CdOK _ _ _ (look T0 [(1, .o (.c (.ptr (h.length + 0) 0))), (3, VI (own12)), (4, VI (i13))]) (h ++ ([⟨[I (r_.pages), I (r_.spares), .L 2 (r_.places.map Place.cs), .L 1 (r_.bad.map cI)], true, true⟩] : Heap)) _
                  replace hm : Ev _ _ := hm
                  refine CdOK.seq ?_
                  refine CdOK.draw fol (by decide +kernel) ?_
                  refine DrOK.s (v := .o (.c (.ptr (h.length + 0) 3))) rfl rfl rfl (e_fa' fa29_3 (ev_t rfl)) ?_
                  refine DrOK.s (v := .o (.c (.L 1 (r_.bad.map cI)))) rfl rfl rfl (e_ldb1 (ev_t rfl) ty27 (bx rfl rfl) rfl) ?_
                  refine DrOK.s (v := VI (i13)) rfl rfl rfl (e_mv (ev_t rfl)) ?_
                  obtain ⟨c29, hm⟩ := hm.ifs
                  refine DrOK.s (v := .o (.c (.rp [I ((gd r_.bad i13))]))) rfl rfl rfl (e_ixM (f := cI) (l := r_.bad) (i := i13) (ev_t rfl) (ev_t rfl) el27 c29) ?_
                  refine DrOK.s (v := VI ((gd r_.bad i13))) rfl rfl rfl (e_ldR1 (ev_t rfl) ty3 rfl) ?_
                  refine DrOK.s (v := .o (.c (.ptr (h.length + 0) 0))) rfl rfl rfl (e_fa' fa29_0 (ev_t rfl)) ?_
                  refine DrOK.s (v := VI (r_.pages)) rfl rfl rfl (e_ldb1 (ev_t rfl) ty3 (bx rfl rfl) rfl) ?_
                  refine DrOK.s (v := VB (decide ((gd r_.bad i13) < r_.pages))) rfl rfl rfl (e_bin (ev_t rfl) (ev_t rfl) rfl rfl) ?_
                  refine DrOK.nil ?_
                  show CdOK _ _ _ _ _ _
                  refine CdOK.condD (ev_t rfl) ?_ ?_
                  · intro c30; replace hm := hm.ifp c30
                    refine CdOK.region ?_
                    refine RgOK.s (v := VI (own12)) rfl rfl rfl (e_mv (ev_t rfl)) ?_
                    refine RgOK.s (v := VI ((w64 (own12 + 1)))) rfl rfl rfl (e_bin (ev_t rfl) rfl rfl rfl) ?_
                    refine RgOK.s (v := VI ((w64 (own12 + 1)))) rfl rfl rfl (e_as (ev_t rfl)) ?_
                    refine RgOK.nil ?_
                    show CdOK _ _ _ _ _ _
                    refine CdOK.region ?_
                    refine RgOK.s (v := VI (i13)) rfl rfl rfl (e_mv (ev_t rfl)) ?_
                    refine RgOK.s (v := VI ((w64 (i13 + 1)))) rfl rfl rfl (e_bin (ev_t rfl) rfl rfl rfl) ?_
                    refine RgOK.s (v := VI ((w64 (i13 + 1)))) rfl rfl rfl (e_as (ev_t rfl)) ?_
                    refine RgOK.nil ?_
                    refine Told.id ?_
                    exact ⟨_, ((w64 (own12 + 1)), (w64 (i13 + 1))), Nat.lt_succ_self _, hm, (.cons rfl (.cons rfl (.cons rfl .nil))), rfl⟩
                  · intro c31; replace hm := hm.ifn c31
                    refine CdOK.skip ?_
                    show CdOK _ _ _ _ _ _
                    refine CdOK.region ?_
                    refine RgOK.s (v := VI (i13)) rfl rfl rfl (e_mv (ev_t rfl)) ?_
                    refine RgOK.s (v := VI ((w64 (i13 + 1)))) rfl rfl rfl (e_bin (ev_t rfl) rfl rfl rfl) ?_
                    refine RgOK.s (v := VI ((w64 (i13 + 1)))) rfl rfl rfl (e_as (ev_t rfl)) ?_
                    refine RgOK.nil ?_
                    refine Told.id ?_
                    exact ⟨_, (own12, (w64 (i13 + 1))), Nat.lt_succ_self _, hm, (.cons rfl (.cons rfl (.cons rfl .nil))), rfl⟩
              · intro c32; replace hm := hm.ifn c32
                refine CdOK.exit ?_
                refine Told.id ?_
                exact ⟨own12, hm.ret, (.cons rfl (.cons rfl .nil)), rfl⟩
            · rintro own11 T0 hm
              show CdOK _ _ _ _ _ _
              refine CdOK.seq ?_
              refine CdOK.seq ?_
              refine CdOK.region ?_
              refine RgOK.s (v := VI (0)) rfl rfl rfl (e_as rfl) ?_
              refine RgOK.nil ?_
              show CdOK _ _ _ _ _ _
              replace hm := hm.bnd
              refine CdOK.joinT (σ := Unit) (fun s => Sum.inl ()) hm (fun s => [(1, .o (.c (.ptr (h.length + 0) 0))), (3, VI (own11))]) (fun s => h ++ ([⟨[I (r_.pages), I (r_.spares), .L 2 (r_.places.map Place.cs), .L 1 (r_.bad.map cI)], true, true⟩] : Heap)) ?_ ?_
              · intro hm
                refine CdOK.block ?_
                refine CdOK.loopE (σ := Int) (fun k s => Ev (ref35_Valid.l2 r_ k s) _) (fun s => [(1, .o (.c (.ptr (h.length + 0) 0))), (3, VI (own11)), (5, VI (s))]) (fun s => h ++ ([⟨[I (r_.pages), I (r_.spares), .L 2 (r_.places.map Place.cs), .L 1 (r_.bad.map cI)], true, true⟩] : Heap)) FU 0 hm (.cons rfl (.cons rfl (.cons rfl .nil))) rfl ?_
                rintro kk35 i34 T0 hm
                replace hm : Ev (ref35_Valid.l2 r_ kk35 i34) _ := hm
                cases kk35 with
                | zero => exact (Ev.non hm).elim
                | succ kk35 =>
                rw [ref35_Valid.l2_s] at hm
                show CdOK _ _ _ (look T0 [(1, .o (.c (.ptr (h.length + 0) 0))), (3, VI (own11)), (5, VI (i34))]) (h ++ ([⟨[I (r_.pages), I (r_.spares), .L 2 (r_.places.map Place.cs), .L 1 (r_.bad.map cI)], true, true⟩] : Heap)) _
                refine CdOK.seq ?_
                refine CdOK.seq ?_
                refine CdOK.region ?_
                refine RgOK.s (v := VI (i34)) rfl rfl rfl (e_mv (ev_t rfl)) ?_
                refine RgOK.s (v := .o (.c (.ptr (h.length + 0) 2))) rfl rfl rfl (e_fa' fa29_2 (ev_t rfl)) ?_
                refine RgOK.s (v := .o (.c (.L 2 (r_.places.map Place.cs)))) rfl rfl rfl (e_ldb1 (ev_t rfl) ty26 (bx rfl rfl) rfl) ?_
                refine RgOK.s (v := VI ((r_.places.length : Int))) rfl rfl rfl (e_lenM (ev_t rfl) is26) ?_
                refine RgOK.s (v := VB (decide (i34 < (r_.places.length : Int)))) rfl rfl rfl (e_bin (ev_t rfl) (ev_t rfl) rfl rfl) ?_
                refine RgOK.nil ?_
                show CdOK _ _ _ _ _ _
                refine CdOK.condD (ev_t rfl) ?_ ?_
                · intro c36; replace hm := hm.ifp c36
                  refine CdOK.skip ?_
                  show CdOK _ _ _ _ _ _
                  refine CdOK.seq ?_
                  refine CdOK.block ?_
                  refine CdOK.seq ?_
                  refine CdOK.region ?_
                  refine RgOK.s (v := .o (.c (.ptr (h.length + 0) 2))) rfl rfl rfl (e_fa' fa29_2 (ev_t rfl)) ?_
                  refine RgOK.s (v := .o (.c (.L 2 (r_.places.map Place.cs)))) rfl rfl rfl (e_ldb1 (ev_t rfl) ty26 (bx rfl rfl) rfl) ?_
                  refine RgOK.s (v := VI (i34)) rfl rfl rfl (e_mv (ev_t rfl)) ?_
                  obtain ⟨c37, hm⟩ := hm.ifs
                  refine RgOK.s (v := .o (.c (.rp [I ((gd r_.places i34).page), I ((gd r_.places i34).address)]))) rfl rfl rfl (e_ixM (f := Place.cs) (l := r_.places) (i := i34) (ev_t rfl) (ev_t rfl) el26 c37) ?_
                  refine RgOK.s (v := .o (.agg [I ((gd r_.places i34).page), I ((gd r_.places i34).address)])) rfl rfl rfl (e_ldRA (ev_t rfl) ty117 rfl rfl) ?_
                  refine RgOK.s (v := .o (.c (.ptr (h.length + 1) 0))) rfl rfl rfl (e_allocN (L' := [⟨[I (r_.pages), I (r_.spares), .L 2 (r_.places.map Place.cs), .L 1 (r_.bad.map cI)], true, true⟩, ⟨[I (0), I (0)], true, true⟩]) rfl zo117 rfl rfl) ?_
                  refine RgOK.s0 rfl rfl (e_stN (L' := [⟨[I (r_.pages), I (r_.spares), .L 2 (r_.places.map Place.cs), .L 1 (r_.bad.map cI)], true, true⟩, ⟨[I ((gd r_.places i34).page), I ((gd r_.places i34).address)], true, true⟩]) rfl (ev_t rfl) (ev_t rfl) ty117 rfl rfl rfl rfl rfl) ?_
                  refine RgOK.nil ?_
                  show CdOK _ _ _ _ _ _
                  replace hm := hm.bnd
                  refine CdOK.joinE (σ := Unit) (fun s => Sum.inl ()) hm (fun s => [(1, .o (.c (.ptr (h.length + 0) 0))), (3, VI (own11)), (5, VI (i34)), (6, .o (.c (.ptr (h.length + 1) 0)))]) (fun s => h ++ ([⟨[I (r_.pages), I (r_.spares), .L 2 (r_.places.map Place.cs), .L 1 (r_.bad.map cI)], true, true⟩, ⟨[I ((gd r_.places i34).page), I ((gd r_.places i34).address)], true, true⟩] : Heap)) ?_ ?_
                  · intro hm
                    refine CdOK.seq ?_
                    refine CdOK.draw fol (by decide +kernel) ?_
                    refine DrOK.s (v := .o (.c (.ptr (h.length + 1) 0))) rfl rfl rfl (e_fa' fa117_0 (ev_t rfl)) ?_
                    refine DrOK.s (v := VI ((gd r_.places i34).page)) rfl rfl rfl (e_ldb1 (ev_t rfl) ty3 (bx rfl rfl) rfl) ?_
                    refine DrOK.sd rfl rfl rfl (e_bin (ev_t rfl) rfl rfl rfl) ?_ ?_
                    · intro c38; replace hm := hm.ifp c38
                      refine DrOK.s (v := VB (true)) rfl rfl rfl (e_mv (ev_t rfl)) ?_
                      refine DrOK.sk rfl rfl rfl ?_
                      refine DrOK.sk rfl rfl rfl ?_
                      refine DrOK.sk rfl rfl rfl ?_
                      refine DrOK.sk rfl rfl rfl ?_
                      refine DrOK.sk rfl rfl rfl ?_
                      refine DrOK.s (v := VB (true)) rfl rfl rfl (e_pick (t := true) (ev_t rfl) rfl) ?_
                      refine DrOK.s (v := VB (true)) rfl rfl rfl (e_mv (ev_t rfl)) ?_
                      refine DrOK.sk rfl rfl rfl ?_
                      refine DrOK.sk rfl rfl rfl ?_
                      refine DrOK.sk rfl rfl rfl ?_
                      refine DrOK.sk rfl rfl rfl ?_
                      refine DrOK.sk rfl rfl rfl ?_
                      refine DrOK.sk rfl rfl rfl ?_
                      refine DrOK.sk rfl rfl rfl ?_
                      refine DrOK.sk rfl rfl rfl ?_
                      refine DrOK.sk rfl rfl rfl ?_
                      refine DrOK.sk rfl rfl rfl ?_
                      refine DrOK.sk rfl rfl rfl ?_
                      refine DrOK.sk rfl rfl rfl ?_
                      refine DrOK.sk rfl rfl rfl ?_
                      refine DrOK.sk rfl rfl rfl ?_
                      refine DrOK.s (v := VB (true)) rfl rfl rfl (e_pick (t := true) (ev_t rfl) rfl) ?_
                      refine DrOK.s (v := VB (true)) rfl rfl rfl (e_mv (ev_t rfl)) ?_
                      refine DrOK.sk rfl rfl rfl ?_
                      refine DrOK.sk rfl rfl rfl ?_
                      refine DrOK.sk rfl rfl rfl ?_
                      refine DrOK.sk rfl rfl rfl ?_
                      refine DrOK.sk rfl rfl rfl ?_
                      refine DrOK.s (v := VB (true)) rfl rfl rfl (e_pick (t := true) (ev_t rfl) rfl) ?_
                      refine DrOK.s (v := VB (true)) rfl rfl rfl (e_mv (ev_t rfl)) ?_
                      refine DrOK.sk rfl rfl rfl ?_
                      refine DrOK.sk rfl rfl rfl ?_
                      refine DrOK.sk rfl rfl rfl ?_
                      refine DrOK.sk rfl rfl rfl ?_
                      refine DrOK.sk rfl rfl rfl ?_
                      refine DrOK.sk rfl rfl rfl ?_
                      refine DrOK.sk rfl rfl rfl ?_
                      refine DrOK.sk rfl rfl rfl ?_
                      refine DrOK.s (v := VB (true)) rfl rfl rfl (e_pick (t := true) (ev_t rfl) rfl) ?_
                      refine DrOK.s (v := VB (true)) rfl rfl rfl (e_mv (ev_t rfl)) ?_
                      refine DrOK.sk rfl rfl rfl ?_
                      refine DrOK.sk rfl rfl rfl ?_
                      refine DrOK.sk rfl rfl rfl ?_
                      refine DrOK.sk rfl rfl rfl ?_
                      refine DrOK.sk rfl rfl rfl ?_
                      refine DrOK.s (v := VB (true)) rfl rfl rfl (e_pick (t := true) (ev_t rfl) rfl) ?_
                      refine DrOK.s (v := VB (true)) rfl rfl rfl (e_mv (ev_t rfl)) ?_
                      refine DrOK.sk rfl rfl rfl ?_
                      refine DrOK.sk rfl rfl rfl ?_
                      refine DrOK.sk rfl rfl rfl ?_
                      refine DrOK.sk rfl rfl rfl ?_
                      refine DrOK.sk rfl rfl rfl ?_
                      refine DrOK.sk rfl rfl rfl ?_
                      refine DrOK.s (v := VB (true)) rfl rfl rfl (e_pick (t := true) (ev_t rfl) rfl) ?_
                      refine DrOK.nil ?_
                      show CdOK _ _ _ _ _ _
                      refine CdOK.cond_true rfl ?_
                      refine CdOK.seq ?_
                      refine CdOK.region ?_
                      refine RgOK.s (v := VB (false)) rfl rfl rfl (e_as rfl) ?_
                      refine RgOK.nil ?_
                      show CdOK _ _ _ _ _ _
                      refine CdOK.ret ?_
                      refine ⟨.inr rfl, _, rfl, h, [⟨[I (r_.pages), I (r_.spares), .L 2 (r_.places.map Place.cs), .L 1 (r_.bad.map cI)], true, true⟩, ⟨[I ((gd r_.places i34).page), I ((gd r_.places i34).address)], true, true⟩], _, rfl, rfl, hC, ((renFlV rfl) : RenV _ _ _ _ (VB (false))), ?_⟩
                      have hr := hm.ret
                      replace hr := Ev.ret hr
                      replace hr := Ev.ret hr
                      subst hr
                      exact ⟨rfl, rfl⟩
                    · intro c39; replace hm := hm.ifn c39
                      refine DrOK.s (v := VB (false)) rfl rfl rfl (e_mv (ev_t rfl)) ?_
                      refine DrOK.s (v := .o (.c (.ptr (h.length + 1) 0))) rfl rfl rfl (e_fa' fa117_0 (ev_t rfl)) ?_
                      refine DrOK.s (v := VI ((gd r_.places i34).page)) rfl rfl rfl (e_ldb1 (ev_t rfl) ty3 (bx rfl rfl) rfl) ?_
                      refine DrOK.s (v := .o (.c (.ptr (h.length + 0) 0))) rfl rfl rfl (e_fa' fa29_0 (ev_t rfl)) ?_
                      refine DrOK.s (v := VI (r_.pages)) rfl rfl rfl (e_ldb1 (ev_t rfl) ty3 (bx rfl rfl) rfl) ?_
                      refine DrOK.sd rfl rfl rfl (e_bin (ev_t rfl) (ev_t rfl) rfl rfl) ?_ ?_
                      · intro c40; replace hm := hm.ifp c40
                        refine DrOK.s (v := VB (true)) rfl rfl rfl (e_pick (t := false) (ev_t rfl) (ev_t rfl)) ?_
                        refine DrOK.s (v := VB (true)) rfl rfl rfl (e_mv (ev_t rfl)) ?_
                        refine DrOK.sk rfl rfl rfl ?_
                        refine DrOK.sk rfl rfl rfl ?_
                        refine DrOK.sk rfl rfl rfl ?_
                        refine DrOK.sk rfl rfl rfl ?_
                        refine DrOK.sk rfl rfl rfl ?_
                        refine DrOK.sk rfl rfl rfl ?_
                        refine DrOK.sk rfl rfl rfl ?_
                        refine DrOK.sk rfl rfl rfl ?_
                        refine DrOK.sk rfl rfl rfl ?_
                        refine DrOK.sk rfl rfl rfl ?_
                        refine DrOK.sk rfl rfl rfl ?_
                        refine DrOK.sk rfl rfl rfl ?_
                        refine DrOK.sk rfl rfl rfl ?_
                        refine DrOK.sk rfl rfl rfl ?_
                        refine DrOK.s (v := VB (true)) rfl rfl rfl (e_pick (t := true) (ev_t rfl) rfl) ?_
                        refine DrOK.s (v := VB (true)) rfl rfl rfl (e_mv (ev_t rfl)) ?_
                        refine DrOK.sk rfl rfl rfl ?_
                        refine DrOK.sk rfl rfl rfl ?_
                        refine DrOK.sk rfl rfl rfl ?_
                        refine DrOK.sk rfl rfl rfl ?_
                        refine DrOK.sk rfl rfl rfl ?_
                        refine DrOK.s (v := VB (true)) rfl rfl rfl (e_pick (t := true) (ev_t rfl) rfl) ?_
                        refine DrOK.s (v := VB (true)) rfl rfl rfl (e_mv (ev_t rfl)) ?_
                        refine DrOK.sk rfl rfl rfl ?_
                        refine DrOK.sk rfl rfl rfl ?_
                        refine DrOK.sk rfl rfl rfl ?_
                        refine DrOK.sk rfl rfl rfl ?_
                        refine DrOK.sk rfl rfl rfl ?_
                        refine DrOK.sk rfl rfl rfl ?_
                        refine DrOK.sk rfl rfl rfl ?_
                        refine DrOK.sk rfl rfl rfl ?_
                        refine DrOK.s (v := VB (true)) rfl rfl rfl (e_pick (t := true) (ev_t rfl) rfl) ?_
                        refine DrOK.s (v := VB (true)) rfl rfl rfl (e_mv (ev_t rfl)) ?_
                        refine DrOK.sk rfl rfl rfl ?_
                        refine DrOK.sk rfl rfl rfl ?_
                        refine DrOK.sk rfl rfl rfl ?_
                        refine DrOK.sk rfl rfl rfl ?_
                        refine DrOK.sk rfl rfl rfl ?_
                        refine DrOK.s (v := VB (true)) rfl rfl rfl (e_pick (t := true) (ev_t rfl) rfl) ?_
                        refine DrOK.s (v := VB (true)) rfl rfl rfl (e_mv (ev_t rfl)) ?_
                        refine DrOK.sk rfl rfl rfl ?_
                        refine DrOK.sk rfl rfl rfl ?_
                        refine DrOK.sk rfl rfl rfl ?_
                        refine DrOK.sk rfl rfl rfl ?_
                        refine DrOK.sk rfl rfl rfl ?_
                        refine DrOK.sk rfl rfl rfl ?_
                        refine DrOK.s (v := VB (true)) rfl rfl rfl (e_pick (t := true) (ev_t rfl) rfl) ?_
                        refine DrOK.nil ?_
                        show CdOK _ _ _ _ _ _
                        refine CdOK.cond_true rfl ?_
                        refine CdOK.seq ?_
                        refine CdOK.region ?_
                        refine RgOK.s (v := VB (false)) rfl rfl rfl (e_as rfl) ?_
                        refine RgOK.nil ?_
                        show CdOK _ _ _ _ _ _
                        refine CdOK.ret ?_
                        refine ⟨.inr rfl, _, rfl, h, [⟨[I (r_.pages), I (r_.spares), .L 2 (r_.places.map Place.cs), .L 1 (r_.bad.map cI)], true, true⟩, ⟨[I ((gd r_.places i34).page), I ((gd r_.places i34).address)], true, true⟩], _, rfl, rfl, hC, ((renFlV rfl) : RenV _ _ _ _ (VB (false))), ?_⟩
                        have hr := hm.ret
                        replace hr := Ev.ret hr
                        replace hr := Ev.ret hr
                        subst hr
                        exact ⟨rfl, rfl⟩
                      · intro c41; replace hm := hm.ifn c41
                        refine DrOK.s (v := VB (false)) rfl rfl rfl (e_pick (t := false) (ev_t rfl) (ev_t rfl)) ?_
                        refine DrOK.s (v := VB (false)) rfl rfl rfl (e_mv (ev_t rfl)) ?_
                        refine DrOK.s (v := VI (i34)) rfl rfl rfl (e_mv (ev_t rfl)) ?_
                        refine DrOK.sd rfl rfl rfl (e_bin (ev_t rfl) rfl rfl rfl) ?_ ?_
                        · intro c42; replace hm := hm.ifp c42
                          refine DrOK.s (v := VB (true)) rfl rfl rfl (e_mv (ev_t rfl)) ?_
                          refine DrOK.s (v := .o (.c (.ptr (h.length + 0) 2))) rfl rfl rfl (e_fa' fa29_2 (ev_t rfl)) ?_
                          refine DrOK.s (v := .o (.c (.L 2 (r_.places.map Place.cs)))) rfl rfl rfl (e_ldb1 (ev_t rfl) ty26 (bx rfl rfl) rfl) ?_
                          refine DrOK.s (v := VI (i34)) rfl rfl rfl (e_mv (ev_t rfl)) ?_
                          refine DrOK.s (v := VI ((w64 (i34 - 1)))) rfl rfl rfl (e_bin (ev_t rfl) rfl rfl rfl) ?_
                          obtain ⟨c43, hm⟩ := hm.ifs
                          refine DrOK.s (v := .o (.c (.rp [I ((gd r_.places (w64 (i34 - 1))).page), I ((gd r_.places (w64 (i34 - 1))).address)]))) rfl rfl rfl (e_ixM (f := Place.cs) (l := r_.places) (i := (w64 (i34 - 1))) (ev_t rfl) (ev_t rfl) el26 c43) ?_
                          refine DrOK.s (v := .o (.c (.rp [I ((gd r_.places (w64 (i34 - 1))).page), I ((gd r_.places (w64 (i34 - 1))).address)]))) rfl rfl rfl (e_faR fa117_0 (ev_t rfl) rfl) ?_
                          refine DrOK.s (v := VI ((gd r_.places (w64 (i34 - 1))).page)) rfl rfl rfl (e_ldR1 (ev_t rfl) ty3 rfl) ?_
                          refine DrOK.s (v := .o (.c (.ptr (h.length + 1) 0))) rfl rfl rfl (e_fa' fa117_0 (ev_t rfl)) ?_
                          refine DrOK.s (v := VI ((gd r_.places i34).page)) rfl rfl rfl (e_ldb1 (ev_t rfl) ty3 (bx rfl rfl) rfl) ?_
                          refine DrOK.sd rfl rfl rfl (e_bin (ev_t rfl) (ev_t rfl) rfl rfl) ?_ ?_
                          · intro c44; replace hm := hm.ifp c44
                            refine DrOK.s (v := VB (true)) rfl rfl rfl (e_pick (t := true) (ev_t rfl) (ev_t rfl)) ?_
                            refine DrOK.s (v := VB (true)) rfl rfl rfl (e_pick (t := false) (ev_t rfl) (ev_t rfl)) ?_
                            refine DrOK.s (v := VB (true)) rfl rfl rfl (e_mv (ev_t rfl)) ?_
                            refine DrOK.sk rfl rfl rfl ?_
                            refine DrOK.sk rfl rfl rfl ?_
                            refine DrOK.sk rfl rfl rfl ?_
                            refine DrOK.sk rfl rfl rfl ?_
                            refine DrOK.sk rfl rfl rfl ?_
                            refine DrOK.s (v := VB (true)) rfl rfl rfl (e_pick (t := true) (ev_t rfl) rfl) ?_
                            refine DrOK.s (v := VB (true)) rfl rfl rfl (e_mv (ev_t rfl)) ?_
                            refine DrOK.sk rfl rfl rfl ?_
                            refine DrOK.sk rfl rfl rfl ?_
                            refine DrOK.sk rfl rfl rfl ?_
                            refine DrOK.sk rfl rfl rfl ?_
                            refine DrOK.sk rfl rfl rfl ?_
                            refine DrOK.sk rfl rfl rfl ?_
                            refine DrOK.sk rfl rfl rfl ?_
                            refine DrOK.sk rfl rfl rfl ?_
                            refine DrOK.s (v := VB (true)) rfl rfl rfl (e_pick (t := true) (ev_t rfl) rfl) ?_
                            refine DrOK.s (v := VB (true)) rfl rfl rfl (e_mv (ev_t rfl)) ?_
                            refine DrOK.sk rfl rfl rfl ?_
                            refine DrOK.sk rfl rfl rfl ?_
                            refine DrOK.sk rfl rfl rfl ?_
                            refine DrOK.sk rfl rfl rfl ?_
                            refine DrOK.sk rfl rfl rfl ?_
                            refine DrOK.s (v := VB (true)) rfl rfl rfl (e_pick (t := true) (ev_t rfl) rfl) ?_
                            refine DrOK.s (v := VB (true)) rfl rfl rfl (e_mv (ev_t rfl)) ?_
                            refine DrOK.sk rfl rfl rfl ?_
                            refine DrOK.sk rfl rfl rfl ?_
                            refine DrOK.sk rfl rfl rfl ?_
                            refine DrOK.sk rfl rfl rfl ?_
                            refine DrOK.sk rfl rfl rfl ?_
                            refine DrOK.sk rfl rfl rfl ?_
                            refine DrOK.s (v := VB (true)) rfl rfl rfl (e_pick (t := true) (ev_t rfl) rfl) ?_
                            refine DrOK.nil ?_
                            show CdOK _ _ _ _ _ _
                            refine CdOK.cond_true rfl ?_
                            refine CdOK.seq ?_
                            refine CdOK.region ?_
                            refine RgOK.s (v := VB (false)) rfl rfl rfl (e_as rfl) ?_
                            refine RgOK.nil ?_
                            show CdOK _ _ _ _ _ _
                            refine CdOK.ret ?_
                            refine ⟨.inr rfl, _, rfl, h, [⟨[I (r_.pages), I (r_.spares), .L 2 (r_.places.map Place.cs), .L 1 (r_.bad.map cI)], true, true⟩, ⟨[I ((gd r_.places i34).page), I ((gd r_.places i34).address)], true, true⟩], _, rfl, rfl, hC, ((renFlV rfl) : RenV _ _ _ _ (VB (false))), ?_⟩
                            have hr := hm.ret
                            replace hr := Ev.ret hr
                            replace hr := Ev.ret hr
                            subst hr
                            exact ⟨rfl, rfl⟩
                          · intro c45; replace hm := hm.ifn c45
                            refine DrOK.s (v := VB (false)) rfl rfl rfl (e_pick (t := true) (ev_t rfl) (ev_t rfl)) ?_
                            refine DrOK.s (v := VB (false)) rfl rfl rfl (e_pick (t := false) (ev_t rfl) (ev_t rfl)) ?_
                            refine DrOK.s (v := VB (false)) rfl rfl rfl (e_mv (ev_t rfl)) ?_
                            refine DrOK.s (v := .o (.c (.ptr (h.length + 1) 1))) rfl rfl rfl (e_fa' fa117_1 (ev_t rfl)) ?_
                            refine DrOK.s (v := VI ((gd r_.places i34).address)) rfl rfl rfl (e_ldb1 (ev_t rfl) ty3 (bx rfl rfl) rfl) ?_
                            refine DrOK.s (v := .o (.c (.ptr (h.length + 0) 0))) rfl rfl rfl (e_fa' fa29_0 (ev_t rfl)) ?_
                            refine DrOK.s (v := VI (r_.pages)) rfl rfl rfl (e_ldb1 (ev_t rfl) ty3 (bx rfl rfl) rfl) ?_
                            refine DrOK.sd rfl rfl rfl (e_bin (ev_t rfl) (ev_t rfl) rfl rfl) ?_ ?_
                            · intro c46; replace hm := hm.ifp c46
                              refine DrOK.s (v := VB (true)) rfl rfl rfl (e_pick (t := false) (ev_t rfl) (ev_t rfl)) ?_
                              refine DrOK.s (v := VB (true)) rfl rfl rfl (e_mv (ev_t rfl)) ?_
                              refine DrOK.sk rfl rfl rfl ?_
                              refine DrOK.sk rfl rfl rfl ?_
                              refine DrOK.sk rfl rfl rfl ?_
                              refine DrOK.sk rfl rfl rfl ?_
                              refine DrOK.sk rfl rfl rfl ?_
                              refine DrOK.sk rfl rfl rfl ?_
                              refine DrOK.sk rfl rfl rfl ?_
                              refine DrOK.sk rfl rfl rfl ?_
                              refine DrOK.s (v := VB (true)) rfl rfl rfl (e_pick (t := true) (ev_t rfl) rfl) ?_
                              refine DrOK.s (v := VB (true)) rfl rfl rfl (e_mv (ev_t rfl)) ?_
                              refine DrOK.sk rfl rfl rfl ?_
                              refine DrOK.sk rfl rfl rfl ?_
                              refine DrOK.sk rfl rfl rfl ?_
                              refine DrOK.sk rfl rfl rfl ?_
                              refine DrOK.sk rfl rfl rfl ?_
                              refine DrOK.s (v := VB (true)) rfl rfl rfl (e_pick (t := true) (ev_t rfl) rfl) ?_
                              refine DrOK.s (v := VB (true)) rfl rfl rfl (e_mv (ev_t rfl)) ?_
                              refine DrOK.sk rfl rfl rfl ?_
                              refine DrOK.sk rfl rfl rfl ?_
                              refine DrOK.sk rfl rfl rfl ?_
                              refine DrOK.sk rfl rfl rfl ?_
                              refine DrOK.sk rfl rfl rfl ?_
                              refine DrOK.sk rfl rfl rfl ?_
                              refine DrOK.s (v := VB (true)) rfl rfl rfl (e_pick (t := true) (ev_t rfl) rfl) ?_
                              refine DrOK.nil ?_
                              show CdOK _ _ _ _ _ _
                              refine CdOK.cond_true rfl ?_
                              refine CdOK.seq ?_
                              refine CdOK.region ?_
                              refine RgOK.s (v := VB (false)) rfl rfl rfl (e_as rfl) ?_
                              refine RgOK.nil ?_
                              show CdOK _ _ _ _ _ _
                              refine CdOK.ret ?_
                              refine ⟨.inr rfl, _, rfl, h, [⟨[I (r_.pages), I (r_.spares), .L 2 (r_.places.map Place.cs), .L 1 (r_.bad.map cI)], true, true⟩, ⟨[I ((gd r_.places i34).page), I ((gd r_.places i34).address)], true, true⟩], _, rfl, rfl, hC, ((renFlV rfl) : RenV _ _ _ _ (VB (false))), ?_⟩
                              have hr := hm.ret
                              replace hr := Ev.ret hr
                              replace hr := Ev.ret hr
                              subst hr
                              exact ⟨rfl, rfl⟩
                            · intro c47; replace hm := hm.ifn c47
                              refine DrOK.s (v := VB (false)) rfl rfl rfl (e_pick (t := false) (ev_t rfl) (ev_t rfl)) ?_
                              refine DrOK.s (v := VB (false)) rfl rfl rfl (e_mv (ev_t rfl)) ?_
                              refine DrOK.s (v := .o (.c (.ptr (h.length + 1) 1))) rfl rfl rfl (e_fa' fa117_1 (ev_t rfl)) ?_
                              refine DrOK.s (v := VI ((gd r_.places i34).address)) rfl rfl rfl (e_ldb1 (ev_t rfl) ty3 (bx rfl rfl) rfl) ?_
                              refine DrOK.s (v := .o (.c (.ptr (h.length + 0) 0))) rfl rfl rfl (e_fa' fa29_0 (ev_t rfl)) ?_
                              refine DrOK.s (v := VI (r_.pages)) rfl rfl rfl (e_ldb1 (ev_t rfl) ty3 (bx rfl rfl) rfl) ?_
                              refine DrOK.s (v := .o (.c (.ptr (h.length + 0) 1))) rfl rfl rfl (e_fa' fa29_1 (ev_t rfl)) ?_
                              refine DrOK.s (v := VI (r_.spares)) rfl rfl rfl (e_ldb1 (ev_t rfl) ty3 (bx rfl rfl) rfl) ?_
                              refine DrOK.s (v := VI ((w64 (r_.pages + r_.spares)))) rfl rfl rfl (e_bin (ev_t rfl) (ev_t rfl) rfl rfl) ?_
                              refine DrOK.sd rfl rfl rfl (e_bin (ev_t rfl) (ev_t rfl) rfl rfl) ?_ ?_
                              · intro c48; replace hm := hm.ifp c48
                                refine DrOK.s (v := VB (true)) rfl rfl rfl (e_pick (t := false) (ev_t rfl) (ev_t rfl)) ?_
                                refine DrOK.s (v := VB (true)) rfl rfl rfl (e_mv (ev_t rfl)) ?_
                                refine DrOK.sk rfl rfl rfl ?_
                                refine DrOK.sk rfl rfl rfl ?_
                                refine DrOK.sk rfl rfl rfl ?_
                                refine DrOK.sk rfl rfl rfl ?_
                                refine DrOK.sk rfl rfl rfl ?_
                                refine DrOK.s (v := VB (true)) rfl rfl rfl (e_pick (t := true) (ev_t rfl) rfl) ?_
                                refine DrOK.s (v := VB (true)) rfl rfl rfl (e_mv (ev_t rfl)) ?_
                                refine DrOK.sk rfl rfl rfl ?_
                                refine DrOK.sk rfl rfl rfl ?_
                                refine DrOK.sk rfl rfl rfl ?_
                                refine DrOK.sk rfl rfl rfl ?_
                                refine DrOK.sk rfl rfl rfl ?_
                                refine DrOK.sk rfl rfl rfl ?_
                                refine DrOK.s (v := VB (true)) rfl rfl rfl (e_pick (t := true) (ev_t rfl) rfl) ?_
                                refine DrOK.nil ?_
                                show CdOK _ _ _ _ _ _
                                refine CdOK.cond_true rfl ?_
                                refine CdOK.seq ?_
                                refine CdOK.region ?_
                                refine RgOK.s (v := VB (false)) rfl rfl rfl (e_as rfl) ?_
                                refine RgOK.nil ?_
                                show CdOK _ _ _ _ _ _
                                refine CdOK.ret ?_
                                refine ⟨.inr rfl, _, rfl, h, [⟨[I (r_.pages), I (r_.spares), .L 2 (r_.places.map Place.cs), .L 1 (r_.bad.map cI)], true, true⟩, ⟨[I ((gd r_.places i34).page), I ((gd r_.places i34).address)], true, true⟩], _, rfl, rfl, hC, ((renFlV rfl) : RenV _ _ _ _ (VB (false))), ?_⟩
                                have hr := hm.ret
                                replace hr := Ev.ret hr
                                replace hr := Ev.ret hr
                                subst hr
                                exact ⟨rfl, rfl⟩
                              · intro c49; replace hm := hm.ifn c49
                                refine DrOK.s (v := VB (false)) rfl rfl rfl (e_pick (t := false) (ev_t rfl) (ev_t rfl)) ?_
                                refine DrOK.s (v := VB (false)) rfl rfl rfl (e_mv (ev_t rfl)) ?_
                                refine DrOK.s (v := .o (.c (.ptr (h.length + 0) 3))) rfl rfl rfl (e_fa' fa29_3 (ev_t rfl)) ?_
                                refine DrOK.s (v := .o (.c (.L 1 (r_.bad.map cI)))) rfl rfl rfl (e_ldb1 (ev_t rfl) ty27 (bx rfl rfl) rfl) ?_
                                refine DrOK.s (v := .o (.c (.ptr (h.length + 1) 1))) rfl rfl rfl (e_fa' fa117_1 (ev_t rfl)) ?_
                                refine DrOK.s (v := VI ((gd r_.places i34).address)) rfl rfl rfl (e_ldb1 (ev_t rfl) ty3 (bx rfl rfl) rfl) ?_
                                obtain ⟨x50, e50, hm⟩ := hm.call
                                cases x50 with
                                | true =>
                                  replace hm := hm.ifp rfl
                                  refine DrOK.cl rfl rfl rfl rfl pl85 (R2.wk _) (ref35_has_ok   e50) ?_
                                  refine DrOK.s (v := VB (true)) rfl rfl rfl (e_pick (t := false) (ev_t rfl) (ev_t rfl)) ?_
                                  refine DrOK.s (v := VB (true)) rfl rfl rfl (e_mv (ev_t rfl)) ?_
                                  refine DrOK.sk rfl rfl rfl ?_
                                  refine DrOK.sk rfl rfl rfl ?_
                                  refine DrOK.sk rfl rfl rfl ?_
                                  refine DrOK.sk rfl rfl rfl ?_
                                  refine DrOK.sk rfl rfl rfl ?_
                                  refine DrOK.sk rfl rfl rfl ?_
                                  refine DrOK.s (v := VB (true)) rfl rfl rfl (e_pick (t := true) (ev_t rfl) rfl) ?_
                                  refine DrOK.nil ?_
                                  show CdOK _ _ _ _ _ _
                                  refine CdOK.cond_true rfl ?_
                                  refine CdOK.seq ?_
                                  refine CdOK.region ?_
                                  refine RgOK.s (v := VB (false)) rfl rfl rfl (e_as rfl) ?_
                                  refine RgOK.nil ?_
                                  show CdOK _ _ _ _ _ _
                                  refine CdOK.ret ?_
                                  refine ⟨.inr rfl, _, rfl, h, [⟨[I (r_.pages), I (r_.spares), .L 2 (r_.places.map Place.cs), .L 1 (r_.bad.map cI)], true, true⟩, ⟨[I ((gd r_.places i34).page), I ((gd r_.places i34).address)], true, true⟩], _, rfl, rfl, hC, ((renFlV rfl) : RenV _ _ _ _ (VB (false))), ?_⟩
                                  have hr := hm.ret
                                  replace hr := Ev.ret hr
                                  replace hr := Ev.ret hr
                                  subst hr
                                  exact ⟨rfl, rfl⟩
                                | false =>
                                  replace hm := hm.ifn Bool.false_ne_true
                                  refine DrOK.cl rfl rfl rfl rfl pl85 (R2.wk _) (ref35_has_ok   e50) ?_
                                  refine DrOK.s (v := VB (false)) rfl rfl rfl (e_pick (t := false) (ev_t rfl) (ev_t rfl)) ?_
                                  refine DrOK.s (v := VB (false)) rfl rfl rfl (e_mv (ev_t rfl)) ?_
                                  refine DrOK.s (v := .o (.c (.ptr (h.length + 0) 3))) rfl rfl rfl (e_fa' fa29_3 (ev_t rfl)) ?_
                                  refine DrOK.s (v := .o (.c (.L 1 (r_.bad.map cI)))) rfl rfl rfl (e_ldb1 (ev_t rfl) ty27 (bx rfl rfl) rfl) ?_
                                  refine DrOK.s (v := .o (.c (.ptr (h.length + 1) 0))) rfl rfl rfl (e_fa' fa117_0 (ev_t rfl)) ?_
                                  refine DrOK.s (v := VI ((gd r_.places i34).page)) rfl rfl rfl (e_ldb1 (ev_t rfl) ty3 (bx rfl rfl) rfl) ?_
                                  obtain ⟨x51, e51, hm⟩ := hm.call
                                  refine DrOK.cl rfl rfl rfl rfl pl85 (R2.wk _) (ref35_has_ok   e51) ?_
                                  refine DrOK.s (v := VB ((!x51))) rfl rfl rfl (e_un (ev_t rfl) rfl) ?_
                                  refine DrOK.s (v := VB ((!x51))) rfl rfl rfl (e_pick (t := false) (ev_t rfl) (ev_t rfl)) ?_
                                  refine DrOK.nil ?_
                                  show CdOK _ _ _ _ _ _
                                  refine CdOK.condB (ev_t rfl) ?_ ?_
                                  · intro c52; replace hm := hm.ifp c52
                                    refine CdOK.seq ?_
                                    refine CdOK.region ?_
                                    refine RgOK.s (v := VB (false)) rfl rfl rfl (e_as rfl) ?_
                                    refine RgOK.nil ?_
                                    show CdOK _ _ _ _ _ _
                                    refine CdOK.ret ?_
                                    refine ⟨.inr rfl, _, rfl, h, [⟨[I (r_.pages), I (r_.spares), .L 2 (r_.places.map Place.cs), .L 1 (r_.bad.map cI)], true, true⟩, ⟨[I ((gd r_.places i34).page), I ((gd r_.places i34).address)], true, true⟩], _, rfl, rfl, hC, ((renFlV rfl) : RenV _ _ _ _ (VB (false))), ?_⟩
                                    have hr := hm.ret
                                    replace hr := Ev.ret hr
                                    replace hr := Ev.ret hr
                                    subst hr
                                    exact ⟨rfl, rfl⟩
                                  · intro c53; replace hm := hm.ifn c53
                                    refine CdOK.skip ?_
                                    refine Told.id ?_
                                    exact ⟨(), hm.ret, (.cons rfl (.cons rfl (.cons rfl (.cons rfl .nil)))), rfl⟩
                        · intro c54; replace hm := hm.ifn c54
                          refine DrOK.s (v := VB (false)) rfl rfl rfl (e_mv (ev_t rfl)) ?_
                          refine DrOK.sk rfl rfl rfl ?_
                          refine DrOK.sk rfl rfl rfl ?_
                          refine DrOK.sk rfl rfl rfl ?_
                          refine DrOK.sk rfl rfl rfl ?_
                          refine DrOK.sk rfl rfl rfl ?_
                          refine DrOK.sk rfl rfl rfl ?_
                          refine DrOK.sk rfl rfl rfl ?_
                          refine DrOK.sk rfl rfl rfl ?_
                          refine DrOK.sk rfl rfl rfl ?_
                          refine DrOK.sk rfl rfl rfl ?_
                          refine DrOK.s (v := VB (false)) rfl rfl rfl (e_pick (t := false) (ev_t rfl) rfl) ?_
                          refine DrOK.s (v := VB (false)) rfl rfl rfl (e_pick (t := false) (ev_t rfl) (ev_t rfl)) ?_
                          refine DrOK.s (v := VB (false)) rfl rfl rfl (e_mv (ev_t rfl)) ?_
                          refine DrOK.s (v := .o (.c (.ptr (h.length + 1) 1))) rfl rfl rfl (e_fa' fa117_1 (ev_t rfl)) ?_
                          refine DrOK.s (v := VI ((gd r_.places i34).address)) rfl rfl rfl (e_ldb1 (ev_t rfl) ty3 (bx rfl rfl) rfl) ?_
                          refine DrOK.s (v := .o (.c (.ptr (h.length + 0) 0))) rfl rfl rfl (e_fa' fa29_0 (ev_t rfl)) ?_
                          refine DrOK.s (v := VI (r_.pages)) rfl rfl rfl (e_ldb1 (ev_t rfl) ty3 (bx rfl rfl) rfl) ?_
                          refine DrOK.sd rfl rfl rfl (e_bin (ev_t rfl) (ev_t rfl) rfl rfl) ?_ ?_
                          · intro c55; replace hm := hm.ifp c55
                            refine DrOK.s (v := VB (true)) rfl rfl rfl (e_pick (t := false) (ev_t rfl) (ev_t rfl)) ?_
                            refine DrOK.s (v := VB (true)) rfl rfl rfl (e_mv (ev_t rfl)) ?_
                            refine DrOK.sk rfl rfl rfl ?_
                            refine DrOK.sk rfl rfl rfl ?_
                            refine DrOK.sk rfl rfl rfl ?_
                            refine DrOK.sk rfl rfl rfl ?_
                            refine DrOK.sk rfl rfl rfl ?_
                            refine DrOK.sk rfl rfl rfl ?_
                            refine DrOK.sk rfl rfl rfl ?_
                            refine DrOK.sk rfl rfl rfl ?_
                            refine DrOK.s (v := VB (true)) rfl rfl rfl (e_pick (t := true) (ev_t rfl) rfl) ?_
                            refine DrOK.s (v := VB (true)) rfl rfl rfl (e_mv (ev_t rfl)) ?_
                            refine DrOK.sk rfl rfl rfl ?_
                            refine DrOK.sk rfl rfl rfl ?_
                            refine DrOK.sk rfl rfl rfl ?_
                            refine DrOK.sk rfl rfl rfl ?_
                            refine DrOK.sk rfl rfl rfl ?_
                            refine DrOK.s (v := VB (true)) rfl rfl rfl (e_pick (t := true) (ev_t rfl) rfl) ?_
                            refine DrOK.s (v := VB (true)) rfl rfl rfl (e_mv (ev_t rfl)) ?_
                            refine DrOK.sk rfl rfl rfl ?_
                            refine DrOK.sk rfl rfl rfl ?_
                            refine DrOK.sk rfl rfl rfl ?_
                            refine DrOK.sk rfl rfl rfl ?_
                            refine DrOK.sk rfl rfl rfl ?_
                            refine DrOK.sk rfl rfl rfl ?_
                            refine DrOK.s (v := VB (true)) rfl rfl rfl (e_pick (t := true) (ev_t rfl) rfl) ?_
                            refine DrOK.nil ?_
                            show CdOK _ _ _ _ _ _
                            refine CdOK.cond_true rfl ?_
                            refine CdOK.seq ?_
                            refine CdOK.region ?_
                            refine RgOK.s (v := VB (false)) rfl rfl rfl (e_as rfl) ?_
                            refine RgOK.nil ?_
                            show CdOK _ _ _ _ _ _
                            refine CdOK.ret ?_
                            refine ⟨.inr rfl, _, rfl, h, [⟨[I (r_.pages), I (r_.spares), .L 2 (r_.places.map Place.cs), .L 1 (r_.bad.map cI)], true, true⟩, ⟨[I ((gd r_.places i34).page), I ((gd r_.places i34).address)], true, true⟩], _, rfl, rfl, hC, ((renFlV rfl) : RenV _ _ _ _ (VB (false))), ?_⟩
                            have hr := hm.ret
                            replace hr := Ev.ret hr
                            replace hr := Ev.ret hr
                            subst hr
                            exact ⟨rfl, rfl⟩
                          · intro c56; replace hm := hm.ifn c56
                            refine DrOK.s (v := VB (false)) rfl rfl rfl (e_pick (t := false) (ev_t rfl) (ev_t rfl)) ?_
                            refine DrOK.s (v := VB (false)) rfl rfl rfl (e_mv (ev_t rfl)) ?_
                            refine DrOK.s (v := .o (.c (.ptr (h.length + 1) 1))) rfl rfl rfl (e_fa' fa117_1 (ev_t rfl)) ?_
                            refine DrOK.s (v := VI ((gd r_.places i34).address)) rfl rfl rfl (e_ldb1 (ev_t rfl) ty3 (bx rfl rfl) rfl) ?_
                            refine DrOK.s (v := .o (.c (.ptr (h.length + 0) 0))) rfl rfl rfl (e_fa' fa29_0 (ev_t rfl)) ?_
                            refine DrOK.s (v := VI (r_.pages)) rfl rfl rfl (e_ldb1 (ev_t rfl) ty3 (bx rfl rfl) rfl) ?_
                            refine DrOK.s (v := .o (.c (.ptr (h.length + 0) 1))) rfl rfl rfl (e_fa' fa29_1 (ev_t rfl)) ?_
                            refine DrOK.s (v := VI (r_.spares)) rfl rfl rfl (e_ldb1 (ev_t rfl) ty3 (bx rfl rfl) rfl) ?_
                            refine DrOK.s (v := VI ((w64 (r_.pages + r_.spares)))) rfl rfl rfl (e_bin (ev_t rfl) (ev_t rfl) rfl rfl) ?_
                            refine DrOK.sd rfl rfl rfl (e_bin (ev_t rfl) (ev_t rfl) rfl rfl) ?_ ?_
                            · intro c57; replace hm := hm.ifp c57
                              refine DrOK.s (v := VB (true)) rfl rfl rfl (e_pick (t := false) (ev_t rfl) (ev_t rfl)) ?_
                              refine DrOK.s (v := VB (true)) rfl rfl rfl (e_mv (ev_t rfl)) ?_
                              refine DrOK.sk rfl rfl rfl ?_
                              refine DrOK.sk rfl rfl rfl ?_
                              refine DrOK.sk rfl rfl rfl ?_
                              refine DrOK.sk rfl rfl rfl ?_
                              refine DrOK.sk rfl rfl rfl ?_
                              refine DrOK.s (v := VB (true)) rfl rfl rfl (e_pick (t := true) (ev_t rfl) rfl) ?_
                              refine DrOK.s (v := VB (true)) rfl rfl rfl (e_mv (ev_t rfl)) ?_
                              refine DrOK.sk rfl rfl rfl ?_
                              refine DrOK.sk rfl rfl rfl ?_
                              refine DrOK.sk rfl rfl rfl ?_
                              refine DrOK.sk rfl rfl rfl ?_
                              refine DrOK.sk rfl rfl rfl ?_
                              refine DrOK.sk rfl rfl rfl ?_
                              refine DrOK.s (v := VB (true)) rfl rfl rfl (e_pick (t := true) (ev_t rfl) rfl) ?_
                              refine DrOK.nil ?_
                              show CdOK _ _ _ _ _ _
                              refine CdOK.cond_true rfl ?_
                              refine CdOK.seq ?_
                              refine CdOK.region ?_
                              refine RgOK.s (v := VB (false)) rfl rfl rfl (e_as rfl) ?_
                              refine RgOK.nil ?_
                              show CdOK _ _ _ _ _ _
                              refine CdOK.ret ?_
                              refine ⟨.inr rfl, _, rfl, h, [⟨[I (r_.pages), I (r_.spares), .L 2 (r_.places.map Place.cs), .L 1 (r_.bad.map cI)], true, true⟩, ⟨[I ((gd r_.places i34).page), I ((gd r_.places i34).address)], true, true⟩], _, rfl, rfl, hC, ((renFlV rfl) : RenV _ _ _ _ (VB (false))), ?_⟩
                              have hr := hm.ret
                              replace hr := Ev.ret hr
                              replace hr := Ev.ret hr
                              subst hr
                              exact ⟨rfl, rfl⟩
                            · intro c58; replace hm := hm.ifn c58
                              refine DrOK.s (v := VB (false)) rfl rfl rfl (e_pick (t := false) (ev_t rfl) (ev_t rfl)) ?_
                              refine DrOK.s (v := VB (false)) rfl rfl rfl (e_mv (ev_t rfl)) ?_
                              refine DrOK.s (v := .o (.c (.ptr (h.length + 0) 3))) rfl rfl rfl (e_fa' fa29_3 (ev_t rfl)) ?_
                              refine DrOK.s (v := .o (.c (.L 1 (r_.bad.map cI)))) rfl rfl rfl (e_ldb1 (ev_t rfl) ty27 (bx rfl rfl) rfl) ?_
                              refine DrOK.s (v := .o (.c (.ptr (h.length + 1) 1))) rfl rfl rfl (e_fa' fa117_1 (ev_t rfl)) ?_
                              refine DrOK.s (v := VI ((gd r_.places i34).address)) rfl rfl rfl (e_ldb1 (ev_t rfl) ty3 (bx rfl rfl) rfl) ?_
                              obtain ⟨x59, e59, hm⟩ := hm.call
                              cases x59 with
                              | true =>
                                replace hm := hm.ifp rfl
                                refine DrOK.cl rfl rfl rfl rfl pl85 (R2.wk _) (ref35_has_ok   e59) ?_
                                refine DrOK.s (v := VB (true)) rfl rfl rfl (e_pick (t := false) (ev_t rfl) (ev_t rfl)) ?_
                                refine DrOK.s (v := VB (true)) rfl rfl rfl (e_mv (ev_t rfl)) ?_
                                refine DrOK.sk rfl rfl rfl ?_
                                refine DrOK.sk rfl rfl rfl ?_
                                refine DrOK.sk rfl rfl rfl ?_
                                refine DrOK.sk rfl rfl rfl ?_
                                refine DrOK.sk rfl rfl rfl ?_
                                refine DrOK.sk rfl rfl rfl ?_
                                refine DrOK.s (v := VB (true)) rfl rfl rfl (e_pick (t := true) (ev_t rfl) rfl) ?_
                                refine DrOK.nil ?_
                                show CdOK _ _ _ _ _ _
                                refine CdOK.cond_true rfl ?_
                                refine CdOK.seq ?_
                                refine CdOK.region ?_
                                refine RgOK.s (v := VB (false)) rfl rfl rfl (e_as rfl) ?_
                                refine RgOK.nil ?_
                                show CdOK _ _ _ _ _ _
                                refine CdOK.ret ?_
                                refine ⟨.inr rfl, _, rfl, h, [⟨[I (r_.pages), I (r_.spares), .L 2 (r_.places.map Place.cs), .L 1 (r_.bad.map cI)], true, true⟩, ⟨[I ((gd r_.places i34).page), I ((gd r_.places i34).address)], true, true⟩], _, rfl, rfl, hC, ((renFlV rfl) : RenV _ _ _ _ (VB (false))), ?_⟩
                                have hr := hm.ret
                                replace hr := Ev.ret hr
                                replace hr := Ev.ret hr
                                subst hr
                                exact ⟨rfl, rfl⟩
                              | false =>
                                replace hm := hm.ifn Bool.false_ne_true
                                refine DrOK.cl rfl rfl rfl rfl pl85 (R2.wk _) (ref35_has_ok   e59) ?_
                                refine DrOK.s (v := VB (false)) rfl rfl rfl (e_pick (t := false) (ev_t rfl) (ev_t rfl)) ?_
                                refine DrOK.s (v := VB (false)) rfl rfl rfl (e_mv (ev_t rfl)) ?_
                                refine DrOK.s (v := .o (.c (.ptr (h.length + 0) 3))) rfl rfl rfl (e_fa' fa29_3 (ev_t rfl)) ?_
                                refine DrOK.s (v := .o (.c (.L 1 (r_.bad.map cI)))) rfl rfl rfl (e_ldb1 (ev_t rfl) ty27 (bx rfl rfl) rfl) ?_
                                refine DrOK.s (v := .o (.c (.ptr (h.length + 1) 0))) rfl rfl rfl (e_fa' fa117_0 (ev_t rfl)) ?_
                                refine DrOK.s (v := VI ((gd r_.places i34).page)) rfl rfl rfl (e_ldb1 (ev_t rfl) ty3 (bx rfl rfl) rfl) ?_
                                obtain ⟨x60, e60, hm⟩ := hm.call
                                refine DrOK.cl rfl rfl rfl rfl pl85 (R2.wk _) (ref35_has_ok   e60) ?_
                                refine DrOK.s (v := VB ((!x60))) rfl rfl rfl (e_un (ev_t rfl) rfl) ?_
                                refine DrOK.s (v := VB ((!x60))) rfl rfl rfl (e_pick (t := false) (ev_t rfl) (ev_t rfl)) ?_
                                refine DrOK.nil ?_
                                show CdOK _ _ _ _ _ _
                                refine CdOK.condB (ev_t rfl) ?_ ?_
                                · intro c61; replace hm := hm.ifp c61
                                  refine CdOK.seq ?_
                                  refine CdOK.region ?_
                                  refine RgOK.s (v := VB (false)) rfl rfl rfl (e_as rfl) ?_
                                  refine RgOK.nil ?_
                                  show CdOK _ _ _ _ _ _
                                  refine CdOK.ret ?_
                                  refine ⟨.inr rfl, _, rfl, h, [⟨[I (r_.pages), I (r_.spares), .L 2 (r_.places.map Place.cs), .L 1 (r_.bad.map cI)], true, true⟩, ⟨[I ((gd r_.places i34).page), I ((gd r_.places i34).address)], true, true⟩], _, rfl, rfl, hC, ((renFlV rfl) : RenV _ _ _ _ (VB (false))), ?_⟩
                                  have hr := hm.ret
                                  replace hr := Ev.ret hr
                                  replace hr := Ev.ret hr
                                  subst hr
                                  exact ⟨rfl, rfl⟩
                                · intro c62; replace hm := hm.ifn c62
                                  refine CdOK.skip ?_
                                  refine Told.id ?_
                                  exact ⟨(), hm.ret, (.cons rfl (.cons rfl (.cons rfl (.cons rfl .nil)))), rfl⟩
                  · intro _ T0 hm
                    show CdOK _ _ _ (look T0 [(1, .o (.c (.ptr (h.length + 0) 0))), (3, VI (own11)), (5, VI (i34)), (6, .o (.c (.ptr (h.length + 1) 0)))]) (h ++ ([⟨[I (r_.pages), I (r_.spares), .L 2 (r_.places.map Place.cs), .L 1 (r_.bad.map cI)], true, true⟩, ⟨[I ((gd r_.places i34).page), I ((gd r_.places i34).address)], true, true⟩] : Heap)) _
                    replace hm : Ev _ _ := hm
                    refine CdOK.seq ?_
                    refine CdOK.region ?_
                    refine RgOK.s (v := VI (0)) rfl rfl rfl (e_as rfl) ?_
                    refine RgOK.nil ?_
                    show CdOK _ _ _ _ _ _
                    replace hm := hm.bnd
                    refine CdOK.joinT (σ := Unit) (fun s => Sum.inl ()) hm (fun s => [(1, .o (.c (.ptr (h.length + 0) 0))), (3, VI (own11)), (5, VI (i34))]) (fun s => h ++ ([⟨[I (r_.pages), I (r_.spares), .L 2 (r_.places.map Place.cs), .L 1 (r_.bad.map cI)], true, true⟩] : Heap)) ?_ ?_
                    · intro hm
                      refine CdOK.block ?_
                      refine CdOK.loopE (σ := Int) (fun k s => Ev (ref35_Valid.l3 r_ i34 k s) _) (fun s => [(1, .o (.c (.ptr (h.length + 0) 0))), (3, VI (own11)), (5, VI (i34)), (6, .o (.c (.ptr (h.length + 1) 0))), (7, VI (s))]) (fun s => h ++ ([⟨[I (r_.pages), I (r_.spares), .L 2 (r_.places.map Place.cs), .L 1 (r_.bad.map cI)], true, true⟩, ⟨[I ((gd r_.places i34).page), I ((gd r_.places i34).address)], true, true⟩] : Heap)) FU 0 hm (.cons rfl (.cons rfl (.cons rfl (.cons rfl (.cons rfl .nil))))) rfl ?_
                      rintro kk65 k64 T0 hm
                      replace hm : Ev (ref35_Valid.l3 r_ i34 kk65 k64) _ := hm
                      cases kk65 with
                      | zero => exact (Ev.non hm).elim
                      | succ kk65 =>
                      rw [ref35_Valid.l3_s] at hm
                      show CdOK _ _ _ (look T0 [(1, .o (.c (.ptr (h.length + 0) 0))), (3, VI (own11)), (5, VI (i34)), (6, .o (.c (.ptr (h.length + 1) 0))), (7, VI (k64))]) (h ++ ([⟨[I (r_.pages), I (r_.spares), .L 2 (r_.places.map Place.cs), .L 1 (r_.bad.map cI)], true, true⟩, ⟨[I ((gd r_.places i34).page), I ((gd r_.places i34).address)], true, true⟩] : Heap)) _
                      refine CdOK.seq ?_
                      refine CdOK.seq ?_
                      refine CdOK.region ?_
                      refine RgOK.s (v := VI (k64)) rfl rfl rfl (e_mv (ev_t rfl)) ?_
                      refine RgOK.s (v := VI (i34)) rfl rfl rfl (e_mv (ev_t rfl)) ?_
                      refine RgOK.s (v := VB (decide (k64 < i34))) rfl rfl rfl (e_bin (ev_t rfl) (ev_t rfl) rfl rfl) ?_
                      refine RgOK.nil ?_
                      show CdOK _ _ _ _ _ _
                      refine CdOK.condD (ev_t rfl) ?_ ?_
                      · intro c66; replace hm := hm.ifp c66
                        refine CdOK.skip ?_
                        show CdOK _ _ _ _ _ _
                        refine CdOK.seq ?_
                        refine CdOK.block ?_
                        refine CdOK.seq ?_
                        refine CdOK.draw fol (by decide +kernel) ?_
                        refine DrOK.s (v := .o (.c (.ptr (h.length + 0) 2))) rfl rfl rfl (e_fa' fa29_2 (ev_t rfl)) ?_
                        refine DrOK.s (v := .o (.c (.L 2 (r_.places.map Place.cs)))) rfl rfl rfl (e_ldb1 (ev_t rfl) ty26 (bx rfl rfl) rfl) ?_
                        refine DrOK.s (v := VI (k64)) rfl rfl rfl (e_mv (ev_t rfl)) ?_
                        obtain ⟨c67, hm⟩ := hm.ifs
                        refine DrOK.s (v := .o (.c (.rp [I ((gd r_.places k64).page), I ((gd r_.places k64).address)]))) rfl rfl rfl (e_ixM (f := Place.cs) (l := r_.places) (i := k64) (ev_t rfl) (ev_t rfl) el26 c67) ?_
                        refine DrOK.s (v := .o (.c (.rp [I ((gd r_.places k64).address)]))) rfl rfl rfl (e_faR fa117_1 (ev_t rfl) rfl) ?_
                        refine DrOK.s (v := VI ((gd r_.places k64).address)) rfl rfl rfl (e_ldR1 (ev_t rfl) ty3 rfl) ?_
                        refine DrOK.s (v := .o (.c (.ptr (h.length + 1) 1))) rfl rfl rfl (e_fa' fa117_1 (ev_t rfl)) ?_
                        refine DrOK.s (v := VI ((gd r_.places i34).address)) rfl rfl rfl (e_ldb1 (ev_t rfl) ty3 (bx rfl rfl) rfl) ?_
                        refine DrOK.s (v := VB (decide (((gd r_.places k64).address) = ((gd r_.places i34).address)))) rfl rfl rfl (e_eqK (ev_t rfl) (ev_t rfl)) ?_
                        refine DrOK.nil ?_
                        show CdOK _ _ _ _ _ _
                        refine CdOK.condD (ev_t rfl) ?_ ?_
                        · intro c68; replace hm := hm.ifp c68
                          refine CdOK.seq ?_
                          refine CdOK.region ?_
                          refine RgOK.s (v := VB (false)) rfl rfl rfl (e_as rfl) ?_
                          refine RgOK.nil ?_
                          show CdOK _ _ _ _ _ _
                          refine CdOK.ret ?_
                          refine ⟨.inr rfl, _, rfl, h, [⟨[I (r_.pages), I (r_.spares), .L 2 (r_.places.map Place.cs), .L 1 (r_.bad.map cI)], true, true⟩, ⟨[I ((gd r_.places i34).page), I ((gd r_.places i34).address)], true, true⟩], _, rfl, rfl, hC, ((renFlV rfl) : RenV _ _ _ _ (VB (false))), ?_⟩
                          have hr := hm.ret
                          replace hr := Ev.ret hr
                          replace hr := Ev.ret hr
                          subst hr
                          exact ⟨rfl, rfl⟩
                        · intro c69; replace hm := hm.ifn c69
                          refine CdOK.skip ?_
                          show CdOK _ _ _ _ _ _
                          refine CdOK.region ?_
                          refine RgOK.s (v := VI (k64)) rfl rfl rfl (e_mv (ev_t rfl)) ?_
                          refine RgOK.s (v := VI ((w64 (k64 + 1)))) rfl rfl rfl (e_bin (ev_t rfl) rfl rfl rfl) ?_
                          refine RgOK.s (v := VI ((w64 (k64 + 1)))) rfl rfl rfl (e_as (ev_t rfl)) ?_
                          refine RgOK.nil ?_
                          refine Told.id ?_
                          exact ⟨_, (w64 (k64 + 1)), Nat.lt_succ_self _, hm, (.cons rfl (.cons rfl (.cons rfl (.cons rfl (.cons rfl .nil))))), rfl⟩
                      · intro c70; replace hm := hm.ifn c70
                        refine CdOK.exit ?_
                        refine Told.re (σ := [0]) (X := [(1, .o (.c (.ptr (h.length + 0) 0))), (3, VI (own11)), (5, VI (i34))]) (L' := [⟨[I (r_.pages), I (r_.spares), .L 2 (r_.places.map Place.cs), .L 1 (r_.bad.map cI)], true, true⟩]) rfl rfl hC (by decide) (.obj 0 rfl (renFl rfl) .nil) (.cons (.o (.c (.ptr 0 0 _ rfl))) (.cons (renFlV rfl) (.cons (renFlV rfl) .nil))) ?_
                        exact ⟨(), hm.ret, (.cons rfl (.cons rfl (.cons rfl .nil))), rfl⟩
                    · intro _ T0 hm
                      show CdOK _ _ _ _ _ _
                      refine CdOK.region ?_
                      refine RgOK.s (v := VI (i34)) rfl rfl rfl (e_mv (ev_t rfl)) ?_
                      refine RgOK.s (v := VI ((w64 (i34 + 1)))) rfl rfl rfl (e_bin (ev_t rfl) rfl rfl rfl) ?_
                      refine RgOK.s (v := VI ((w64 (i34 + 1)))) rfl rfl rfl (e_as (ev_t rfl)) ?_
                      refine RgOK.nil ?_
                      refine Told.id ?_
                      exact ⟨_, (w64 (i34 + 1)), Nat.lt_succ_self _, hm, (.cons rfl (.cons rfl (.cons rfl .nil))), rfl⟩
                · intro c72; replace hm := hm.ifn c72
                  refine CdOK.exit ?_
                  refine Told.id ?_
                  exact ⟨(), hm.ret, (.cons rfl (.cons rfl .nil)), rfl⟩
              · intro _ T0 hm
                show CdOK _ _ _ _ _ _
                refine CdOK.seq ?_
                refine CdOK.region ?_
                refine RgOK.s (v := .o (.c (.ptr (h.length + 0) 2))) rfl rfl rfl (e_fa' fa29_2 (ev_t rfl)) ?_
                refine RgOK.s (v := .o (.c (.L 2 (r_.places.map Place.cs)))) rfl rfl rfl (e_ldb1 (ev_t rfl) ty26 (bx rfl rfl) rfl) ?_
                refine RgOK.s (v := VI ((r_.places.length : Int))) rfl rfl rfl (e_lenM (ev_t rfl) is26) ?_
                refine RgOK.s (v := VI (own11)) rfl rfl rfl (e_mv (ev_t rfl)) ?_
                refine RgOK.s (v := VB (decide ((r_.places.length : Int) = own11))) rfl rfl rfl (e_eqK (ev_t rfl) (ev_t rfl)) ?_
                refine RgOK.s (v := VB (decide ((r_.places.length : Int) = own11))) rfl rfl rfl (e_as (ev_t rfl)) ?_
                refine RgOK.nil ?_
                show CdOK _ _ _ _ _ _
                refine CdOK.ret ?_
                refine ⟨.inr rfl, _, rfl, h, [⟨[I (r_.pages), I (r_.spares), .L 2 (r_.places.map Place.cs), .L 1 (r_.bad.map cI)], true, true⟩], _, rfl, rfl, hC, ((renFlV rfl) : RenV _ _ _ _ (VB (decide ((r_.places.length : Int) = own11)))), ?_⟩
                have hr := hm.ret
                subst hr
                exact ⟨rfl, rfl⟩
/- pagemend/pagemendref35.New -/
def ref35_New (pages : Int) (spares : Int) : Option (Remap × Int) := ((ref35_Valid (⟨pages, spares, ([] : List Place), ([] : List Int)⟩ : Remap)).bind fun (x1 : Bool) => (if (!x1) = true then some ((⟨0, 0, ([] : List Place), ([] : List Int)⟩ : Remap), 1) else some ((⟨pages, spares, ([] : List Place), ([] : List Int)⟩ : Remap), 0)))
theorem ref35_New.eq (pages : Int) (spares : Int) : ref35_New pages spares = ((ref35_Valid (⟨pages, spares, ([] : List Place), ([] : List Int)⟩ : Remap)).bind fun (x1 : Bool) => (if (!x1) = true then some ((⟨0, 0, ([] : List Place), ([] : List Int)⟩ : Remap), 1) else some ((⟨pages, spares, ([] : List Place), ([] : List Int)⟩ : Remap), 0))) := rfl
theorem ref35_New_ok {h : Heap} {pages : Int} {spares : Int}  {r : (Remap × Int)} (hm : ref35_New pages spares = some r) : FnOK Try.prog 19 [VI (pages), VI (spares)] h (fun v h' => v = .tup [.agg [I (r.1.pages), I (r.1.spares), .L 2 (r.1.places.map Place.cs), .L 1 (r.1.bad.map cI)], .c (I (r.2))] ∧ h' = h) := by
  refine FnOK.fin ?_
  refine FnOK.bodyC (N := 15) Try.func19 rfl rfl rfl (fun hC => ?_)
  replace hm := Ev.of hm
  rw [ref35_New.eq] at hm
  show CdOK _ _ _ (look _ [(0, VI (pages)), (1, VI (spares))]) (h ++ ([] : Heap)) _
  refine CdOK.seq ?_
  refine CdOK.region ?_
  refine RgOK.s (v := .o (.c (.ptr (h.length + 0) 0))) rfl rfl rfl (e_allocN (L' := [⟨[I (0), I (0), .v (.slice none 0 0), .v (.slice none 0 0)], true, true⟩]) rfl zo29 rfl rfl) ?_
  refine RgOK.s (v := VI (0)) rfl rfl rfl (e_as rfl) ?_
  refine RgOK.nil ?_
  show CdOK _ _ _ _ _ _
  refine CdOK.seq ?_
  refine CdOK.region ?_
  refine RgOK.s (v := VI (pages)) rfl rfl rfl (e_mv (ev_t rfl)) ?_
  refine RgOK.s (v := VI (spares)) rfl rfl rfl (e_mv (ev_t rfl)) ?_
  refine RgOK.s (v := .o (.agg [I (pages), I (spares), .v (.slice none 0 0), .v (.slice none 0 0)])) rfl rfl rfl (e_bld (cs := [I (pages), I (spares), .v (.slice none 0 0), .v (.slice none 0 0)]) zo29 bl29 rfl rfl) ?_
  refine RgOK.s (v := .o (.c (.ptr (h.length + 1) 0))) rfl rfl rfl (e_allocN (L' := [⟨[I (0), I (0), .v (.slice none 0 0), .v (.slice none 0 0)], true, true⟩, ⟨[I (0), I (0), .v (.slice none 0 0), .v (.slice none 0 0)], true, true⟩]) rfl zo29 rfl rfl) ?_
  refine RgOK.s0 rfl rfl (e_stN (L' := [⟨[I (0), I (0), .v (.slice none 0 0), .v (.slice none 0 0)], true, true⟩, ⟨[I (pages), I (spares), .v (.slice none 0 0), .v (.slice none 0 0)], true, true⟩]) rfl (ev_t rfl) (ev_t rfl) ty29 rfl rfl rfl rfl rfl) ?_
  refine RgOK.nil ?_
  show CdOK _ _ _ _ _ _
  refine CdOK.seq ?_
  refine CdOK.seq ?_
  refine CdOK.region ?_
  refine RgOK.s (v := .o (.agg [I (pages), I (spares), .v (.slice none 0 0), .v (.slice none 0 0)])) rfl rfl rfl (e_ldbA (ev_t rfl) ty29 (bx rfl rfl) rfl rfl) ?_
  obtain ⟨x1, e1, hm⟩ := hm.call
  refine RgOK.cl rfl rfl rfl rfl pl23 (R2.of (.agg (R2.of (.refl _) (R2.of (.refl _) (R2.of (.nlL _) (R2.of (.nlL _) (R2.nil _)))))) (R2.nil _)) (ref35_Valid_ok   e1) ?_
  rintro _ _ ⟨rfl, rfl⟩
  refine RgOK.s (v := VB ((!x1))) rfl rfl rfl (e_un (ev_t rfl) rfl) ?_
  refine RgOK.nil ?_
  show CdOK _ _ _ _ _ _
  refine CdOK.condB (ev_t rfl) ?_ ?_
  · intro c2; replace hm := hm.ifp c2
    refine CdOK.seq ?_
    refine CdOK.region ?_
    refine RgOK.s (v := .o (.agg [I (0), I (0), .v (.slice none 0 0), .v (.slice none 0 0)])) rfl rfl rfl (e_bld (cs := [I (0), I (0), .v (.slice none 0 0), .v (.slice none 0 0)]) zo29 bl29 rfl rfl) ?_
    refine RgOK.s0 rfl rfl (e_stN (L' := [⟨[I (0), I (0), .v (.slice none 0 0), .v (.slice none 0 0)], true, true⟩, ⟨[I (pages), I (spares), .v (.slice none 0 0), .v (.slice none 0 0)], true, true⟩]) rfl (ev_t rfl) (ev_t rfl) ty29 rfl rfl rfl rfl rfl) ?_
    refine RgOK.s (v := VI (1)) rfl rfl rfl (e_as rfl) ?_
    refine RgOK.nil ?_
    show CdOK _ _ _ _ _ _
    refine CdOK.ret ?_
    refine ⟨.inr rfl, _, (resA_c (look_find rfl) (eLoad_A ty29 (bx rfl rfl) rfl rfl rfl) (resA_t (look_find rfl) resA_n)), h, [⟨[I (0), I (0), .v (.slice none 0 0), .v (.slice none 0 0)], true, true⟩, ⟨[I (pages), I (spares), .v (.slice none 0 0), .v (.slice none 0 0)], true, true⟩], _, rfl, rfl, hC, ((.tup (R2.of (.agg (R2.of (.fl _ rfl) (R2.of (.fl _ rfl) (R2.of (.wk (.fl _ rfl) (.nlL _)) (R2.of (.wk (.fl _ rfl) (.nlL _)) (R2.nil _)))))) (R2.of (.c (.fl _ rfl)) (R2.nil _)))) : RenV _ _ _ _ (.tup [.agg [I (0), I (0), .L 2 (([] : List Place).map Place.cs), .L 1 (([] : List Int).map cI)], .c (I (1))])), ?_⟩
    have hr := hm.ret
    subst hr
    exact ⟨rfl, rfl⟩
  · intro c3; replace hm := hm.ifn c3
    refine CdOK.skip ?_
    show CdOK _ _ _ _ _ _
    refine CdOK.seq ?_
    refine CdOK.region ?_
    refine RgOK.s (v := .o (.agg [I (pages), I (spares), .v (.slice none 0 0), .v (.slice none 0 0)])) rfl rfl rfl (e_ldbA (ev_t rfl) ty29 (bx rfl rfl) rfl rfl) ?_
    refine RgOK.s0 rfl rfl (e_stN (L' := [⟨[I (pages), I (spares), .v (.slice none 0 0), .v (.slice none 0 0)], true, true⟩, ⟨[I (pages), I (spares), .v (.slice none 0 0), .v (.slice none 0 0)], true, true⟩]) rfl (ev_t rfl) (ev_t rfl) ty29 rfl rfl rfl rfl rfl) ?_
    refine RgOK.s (v := VI (0)) rfl rfl rfl (e_as rfl) ?_
    refine RgOK.nil ?_
    show CdOK _ _ _ _ _ _
    refine CdOK.ret ?_
    refine ⟨.inr rfl, _, (resA_c (look_find rfl) (eLoad_A ty29 (bx rfl rfl) rfl rfl rfl) (resA_t (look_find rfl) resA_n)), h, [⟨[I (pages), I (spares), .v (.slice none 0 0), .v (.slice none 0 0)], true, true⟩, ⟨[I (pages), I (spares), .v (.slice none 0 0), .v (.slice none 0 0)], true, true⟩], _, rfl, rfl, hC, ((.tup (R2.of (.agg (R2.of (.fl _ rfl) (R2.of (.fl _ rfl) (R2.of (.wk (.fl _ rfl) (.nlL _)) (R2.of (.wk (.fl _ rfl) (.nlL _)) (R2.nil _)))))) (R2.of (.c (.fl _ rfl)) (R2.nil _)))) : RenV _ _ _ _ (.tup [.agg [I (pages), I (spares), .L 2 (([] : List Place).map Place.cs), .L 1 (([] : List Int).map cI)], .c (I (0))])), ?_⟩
    have hr := hm.ret
    subst hr
    exact ⟨rfl, rfl⟩
/- pagemend/pagemendref35.Where -/
def ref35_Where.l1 (r_ : Remap) (page : Int) : Nat → Int → Option (Sum Unit (Int × Int))
  | 0, _ => none
  | kk9 + 1, i8 => (if i8 < (r_.places.length : Int) then (if (0 : Int) ≤ i8 ∧ i8 < (r_.places.length : Int) then (if ((gd r_.places i8).page) = page then (if (0 : Int) ≤ i8 ∧ i8 < (r_.places.length : Int) then some (Sum.inr ((gd r_.places i8).address, 0)) else none) else ref35_Where.l1 r_ page kk9 (w64 (i8 + 1))) else none) else some (Sum.inl ()))
theorem ref35_Where.l1_s (r_ : Remap) (page : Int) (kk9 : Nat) (i8 : Int) : ref35_Where.l1 r_ page (kk9 + 1) i8 = (if i8 < (r_.places.length : Int) then (if (0 : Int) ≤ i8 ∧ i8 < (r_.places.length : Int) then (if ((gd r_.places i8).page) = page then (if (0 : Int) ≤ i8 ∧ i8 < (r_.places.length : Int) then some (Sum.inr ((gd r_.places i8).address, 0)) else none) else ref35_Where.l1 r_ page kk9 (w64 (i8 + 1))) else none) else some (Sum.inl ())) := rfl
def ref35_Where (r_ : Remap) (page : Int) : Option (Int × Int) := ((ref35_Valid r_).bind fun (x1 : Bool) => (if (!x1) = true then some (0, 48) else (if page < 0 then some (0, 1) else (if r_.pages ≤ page then some (0, 1) else ((ref35_Where.l1 r_ page FU 0).bind fun (z : Sum Unit (Int × Int)) => match z with | .inl (s16 : Unit) => some (page, 0) | .inr r => some r)))))
theorem ref35_Where.eq (r_ : Remap) (page : Int) : ref35_Where r_ page = ((ref35_Valid r_).bind fun (x1 : Bool) => (if (!x1) = true then some (0, 48) else (if page < 0 then some (0, 1) else (if r_.pages ≤ page then some (0, 1) else ((ref35_Where.l1 r_ page FU 0).bind fun (z : Sum Unit (Int × Int)) => match z with | .inl (s16 : Unit) => some (page, 0) | .inr r => some r))))) := rfl
theorem ref35_Where_ok {h : Heap} {r_ : Remap} {page : Int}  {r : (Int × Int)} (hm : ref35_Where r_ page = some r) : FnOK Try.prog 27 [.o (.agg [I (r_.pages), I (r_.spares), .L 2 (r_.places.map Place.cs), .L 1 (r_.bad.map cI)]), VI (page)] h (fun v h' => v = .tup [.c (I (r.1)), .c (I (r.2))] ∧ h' = h) := by
  refine FnOK.fin ?_
  refine FnOK.bodyC (N := 40) Try.func27 rfl rfl rfl (fun hC => ?_)
  replace hm := Ev.of hm
  rw [ref35_Where.eq] at hm
  show CdOK _ _ _ (look _ [(0, .o (.agg [I (r_.pages), I (r_.spares), .L 2 (r_.places.map Place.cs), .L 1 (r_.bad.map cI)])), (1, VI (page))]) (h ++ ([] : Heap)) _
  refine CdOK.seq ?_
  refine CdOK.region ?_
  refine RgOK.s (v := .o (.c (.ptr (h.length + 0) 0))) rfl rfl rfl (e_boxN (L' := [⟨[I (r_.pages), I (r_.spares), .L 2 (r_.places.map Place.cs), .L 1 (r_.bad.map cI)], true, true⟩]) rfl (ev_t rfl) rfl rfl) ?_
  refine RgOK.s (v := VI (0)) rfl rfl rfl (e_as rfl) ?_
  refine RgOK.s (v := VI (0)) rfl rfl rfl (e_as rfl) ?_
  refine RgOK.nil ?_
  show CdOK _ _ _ _ _ _
  refine CdOK.seq ?_
  refine CdOK.seq ?_
  refine CdOK.region ?_
  refine RgOK.s (v := .o (.agg [I (r_.pages), I (r_.spares), .L 2 (r_.places.map Place.cs), .L 1 (r_.bad.map cI)])) rfl rfl rfl (e_ldbA (ev_t rfl) ty29 (bx rfl rfl) rfl rfl) ?_
  obtain ⟨x1, e1, hm⟩ := hm.call
  refine RgOK.cl rfl rfl rfl rfl pl23 (R2.wk _) (ref35_Valid_ok   e1) ?_
  rintro _ _ ⟨rfl, rfl⟩
  refine RgOK.s (v := VB ((!x1))) rfl rfl rfl (e_un (ev_t rfl) rfl) ?_
  refine RgOK.nil ?_
  show CdOK _ _ _ _ _ _
  refine CdOK.condB (ev_t rfl) ?_ ?_
  · intro c2; replace hm := hm.ifp c2
    refine CdOK.seq ?_
    refine CdOK.region ?_
    refine RgOK.s (v := VI (0)) rfl rfl rfl (e_as rfl) ?_
    refine RgOK.s (v := VI (48)) rfl rfl rfl (e_as rfl) ?_
    refine RgOK.nil ?_
    show CdOK _ _ _ _ _ _
    refine CdOK.ret ?_
    refine ⟨.inr rfl, _, rfl, h, [⟨[I (r_.pages), I (r_.spares), .L 2 (r_.places.map Place.cs), .L 1 (r_.bad.map cI)], true, true⟩], _, rfl, rfl, hC, ((renFlV rfl) : RenV _ _ _ _ (.tup [.c (I (0)), .c (I (48))])), ?_⟩
    have hr := hm.ret
    subst hr
    exact ⟨rfl, rfl⟩
  · intro c3; replace hm := hm.ifn c3
    refine CdOK.skip ?_
    show CdOK _ _ _ _ _ _
    refine CdOK.seq ?_
    refine CdOK.seq ?_
    refine CdOK.region ?_
    refine RgOK.s (v := VI (page)) rfl rfl rfl (e_mv (ev_t rfl)) ?_
    refine RgOK.sd rfl rfl rfl (e_bin (ev_t rfl) rfl rfl rfl) ?_ ?_
    · intro c4; replace hm := hm.ifp c4
      refine RgOK.s (v := VB (true)) rfl rfl rfl (e_mv (ev_t rfl)) ?_
      refine RgOK.sk rfl rfl rfl ?_
      refine RgOK.sk rfl rfl rfl ?_
      refine RgOK.sk rfl rfl rfl ?_
      refine RgOK.sk rfl rfl rfl ?_
      refine RgOK.s (v := VB (true)) rfl rfl rfl (e_pick (t := true) (ev_t rfl) rfl) ?_
      refine RgOK.nil ?_
      show CdOK _ _ _ _ _ _
      refine CdOK.cond_true rfl ?_
      refine CdOK.seq ?_
      refine CdOK.region ?_
      refine RgOK.s (v := VI (0)) rfl rfl rfl (e_as rfl) ?_
      refine RgOK.s (v := VI (1)) rfl rfl rfl (e_as rfl) ?_
      refine RgOK.nil ?_
      show CdOK _ _ _ _ _ _
      refine CdOK.ret ?_
      refine ⟨.inr rfl, _, rfl, h, [⟨[I (r_.pages), I (r_.spares), .L 2 (r_.places.map Place.cs), .L 1 (r_.bad.map cI)], true, true⟩], _, rfl, rfl, hC, ((renFlV rfl) : RenV _ _ _ _ (.tup [.c (I (0)), .c (I (1))])), ?_⟩
      have hr := hm.ret
      subst hr
      exact ⟨rfl, rfl⟩
    · intro c5; replace hm := hm.ifn c5
      refine RgOK.s (v := VB (false)) rfl rfl rfl (e_mv (ev_t rfl)) ?_
      refine RgOK.s (v := VI (page)) rfl rfl rfl (e_mv (ev_t rfl)) ?_
      refine RgOK.s (v := .o (.c (.ptr (h.length + 0) 0))) rfl rfl rfl (e_fa' fa29_0 (ev_t rfl)) ?_
      refine RgOK.s (v := VI (r_.pages)) rfl rfl rfl (e_ldb1 (ev_t rfl) ty3 (bx rfl rfl) rfl) ?_
      refine RgOK.s (v := VB (decide (r_.pages ≤ page))) rfl rfl rfl (e_bin (ev_t rfl) (ev_t rfl) rfl rfl) ?_
      refine RgOK.s (v := VB (decide (r_.pages ≤ page))) rfl rfl rfl (e_pick (t := false) (ev_t rfl) (ev_t rfl)) ?_
      refine RgOK.nil ?_
      show CdOK _ _ _ _ _ _
      refine CdOK.condD (ev_t rfl) ?_ ?_
      · intro c6; replace hm := hm.ifp c6
        refine CdOK.seq ?_
        refine CdOK.region ?_
        refine RgOK.s (v := VI (0)) rfl rfl rfl (e_as rfl) ?_
        refine RgOK.s (v := VI (1)) rfl rfl rfl (e_as rfl) ?_
        refine RgOK.nil ?_
        show CdOK _ _ _ _ _ _
        refine CdOK.ret ?_
        refine ⟨.inr rfl, _, rfl, h, [⟨[I (r_.pages), I (r_.spares), .L 2 (r_.places.map Place.cs), .L 1 (r_.bad.map cI)], true, true⟩], _, rfl, rfl, hC, ((renFlV rfl) : RenV _ _ _ _ (.tup [.c (I (0)), .c (I (1))])), ?_⟩
        have hr := hm.ret
        subst hr
        exact ⟨rfl, rfl⟩
      · intro c7; replace hm := hm.ifn c7
        refine CdOK.skip ?_
        show CdOK _ _ _ _ _ _
        refine CdOK.seq ?_
        refine CdOK.seq ?_
        refine CdOK.region ?_
        refine RgOK.s (v := VI (0)) rfl rfl rfl (e_as rfl) ?_
        refine RgOK.nil ?_
        show CdOK _ _ _ _ _ _
        replace hm := hm.bnd
        refine CdOK.joinT (σ := Unit) (fun s => Sum.inl ()) hm (fun s => [(1, VI (page))]) (fun s => h ++ ([] : Heap)) ?_ ?_
        · intro hm
          refine CdOK.block ?_
          refine CdOK.loopE (σ := Int) (fun k s => Ev (ref35_Where.l1 r_ page k s) _) (fun s => [(1, VI (page)), (2, .o (.c (.ptr (h.length + 0) 0))), (6, VI (s))]) (fun s => h ++ ([⟨[I (r_.pages), I (r_.spares), .L 2 (r_.places.map Place.cs), .L 1 (r_.bad.map cI)], true, true⟩] : Heap)) FU 0 hm (.cons rfl (.cons rfl (.cons rfl .nil))) rfl ?_
          rintro kk9 i8 T0 hm
          replace hm : Ev (ref35_Where.l1 r_ page kk9 i8) _ := hm
          cases kk9 with
          | zero => exact (Ev.non hm).elim
          | succ kk9 =>
          rw [ref35_Where.l1_s] at hm
          show CdOK _ _ _ (look T0 [(1, VI (page)), (2, .o (.c (.ptr (h.length + 0) 0))), (6, VI (i8))]) (h ++ ([⟨[I (r_.pages), I (r_.spares), .L 2 (r_.places.map Place.cs), .L 1 (r_.bad.map cI)], true, true⟩] : Heap)) _
          refine CdOK.seq ?_
          refine CdOK.seq ?_
          refine CdOK.region ?_
          refine RgOK.s (v := VI (i8)) rfl rfl rfl (e_mv (ev_t rfl)) ?_
          refine RgOK.s (v := .o (.c (.ptr (h.length + 0) 2))) rfl rfl rfl (e_fa' fa29_2 (ev_t rfl)) ?_
          refine RgOK.s (v := .o (.c (.L 2 (r_.places.map Place.cs)))) rfl rfl rfl (e_ldb1 (ev_t rfl) ty26 (bx rfl rfl) rfl) ?_
          refine RgOK.s (v := VI ((r_.places.length : Int))) rfl rfl rfl (e_lenM (ev_t rfl) is26) ?_
          refine RgOK.s (v := VB (decide (i8 < (r_.places.length : Int)))) rfl rfl rfl (e_bin (ev_t rfl) (ev_t rfl) rfl rfl) ?_
          refine RgOK.nil ?_
          show CdOK _ _ _ _ _ _
          refine CdOK.condD (ev_t rfl) ?_ ?_
          · intro c10; replace hm := hm.ifp c10
            refine CdOK.skip ?_
            show CdOK _ _ _ _ _ _
            refine CdOK.seq ?_
            refine CdOK.block ?_
            refine CdOK.seq ?_
            refine CdOK.region ?_
            refine RgOK.s (v := .o (.c (.ptr (h.length + 0) 2))) rfl rfl rfl (e_fa' fa29_2 (ev_t rfl)) ?_
            refine RgOK.s (v := .o (.c (.L 2 (r_.places.map Place.cs)))) rfl rfl rfl (e_ldb1 (ev_t rfl) ty26 (bx rfl rfl) rfl) ?_
            refine RgOK.s (v := VI (i8)) rfl rfl rfl (e_mv (ev_t rfl)) ?_
            obtain ⟨c11, hm⟩ := hm.ifs
            refine RgOK.s (v := .o (.c (.rp [I ((gd r_.places i8).page), I ((gd r_.places i8).address)]))) rfl rfl rfl (e_ixM (f := Place.cs) (l := r_.places) (i := i8) (ev_t rfl) (ev_t rfl) el26 c11) ?_
            refine RgOK.s (v := .o (.c (.rp [I ((gd r_.places i8).page), I ((gd r_.places i8).address)]))) rfl rfl rfl (e_faR fa117_0 (ev_t rfl) rfl) ?_
            refine RgOK.s (v := VI ((gd r_.places i8).page)) rfl rfl rfl (e_ldR1 (ev_t rfl) ty3 rfl) ?_
            refine RgOK.s (v := VI (page)) rfl rfl rfl (e_mv (ev_t rfl)) ?_
            refine RgOK.s (v := VB (decide (((gd r_.places i8).page) = page))) rfl rfl rfl (e_eqK (ev_t rfl) (ev_t rfl)) ?_
            refine RgOK.nil ?_
            show CdOK _ _ _ _ _ _
            refine CdOK.condD (ev_t rfl) ?_ ?_
            · intro c12; replace hm := hm.ifp c12
              refine CdOK.seq ?_
              refine CdOK.region ?_
              refine RgOK.s (v := .o (.c (.ptr (h.length + 0) 2))) rfl rfl rfl (e_fa' fa29_2 (ev_t rfl)) ?_
              refine RgOK.s (v := .o (.c (.L 2 (r_.places.map Place.cs)))) rfl rfl rfl (e_ldb1 (ev_t rfl) ty26 (bx rfl rfl) rfl) ?_
              refine RgOK.s (v := VI (i8)) rfl rfl rfl (e_mv (ev_t rfl)) ?_
              obtain ⟨c13, hm⟩ := hm.ifs
              refine RgOK.s (v := .o (.c (.rp [I ((gd r_.places i8).page), I ((gd r_.places i8).address)]))) rfl rfl rfl (e_ixM (f := Place.cs) (l := r_.places) (i := i8) (ev_t rfl) (ev_t rfl) el26 c13) ?_
              refine RgOK.s (v := .o (.c (.rp [I ((gd r_.places i8).address)]))) rfl rfl rfl (e_faR fa117_1 (ev_t rfl) rfl) ?_
              refine RgOK.s (v := VI ((gd r_.places i8).address)) rfl rfl rfl (e_ldR1 (ev_t rfl) ty3 rfl) ?_
              refine RgOK.s (v := VI ((gd r_.places i8).address)) rfl rfl rfl (e_as (ev_t rfl)) ?_
              refine RgOK.s (v := VI (0)) rfl rfl rfl (e_as rfl) ?_
              refine RgOK.nil ?_
              show CdOK _ _ _ _ _ _
              refine CdOK.ret ?_
              refine ⟨.inr rfl, _, rfl, h, [⟨[I (r_.pages), I (r_.spares), .L 2 (r_.places.map Place.cs), .L 1 (r_.bad.map cI)], true, true⟩], _, rfl, rfl, hC, ((renFlV rfl) : RenV _ _ _ _ (.tup [.c (I ((gd r_.places i8).address)), .c (I (0))])), ?_⟩
              have hr := hm.ret
              replace hr := Ev.ret hr
              subst hr
              exact ⟨rfl, rfl⟩
            · intro c14; replace hm := hm.ifn c14
              refine CdOK.skip ?_
              show CdOK _ _ _ _ _ _
              refine CdOK.region ?_
              refine RgOK.s (v := VI (i8)) rfl rfl rfl (e_mv (ev_t rfl)) ?_
              refine RgOK.s (v := VI ((w64 (i8 + 1)))) rfl rfl rfl (e_bin (ev_t rfl) rfl rfl rfl) ?_
              refine RgOK.s (v := VI ((w64 (i8 + 1)))) rfl rfl rfl (e_as (ev_t rfl)) ?_
              refine RgOK.nil ?_
              refine Told.id ?_
              exact ⟨_, (w64 (i8 + 1)), Nat.lt_succ_self _, hm, (.cons rfl (.cons rfl (.cons rfl .nil))), rfl⟩
          · intro c15; replace hm := hm.ifn c15
            refine CdOK.exit ?_
            refine Told.re (σ := []) (X := [(1, VI (page))]) (L' := []) rfl rfl hC (by decide) .nil (.cons (renFlV rfl) .nil) ?_
            exact ⟨(), hm.ret, (.cons rfl .nil), rfl⟩
        · intro _ T0 hm
          show CdOK _ _ _ _ _ _
          refine CdOK.seq ?_
          refine CdOK.region ?_
          refine RgOK.s (v := VI (page)) rfl rfl rfl (e_mv (ev_t rfl)) ?_
          refine RgOK.s (v := VI (page)) rfl rfl rfl (e_as (ev_t rfl)) ?_
          refine RgOK.s (v := VI (0)) rfl rfl rfl (e_as rfl) ?_
          refine RgOK.nil ?_
          show CdOK _ _ _ _ _ _
          refine CdOK.ret ?_
          refine ⟨.inr rfl, _, rfl, h, [], _, rfl, rfl, hC, ((renFlV rfl) : RenV _ _ _ _ (.tup [.c (I (page)), .c (I (0))])), ?_⟩
          have hr := hm.ret
          subst hr
          exact ⟨rfl, rfl⟩
/- pagemend/pagemendref35.Owner -/
def ref35_Owner.l1 (r_ : Remap) (address : Int) : Nat → Int → Option (Sum Unit (Int × Bool))
  | 0, _ => none
  | kk2 + 1, i1 => (if i1 < r_.pages then ((ref35_Valid r_).bind fun (x4 : Bool) => (if x4 = true then ((ref35_Where r_ i1).bind fun (x6 : (Int × Int)) => (if x6.1 = address then some (Sum.inr (i1, true)) else ref35_Owner.l1 r_ address kk2 (w64 (i1 + 1)))) else some (Sum.inl ()))) else some (Sum.inl ()))
theorem ref35_Owner.l1_s (r_ : Remap) (address : Int) (kk2 : Nat) (i1 : Int) : ref35_Owner.l1 r_ address (kk2 + 1) i1 = (if i1 < r_.pages then ((ref35_Valid r_).bind fun (x4 : Bool) => (if x4 = true then ((ref35_Where r_ i1).bind fun (x6 : (Int × Int)) => (if x6.1 = address then some (Sum.inr (i1, true)) else ref35_Owner.l1 r_ address kk2 (w64 (i1 + 1)))) else some (Sum.inl ()))) else some (Sum.inl ())) := rfl
def ref35_Owner (r_ : Remap) (address : Int) : Option (Int × Bool) := ((ref35_Owner.l1 r_ address FU 0).bind fun (z : Sum Unit (Int × Bool)) => match z with | .inl (s11 : Unit) => some (0, false) | .inr r => some r)
theorem ref35_Owner.eq (r_ : Remap) (address : Int) : ref35_Owner r_ address = ((ref35_Owner.l1 r_ address FU 0).bind fun (z : Sum Unit (Int × Bool)) => match z with | .inl (s11 : Unit) => some (0, false) | .inr r => some r) := rfl
theorem ref35_Owner_ok {h : Heap} {r_ : Remap} {address : Int}  {r : (Int × Bool)} (hm : ref35_Owner r_ address = some r) : FnOK Try.prog 29 [.o (.agg [I (r_.pages), I (r_.spares), .L 2 (r_.places.map Place.cs), .L 1 (r_.bad.map cI)]), VI (address)] h (fun v h' => v = .tup [.c (I (r.1)), .c (Bo (r.2))] ∧ h' = h) := by
  refine FnOK.fin ?_
  refine FnOK.bodyC (N := 29) Try.func29 rfl rfl rfl (fun hC => ?_)
  replace hm := Ev.of hm
  rw [ref35_Owner.eq] at hm
  show CdOK _ _ _ (look _ [(0, .o (.agg [I (r_.pages), I (r_.spares), .L 2 (r_.places.map Place.cs), .L 1 (r_.bad.map cI)])), (1, VI (address))]) (h ++ ([] : Heap)) _
  refine CdOK.seq ?_
  refine CdOK.region ?_
  refine RgOK.s (v := .o (.c (.ptr (h.length + 0) 0))) rfl rfl rfl (e_boxN (L' := [⟨[I (r_.pages), I (r_.spares), .L 2 (r_.places.map Place.cs), .L 1 (r_.bad.map cI)], true, true⟩]) rfl (ev_t rfl) rfl rfl) ?_
  refine RgOK.s (v := VI (0)) rfl rfl rfl (e_as rfl) ?_
  refine RgOK.s (v := VB (false)) rfl rfl rfl (e_as rfl) ?_
  refine RgOK.nil ?_
  show CdOK _ _ _ _ _ _
  refine CdOK.seq ?_
  refine CdOK.seq ?_
  refine CdOK.region ?_
  refine RgOK.s (v := VI (0)) rfl rfl rfl (e_as rfl) ?_
  refine RgOK.nil ?_
  show CdOK _ _ _ _ _ _
  replace hm := hm.bnd
  refine CdOK.joinT (σ := Unit) (fun s => Sum.inl ()) hm (fun s => []) (fun s => h ++ ([] : Heap)) ?_ ?_
  · intro hm
    refine CdOK.block ?_
    refine CdOK.loopE (σ := Int) (fun k s => Ev (ref35_Owner.l1 r_ address k s) _) (fun s => [(1, VI (address)), (2, .o (.c (.ptr (h.length + 0) 0))), (6, VI (s))]) (fun s => h ++ ([⟨[I (r_.pages), I (r_.spares), .L 2 (r_.places.map Place.cs), .L 1 (r_.bad.map cI)], true, true⟩] : Heap)) FU 0 hm (.cons rfl (.cons rfl (.cons rfl .nil))) rfl ?_
    rintro kk2 i1 T0 hm
    replace hm : Ev (ref35_Owner.l1 r_ address kk2 i1) _ := hm
    cases kk2 with
    | zero => exact (Ev.non hm).elim
    | succ kk2 =>
    rw [ref35_Owner.l1_s] at hm
    show CdOK _ _ _ (look T0 [(1, VI (address)), (2, .o (.c (.ptr (h.length + 0) 0))), (6, VI (i1))]) (h ++ ([⟨[I (r_.pages), I (r_.spares), .L 2 (r_.places.map Place.cs), .L 1 (r_.bad.map cI)], true, true⟩] : Heap)) _
    refine CdOK.seq ?_
    refine CdOK.seq ?_
    refine CdOK.region ?_
    refine RgOK.s (v := VI (i1)) rfl rfl rfl (e_mv (ev_t rfl)) ?_
    refine RgOK.s (v := .o (.c (.ptr (h.length + 0) 0))) rfl rfl rfl (e_fa' fa29_0 (ev_t rfl)) ?_
    refine RgOK.s (v := VI (r_.pages)) rfl rfl rfl (e_ldb1 (ev_t rfl) ty3 (bx rfl rfl) rfl) ?_
    refine RgOK.sd rfl rfl rfl (e_bin (ev_t rfl) (ev_t rfl) rfl rfl) ?_ ?_
    · intro c3; replace hm := hm.ifp c3
      refine RgOK.s (v := VB (true)) rfl rfl rfl (e_mv (ev_t rfl)) ?_
      refine RgOK.s (v := .o (.agg [I (r_.pages), I (r_.spares), .L 2 (r_.places.map Place.cs), .L 1 (r_.bad.map cI)])) rfl rfl rfl (e_ldbA (ev_t rfl) ty29 (bx rfl rfl) rfl rfl) ?_
      obtain ⟨x4, e4, hm⟩ := hm.call
      refine RgOK.cl rfl rfl rfl rfl pl23 (R2.wk _) (ref35_Valid_ok   e4) ?_
      rintro _ _ ⟨rfl, rfl⟩
      refine RgOK.s (v := VB (x4)) rfl rfl rfl (e_pick (t := true) (ev_t rfl) (ev_t rfl)) ?_
      refine RgOK.nil ?_
      show CdOK _ _ _ _ _ _
      refine CdOK.condB (ev_t rfl) ?_ ?_
      · intro c5; replace hm := hm.ifp c5
        refine CdOK.skip ?_
        show CdOK _ _ _ _ _ _
        refine CdOK.seq ?_
        refine CdOK.block ?_
        refine CdOK.seq ?_
        refine CdOK.region ?_
        refine RgOK.s (v := .o (.agg [I (r_.pages), I (r_.spares), .L 2 (r_.places.map Place.cs), .L 1 (r_.bad.map cI)])) rfl rfl rfl (e_ldbA (ev_t rfl) ty29 (bx rfl rfl) rfl rfl) ?_
        refine RgOK.s (v := VI (i1)) rfl rfl rfl (e_mv (ev_t rfl)) ?_
        obtain ⟨x6, e6, hm⟩ := hm.call
        refine RgOK.cl rfl rfl rfl rfl pl27 (R2.wk _) (ref35_Where_ok   e6) ?_
        rintro _ _ ⟨rfl, rfl⟩
        refine RgOK.s (v := .tup [.c (I (x6.1)), .c (I (x6.2))]) rfl rfl rfl (e_mv (ev_t rfl)) ?_
        refine RgOK.s (v := VI (x6.1)) rfl rfl rfl (e_ext (ev_t rfl) rfl) ?_
        refine RgOK.s (v := VI (x6.2)) rfl rfl rfl (e_ext (ev_t rfl) rfl) ?_
        refine RgOK.s (v := VI (x6.1)) rfl rfl rfl (e_as (ev_t rfl)) ?_
        refine RgOK.s (v := VI (x6.2)) rfl rfl rfl (e_as (ev_t rfl)) ?_
        refine RgOK.nil ?_
        show CdOK _ _ _ _ _ _
        refine CdOK.seq ?_
        refine CdOK.region ?_
        refine RgOK.s (v := VI (x6.1)) rfl rfl rfl (e_mv (ev_t rfl)) ?_
        refine RgOK.s (v := VI (address)) rfl rfl rfl (e_mv (ev_t rfl)) ?_
        refine RgOK.s (v := VB (decide (x6.1 = address))) rfl rfl rfl (e_eqK (ev_t rfl) (ev_t rfl)) ?_
        refine RgOK.nil ?_
        show CdOK _ _ _ _ _ _
        refine CdOK.condD (ev_t rfl) ?_ ?_
        · intro c7; replace hm := hm.ifp c7
          refine CdOK.seq ?_
          refine CdOK.region ?_
          refine RgOK.s (v := VI (i1)) rfl rfl rfl (e_mv (ev_t rfl)) ?_
          refine RgOK.s (v := VI (i1)) rfl rfl rfl (e_as (ev_t rfl)) ?_
          refine RgOK.s (v := VB (true)) rfl rfl rfl (e_as rfl) ?_
          refine RgOK.nil ?_
          show CdOK _ _ _ _ _ _
          refine CdOK.ret ?_
          refine ⟨.inr rfl, _, rfl, h, [⟨[I (r_.pages), I (r_.spares), .L 2 (r_.places.map Place.cs), .L 1 (r_.bad.map cI)], true, true⟩], _, rfl, rfl, hC, ((renFlV rfl) : RenV _ _ _ _ (.tup [.c (I (i1)), .c (Bo true)])), ?_⟩
          have hr := hm.ret
          replace hr := Ev.ret hr
          subst hr
          exact ⟨rfl, rfl⟩
        · intro c8; replace hm := hm.ifn c8
          refine CdOK.skip ?_
          show CdOK _ _ _ _ _ _
          refine CdOK.region ?_
          refine RgOK.s (v := VI (i1)) rfl rfl rfl (e_mv (ev_t rfl)) ?_
          refine RgOK.s (v := VI ((w64 (i1 + 1)))) rfl rfl rfl (e_bin (ev_t rfl) rfl rfl rfl) ?_
          refine RgOK.s (v := VI ((w64 (i1 + 1)))) rfl rfl rfl (e_as (ev_t rfl)) ?_
          refine RgOK.nil ?_
          refine Told.id ?_
          exact ⟨_, (w64 (i1 + 1)), Nat.lt_succ_self _, hm, (.cons rfl (.cons rfl (.cons rfl .nil))), rfl⟩
      · intro c9; replace hm := hm.ifn c9
        refine CdOK.exit ?_
        refine Told.re (σ := []) (X := []) (L' := []) rfl rfl hC (by decide) .nil .nil ?_
        exact ⟨(), hm.ret, .nil, rfl⟩
    · intro c10; replace hm := hm.ifn c10
      refine RgOK.s (v := VB (false)) rfl rfl rfl (e_mv (ev_t rfl)) ?_
      refine RgOK.sk rfl rfl rfl ?_
      refine RgOK.sk rfl rfl rfl ?_
      refine RgOK.s (v := VB (false)) rfl rfl rfl (e_pick (t := false) (ev_t rfl) rfl) ?_
      refine RgOK.nil ?_
      show CdOK _ _ _ _ _ _
      refine CdOK.cond_false rfl ?_
      refine CdOK.exit ?_
      refine Told.re (σ := []) (X := []) (L' := []) rfl rfl hC (by decide) .nil .nil ?_
      exact ⟨(), hm.ret, .nil, rfl⟩
  · intro _ T0 hm
    show CdOK _ _ _ _ _ _
    refine CdOK.seq ?_
    refine CdOK.region ?_
    refine RgOK.s (v := VI (0)) rfl rfl rfl (e_as rfl) ?_
    refine RgOK.s (v := VB (false)) rfl rfl rfl (e_as rfl) ?_
    refine RgOK.nil ?_
    show CdOK _ _ _ _ _ _
    refine CdOK.ret ?_
    refine ⟨.inr rfl, _, rfl, h, [], _, rfl, rfl, hC, ((renFlV rfl) : RenV _ _ _ _ (.tup [.c (I (0)), .c (Bo false)])), ?_⟩
    have hr := hm.ret
    subst hr
    exact ⟨rfl, rfl⟩
/- pagemend/pagemendref35.free -/
def ref35_free.l1 (r_ : Remap) : Nat → (List Int) → Int → Option (List Int)
  | 0, _, _ => none
  | kk4 + 1, l2, a3 => (if a3 < (w64 (r_.pages + r_.spares)) then ((((ref35_Owner r_ a3).bind fun (x7 : (Int × Bool)) => (if x7.2 = true then some true else some false))).bind fun (s10 : Bool) => (if s10 = true then ref35_free.l1 r_ kk4 l2 (w64 (a3 + 1)) else ((ref35_has r_.bad a3).bind fun (x13 : Bool) => (if (!x13) = true then (if (l2).length + ([a3] : List Int).length ≤ 17592186044416 then ref35_free.l1 r_ kk4 (l2 ++ ([a3] : List Int)) (w64 (a3 + 1)) else none) else ref35_free.l1 r_ kk4 l2 (w64 (a3 + 1)))))) else some l2)
theorem ref35_free.l1_s (r_ : Remap) (kk4 : Nat) (l2 : (List Int)) (a3 : Int) : ref35_free.l1 r_ (kk4 + 1) l2 a3 = (if a3 < (w64 (r_.pages + r_.spares)) then ((((ref35_Owner r_ a3).bind fun (x7 : (Int × Bool)) => (if x7.2 = true then some true else some false))).bind fun (s10 : Bool) => (if s10 = true then ref35_free.l1 r_ kk4 l2 (w64 (a3 + 1)) else ((ref35_has r_.bad a3).bind fun (x13 : Bool) => (if (!x13) = true then (if (l2).length + ([a3] : List Int).length ≤ 17592186044416 then ref35_free.l1 r_ kk4 (l2 ++ ([a3] : List Int)) (w64 (a3 + 1)) else none) else ref35_free.l1 r_ kk4 l2 (w64 (a3 + 1)))))) else some l2) := rfl
def ref35_free (r_ : Remap) : Option (List Int) := ((ref35_free.l1 r_ FU ([] : List Int) r_.pages).bind fun (s18 : (List Int)) => some s18)
theorem ref35_free.eq (r_ : Remap) : ref35_free r_ = ((ref35_free.l1 r_ FU ([] : List Int) r_.pages).bind fun (s18 : (List Int)) => some s18) := rfl
theorem ref35_free_ok {h : Heap} {r_ : Remap}  {r : (List Int)} (hm : ref35_free r_ = some r) : FnOK Try.prog 87 [.o (.agg [I (r_.pages), I (r_.spares), .L 2 (r_.places.map Place.cs), .L 1 (r_.bad.map cI)])] h (fun v h' => v = .o (.c (.L 1 (r.map cI))) ∧ h' = h) := by
  refine FnOK.fin ?_
  refine FnOK.bodyC (N := 38) Try.func87 rfl rfl rfl (fun hC => ?_)
  replace hm := Ev.of hm
  rw [ref35_free.eq] at hm
  show CdOK _ _ _ (look _ [(0, .o (.agg [I (r_.pages), I (r_.spares), .L 2 (r_.places.map Place.cs), .L 1 (r_.bad.map cI)]))]) (h ++ ([] : Heap)) _
  refine CdOK.seq ?_
  refine CdOK.region ?_
  refine RgOK.s (v := .o (.c (.ptr (h.length + 0) 0))) rfl rfl rfl (e_boxN (L' := [⟨[I (r_.pages), I (r_.spares), .L 2 (r_.places.map Place.cs), .L 1 (r_.bad.map cI)], true, true⟩]) rfl (ev_t rfl) rfl rfl) ?_
  refine RgOK.s (v := .o (.c (.v (.slice none 0 0)))) rfl rfl rfl (e_as rfl) ?_
  refine RgOK.nil ?_
  show CdOK _ _ _ _ _ _
  refine CdOK.seq ?_
  refine CdOK.region ?_
  refine RgOK.s (v := .o (.c (.v (.slice none 0 0)))) rfl rfl rfl (e_as rfl) ?_
  refine RgOK.nil ?_
  show CdOK _ _ _ _ _ _
  refine CdOK.seq ?_
  refine CdOK.seq ?_
  refine CdOK.region ?_
  refine RgOK.s (v := .o (.c (.ptr (h.length + 0) 0))) rfl rfl rfl (e_fa' fa29_0 (ev_t rfl)) ?_
  refine RgOK.s (v := VI (r_.pages)) rfl rfl rfl (e_ldb1 (ev_t rfl) ty3 (bx rfl rfl) rfl) ?_
  refine RgOK.s (v := VI (r_.pages)) rfl rfl rfl (e_as (ev_t rfl)) ?_
  refine RgOK.nil ?_
  show CdOK _ _ _ _ _ _
  replace hm := hm.bnd
  refine CdOK.joinT (σ := ((List Int) × Bool)) (fun s => s.1) hm (fun s => [(3, .o (.c (.g (h.length + 0) ((s.1).length) 1 s.2)))]) (fun s => h ++ ([⟨(s.1.map cI).flatten, true, s.2⟩] : Heap)) ?_ ?_
  · intro hm
    refine CdOK.block ?_
    refine CdOK.re (σ := [0, 1001]) (X := [(1, .o (.c (.ptr (h.length + 0) 0))), (3, .o (.c (.g (h.length + 1) ((([] : List Int)).length) 1 false))), (4, VI (r_.pages))]) (L' := [⟨[I (r_.pages), I (r_.spares), .L 2 (r_.places.map Place.cs), .L 1 (r_.bad.map cI)], true, true⟩, ⟨(([] : List Int).map cI).flatten, true, false⟩]) rfl rfl hC (by decide) (.obj 0 rfl (renFl rfl) (.dead 1001 _ rfl .nil)) (.cons (.o (.c (.ptr 0 0 _ rfl))) (.cons (.o (.c (.nilg _ _))) (.cons (renFlV rfl) .nil))) ?_
    refine CdOK.loopE (σ := ((List Int) × Int × Bool)) (fun k s => Ev (ref35_free.l1 r_ k s.1 s.2.1) _) (fun s => [(1, .o (.c (.ptr (h.length + 0) 0))), (3, .o (.c (.g (h.length + 1) ((s.1).length) 1 s.2.2))), (4, VI (s.2.1))]) (fun s => h ++ ([⟨[I (r_.pages), I (r_.spares), .L 2 (r_.places.map Place.cs), .L 1 (r_.bad.map cI)], true, true⟩, ⟨(s.1.map cI).flatten, true, s.2.2⟩] : Heap)) FU (([] : List Int), r_.pages, false) hm (.cons rfl (.cons rfl (.cons rfl .nil))) rfl ?_
    rintro kk4 ⟨l2, a3, l2v⟩ T0 hm
    replace hm : Ev (ref35_free.l1 r_ kk4 l2 a3) _ := hm
    cases kk4 with
    | zero => exact (Ev.non hm).elim
    | succ kk4 =>
    rw [ref35_free.l1_s] at hm
    show CdOK _ _ _ (look T0 [(1, .o (.c (.ptr (h.length + 0) 0))), (3, .o (.c (.g (h.length + 1) ((l2).length) 1 l2v))), (4, VI (a3))]) (h ++ ([⟨[I (r_.pages), I (r_.spares), .L 2 (r_.places.map Place.cs), .L 1 (r_.bad.map cI)], true, true⟩, ⟨(l2.map cI).flatten, true, l2v⟩] : Heap)) _
    refine CdOK.seq ?_
    refine CdOK.seq ?_
    refine CdOK.region ?_
    refine RgOK.s (v := VI (a3)) rfl rfl rfl (e_mv (ev_t rfl)) ?_
    refine RgOK.s (v := .o (.c (.ptr (h.length + 0) 0))) rfl rfl rfl (e_fa' fa29_0 (ev_t rfl)) ?_
    refine RgOK.s (v := VI (r_.pages)) rfl rfl rfl (e_ldb1 (ev_t rfl) ty3 (bx rfl rfl) rfl) ?_
    refine RgOK.s (v := .o (.c (.ptr (h.length + 0) 1))) rfl rfl rfl (e_fa' fa29_1 (ev_t rfl)) ?_
    refine RgOK.s (v := VI (r_.spares)) rfl rfl rfl (e_ldb1 (ev_t rfl) ty3 (bx rfl rfl) rfl) ?_
    refine RgOK.s (v := VI ((w64 (r_.pages + r_.spares)))) rfl rfl rfl (e_bin (ev_t rfl) (ev_t rfl) rfl rfl) ?_
    refine RgOK.s (v := VB (decide (a3 < (w64 (r_.pages + r_.spares))))) rfl rfl rfl (e_bin (ev_t rfl) (ev_t rfl) rfl rfl) ?_
    refine RgOK.nil ?_
    show CdOK _ _ _ _ _ _
    refine CdOK.condD (ev_t rfl) ?_ ?_
    · intro c5; replace hm := hm.ifp c5
      refine CdOK.skip ?_
      show CdOK _ _ _ _ _ _
      refine CdOK.seq ?_
      refine CdOK.block ?_
      replace hm := hm.bnd
      refine CdOK.joinE (σ := Bool) (fun s => s) hm (fun s => [(1, .o (.c (.ptr (h.length + 0) 0))), (3, .o (.c (.g (h.length + 1) ((l2).length) 1 l2v))), (4, VI (a3)), (6, VB (s))]) (fun s => h ++ ([⟨[I (r_.pages), I (r_.spares), .L 2 (r_.places.map Place.cs), .L 1 (r_.bad.map cI)], true, true⟩, ⟨(l2.map cI).flatten, true, l2v⟩] : Heap)) ?_ ?_
      · intro hm
        refine CdOK.region ?_
        refine RgOK.s (v := .o (.agg [I (r_.pages), I (r_.spares), .L 2 (r_.places.map Place.cs), .L 1 (r_.bad.map cI)])) rfl rfl rfl (e_ldbA (ev_t rfl) ty29 (bx rfl rfl) rfl rfl) ?_
        refine RgOK.s (v := VI (a3)) rfl rfl rfl (e_mv (ev_t rfl)) ?_
        obtain ⟨x7, e7, hm⟩ := hm.call
        refine RgOK.cl rfl rfl rfl rfl pl29 (R2.wk _) (ref35_Owner_ok   e7) ?_
        rintro _ _ ⟨rfl, rfl⟩
        refine RgOK.s (v := .tup [.c (I (x7.1)), .c (Bo (x7.2))]) rfl rfl rfl (e_mv (ev_t rfl)) ?_
        refine RgOK.s (v := VI (x7.1)) rfl rfl rfl (e_ext (ev_t rfl) rfl) ?_
        refine RgOK.sb rfl rfl rfl (e_ext (ev_t rfl) rfl) ?_ ?_
        · intro c8; replace hm := hm.ifp c8
          refine RgOK.s (v := VI (x7.1)) rfl rfl rfl (e_as (ev_t rfl)) ?_
          refine RgOK.s (v := VB (true)) rfl rfl rfl (e_as (ev_t rfl)) ?_
          refine RgOK.nil ?_
          refine Told.id ?_
          exact ⟨true, hm.ret, (.cons rfl (.cons rfl (.cons rfl (.cons rfl .nil)))), rfl⟩
        · intro c9; replace hm := hm.ifn (by rw [c9]; exact Bool.false_ne_true)
          refine RgOK.s (v := VI (x7.1)) rfl rfl rfl (e_as (ev_t rfl)) ?_
          refine RgOK.s (v := VB (false)) rfl rfl rfl (e_as (ev_t rfl)) ?_
          refine RgOK.nil ?_
          refine Told.id ?_
          exact ⟨false, hm.ret, (.cons rfl (.cons rfl (.cons rfl (.cons rfl .nil)))), rfl⟩
      · rintro used6 T0 hm
        show CdOK _ _ _ (look T0 [(1, .o (.c (.ptr (h.length + 0) 0))), (3, .o (.c (.g (h.length + 1) ((l2).length) 1 l2v))), (4, VI (a3)), (6, VB (used6))]) (h ++ ([⟨[I (r_.pages), I (r_.spares), .L 2 (r_.places.map Place.cs), .L 1 (r_.bad.map cI)], true, true⟩, ⟨(l2.map cI).flatten, true, l2v⟩] : Heap)) _
        refine CdOK.seq ?_
        refine CdOK.region ?_
        refine RgOK.sb rfl rfl rfl (e_mv (ev_t rfl)) ?_ ?_
        · intro c11; replace hm := hm.ifp c11
          refine RgOK.s (v := VB (false)) rfl rfl rfl (e_un (ev_t rfl) rfl) ?_
          refine RgOK.s (v := VB (false)) rfl rfl rfl (e_mv (ev_t rfl)) ?_
          refine RgOK.sk rfl rfl rfl ?_
          refine RgOK.sk rfl rfl rfl ?_
          refine RgOK.sk rfl rfl rfl ?_
          refine RgOK.sk rfl rfl rfl ?_
          refine RgOK.sk rfl rfl rfl ?_
          refine RgOK.s (v := VB (false)) rfl rfl rfl (e_pick (t := false) (ev_t rfl) rfl) ?_
          refine RgOK.nil ?_
          show CdOK _ _ _ _ _ _
          refine CdOK.cond_false rfl ?_
          refine CdOK.skip ?_
          show CdOK _ _ _ _ _ _
          refine CdOK.region ?_
          refine RgOK.s (v := VI (a3)) rfl rfl rfl (e_mv (ev_t rfl)) ?_
          refine RgOK.s (v := VI ((w64 (a3 + 1)))) rfl rfl rfl (e_bin (ev_t rfl) rfl rfl rfl) ?_
          refine RgOK.s (v := VI ((w64 (a3 + 1)))) rfl rfl rfl (e_as (ev_t rfl)) ?_
          refine RgOK.nil ?_
          refine Told.id ?_
          exact ⟨_, (l2, (w64 (a3 + 1)), l2v), Nat.lt_succ_self _, hm, (.cons rfl (.cons rfl (.cons rfl .nil))), rfl⟩
        · intro c12; replace hm := hm.ifn (by rw [c12]; exact Bool.false_ne_true)
          refine RgOK.s (v := VB (true)) rfl rfl rfl (e_un (ev_t rfl) rfl) ?_
          refine RgOK.s (v := VB (true)) rfl rfl rfl (e_mv (ev_t rfl)) ?_
          refine RgOK.s (v := .o (.c (.ptr (h.length + 0) 3))) rfl rfl rfl (e_fa' fa29_3 (ev_t rfl)) ?_
          refine RgOK.s (v := .o (.c (.L 1 (r_.bad.map cI)))) rfl rfl rfl (e_ldb1 (ev_t rfl) ty27 (bx rfl rfl) rfl) ?_
          refine RgOK.s (v := VI (a3)) rfl rfl rfl (e_mv (ev_t rfl)) ?_
          obtain ⟨x13, e13, hm⟩ := hm.call
          refine RgOK.cl rfl rfl rfl rfl pl85 (R2.wk _) (ref35_has_ok   e13) ?_
          rintro _ _ ⟨rfl, rfl⟩
          refine RgOK.s (v := VB ((!x13))) rfl rfl rfl (e_un (ev_t rfl) rfl) ?_
          refine RgOK.s (v := VB ((!x13))) rfl rfl rfl (e_pick (t := true) (ev_t rfl) (ev_t rfl)) ?_
          refine RgOK.nil ?_
          show CdOK _ _ _ _ _ _
          refine CdOK.condB (ev_t rfl) ?_ ?_
          · intro c14; replace hm := hm.ifp c14
            refine CdOK.region ?_
            refine RgOK.s (v := .o (.c (.g (h.length + 1) ((l2).length) 1 l2v))) rfl rfl rfl (e_mv (ev_t rfl)) ?_
            refine RgOK.s (v := VI (a3)) rfl rfl rfl (e_mv (ev_t rfl)) ?_
            refine RgOK.s (v := .o (.c (.LC 1 (([a3] : List Int).map cI)))) rfl rfl rfl (e_lit (cs := [I (a3)]) (xs := ([a3]).map cI) slt27 rfl rfl rfl rfl rfl) ?_
            obtain ⟨c15, hm⟩ := hm.ifs
            refine RgOK.s (v := .o (.c (.g (h.length + 2) (((l2 ++ ([a3] : List Int))).length) 1 (l2v || decide (0 < ([a3] : List Int).length))))) rfl rfl rfl (e_apG (k := 1) (q := 17592186044416) (m := ([a3] : List Int).length) (j := 1) (f := cI) (xs := l2) (ys := ([a3] : List Int)) (L' := [⟨[I (r_.pages), I (r_.spares), .L 2 (r_.places.map Place.cs), .L 1 (r_.bad.map cI)], true, true⟩, ⟨(l2.map cI).flatten, true, false⟩, ⟨((l2 ++ ([a3] : List Int)).map cI).flatten, true, (l2v || decide (0 < ([a3] : List Int).length))⟩]) slt27 rfl (ev_t rfl) (ev_t rfl) (bx rfl rfl) (by intro x; rfl) src_LC rfl c15 rfl (by first | rfl | simp) rfl rfl) ?_
            refine RgOK.s (v := .o (.c (.g (h.length + 2) (((l2 ++ ([a3] : List Int))).length) 1 (l2v || decide (0 < ([a3] : List Int).length))))) rfl rfl rfl (e_as (ev_t rfl)) ?_
            refine RgOK.nil ?_
            show CdOK _ _ _ _ _ _
            refine CdOK.region ?_
            refine RgOK.s (v := VI (a3)) rfl rfl rfl (e_mv (ev_t rfl)) ?_
            refine RgOK.s (v := VI ((w64 (a3 + 1)))) rfl rfl rfl (e_bin (ev_t rfl) rfl rfl rfl) ?_
            refine RgOK.s (v := VI ((w64 (a3 + 1)))) rfl rfl rfl (e_as (ev_t rfl)) ?_
            refine RgOK.nil ?_
            refine Told.re (σ := [0, 2]) (X := [(1, .o (.c (.ptr (h.length + 0) 0))), (3, .o (.c (.g (h.length + 1) (((l2 ++ ([a3] : List Int))).length) 1 (l2v || decide (0 < ([a3] : List Int).length))))), (4, VI ((w64 (a3 + 1))))]) (L' := [⟨[I (r_.pages), I (r_.spares), .L 2 (r_.places.map Place.cs), .L 1 (r_.bad.map cI)], true, true⟩, ⟨((l2 ++ ([a3] : List Int)).map cI).flatten, true, (l2v || decide (0 < ([a3] : List Int).length))⟩]) rfl rfl hC (by decide) (.obj 0 rfl (renFl rfl) (.obj 2 rfl (renFl (flat_all (f := cI) (l := (l2 ++ ([a3] : List Int))) (by intro x; rfl))) .nil)) (.cons (.o (.c (.ptr 0 0 _ rfl))) (.cons (.o (.c (.gg 2 1 _ _ _ _ _ rfl (by first | rfl | simp) rfl))) (.cons (renFlV rfl) .nil))) ?_
            exact ⟨_, ((l2 ++ ([a3] : List Int)), (w64 (a3 + 1)), (l2v || decide (0 < ([a3] : List Int).length))), Nat.lt_succ_self _, hm, (.cons rfl (.cons rfl (.cons rfl .nil))), rfl⟩
          · intro c16; replace hm := hm.ifn c16
            refine CdOK.skip ?_
            show CdOK _ _ _ _ _ _
            refine CdOK.region ?_
            refine RgOK.s (v := VI (a3)) rfl rfl rfl (e_mv (ev_t rfl)) ?_
            refine RgOK.s (v := VI ((w64 (a3 + 1)))) rfl rfl rfl (e_bin (ev_t rfl) rfl rfl rfl) ?_
            refine RgOK.s (v := VI ((w64 (a3 + 1)))) rfl rfl rfl (e_as (ev_t rfl)) ?_
            refine RgOK.nil ?_
            refine Told.id ?_
            exact ⟨_, (l2, (w64 (a3 + 1)), l2v), Nat.lt_succ_self _, hm, (.cons rfl (.cons rfl (.cons rfl .nil))), rfl⟩
    · intro c17; replace hm := hm.ifn c17
      refine CdOK.exit ?_
      refine Told.re (σ := [1]) (X := [(3, .o (.c (.g (h.length + 0) ((l2).length) 1 l2v)))]) (L' := [⟨(l2.map cI).flatten, true, l2v⟩]) rfl rfl hC (by decide) (.obj 1 rfl (renFl (flat_all (f := cI) (l := l2) (by intro x; rfl))) .nil) (.cons (.o (.c (.gg 1 0 _ _ _ _ _ rfl (by first | rfl | simp) rfl))) .nil) ?_
      exact ⟨(l2, l2v), hm.ret, (.cons rfl .nil), rfl⟩
  · rintro ⟨l1, l1v⟩ T0 hm
    show CdOK _ _ _ _ _ _
    refine CdOK.seq ?_
    refine CdOK.region ?_
    refine RgOK.s (v := .o (.c (.g (h.length + 0) ((l1).length) 1 l1v))) rfl rfl rfl (e_mv (ev_t rfl)) ?_
    refine RgOK.s (v := .o (.c (.g (h.length + 0) ((l1).length) 1 l1v))) rfl rfl rfl (e_as (ev_t rfl)) ?_
    refine RgOK.nil ?_
    show CdOK _ _ _ _ _ _
    refine CdOK.ret ?_
    refine ⟨.inr rfl, _, rfl, h, [⟨(l1.map cI).flatten, true, l1v⟩], _, rfl, rfl, hC, ((.o (.c (.fzg 0 _ 1 _ (l1.map cI) rfl (by decide) (by first | exact List.length_map .. | simp) (lens_all (by intro x; rfl)) (vl_all (by intro x; rfl))))) : RenV _ _ _ _ (.o (.c (.L 1 (l1.map cI))))), ?_⟩
    have hr := hm.ret
    subst hr
    exact ⟨rfl, rfl⟩
/- pagemend/pagemendref35.Left -/
def ref35_Left (r_ : Remap) : Option Int := ((ref35_Valid r_).bind fun (x1 : Bool) => (if (!x1) = true then some 0 else ((ref35_free r_).bind fun (x4 : (List Int)) => some (x4.length : Int))))
theorem ref35_Left.eq (r_ : Remap) : ref35_Left r_ = ((ref35_Valid r_).bind fun (x1 : Bool) => (if (!x1) = true then some 0 else ((ref35_free r_).bind fun (x4 : (List Int)) => some (x4.length : Int)))) := rfl
theorem ref35_Left_ok {h : Heap} {r_ : Remap}  {r : Int} (hm : ref35_Left r_ = some r) : FnOK Try.prog 25 [.o (.agg [I (r_.pages), I (r_.spares), .L 2 (r_.places.map Place.cs), .L 1 (r_.bad.map cI)])] h (fun v h' => v = VI (r) ∧ h' = h) := by
  refine FnOK.fin ?_
  refine FnOK.bodyC (N := 9) Try.func25 rfl rfl rfl (fun hC => ?_)
  replace hm := Ev.of hm
  rw [ref35_Left.eq] at hm
  show CdOK _ _ _ (look _ [(0, .o (.agg [I (r_.pages), I (r_.spares), .L 2 (r_.places.map Place.cs), .L 1 (r_.bad.map cI)]))]) (h ++ ([] : Heap)) _
  refine CdOK.seq ?_
  refine CdOK.region ?_
  refine RgOK.s (v := .o (.c (.ptr (h.length + 0) 0))) rfl rfl rfl (e_boxN (L' := [⟨[I (r_.pages), I (r_.spares), .L 2 (r_.places.map Place.cs), .L 1 (r_.bad.map cI)], true, true⟩]) rfl (ev_t rfl) rfl rfl) ?_
  refine RgOK.s (v := VI (0)) rfl rfl rfl (e_as rfl) ?_
  refine RgOK.nil ?_
  show CdOK _ _ _ _ _ _
  refine CdOK.seq ?_
  refine CdOK.seq ?_
  refine CdOK.region ?_
  refine RgOK.s (v := .o (.agg [I (r_.pages), I (r_.spares), .L 2 (r_.places.map Place.cs), .L 1 (r_.bad.map cI)])) rfl rfl rfl (e_ldbA (ev_t rfl) ty29 (bx rfl rfl) rfl rfl) ?_
  obtain ⟨x1, e1, hm⟩ := hm.call
  refine RgOK.cl rfl rfl rfl rfl pl23 (R2.wk _) (ref35_Valid_ok   e1) ?_
  rintro _ _ ⟨rfl, rfl⟩
  refine RgOK.s (v := VB ((!x1))) rfl rfl rfl (e_un (ev_t rfl) rfl) ?_
  refine RgOK.nil ?_
  show CdOK _ _ _ _ _ _
  refine CdOK.condB (ev_t rfl) ?_ ?_
  · intro c2; replace hm := hm.ifp c2
    refine CdOK.seq ?_
    refine CdOK.region ?_
    refine RgOK.s (v := VI (0)) rfl rfl rfl (e_as rfl) ?_
    refine RgOK.nil ?_
    show CdOK _ _ _ _ _ _
    refine CdOK.ret ?_
    refine ⟨.inr rfl, _, rfl, h, [⟨[I (r_.pages), I (r_.spares), .L 2 (r_.places.map Place.cs), .L 1 (r_.bad.map cI)], true, true⟩], _, rfl, rfl, hC, ((renFlV rfl) : RenV _ _ _ _ (VI (0))), ?_⟩
    have hr := hm.ret
    subst hr
    exact ⟨rfl, rfl⟩
  · intro c3; replace hm := hm.ifn c3
    refine CdOK.skip ?_
    show CdOK _ _ _ _ _ _
    refine CdOK.seq ?_
    refine CdOK.region ?_
    refine RgOK.s (v := .o (.agg [I (r_.pages), I (r_.spares), .L 2 (r_.places.map Place.cs), .L 1 (r_.bad.map cI)])) rfl rfl rfl (e_ldbA (ev_t rfl) ty29 (bx rfl rfl) rfl rfl) ?_
    obtain ⟨x4, e4, hm⟩ := hm.call
    refine RgOK.cl rfl rfl rfl rfl pl87 (R2.wk _) (ref35_free_ok   e4) ?_
    rintro _ _ ⟨rfl, rfl⟩
    refine RgOK.s (v := VI ((x4.length : Int))) rfl rfl rfl (e_lenM (ev_t rfl) is27) ?_
    refine RgOK.s (v := VI ((x4.length : Int))) rfl rfl rfl (e_as (ev_t rfl)) ?_
    refine RgOK.nil ?_
    show CdOK _ _ _ _ _ _
    refine CdOK.ret ?_
    refine ⟨.inr rfl, _, rfl, h, [⟨[I (r_.pages), I (r_.spares), .L 2 (r_.places.map Place.cs), .L 1 (r_.bad.map cI)], true, true⟩], _, rfl, rfl, hC, ((renFlV rfl) : RenV _ _ _ _ (VI ((x4.length : Int)))), ?_⟩
    have hr := hm.ret
    subst hr
    exact ⟨rfl, rfl⟩
/- pagemend/pagemendref35.Mark -/
def ref35_Mark.l1 (r_ : Remap) (address : Int) : Nat → Int → Option Int
  | 0, _ => none
  | kk26 + 1, k25 => (if k25 < (r_.bad.length : Int) then (if (0 : Int) ≤ k25 ∧ k25 < (r_.bad.length : Int) then (if (gd r_.bad k25) < address then ref35_Mark.l1 r_ address kk26 (w64 (k25 + 1)) else some k25) else none) else some k25)
theorem ref35_Mark.l1_s (r_ : Remap) (address : Int) (kk26 : Nat) (k25 : Int) : ref35_Mark.l1 r_ address (kk26 + 1) k25 = (if k25 < (r_.bad.length : Int) then (if (0 : Int) ≤ k25 ∧ k25 < (r_.bad.length : Int) then (if (gd r_.bad k25) < address then ref35_Mark.l1 r_ address kk26 (w64 (k25 + 1)) else some k25) else none) else some k25) := rfl
def ref35_Mark.l2 (r_ : Remap) (page11 : Int) (x17 : (List Int)) : Nat → Bool → Int → Remap → Option (Bool × Remap)
  | 0, _, _, _ => none
  | kk46 + 1, done43, i44, bx45 => (if i44 < (r_.places.length : Int) then (((if done43 = true then some (done43, bx45) else (if (0 : Int) ≤ i44 ∧ i44 < (r_.places.length : Int) then (if page11 ≤ ((gd r_.places i44).page) then (if (0 : Int) ≤ 0 ∧ 0 < (x17.length : Int) then (if (bx45.places).length + ([(⟨page11, (gd x17 0)⟩ : Place)] : List Place).length ≤ 8796093022208 then some (true, (⟨bx45.pages, bx45.spares, (bx45.places ++ ([(⟨page11, (gd x17 0)⟩ : Place)] : List Place)), bx45.bad⟩ : Remap)) else none) else none) else some (done43, bx45)) else none))).bind fun (s57 : (Bool × Remap)) => (if (0 : Int) ≤ i44 ∧ i44 < (r_.places.length : Int) then (if ((gd r_.places i44).page) ≠ page11 then (if (0 : Int) ≤ i44 ∧ i44 < (r_.places.length : Int) then (if (s57.2.places).length + ([(gd r_.places i44)] : List Place).length ≤ 8796093022208 then ref35_Mark.l2 r_ page11 x17 kk46 s57.1 (w64 (i44 + 1)) (⟨s57.2.pages, s57.2.spares, (s57.2.places ++ ([(gd r_.places i44)] : List Place)), s57.2.bad⟩ : Remap) else none) else none) else ref35_Mark.l2 r_ page11 x17 kk46 s57.1 (w64 (i44 + 1)) s57.2) else none)) else some (done43, bx45))
theorem ref35_Mark.l2_s (r_ : Remap) (page11 : Int) (x17 : (List Int)) (kk46 : Nat) (done43 : Bool) (i44 : Int) (bx45 : Remap) : ref35_Mark.l2 r_ page11 x17 (kk46 + 1) done43 i44 bx45 = (if i44 < (r_.places.length : Int) then (((if done43 = true then some (done43, bx45) else (if (0 : Int) ≤ i44 ∧ i44 < (r_.places.length : Int) then (if page11 ≤ ((gd r_.places i44).page) then (if (0 : Int) ≤ 0 ∧ 0 < (x17.length : Int) then (if (bx45.places).length + ([(⟨page11, (gd x17 0)⟩ : Place)] : List Place).length ≤ 8796093022208 then some (true, (⟨bx45.pages, bx45.spares, (bx45.places ++ ([(⟨page11, (gd x17 0)⟩ : Place)] : List Place)), bx45.bad⟩ : Remap)) else none) else none) else some (done43, bx45)) else none))).bind fun (s57 : (Bool × Remap)) => (if (0 : Int) ≤ i44 ∧ i44 < (r_.places.length : Int) then (if ((gd r_.places i44).page) ≠ page11 then (if (0 : Int) ≤ i44 ∧ i44 < (r_.places.length : Int) then (if (s57.2.places).length + ([(gd r_.places i44)] : List Place).length ≤ 8796093022208 then ref35_Mark.l2 r_ page11 x17 kk46 s57.1 (w64 (i44 + 1)) (⟨s57.2.pages, s57.2.spares, (s57.2.places ++ ([(gd r_.places i44)] : List Place)), s57.2.bad⟩ : Remap) else none) else none) else ref35_Mark.l2 r_ page11 x17 kk46 s57.1 (w64 (i44 + 1)) s57.2) else none)) else some (done43, bx45)) := rfl
def ref35_Mark (r_ : Remap) (address : Int) : Option (Remap × Int × Int) := ((ref35_Valid r_).bind fun (x1 : Bool) => (if (!x1) = true then some ((⟨0, 0, ([] : List Place), ([] : List Int)⟩ : Remap), 0, 48) else (if address < 0 then some ((⟨0, 0, ([] : List Place), ([] : List Int)⟩ : Remap), 0, 1) else (if (w64 (r_.pages + r_.spares)) ≤ address then some ((⟨0, 0, ([] : List Place), ([] : List Int)⟩ : Remap), 0, 1) else ((ref35_has r_.bad address).bind fun (x8 : Bool) => (if x8 = true then some (r_, (-1), 0) else ((((ref35_Owner r_ address).bind fun (x13 : (Int × Bool)) => (if x13.2 = true then some (x13.1, true) else some (x13.1, false)))).bind fun (s16 : (Int × Bool)) => ((ref35_free r_).bind fun (x17 : (List Int)) => (((if s16.2 = true then (if (x17.length : Int) = 0 then some (Sum.inr ((⟨0, 0, ([] : List Place), ([] : List Int)⟩ : Remap), 0, 47)) else some (Sum.inl (⟨0, 0, ([] : List Place), ([] : List Int)⟩ : Remap))) else some (Sum.inl (⟨0, 0, ([] : List Place), ([] : List Int)⟩ : Remap)))).bind fun (z : Sum Remap (Remap × Int × Int)) => match z with | .inl (s23 : Remap) => ((ref35_Mark.l1 r_ address FU 0).bind fun (s32 : Int) => (if (0 : Int) ≤ s32 ∧ s32 ≤ (r_.bad.length : Int) then (if (0 : Int) ≤ s32 ∧ s32 ≤ (r_.bad.length : Int) then (if (r_.bad.take (Int.toNat s32)).length ≤ 17592186044416 then (if ((r_.bad.take (Int.toNat s32))).length + ([address] : List Int).length ≤ 17592186044416 then (if (((r_.bad.take (Int.toNat s32)) ++ ([address] : List Int))).length + (r_.bad.drop (Int.toNat s32)).length ≤ 17592186044416 then (if (!s16.2) = true then (if r_.places.length ≤ 8796093022208 then some ((⟨r_.pages, r_.spares, r_.places, (((r_.bad.take (Int.toNat s32)) ++ ([address] : List Int)) ++ (r_.bad.drop (Int.toNat s32)))⟩ : Remap), (-1), 0) else none) else ((ref35_Mark.l2 r_ s16.1 x17 FU false 0 (⟨r_.pages, r_.spares, ([] : List Place), (((r_.bad.take (Int.toNat s32)) ++ ([address] : List Int)) ++ (r_.bad.drop (Int.toNat s32)))⟩ : Remap)).bind fun (s64 : (Bool × Remap)) => (((if (!s64.1) = true then (if (0 : Int) ≤ 0 ∧ 0 < (x17.length : Int) then (if (s64.2.places).length + ([(⟨s16.1, (gd x17 0)⟩ : Place)] : List Place).length ≤ 8796093022208 then some (⟨s64.2.pages, s64.2.spares, (s64.2.places ++ ([(⟨s16.1, (gd x17 0)⟩ : Place)] : List Place)), s64.2.bad⟩ : Remap) else none) else none) else some s64.2)).bind fun (s70 : Remap) => some (s70, s16.1, 0)))) else none) else none) else none) else none) else none)) | .inr r => some r)))))))))
theorem ref35_Mark.eq (r_ : Remap) (address : Int) : ref35_Mark r_ address = ((ref35_Valid r_).bind fun (x1 : Bool) => (if (!x1) = true then some ((⟨0, 0, ([] : List Place), ([] : List Int)⟩ : Remap), 0, 48) else (if address < 0 then some ((⟨0, 0, ([] : List Place), ([] : List Int)⟩ : Remap), 0, 1) else (if (w64 (r_.pages + r_.spares)) ≤ address then some ((⟨0, 0, ([] : List Place), ([] : List Int)⟩ : Remap), 0, 1) else ((ref35_has r_.bad address).bind fun (x8 : Bool) => (if x8 = true then some (r_, (-1), 0) else ((((ref35_Owner r_ address).bind fun (x13 : (Int × Bool)) => (if x13.2 = true then some (x13.1, true) else some (x13.1, false)))).bind fun (s16 : (Int × Bool)) => ((ref35_free r_).bind fun (x17 : (List Int)) => (((if s16.2 = true then (if (x17.length : Int) = 0 then some (Sum.inr ((⟨0, 0, ([] : List Place), ([] : List Int)⟩ : Remap), 0, 47)) else some (Sum.inl (⟨0, 0, ([] : List Place), ([] : List Int)⟩ : Remap))) else some (Sum.inl (⟨0, 0, ([] : List Place), ([] : List Int)⟩ : Remap)))).bind fun (z : Sum Remap (Remap × Int × Int)) => match z with | .inl (s23 : Remap) => ((ref35_Mark.l1 r_ address FU 0).bind fun (s32 : Int) => (if (0 : Int) ≤ s32 ∧ s32 ≤ (r_.bad.length : Int) then (if (0 : Int) ≤ s32 ∧ s32 ≤ (r_.bad.length : Int) then (if (r_.bad.take (Int.toNat s32)).length ≤ 17592186044416 then (if ((r_.bad.take (Int.toNat s32))).length + ([address] : List Int).length ≤ 17592186044416 then (if (((r_.bad.take (Int.toNat s32)) ++ ([address] : List Int))).length + (r_.bad.drop (Int.toNat s32)).length ≤ 17592186044416 then (if (!s16.2) = true then (if r_.places.length ≤ 8796093022208 then some ((⟨r_.pages, r_.spares, r_.places, (((r_.bad.take (Int.toNat s32)) ++ ([address] : List Int)) ++ (r_.bad.drop (Int.toNat s32)))⟩ : Remap), (-1), 0) else none) else ((ref35_Mark.l2 r_ s16.1 x17 FU false 0 (⟨r_.pages, r_.spares, ([] : List Place), (((r_.bad.take (Int.toNat s32)) ++ ([address] : List Int)) ++ (r_.bad.drop (Int.toNat s32)))⟩ : Remap)).bind fun (s64 : (Bool × Remap)) => (((if (!s64.1) = true then (if (0 : Int) ≤ 0 ∧ 0 < (x17.length : Int) then (if (s64.2.places).length + ([(⟨s16.1, (gd x17 0)⟩ : Place)] : List Place).length ≤ 8796093022208 then some (⟨s64.2.pages, s64.2.spares, (s64.2.places ++ ([(⟨s16.1, (gd x17 0)⟩ : Place)] : List Place)), s64.2.bad⟩ : Remap) else none) else none) else some s64.2)).bind fun (s70 : Remap) => some (s70, s16.1, 0)))) else none) else none) else none) else none) else none)) | .inr r => some r))))))))) := rfl
theorem ref35_Mark_ok {h : Heap} {r_ : Remap} {address : Int}  {r : (Remap × Int × Int)} (hm : ref35_Mark r_ address = some r) : FnOK Try.prog 31 [.o (.agg [I (r_.pages), I (r_.spares), .L 2 (r_.places.map Place.cs), .L 1 (r_.bad.map cI)]), VI (address)] h (fun v h' => v = .tup [.agg [I (r.1.pages), I (r.1.spares), .L 2 (r.1.places.map Place.cs), .L 1 (r.1.bad.map cI)], .c (I (r.2.1)), .c (I (r.2.2))] ∧ h' = h) := by
  refine FnOK.fin ?_
  refine FnOK.bodyC (N := 153) Try.func31 rfl rfl rfl (fun hC => ?_)
  replace hm := Ev.of hm
  rw [ref35_Mark.eq] at hm
  show CdOK _ _ _ (look _ [(0, .o (.agg [I (r_.pages), I (r_.spares), .L 2 (r_.places.map Place.cs), .L 1 (r_.bad.map cI)])), (1, VI (address))]) (h ++ ([] : Heap)) _
  refine CdOK.seq ?_
  refine CdOK.region ?_
  refine RgOK.s (v := .o (.c (.ptr (h.length + 0) 0))) rfl rfl rfl (e_boxN (L' := [⟨[I (r_.pages), I (r_.spares), .L 2 (r_.places.map Place.cs), .L 1 (r_.bad.map cI)], true, true⟩]) rfl (ev_t rfl) rfl rfl) ?_
  refine RgOK.s (v := .o (.c (.ptr (h.length + 1) 0))) rfl rfl rfl (e_allocN (L' := [⟨[I (r_.pages), I (r_.spares), .L 2 (r_.places.map Place.cs), .L 1 (r_.bad.map cI)], true, true⟩, ⟨[I (0), I (0), .v (.slice none 0 0), .v (.slice none 0 0)], true, true⟩]) rfl zo29 rfl rfl) ?_
  refine RgOK.s (v := VI (0)) rfl rfl rfl (e_as rfl) ?_
  refine RgOK.s (v := VI (0)) rfl rfl rfl (e_as rfl) ?_
  refine RgOK.nil ?_
  show CdOK _ _ _ _ _ _
  refine CdOK.seq ?_
  refine CdOK.seq ?_
  refine CdOK.region ?_
  refine RgOK.s (v := .o (.agg [I (r_.pages), I (r_.spares), .L 2 (r_.places.map Place.cs), .L 1 (r_.bad.map cI)])) rfl rfl rfl (e_ldbA (ev_t rfl) ty29 (bx rfl rfl) rfl rfl) ?_
  obtain ⟨x1, e1, hm⟩ := hm.call
  refine RgOK.cl rfl rfl rfl rfl pl23 (R2.wk _) (ref35_Valid_ok   e1) ?_
  rintro _ _ ⟨rfl, rfl⟩
  refine RgOK.s (v := VB ((!x1))) rfl rfl rfl (e_un (ev_t rfl) rfl) ?_
  refine RgOK.nil ?_
  show CdOK _ _ _ _ _ _
  refine CdOK.condB (ev_t rfl) ?_ ?_
  · intro c2; replace hm := hm.ifp c2
    refine CdOK.seq ?_
    refine CdOK.region ?_
    refine RgOK.s (v := .o (.agg [I (0), I (0), .v (.slice none 0 0), .v (.slice none 0 0)])) rfl rfl rfl (e_bld (cs := [I (0), I (0), .v (.slice none 0 0), .v (.slice none 0 0)]) zo29 bl29 rfl rfl) ?_
    refine RgOK.s0 rfl rfl (e_stN (L' := [⟨[I (r_.pages), I (r_.spares), .L 2 (r_.places.map Place.cs), .L 1 (r_.bad.map cI)], true, true⟩, ⟨[I (0), I (0), .v (.slice none 0 0), .v (.slice none 0 0)], true, true⟩]) rfl (ev_t rfl) (ev_t rfl) ty29 rfl rfl rfl rfl rfl) ?_
    refine RgOK.s (v := VI (0)) rfl rfl rfl (e_as rfl) ?_
    refine RgOK.s (v := VI (48)) rfl rfl rfl (e_as rfl) ?_
    refine RgOK.nil ?_
    show CdOK _ _ _ _ _ _
    refine CdOK.ret ?_
    refine ⟨.inr rfl, _, (resA_c (look_find rfl) (eLoad_A ty29 (bx rfl rfl) rfl rfl rfl) (resA_t (look_find rfl) (resA_t (look_find rfl) resA_n))), h, [⟨[I (r_.pages), I (r_.spares), .L 2 (r_.places.map Place.cs), .L 1 (r_.bad.map cI)], true, true⟩, ⟨[I (0), I (0), .v (.slice none 0 0), .v (.slice none 0 0)], true, true⟩], _, rfl, rfl, hC, ((.tup (R2.of (.agg (R2.of (.fl _ rfl) (R2.of (.fl _ rfl) (R2.of (.wk (.fl _ rfl) (.nlL _)) (R2.of (.wk (.fl _ rfl) (.nlL _)) (R2.nil _)))))) (R2.of (.c (.fl _ rfl)) (R2.of (.c (.fl _ rfl)) (R2.nil _))))) : RenV _ _ _ _ (.tup [.agg [I (0), I (0), .L 2 (([] : List Place).map Place.cs), .L 1 (([] : List Int).map cI)], .c (I (0)), .c (I (48))])), ?_⟩
    have hr := hm.ret
    subst hr
    exact ⟨rfl, rfl⟩
  · intro c3; replace hm := hm.ifn c3
    refine CdOK.skip ?_
    show CdOK _ _ _ _ _ _
    refine CdOK.seq ?_
    refine CdOK.seq ?_
    refine CdOK.region ?_
    refine RgOK.s (v := VI (address)) rfl rfl rfl (e_mv (ev_t rfl)) ?_
    refine RgOK.sd rfl rfl rfl (e_bin (ev_t rfl) rfl rfl rfl) ?_ ?_
    · intro c4; replace hm := hm.ifp c4
      refine RgOK.s (v := VB (true)) rfl rfl rfl (e_mv (ev_t rfl)) ?_
      refine RgOK.sk rfl rfl rfl ?_
      refine RgOK.sk rfl rfl rfl ?_
      refine RgOK.sk rfl rfl rfl ?_
      refine RgOK.sk rfl rfl rfl ?_
      refine RgOK.sk rfl rfl rfl ?_
      refine RgOK.sk rfl rfl rfl ?_
      refine RgOK.sk rfl rfl rfl ?_
      refine RgOK.s (v := VB (true)) rfl rfl rfl (e_pick (t := true) (ev_t rfl) rfl) ?_
      refine RgOK.nil ?_
      show CdOK _ _ _ _ _ _
      refine CdOK.cond_true rfl ?_
      refine CdOK.seq ?_
      refine CdOK.region ?_
      refine RgOK.s (v := .o (.agg [I (0), I (0), .v (.slice none 0 0), .v (.slice none 0 0)])) rfl rfl rfl (e_bld (cs := [I (0), I (0), .v (.slice none 0 0), .v (.slice none 0 0)]) zo29 bl29 rfl rfl) ?_
      refine RgOK.s0 rfl rfl (e_stN (L' := [⟨[I (r_.pages), I (r_.spares), .L 2 (r_.places.map Place.cs), .L 1 (r_.bad.map cI)], true, true⟩, ⟨[I (0), I (0), .v (.slice none 0 0), .v (.slice none 0 0)], true, true⟩]) rfl (ev_t rfl) (ev_t rfl) ty29 rfl rfl rfl rfl rfl) ?_
      refine RgOK.s (v := VI (0)) rfl rfl rfl (e_as rfl) ?_
      refine RgOK.s (v := VI (1)) rfl rfl rfl (e_as rfl) ?_
      refine RgOK.nil ?_
      show CdOK _ _ _ _ _ _
      refine CdOK.ret ?_
      refine ⟨.inr rfl, _, (resA_c (look_find rfl) (eLoad_A ty29 (bx rfl rfl) rfl rfl rfl) (resA_t (look_find rfl) (resA_t (look_find rfl) resA_n))), h, [⟨[I (r_.pages), I (r_.spares), .L 2 (r_.places.map Place.cs), .L 1 (r_.bad.map cI)], true, true⟩, ⟨[I (0), I (0), .v (.slice none 0 0), .v (.slice none 0 0)], true, true⟩], _, rfl, rfl, hC, ((.tup (R2.of (.agg (R2.of (.fl _ rfl) (R2.of (.fl _ rfl) (R2.of (.wk (.fl _ rfl) (.nlL _)) (R2.of (.wk (.fl _ rfl) (.nlL _)) (R2.nil _)))))) (R2.of (.c (.fl _ rfl)) (R2.of (.c (.fl _ rfl)) (R2.nil _))))) : RenV _ _ _ _ (.tup [.agg [I (0), I (0), .L 2 (([] : List Place).map Place.cs), .L 1 (([] : List Int).map cI)], .c (I (0)), .c (I (1))])), ?_⟩
      have hr := hm.ret
      subst hr
      exact ⟨rfl, rfl⟩
    · intro c5; replace hm := hm.ifn c5
      refine RgOK.s (v := VB (false)) rfl rfl rfl (e_mv (ev_t rfl)) ?_
      refine RgOK.s (v := VI (address)) rfl rfl rfl (e_mv (ev_t rfl)) ?_
      refine RgOK.s (v := .o (.c (.ptr (h.length + 0) 0))) rfl rfl rfl (e_fa' fa29_0 (ev_t rfl)) ?_
      refine RgOK.s (v := VI (r_.pages)) rfl rfl rfl (e_ldb1 (ev_t rfl) ty3 (bx rfl rfl) rfl) ?_
      refine RgOK.s (v := .o (.c (.ptr (h.length + 0) 1))) rfl rfl rfl (e_fa' fa29_1 (ev_t rfl)) ?_
      refine RgOK.s (v := VI (r_.spares)) rfl rfl rfl (e_ldb1 (ev_t rfl) ty3 (bx rfl rfl) rfl) ?_
      refine RgOK.s (v := VI ((w64 (r_.pages + r_.spares)))) rfl rfl rfl (e_bin (ev_t rfl) (ev_t rfl) rfl rfl) ?_
      refine RgOK.s (v := VB (decide ((w64 (r_.pages + r_.spares)) ≤ address))) rfl rfl rfl (e_bin (ev_t rfl) (ev_t rfl) rfl rfl) ?_
      refine RgOK.s (v := VB (decide ((w64 (r_.pages + r_.spares)) ≤ address))) rfl rfl rfl (e_pick (t := false) (ev_t rfl) (ev_t rfl)) ?_
      refine RgOK.nil ?_
      show CdOK _ _ _ _ _ _
      refine CdOK.condD (ev_t rfl) ?_ ?_
      · intro c6; replace hm := hm.ifp c6
        refine CdOK.seq ?_
        refine CdOK.region ?_
        refine RgOK.s (v := .o (.agg [I (0), I (0), .v (.slice none 0 0), .v (.slice none 0 0)])) rfl rfl rfl (e_bld (cs := [I (0), I (0), .v (.slice none 0 0), .v (.slice none 0 0)]) zo29 bl29 rfl rfl) ?_
        refine RgOK.s0 rfl rfl (e_stN (L' := [⟨[I (r_.pages), I (r_.spares), .L 2 (r_.places.map Place.cs), .L 1 (r_.bad.map cI)], true, true⟩, ⟨[I (0), I (0), .v (.slice none 0 0), .v (.slice none 0 0)], true, true⟩]) rfl (ev_t rfl) (ev_t rfl) ty29 rfl rfl rfl rfl rfl) ?_
        refine RgOK.s (v := VI (0)) rfl rfl rfl (e_as rfl) ?_
        refine RgOK.s (v := VI (1)) rfl rfl rfl (e_as rfl) ?_
        refine RgOK.nil ?_
        show CdOK _ _ _ _ _ _
        refine CdOK.ret ?_
        refine ⟨.inr rfl, _, (resA_c (look_find rfl) (eLoad_A ty29 (bx rfl rfl) rfl rfl rfl) (resA_t (look_find rfl) (resA_t (look_find rfl) resA_n))), h, [⟨[I (r_.pages), I (r_.spares), .L 2 (r_.places.map Place.cs), .L 1 (r_.bad.map cI)], true, true⟩, ⟨[I (0), I (0), .v (.slice none 0 0), .v (.slice none 0 0)], true, true⟩], _, rfl, rfl, hC, ((.tup (R2.of (.agg (R2.of (.fl _ rfl) (R2.of (.fl _ rfl) (R2.of (.wk (.fl _ rfl) (.nlL _)) (R2.of (.wk (.fl _ rfl) (.nlL _)) (R2.nil _)))))) (R2.of (.c (.fl _ rfl)) (R2.of (.c (.fl _ rfl)) (R2.nil _))))) : RenV _ _ _ _ (.tup [.agg [I (0), I (0), .L 2 (([] : List Place).map Place.cs), .L 1 (([] : List Int).map cI)], .c (I (0)), .c (I (1))])), ?_⟩
        have hr := hm.ret
        subst hr
        exact ⟨rfl, rfl⟩
      · intro c7; replace hm := hm.ifn c7
        refine CdOK.skip ?_
        show CdOK _ _ _ _ _ _
        refine CdOK.seq ?_
        refine CdOK.seq ?_
        refine CdOK.region ?_
        refine RgOK.s (v := .o (.c (.ptr (h.length + 0) 3))) rfl rfl rfl (e_fa' fa29_3 (ev_t rfl)) ?_
        refine RgOK.s (v := .o (.c (.L 1 (r_.bad.map cI)))) rfl rfl rfl (e_ldb1 (ev_t rfl) ty27 (bx rfl rfl) rfl) ?_
        refine RgOK.s (v := VI (address)) rfl rfl rfl (e_mv (ev_t rfl)) ?_
        obtain ⟨x8, e8, hm⟩ := hm.call
        refine RgOK.cl rfl rfl rfl rfl pl85 (R2.wk _) (ref35_has_ok   e8) ?_
        rintro _ _ ⟨rfl, rfl⟩
        refine RgOK.nil ?_
        show CdOK _ _ _ _ _ _
        refine CdOK.condB (ev_t rfl) ?_ ?_
        · intro c9; replace hm := hm.ifp c9
          refine CdOK.seq ?_
          refine CdOK.region ?_
          refine RgOK.s (v := .o (.agg [I (r_.pages), I (r_.spares), .L 2 (r_.places.map Place.cs), .L 1 (r_.bad.map cI)])) rfl rfl rfl (e_ldbA (ev_t rfl) ty29 (bx rfl rfl) rfl rfl) ?_
          refine RgOK.s0 rfl rfl (e_stN (L' := [⟨[I (r_.pages), I (r_.spares), .L 2 (r_.places.map Place.cs), .L 1 (r_.bad.map cI)], true, true⟩, ⟨[I (r_.pages), I (r_.spares), .L 2 (r_.places.map Place.cs), .L 1 (r_.bad.map cI)], true, true⟩]) rfl (ev_t rfl) (ev_t rfl) ty29 rfl rfl rfl rfl rfl) ?_
          refine RgOK.s (v := VI ((-1))) rfl rfl rfl (e_as rfl) ?_
          refine RgOK.s (v := VI (0)) rfl rfl rfl (e_as rfl) ?_
          refine RgOK.nil ?_
          show CdOK _ _ _ _ _ _
          refine CdOK.ret ?_
          refine ⟨.inr rfl, _, (resA_c (look_find rfl) (eLoad_A ty29 (bx rfl rfl) rfl rfl rfl) (resA_t (look_find rfl) (resA_t (look_find rfl) resA_n))), h, [⟨[I (r_.pages), I (r_.spares), .L 2 (r_.places.map Place.cs), .L 1 (r_.bad.map cI)], true, true⟩, ⟨[I (r_.pages), I (r_.spares), .L 2 (r_.places.map Place.cs), .L 1 (r_.bad.map cI)], true, true⟩], _, rfl, rfl, hC, ((renFlV rfl) : RenV _ _ _ _ (.tup [.agg [I (r_.pages), I (r_.spares), .L 2 (r_.places.map Place.cs), .L 1 (r_.bad.map cI)], .c (I ((-1))), .c (I (0))])), ?_⟩
          have hr := hm.ret
          subst hr
          exact ⟨rfl, rfl⟩
        · intro c10; replace hm := hm.ifn c10
          refine CdOK.skip ?_
          show CdOK _ _ _ _ _ _
          replace hm := hm.bnd
          refine CdOK.joinE (σ := (Int × Bool)) (fun s => (s.1, s.2)) hm (fun s => [(1, VI (address)), (2, .o (.c (.ptr (h.length + 0) 0))), (4, .o (.c (.ptr (h.length + 1) 0))), (7, VI (s.1)), (8, VB (s.2))]) (fun s => h ++ ([⟨[I (r_.pages), I (r_.spares), .L 2 (r_.places.map Place.cs), .L 1 (r_.bad.map cI)], true, true⟩, ⟨[I (0), I (0), .v (.slice none 0 0), .v (.slice none 0 0)], true, true⟩] : Heap)) ?_ ?_
          · intro hm
            refine CdOK.region ?_
            refine RgOK.s (v := .o (.agg [I (r_.pages), I (r_.spares), .L 2 (r_.places.map Place.cs), .L 1 (r_.bad.map cI)])) rfl rfl rfl (e_ldbA (ev_t rfl) ty29 (bx rfl rfl) rfl rfl) ?_
            refine RgOK.s (v := VI (address)) rfl rfl rfl (e_mv (ev_t rfl)) ?_
            obtain ⟨x13, e13, hm⟩ := hm.call
            refine RgOK.cl rfl rfl rfl rfl pl29 (R2.wk _) (ref35_Owner_ok   e13) ?_
            rintro _ _ ⟨rfl, rfl⟩
            refine RgOK.s (v := .tup [.c (I (x13.1)), .c (Bo (x13.2))]) rfl rfl rfl (e_mv (ev_t rfl)) ?_
            refine RgOK.s (v := VI (x13.1)) rfl rfl rfl (e_ext (ev_t rfl) rfl) ?_
            refine RgOK.sb rfl rfl rfl (e_ext (ev_t rfl) rfl) ?_ ?_
            · intro c14; replace hm := hm.ifp c14
              refine RgOK.s (v := VI (x13.1)) rfl rfl rfl (e_as (ev_t rfl)) ?_
              refine RgOK.s (v := VB (true)) rfl rfl rfl (e_as (ev_t rfl)) ?_
              refine RgOK.nil ?_
              refine Told.id ?_
              exact ⟨(x13.1, true), hm.ret, (.cons rfl (.cons rfl (.cons rfl (.cons rfl (.cons rfl .nil))))), rfl⟩
            · intro c15; replace hm := hm.ifn (by rw [c15]; exact Bool.false_ne_true)
              refine RgOK.s (v := VI (x13.1)) rfl rfl rfl (e_as (ev_t rfl)) ?_
              refine RgOK.s (v := VB (false)) rfl rfl rfl (e_as (ev_t rfl)) ?_
              refine RgOK.nil ?_
              refine Told.id ?_
              exact ⟨(x13.1, false), hm.ret, (.cons rfl (.cons rfl (.cons rfl (.cons rfl (.cons rfl .nil))))), rfl⟩
          · rintro ⟨page11, used12⟩ T0 hm
            show CdOK _ _ _ (look T0 [(1, VI (address)), (2, .o (.c (.ptr (h.length + 0) 0))), (4, .o (.c (.ptr (h.length + 1) 0))), (7, VI (page11)), (8, VB (used12))]) (h ++ ([⟨[I (r_.pages), I (r_.spares), .L 2 (r_.places.map Place.cs), .L 1 (r_.bad.map cI)], true, true⟩, ⟨[I (0), I (0), .v (.slice none 0 0), .v (.slice none 0 0)], true, true⟩] : Heap)) _
            refine CdOK.seq ?_
            refine CdOK.region ?_
            refine RgOK.s (v := .o (.agg [I (r_.pages), I (r_.spares), .L 2 (r_.places.map Place.cs), .L 1 (r_.bad.map cI)])) rfl rfl rfl (e_ldbA (ev_t rfl) ty29 (bx rfl rfl) rfl rfl) ?_
            obtain ⟨x17, e17, hm⟩ := hm.call
            refine RgOK.cl rfl rfl rfl rfl pl87 (R2.wk _) (ref35_free_ok   e17) ?_
            rintro _ _ ⟨rfl, rfl⟩
            refine RgOK.s (v := .o (.c (.L 1 (x17.map cI)))) rfl rfl rfl (e_as (ev_t rfl)) ?_
            refine RgOK.nil ?_
            show CdOK _ _ _ _ _ _
            replace hm := hm.bnd
            refine CdOK.joinE (σ := Remap) (fun s => Sum.inl s) hm (fun s => [(1, VI (address)), (2, .o (.c (.ptr (h.length + 0) 0))), (4, .o (.c (.ptr (h.length + 1) 0))), (7, VI (page11)), (8, VB (used12)), (9, .o (.c (.L 1 (x17.map cI))))]) (fun s => h ++ ([⟨[I (r_.pages), I (r_.spares), .L 2 (r_.places.map Place.cs), .L 1 (r_.bad.map cI)], true, true⟩, ⟨[I (s.pages), I (s.spares), .L 2 (s.places.map Place.cs), .L 1 (s.bad.map cI)], true, true⟩] : Heap)) ?_ ?_
            · intro hm
              refine CdOK.seq ?_
              refine CdOK.region ?_
              refine RgOK.sb rfl rfl rfl (e_mv (ev_t rfl)) ?_ ?_
              · intro c19; replace hm := hm.ifp c19
                refine RgOK.s (v := VB (true)) rfl rfl rfl (e_mv (ev_t rfl)) ?_
                refine RgOK.s (v := .o (.c (.L 1 (x17.map cI)))) rfl rfl rfl (e_mv (ev_t rfl)) ?_
                refine RgOK.s (v := VI ((x17.length : Int))) rfl rfl rfl (e_lenM (ev_t rfl) is27) ?_
                refine RgOK.s (v := VB (decide ((x17.length : Int) = 0))) rfl rfl rfl (e_eqK (ev_t rfl) rfl) ?_
                refine RgOK.s (v := VB (decide ((x17.length : Int) = 0))) rfl rfl rfl (e_pick (t := true) (ev_t rfl) (ev_t rfl)) ?_
                refine RgOK.nil ?_
                show CdOK _ _ _ _ _ _
                refine CdOK.condD (ev_t rfl) ?_ ?_
                · intro c20; replace hm := hm.ifp c20
                  refine CdOK.seq ?_
                  refine CdOK.region ?_
                  refine RgOK.s (v := .o (.agg [I (0), I (0), .v (.slice none 0 0), .v (.slice none 0 0)])) rfl rfl rfl (e_bld (cs := [I (0), I (0), .v (.slice none 0 0), .v (.slice none 0 0)]) zo29 bl29 rfl rfl) ?_
                  refine RgOK.s0 rfl rfl (e_stN (L' := [⟨[I (r_.pages), I (r_.spares), .L 2 (r_.places.map Place.cs), .L 1 (r_.bad.map cI)], true, true⟩, ⟨[I (0), I (0), .v (.slice none 0 0), .v (.slice none 0 0)], true, true⟩]) rfl (ev_t rfl) (ev_t rfl) ty29 rfl rfl rfl rfl rfl) ?_
                  refine RgOK.s (v := VI (0)) rfl rfl rfl (e_as rfl) ?_
                  refine RgOK.s (v := VI (47)) rfl rfl rfl (e_as rfl) ?_
                  refine RgOK.nil ?_
                  show CdOK _ _ _ _ _ _
                  refine CdOK.ret ?_
                  refine ⟨.inr rfl, _, (resA_c (look_find rfl) (eLoad_A ty29 (bx rfl rfl) rfl rfl rfl) (resA_t (look_find rfl) (resA_t (look_find rfl) resA_n))), h, [⟨[I (r_.pages), I (r_.spares), .L 2 (r_.places.map Place.cs), .L 1 (r_.bad.map cI)], true, true⟩, ⟨[I (0), I (0), .v (.slice none 0 0), .v (.slice none 0 0)], true, true⟩], _, rfl, rfl, hC, ((.tup (R2.of (.agg (R2.of (.fl _ rfl) (R2.of (.fl _ rfl) (R2.of (.wk (.fl _ rfl) (.nlL _)) (R2.of (.wk (.fl _ rfl) (.nlL _)) (R2.nil _)))))) (R2.of (.c (.fl _ rfl)) (R2.of (.c (.fl _ rfl)) (R2.nil _))))) : RenV _ _ _ _ (.tup [.agg [I (0), I (0), .L 2 (([] : List Place).map Place.cs), .L 1 (([] : List Int).map cI)], .c (I (0)), .c (I (47))])), ?_⟩
                  have hr := hm.ret
                  replace hr := Ev.ret hr
                  subst hr
                  exact ⟨rfl, rfl⟩
                · intro c21; replace hm := hm.ifn c21
                  refine CdOK.skip ?_
                  refine Told.re (σ := [0, 1]) (X := [(1, VI (address)), (2, .o (.c (.ptr (h.length + 0) 0))), (4, .o (.c (.ptr (h.length + 1) 0))), (7, VI (page11)), (8, VB (used12)), (9, .o (.c (.L 1 (x17.map cI))))]) (L' := [⟨[I (r_.pages), I (r_.spares), .L 2 (r_.places.map Place.cs), .L 1 (r_.bad.map cI)], true, true⟩, ⟨[I ((⟨0, 0, ([] : List Place), ([] : List Int)⟩ : Remap).pages), I ((⟨0, 0, ([] : List Place), ([] : List Int)⟩ : Remap).spares), .L 2 ((⟨0, 0, ([] : List Place), ([] : List Int)⟩ : Remap).places.map Place.cs), .L 1 ((⟨0, 0, ([] : List Place), ([] : List Int)⟩ : Remap).bad.map cI)], true, true⟩]) rfl rfl hC (by decide) (.obj 0 rfl (renFl rfl) (.obj 1 rfl (R2.of (.fl _ rfl) (R2.of (.fl _ rfl) (R2.of (.wk (.fl _ rfl) (.nlL _)) (R2.of (.wk (.fl _ rfl) (.nlL _)) (R2.nil _))))) .nil)) (.cons (renFlV rfl) (.cons (.o (.c (.ptr 0 0 _ rfl))) (.cons (.o (.c (.ptr 1 1 _ rfl))) (.cons (renFlV rfl) (.cons (renFlV rfl) (.cons (renFlV rfl) .nil)))))) ?_
                  exact ⟨(⟨0, 0, ([] : List Place), ([] : List Int)⟩ : Remap), hm.ret, (.cons rfl (.cons rfl (.cons rfl (.cons rfl (.cons rfl (.cons rfl .nil)))))), rfl⟩
              · intro c22; replace hm := hm.ifn (by rw [c22]; exact Bool.false_ne_true)
                refine RgOK.s (v := VB (false)) rfl rfl rfl (e_mv (ev_t rfl)) ?_
                refine RgOK.sk rfl rfl rfl ?_
                refine RgOK.sk rfl rfl rfl ?_
                refine RgOK.sk rfl rfl rfl ?_
                refine RgOK.s (v := VB (false)) rfl rfl rfl (e_pick (t := false) (ev_t rfl) rfl) ?_
                refine RgOK.nil ?_
                show CdOK _ _ _ _ _ _
                refine CdOK.cond_false rfl ?_
                refine CdOK.skip ?_
                refine Told.re (σ := [0, 1]) (X := [(1, VI (address)), (2, .o (.c (.ptr (h.length + 0) 0))), (4, .o (.c (.ptr (h.length + 1) 0))), (7, VI (page11)), (8, VB (used12)), (9, .o (.c (.L 1 (x17.map cI))))]) (L' := [⟨[I (r_.pages), I (r_.spares), .L 2 (r_.places.map Place.cs), .L 1 (r_.bad.map cI)], true, true⟩, ⟨[I ((⟨0, 0, ([] : List Place), ([] : List Int)⟩ : Remap).pages), I ((⟨0, 0, ([] : List Place), ([] : List Int)⟩ : Remap).spares), .L 2 ((⟨0, 0, ([] : List Place), ([] : List Int)⟩ : Remap).places.map Place.cs), .L 1 ((⟨0, 0, ([] : List Place), ([] : List Int)⟩ : Remap).bad.map cI)], true, true⟩]) rfl rfl hC (by decide) (.obj 0 rfl (renFl rfl) (.obj 1 rfl (R2.of (.fl _ rfl) (R2.of (.fl _ rfl) (R2.of (.wk (.fl _ rfl) (.nlL _)) (R2.of (.wk (.fl _ rfl) (.nlL _)) (R2.nil _))))) .nil)) (.cons (renFlV rfl) (.cons (.o (.c (.ptr 0 0 _ rfl))) (.cons (.o (.c (.ptr 1 1 _ rfl))) (.cons (renFlV rfl) (.cons (renFlV rfl) (.cons (renFlV rfl) .nil)))))) ?_
                exact ⟨(⟨0, 0, ([] : List Place), ([] : List Int)⟩ : Remap), hm.ret, (.cons rfl (.cons rfl (.cons rfl (.cons rfl (.cons rfl (.cons rfl .nil)))))), rfl⟩
            · rintro bx18 T0 hm
              show CdOK _ _ _ (look T0 [(1, VI (address)), (2, .o (.c (.ptr (h.length + 0) 0))), (4, .o (.c (.ptr (h.length + 1) 0))), (7, VI (page11)), (8, VB (used12)), (9, .o (.c (.L 1 (x17.map cI))))]) (h ++ ([⟨[I (r_.pages), I (r_.spares), .L 2 (r_.places.map Place.cs), .L 1 (r_.bad.map cI)], true, true⟩, ⟨[I (bx18.pages), I (bx18.spares), .L 2 (bx18.places.map Place.cs), .L 1 (bx18.bad.map cI)], true, true⟩] : Heap)) _
              replace hm : Ev _ _ := hm
              refine CdOK.seq ?_
              refine CdOK.region ?_
              refine RgOK.s (v := .o (.c (.ptr (h.length + 0) 0))) rfl rfl rfl (e_fa' fa29_0 (ev_t rfl)) ?_
              refine RgOK.s (v := VI (r_.pages)) rfl rfl rfl (e_ldb1 (ev_t rfl) ty3 (bx rfl rfl) rfl) ?_
              refine RgOK.s (v := .o (.c (.ptr (h.length + 0) 1))) rfl rfl rfl (e_fa' fa29_1 (ev_t rfl)) ?_
              refine RgOK.s (v := VI (r_.spares)) rfl rfl rfl (e_ldb1 (ev_t rfl) ty3 (bx rfl rfl) rfl) ?_
              refine RgOK.s (v := .o (.agg [I (r_.pages), I (r_.spares), .v (.slice none 0 0), .v (.slice none 0 0)])) rfl rfl rfl (e_bld (cs := [I (r_.pages), I (r_.spares), .v (.slice none 0 0), .v (.slice none 0 0)]) zo29 bl29 rfl rfl) ?_
              refine RgOK.s (v := .o (.c (.ptr (h.length + 2) 0))) rfl rfl rfl (e_allocN (L' := [⟨[I (r_.pages), I (r_.spares), .L 2 (r_.places.map Place.cs), .L 1 (r_.bad.map cI)], true, true⟩, ⟨[I (bx18.pages), I (bx18.spares), .L 2 (bx18.places.map Place.cs), .L 1 (bx18.bad.map cI)], true, true⟩, ⟨[I (0), I (0), .v (.slice none 0 0), .v (.slice none 0 0)], true, true⟩]) rfl zo29 rfl rfl) ?_
              refine RgOK.s0 rfl rfl (e_stN (L' := [⟨[I (r_.pages), I (r_.spares), .L 2 (r_.places.map Place.cs), .L 1 (r_.bad.map cI)], true, true⟩, ⟨[I (bx18.pages), I (bx18.spares), .L 2 (bx18.places.map Place.cs), .L 1 (bx18.bad.map cI)], true, true⟩, ⟨[I (r_.pages), I (r_.spares), .v (.slice none 0 0), .v (.slice none 0 0)], true, true⟩]) rfl (ev_t rfl) (ev_t rfl) ty29 rfl rfl rfl rfl rfl) ?_
              refine RgOK.nil ?_
              show CdOK _ _ _ _ _ _
              refine CdOK.seq ?_
              refine CdOK.region ?_
              refine RgOK.s (v := VI (0)) rfl rfl rfl (e_as rfl) ?_
              refine RgOK.nil ?_
              show CdOK _ _ _ _ _ _
              replace hm := hm.bnd
              refine CdOK.joinE (σ := Int) (fun s => s) hm (fun s => [(1, VI (address)), (2, .o (.c (.ptr (h.length + 0) 0))), (4, .o (.c (.ptr (h.length + 1) 0))), (7, VI (page11)), (8, VB (used12)), (9, .o (.c (.L 1 (x17.map cI)))), (10, .o (.c (.ptr (h.length + 2) 0))), (11, VI (s))]) (fun s => h ++ ([⟨[I (r_.pages), I (r_.spares), .L 2 (r_.places.map Place.cs), .L 1 (r_.bad.map cI)], true, true⟩, ⟨[I (bx18.pages), I (bx18.spares), .L 2 (bx18.places.map Place.cs), .L 1 (bx18.bad.map cI)], true, true⟩, ⟨[I (r_.pages), I (r_.spares), .v (.slice none 0 0), .v (.slice none 0 0)], true, true⟩] : Heap)) ?_ ?_
              · intro hm
                refine CdOK.block ?_
                refine CdOK.loopE (σ := Int) (fun k s => Ev (ref35_Mark.l1 r_ address k s) _) (fun s => [(1, VI (address)), (2, .o (.c (.ptr (h.length + 0) 0))), (4, .o (.c (.ptr (h.length + 1) 0))), (7, VI (page11)), (8, VB (used12)), (9, .o (.c (.L 1 (x17.map cI)))), (10, .o (.c (.ptr (h.length + 2) 0))), (11, VI (s))]) (fun s => h ++ ([⟨[I (r_.pages), I (r_.spares), .L 2 (r_.places.map Place.cs), .L 1 (r_.bad.map cI)], true, true⟩, ⟨[I (bx18.pages), I (bx18.spares), .L 2 (bx18.places.map Place.cs), .L 1 (bx18.bad.map cI)], true, true⟩, ⟨[I (r_.pages), I (r_.spares), .v (.slice none 0 0), .v (.slice none 0 0)], true, true⟩] : Heap)) FU 0 hm (.cons rfl (.cons rfl (.cons rfl (.cons rfl (.cons rfl (.cons rfl (.cons rfl (.cons rfl .nil)))))))) rfl ?_
                rintro kk26 k25 T0 hm
                replace hm : Ev (ref35_Mark.l1 r_ address kk26 k25) _ := hm
                cases kk26 with
                | zero => exact (Ev.non hm).elim
                | succ kk26 =>
                rw [ref35_Mark.l1_s] at hm
                show CdOK _ _ _ (look T0 [(1, VI (address)), (2, .o (.c (.ptr (h.length + 0) 0))), (4, .o (.c (.ptr (h.length + 1) 0))), (7, VI (page11)), (8, VB (used12)), (9, .o (.c (.L 1 (x17.map cI)))), (10, .o (.c (.ptr (h.length + 2) 0))), (11, VI (k25))]) (h ++ ([⟨[I (r_.pages), I (r_.spares), .L 2 (r_.places.map Place.cs), .L 1 (r_.bad.map cI)], true, true⟩, ⟨[I (bx18.pages), I (bx18.spares), .L 2 (bx18.places.map Place.cs), .L 1 (bx18.bad.map cI)], true, true⟩, ⟨[I (r_.pages), I (r_.spares), .v (.slice none 0 0), .v (.slice none 0 0)], true, true⟩] : Heap)) _
                refine CdOK.seq ?_
                refine CdOK.seq ?_
                refine CdOK.region ?_
                refine RgOK.s (v := VI (k25)) rfl rfl rfl (e_mv (ev_t rfl)) ?_
                refine RgOK.s (v := .o (.c (.ptr (h.length + 0) 3))) rfl rfl rfl (e_fa' fa29_3 (ev_t rfl)) ?_
                refine RgOK.s (v := .o (.c (.L 1 (r_.bad.map cI)))) rfl rfl rfl (e_ldb1 (ev_t rfl) ty27 (bx rfl rfl) rfl) ?_
                refine RgOK.s (v := VI ((r_.bad.length : Int))) rfl rfl rfl (e_lenM (ev_t rfl) is27) ?_
                refine RgOK.sd rfl rfl rfl (e_bin (ev_t rfl) (ev_t rfl) rfl rfl) ?_ ?_
                · intro c27; replace hm := hm.ifp c27
                  refine RgOK.s (v := VB (true)) rfl rfl rfl (e_mv (ev_t rfl)) ?_
                  refine RgOK.s (v := .o (.c (.ptr (h.length + 0) 3))) rfl rfl rfl (e_fa' fa29_3 (ev_t rfl)) ?_
                  refine RgOK.s (v := .o (.c (.L 1 (r_.bad.map cI)))) rfl rfl rfl (e_ldb1 (ev_t rfl) ty27 (bx rfl rfl) rfl) ?_
                  refine RgOK.s (v := VI (k25)) rfl rfl rfl (e_mv (ev_t rfl)) ?_
                  obtain ⟨c28, hm⟩ := hm.ifs
                  refine RgOK.s (v := .o (.c (.rp [I ((gd r_.bad k25))]))) rfl rfl rfl (e_ixM (f := cI) (l := r_.bad) (i := k25) (ev_t rfl) (ev_t rfl) el27 c28) ?_
                  refine RgOK.s (v := VI ((gd r_.bad k25))) rfl rfl rfl (e_ldR1 (ev_t rfl) ty3 rfl) ?_
                  refine RgOK.s (v := VI (address)) rfl rfl rfl (e_mv (ev_t rfl)) ?_
                  refine RgOK.s (v := VB (decide ((gd r_.bad k25) < address))) rfl rfl rfl (e_bin (ev_t rfl) (ev_t rfl) rfl rfl) ?_
                  refine RgOK.s (v := VB (decide ((gd r_.bad k25) < address))) rfl rfl rfl (e_pick (t := true) (ev_t rfl) (ev_t rfl)) ?_
                  refine RgOK.nil ?_
                  show CdOK _ _ _ _ _ _
                  refine CdOK.condD (ev_t rfl) ?_ ?_
                  · intro c29; replace hm := hm.ifp c29
                    refine CdOK.skip ?_
                    show CdOK _ _ _ _ _ _
                    refine CdOK.block ?_
                    refine CdOK.region ?_
                    refine RgOK.s (v := VI (k25)) rfl rfl rfl (e_mv (ev_t rfl)) ?_
                    refine RgOK.s (v := VI ((w64 (k25 + 1)))) rfl rfl rfl (e_bin (ev_t rfl) rfl rfl rfl) ?_
                    refine RgOK.s (v := VI ((w64 (k25 + 1)))) rfl rfl rfl (e_as (ev_t rfl)) ?_
                    refine RgOK.nil ?_
                    refine Told.id ?_
                    exact ⟨_, (w64 (k25 + 1)), Nat.lt_succ_self _, hm, (.cons rfl (.cons rfl (.cons rfl (.cons rfl (.cons rfl (.cons rfl (.cons rfl (.cons rfl .nil)))))))), rfl⟩
                  · intro c30; replace hm := hm.ifn c30
                    refine CdOK.exit ?_
                    refine Told.id ?_
                    exact ⟨k25, hm.ret, (.cons rfl (.cons rfl (.cons rfl (.cons rfl (.cons rfl (.cons rfl (.cons rfl (.cons rfl .nil)))))))), rfl⟩
                · intro c31; replace hm := hm.ifn c31
                  refine RgOK.s (v := VB (false)) rfl rfl rfl (e_mv (ev_t rfl)) ?_
                  refine RgOK.sk rfl rfl rfl ?_
                  refine RgOK.sk rfl rfl rfl ?_
                  refine RgOK.sk rfl rfl rfl ?_
                  refine RgOK.sk rfl rfl rfl ?_
                  refine RgOK.sk rfl rfl rfl ?_
                  refine RgOK.sk rfl rfl rfl ?_
                  refine RgOK.sk rfl rfl rfl ?_
                  refine RgOK.s (v := VB (false)) rfl rfl rfl (e_pick (t := false) (ev_t rfl) rfl) ?_
                  refine RgOK.nil ?_
                  show CdOK _ _ _ _ _ _
                  refine CdOK.cond_false rfl ?_
                  refine CdOK.exit ?_
                  refine Told.id ?_
                  exact ⟨k25, hm.ret, (.cons rfl (.cons rfl (.cons rfl (.cons rfl (.cons rfl (.cons rfl (.cons rfl (.cons rfl .nil)))))))), rfl⟩
              · rintro k24 T0 hm
                show CdOK _ _ _ (look T0 [(1, VI (address)), (2, .o (.c (.ptr (h.length + 0) 0))), (4, .o (.c (.ptr (h.length + 1) 0))), (7, VI (page11)), (8, VB (used12)), (9, .o (.c (.L 1 (x17.map cI)))), (10, .o (.c (.ptr (h.length + 2) 0))), (11, VI (k24))]) (h ++ ([⟨[I (r_.pages), I (r_.spares), .L 2 (r_.places.map Place.cs), .L 1 (r_.bad.map cI)], true, true⟩, ⟨[I (bx18.pages), I (bx18.spares), .L 2 (bx18.places.map Place.cs), .L 1 (bx18.bad.map cI)], true, true⟩, ⟨[I (r_.pages), I (r_.spares), .v (.slice none 0 0), .v (.slice none 0 0)], true, true⟩] : Heap)) _
                refine CdOK.seq ?_
                refine CdOK.draw2 (ord := [0, 1, 2, 3, 5, 6, 8, 9, 10, 11, 4, 7, 12, 13, 14]) (chain := [4, 7, 12, 14]) fol (by decide +kernel) (by decide +kernel) ?_
                refine Dr2.s (v := .o (.c (.ptr (h.length + 0) 3))) rfl rfl rfl rfl rfl rfl (e_fa' fa29_3 (ev_t rfl)) ?_
                refine Dr2.f (v := .o (.c (.L 1 (r_.bad.map cI)))) rfl rfl rfl rfl rfl rfl (e_ldb1 (ev_t rfl) ty27 (bx rfl rfl) rfl) ?_
                refine Dr2.s (v := VI (k24)) rfl rfl rfl rfl rfl rfl (e_mv (ev_t rfl)) ?_
                obtain ⟨c33, hm⟩ := hm.ifs
                refine Dr2.s (v := .o (.c (.L 1 ((r_.bad.take (Int.toNat k24)).map cI)))) rfl rfl rfl rfl rfl rfl (e_slhM el27 (ev_t rfl) (ev_t rfl) c33) ?_
                refine Dr2.s (v := VI (address)) rfl rfl rfl rfl rfl rfl (e_mv (ev_t rfl)) ?_
                refine Dr2.s (v := .o (.c (.LC 1 (([address] : List Int).map cI)))) rfl rfl rfl rfl rfl rfl (e_lit (cs := [I (address)]) (xs := ([address]).map cI) slt27 rfl rfl rfl rfl rfl) ?_
                refine Dr2.s (v := .o (.c (.ptr (h.length + 0) 3))) rfl rfl rfl rfl rfl rfl (e_fa' fa29_3 (ev_t rfl)) ?_
                refine Dr2.f (v := .o (.c (.L 1 (r_.bad.map cI)))) rfl rfl rfl rfl rfl rfl (e_ldb1 (ev_t rfl) ty27 (bx rfl rfl) rfl) ?_
                refine Dr2.s (v := VI (k24)) rfl rfl rfl rfl rfl rfl (e_mv (ev_t rfl)) ?_
                obtain ⟨c34, hm⟩ := hm.ifs
                refine Dr2.s (v := .o (.c (.L 1 ((r_.bad.drop (Int.toNat k24)).map cI)))) rfl rfl rfl rfl rfl rfl (e_sllM el27 (ev_t rfl) (ev_t rfl) c34) ?_
                obtain ⟨c35, hm⟩ := hm.ifs
                refine Dr2.c (v := .o (.c (.g (h.length + 3) (((r_.bad.take (Int.toNat k24))).length) 1 (decide (0 < (r_.bad.take (Int.toNat k24)).length))))) rfl rfl rfl rfl rfl (e_apN (k := 1) (q := 17592186044416) (m := (r_.bad.take (Int.toNat k24)).length) (lv := (decide (0 < (r_.bad.take (Int.toNat k24)).length))) (f := cI) (xs := (r_.bad.take (Int.toNat k24))) (L' := [⟨[I (r_.pages), I (r_.spares), .L 2 (r_.places.map Place.cs), .L 1 (r_.bad.map cI)], true, true⟩, ⟨[I (bx18.pages), I (bx18.spares), .L 2 (bx18.places.map Place.cs), .L 1 (bx18.bad.map cI)], true, true⟩, ⟨[I (r_.pages), I (r_.spares), .v (.slice none 0 0), .v (.slice none 0 0)], true, true⟩, ⟨((r_.bad.take (Int.toNat k24)).map cI).flatten, true, (decide (0 < (r_.bad.take (Int.toNat k24)).length))⟩]) slt27 rfl rfl (ev_t rfl) src_L c35 rfl rfl rfl rfl) (.e rfl rfl (e_ldb1 (ev_t rfl) ty27 (bx rfl rfl) rfl) (.m (by decide +kernel) .nil)) ?_
                obtain ⟨c36, hm⟩ := hm.ifs
                refine Dr2.c (v := .o (.c (.g (h.length + 4) ((((r_.bad.take (Int.toNat k24)) ++ ([address] : List Int))).length) 1 ((decide (0 < (r_.bad.take (Int.toNat k24)).length)) || decide (0 < ([address] : List Int).length))))) rfl rfl rfl rfl rfl (e_apG (k := 1) (q := 17592186044416) (m := ([address] : List Int).length) (j := 3) (f := cI) (xs := (r_.bad.take (Int.toNat k24))) (ys := ([address] : List Int)) (L' := [⟨[I (r_.pages), I (r_.spares), .L 2 (r_.places.map Place.cs), .L 1 (r_.bad.map cI)], true, true⟩, ⟨[I (bx18.pages), I (bx18.spares), .L 2 (bx18.places.map Place.cs), .L 1 (bx18.bad.map cI)], true, true⟩, ⟨[I (r_.pages), I (r_.spares), .v (.slice none 0 0), .v (.slice none 0 0)], true, true⟩, ⟨((r_.bad.take (Int.toNat k24)).map cI).flatten, true, false⟩, ⟨(((r_.bad.take (Int.toNat k24)) ++ ([address] : List Int)).map cI).flatten, true, ((decide (0 < (r_.bad.take (Int.toNat k24)).length)) || decide (0 < ([address] : List Int).length))⟩]) slt27 rfl (ev_t rfl) (ev_t rfl) (bx rfl rfl) (by intro x; rfl) src_LC rfl c36 rfl (by first | rfl | simp) rfl rfl) (.e rfl rfl (e_ldb1 (ev_t rfl) ty27 (bx rfl rfl) rfl) (.m (by decide +kernel) .nil)) ?_
                obtain ⟨c37, hm⟩ := hm.ifs
                refine Dr2.c (v := .o (.c (.g (h.length + 5) (((((r_.bad.take (Int.toNat k24)) ++ ([address] : List Int)) ++ (r_.bad.drop (Int.toNat k24)))).length) 1 (((decide (0 < (r_.bad.take (Int.toNat k24)).length)) || decide (0 < ([address] : List Int).length)) || decide (0 < (r_.bad.drop (Int.toNat k24)).length))))) rfl rfl rfl rfl rfl (e_apG (k := 1) (q := 17592186044416) (m := (r_.bad.drop (Int.toNat k24)).length) (j := 4) (f := cI) (xs := ((r_.bad.take (Int.toNat k24)) ++ ([address] : List Int))) (ys := (r_.bad.drop (Int.toNat k24))) (L' := [⟨[I (r_.pages), I (r_.spares), .L 2 (r_.places.map Place.cs), .L 1 (r_.bad.map cI)], true, true⟩, ⟨[I (bx18.pages), I (bx18.spares), .L 2 (bx18.places.map Place.cs), .L 1 (bx18.bad.map cI)], true, true⟩, ⟨[I (r_.pages), I (r_.spares), .v (.slice none 0 0), .v (.slice none 0 0)], true, true⟩, ⟨((r_.bad.take (Int.toNat k24)).map cI).flatten, true, false⟩, ⟨(((r_.bad.take (Int.toNat k24)) ++ ([address] : List Int)).map cI).flatten, true, false⟩, ⟨((((r_.bad.take (Int.toNat k24)) ++ ([address] : List Int)) ++ (r_.bad.drop (Int.toNat k24))).map cI).flatten, true, (((decide (0 < (r_.bad.take (Int.toNat k24)).length)) || decide (0 < ([address] : List Int).length)) || decide (0 < (r_.bad.drop (Int.toNat k24)).length))⟩]) slt27 rfl (ev_t rfl) (ev_t rfl) (bx rfl rfl) (by intro x; rfl) src_L rfl c37 rfl (by first | rfl | simp) rfl rfl) (.m (by decide +kernel) (.m (by decide +kernel) .nil)) ?_
                refine Dr2.s (v := .o (.c (.ptr (h.length + 2) 3))) rfl rfl rfl rfl rfl rfl (e_fa' fa29_3 (ev_t rfl)) ?_
                refine Dr2.c0 rfl rfl rfl rfl (e_stN (L' := [⟨[I (r_.pages), I (r_.spares), .L 2 (r_.places.map Place.cs), .L 1 (r_.bad.map cI)], true, true⟩, ⟨[I (bx18.pages), I (bx18.spares), .L 2 (bx18.places.map Place.cs), .L 1 (bx18.bad.map cI)], true, true⟩, ⟨[I (r_.pages), I (r_.spares), .v (.slice none 0 0), .g (h.length + 5) (((((r_.bad.take (Int.toNat k24)) ++ ([address] : List Int)) ++ (r_.bad.drop (Int.toNat k24)))).length) 1 (((decide (0 < (r_.bad.take (Int.toNat k24)).length)) || decide (0 < ([address] : List Int).length)) || decide (0 < (r_.bad.drop (Int.toNat k24)).length))], true, true⟩, ⟨((r_.bad.take (Int.toNat k24)).map cI).flatten, true, false⟩, ⟨(((r_.bad.take (Int.toNat k24)) ++ ([address] : List Int)).map cI).flatten, true, false⟩, ⟨((((r_.bad.take (Int.toNat k24)) ++ ([address] : List Int)) ++ (r_.bad.drop (Int.toNat k24))).map cI).flatten, true, (((decide (0 < (r_.bad.take (Int.toNat k24)).length)) || decide (0 < ([address] : List Int).length)) || decide (0 < (r_.bad.drop (Int.toNat k24)).length))⟩]) rfl (ev_t rfl) (ev_t rfl) ty27 rfl rfl rfl rfl rfl) (.m (by decide +kernel) (.m (by decide +kernel) .nil)) ?_
                refine Dr2.nil ?_
                show CdOK _ _ _ _ _ _
                refine CdOK.seq ?_
                refine CdOK.seq ?_
                refine CdOK.region ?_
                refine RgOK.s (v := VB (used12)) rfl rfl rfl (e_mv (ev_t rfl)) ?_
                refine RgOK.s (v := VB ((!used12))) rfl rfl rfl (e_un (ev_t rfl) rfl) ?_
                refine RgOK.nil ?_
                show CdOK _ _ _ _ _ _
                refine CdOK.condB (ev_t rfl) ?_ ?_
                · intro c38; replace hm := hm.ifp c38
                  refine CdOK.seq ?_
                  refine CdOK.region ?_
                  refine RgOK.s (v := .o (.c (.ptr (h.length + 0) 2))) rfl rfl rfl (e_fa' fa29_2 (ev_t rfl)) ?_
                  refine RgOK.s (v := .o (.c (.L 2 (r_.places.map Place.cs)))) rfl rfl rfl (e_ldb1 (ev_t rfl) ty26 (bx rfl rfl) rfl) ?_
                  obtain ⟨c39, hm⟩ := hm.ifs
                  refine RgOK.s (v := .o (.c (.g (h.length + 6) ((r_.places).length) 2 (decide (0 < r_.places.length))))) rfl rfl rfl (e_apN (k := 2) (q := 8796093022208) (m := r_.places.length) (lv := (decide (0 < r_.places.length))) (f := Place.cs) (xs := r_.places) (L' := [⟨[I (r_.pages), I (r_.spares), .L 2 (r_.places.map Place.cs), .L 1 (r_.bad.map cI)], true, true⟩, ⟨[I (bx18.pages), I (bx18.spares), .L 2 (bx18.places.map Place.cs), .L 1 (bx18.bad.map cI)], true, true⟩, ⟨[I (r_.pages), I (r_.spares), .v (.slice none 0 0), .g (h.length + 5) (((((r_.bad.take (Int.toNat k24)) ++ ([address] : List Int)) ++ (r_.bad.drop (Int.toNat k24)))).length) 1 (((decide (0 < (r_.bad.take (Int.toNat k24)).length)) || decide (0 < ([address] : List Int).length)) || decide (0 < (r_.bad.drop (Int.toNat k24)).length))], true, true⟩, ⟨((r_.bad.take (Int.toNat k24)).map cI).flatten, true, false⟩, ⟨(((r_.bad.take (Int.toNat k24)) ++ ([address] : List Int)).map cI).flatten, true, false⟩, ⟨((((r_.bad.take (Int.toNat k24)) ++ ([address] : List Int)) ++ (r_.bad.drop (Int.toNat k24))).map cI).flatten, true, (((decide (0 < (r_.bad.take (Int.toNat k24)).length)) || decide (0 < ([address] : List Int).length)) || decide (0 < (r_.bad.drop (Int.toNat k24)).length))⟩, ⟨(r_.places.map Place.cs).flatten, true, (decide (0 < r_.places.length))⟩]) slt26 rfl rfl (ev_t rfl) src_L c39 rfl rfl rfl rfl) ?_
                  refine RgOK.s (v := .o (.c (.ptr (h.length + 2) 2))) rfl rfl rfl (e_fa' fa29_2 (ev_t rfl)) ?_
                  refine RgOK.s0 rfl rfl (e_stN (L' := [⟨[I (r_.pages), I (r_.spares), .L 2 (r_.places.map Place.cs), .L 1 (r_.bad.map cI)], true, true⟩, ⟨[I (bx18.pages), I (bx18.spares), .L 2 (bx18.places.map Place.cs), .L 1 (bx18.bad.map cI)], true, true⟩, ⟨[I (r_.pages), I (r_.spares), .g (h.length + 6) ((r_.places).length) 2 (decide (0 < r_.places.length)), .g (h.length + 5) (((((r_.bad.take (Int.toNat k24)) ++ ([address] : List Int)) ++ (r_.bad.drop (Int.toNat k24)))).length) 1 (((decide (0 < (r_.bad.take (Int.toNat k24)).length)) || decide (0 < ([address] : List Int).length)) || decide (0 < (r_.bad.drop (Int.toNat k24)).length))], true, true⟩, ⟨((r_.bad.take (Int.toNat k24)).map cI).flatten, true, false⟩, ⟨(((r_.bad.take (Int.toNat k24)) ++ ([address] : List Int)).map cI).flatten, true, false⟩, ⟨((((r_.bad.take (Int.toNat k24)) ++ ([address] : List Int)) ++ (r_.bad.drop (Int.toNat k24))).map cI).flatten, true, (((decide (0 < (r_.bad.take (Int.toNat k24)).length)) || decide (0 < ([address] : List Int).length)) || decide (0 < (r_.bad.drop (Int.toNat k24)).length))⟩, ⟨(r_.places.map Place.cs).flatten, true, (decide (0 < r_.places.length))⟩]) rfl (ev_t rfl) (ev_t rfl) ty26 rfl rfl rfl rfl rfl) ?_
                  refine RgOK.nil ?_
                  show CdOK _ _ _ _ _ _
                  refine CdOK.seq ?_
                  refine CdOK.region ?_
                  refine RgOK.s (v := .o (.agg [I (r_.pages), I (r_.spares), .g (h.length + 6) ((r_.places).length) 2 (decide (0 < r_.places.length)), .g (h.length + 5) (((((r_.bad.take (Int.toNat k24)) ++ ([address] : List Int)) ++ (r_.bad.drop (Int.toNat k24)))).length) 1 (((decide (0 < (r_.bad.take (Int.toNat k24)).length)) || decide (0 < ([address] : List Int).length)) || decide (0 < (r_.bad.drop (Int.toNat k24)).length))])) rfl rfl rfl (e_ldbA (ev_t rfl) ty29 (bx rfl rfl) rfl rfl) ?_
                  refine RgOK.s0 rfl rfl (e_stN (L' := [⟨[I (r_.pages), I (r_.spares), .L 2 (r_.places.map Place.cs), .L 1 (r_.bad.map cI)], true, true⟩, ⟨[I (r_.pages), I (r_.spares), .g (h.length + 6) ((r_.places).length) 2 (decide (0 < r_.places.length)), .g (h.length + 5) (((((r_.bad.take (Int.toNat k24)) ++ ([address] : List Int)) ++ (r_.bad.drop (Int.toNat k24)))).length) 1 (((decide (0 < (r_.bad.take (Int.toNat k24)).length)) || decide (0 < ([address] : List Int).length)) || decide (0 < (r_.bad.drop (Int.toNat k24)).length))], true, true⟩, ⟨[I (r_.pages), I (r_.spares), .g (h.length + 6) ((r_.places).length) 2 (decide (0 < r_.places.length)), .g (h.length + 5) (((((r_.bad.take (Int.toNat k24)) ++ ([address] : List Int)) ++ (r_.bad.drop (Int.toNat k24)))).length) 1 (((decide (0 < (r_.bad.take (Int.toNat k24)).length)) || decide (0 < ([address] : List Int).length)) || decide (0 < (r_.bad.drop (Int.toNat k24)).length))], true, true⟩, ⟨((r_.bad.take (Int.toNat k24)).map cI).flatten, true, false⟩, ⟨(((r_.bad.take (Int.toNat k24)) ++ ([address] : List Int)).map cI).flatten, true, false⟩, ⟨((((r_.bad.take (Int.toNat k24)) ++ ([address] : List Int)) ++ (r_.bad.drop (Int.toNat k24))).map cI).flatten, true, (((decide (0 < (r_.bad.take (Int.toNat k24)).length)) || decide (0 < ([address] : List Int).length)) || decide (0 < (r_.bad.drop (Int.toNat k24)).length))⟩, ⟨(r_.places.map Place.cs).flatten, true, (decide (0 < r_.places.length))⟩]) rfl (ev_t rfl) (ev_t rfl) ty29 rfl rfl rfl rfl rfl) ?_
                  refine RgOK.s (v := VI ((-1))) rfl rfl rfl (e_as rfl) ?_
                  refine RgOK.s (v := VI (0)) rfl rfl rfl (e_as rfl) ?_
                  refine RgOK.nil ?_
                  show CdOK _ _ _ _ _ _
                  refine CdOK.ret ?_
                  refine ⟨.inr rfl, _, (resA_c (look_find rfl) (eLoad_A ty29 (bx rfl rfl) rfl rfl rfl) (resA_t (look_find rfl) (resA_t (look_find rfl) resA_n))), h, [⟨[I (r_.pages), I (r_.spares), .L 2 (r_.places.map Place.cs), .L 1 (r_.bad.map cI)], true, true⟩, ⟨[I (r_.pages), I (r_.spares), .g (h.length + 6) ((r_.places).length) 2 (decide (0 < r_.places.length)), .g (h.length + 5) (((((r_.bad.take (Int.toNat k24)) ++ ([address] : List Int)) ++ (r_.bad.drop (Int.toNat k24)))).length) 1 (((decide (0 < (r_.bad.take (Int.toNat k24)).length)) || decide (0 < ([address] : List Int).length)) || decide (0 < (r_.bad.drop (Int.toNat k24)).length))], true, true⟩, ⟨[I (r_.pages), I (r_.spares), .g (h.length + 6) ((r_.places).length) 2 (decide (0 < r_.places.length)), .g (h.length + 5) (((((r_.bad.take (Int.toNat k24)) ++ ([address] : List Int)) ++ (r_.bad.drop (Int.toNat k24)))).length) 1 (((decide (0 < (r_.bad.take (Int.toNat k24)).length)) || decide (0 < ([address] : List Int).length)) || decide (0 < (r_.bad.drop (Int.toNat k24)).length))], true, true⟩, ⟨((r_.bad.take (Int.toNat k24)).map cI).flatten, true, false⟩, ⟨(((r_.bad.take (Int.toNat k24)) ++ ([address] : List Int)).map cI).flatten, true, false⟩, ⟨((((r_.bad.take (Int.toNat k24)) ++ ([address] : List Int)) ++ (r_.bad.drop (Int.toNat k24))).map cI).flatten, true, (((decide (0 < (r_.bad.take (Int.toNat k24)).length)) || decide (0 < ([address] : List Int).length)) || decide (0 < (r_.bad.drop (Int.toNat k24)).length))⟩, ⟨(r_.places.map Place.cs).flatten, true, (decide (0 < r_.places.length))⟩], _, rfl, rfl, hC, ((.tup (R2.of (.agg (R2.of (.fl _ rfl) (R2.of (.fl _ rfl) (R2.of (.fzg 6 _ 2 _ (r_.places.map Place.cs) rfl (by decide) (by first | exact List.length_map .. | simp) (lens_all (by intro x; rfl)) (vl_all (by intro x; rfl))) (R2.of (.fzg 5 _ 1 _ ((((r_.bad.take (Int.toNat k24)) ++ ([address] : List Int)) ++ (r_.bad.drop (Int.toNat k24))).map cI) rfl (by decide) (by first | exact List.length_map .. | simp) (lens_all (by intro x; rfl)) (vl_all (by intro x; rfl))) (R2.nil _)))))) (R2.of (.c (.fl _ rfl)) (R2.of (.c (.fl _ rfl)) (R2.nil _))))) : RenV _ _ _ _ (.tup [.agg [I (r_.pages), I (r_.spares), .L 2 (r_.places.map Place.cs), .L 1 ((((r_.bad.take (Int.toNat k24)) ++ ([address] : List Int)) ++ (r_.bad.drop (Int.toNat k24))).map cI)], .c (I ((-1))), .c (I (0))])), ?_⟩
                  have hr := hm.ret
                  subst hr
                  exact ⟨rfl, rfl⟩
                · intro c40; replace hm := hm.ifn c40
                  refine CdOK.skip ?_
                  show CdOK _ _ _ _ _ _
                  refine CdOK.seq ?_
                  refine CdOK.region ?_
                  refine RgOK.s (v := VB (false)) rfl rfl rfl (e_as rfl) ?_
                  refine RgOK.nil ?_
                  show CdOK _ _ _ _ _ _
                  refine CdOK.seq ?_
                  refine CdOK.seq ?_
                  refine CdOK.region ?_
                  refine RgOK.s (v := VI (0)) rfl rfl rfl (e_as rfl) ?_
                  refine RgOK.nil ?_
                  show CdOK _ _ _ _ _ _
                  replace hm := hm.bnd
                  refine CdOK.joinT (σ := (Bool × Remap × Bool)) (fun s => (s.1, s.2.1)) hm (fun s => [(4, .o (.c (.ptr (h.length + 0) 0))), (7, VI (page11)), (9, .o (.c (.L 1 (x17.map cI)))), (10, .o (.c (.ptr (h.length + 1) 0))), (12, VB (s.1))]) (fun s => h ++ ([⟨[I (bx18.pages), I (bx18.spares), .L 2 (bx18.places.map Place.cs), .L 1 (bx18.bad.map cI)], true, true⟩, ⟨[I (s.2.1.pages), I (s.2.1.spares), .g (h.length + 2) ((s.2.1.places).length) 2 s.2.2, .L 1 (s.2.1.bad.map cI)], true, true⟩, ⟨(s.2.1.places.map Place.cs).flatten, true, s.2.2⟩] : Heap)) ?_ ?_
                  · intro hm
                    refine CdOK.block ?_
                    refine CdOK.re (σ := [0, 1, 2, 1003]) (X := [(2, .o (.c (.ptr (h.length + 0) 0))), (4, .o (.c (.ptr (h.length + 1) 0))), (7, VI (page11)), (9, .o (.c (.L 1 (x17.map cI)))), (10, .o (.c (.ptr (h.length + 2) 0))), (12, VB (false)), (13, VI (0))]) (L' := [⟨[I (r_.pages), I (r_.spares), .L 2 (r_.places.map Place.cs), .L 1 (r_.bad.map cI)], true, true⟩, ⟨[I (bx18.pages), I (bx18.spares), .L 2 (bx18.places.map Place.cs), .L 1 (bx18.bad.map cI)], true, true⟩, ⟨[I ((⟨r_.pages, r_.spares, ([] : List Place), (((r_.bad.take (Int.toNat k24)) ++ ([address] : List Int)) ++ (r_.bad.drop (Int.toNat k24)))⟩ : Remap).pages), I ((⟨r_.pages, r_.spares, ([] : List Place), (((r_.bad.take (Int.toNat k24)) ++ ([address] : List Int)) ++ (r_.bad.drop (Int.toNat k24)))⟩ : Remap).spares), .g (h.length + 3) (((⟨r_.pages, r_.spares, ([] : List Place), (((r_.bad.take (Int.toNat k24)) ++ ([address] : List Int)) ++ (r_.bad.drop (Int.toNat k24)))⟩ : Remap).places).length) 2 false, .L 1 ((⟨r_.pages, r_.spares, ([] : List Place), (((r_.bad.take (Int.toNat k24)) ++ ([address] : List Int)) ++ (r_.bad.drop (Int.toNat k24)))⟩ : Remap).bad.map cI)], true, true⟩, ⟨((⟨r_.pages, r_.spares, ([] : List Place), (((r_.bad.take (Int.toNat k24)) ++ ([address] : List Int)) ++ (r_.bad.drop (Int.toNat k24)))⟩ : Remap).places.map Place.cs).flatten, true, false⟩]) rfl rfl hC (by decide) (.obj 0 rfl (renFl rfl) (.obj 1 rfl (renFl rfl) (.obj 2 rfl (R2.of (.fl _ rfl) (R2.of (.fl _ rfl) (R2.of (.nilg _ _) (R2.of (.fzg 5 _ 1 _ ((((r_.bad.take (Int.toNat k24)) ++ ([address] : List Int)) ++ (r_.bad.drop (Int.toNat k24))).map cI) rfl (by decide) (by first | exact List.length_map .. | simp) (lens_all (by intro x; rfl)) (vl_all (by intro x; rfl))) (R2.nil _))))) (.dead 1003 _ rfl .nil)))) (.cons (.o (.c (.ptr 0 0 _ rfl))) (.cons (.o (.c (.ptr 1 1 _ rfl))) (.cons (renFlV rfl) (.cons (renFlV rfl) (.cons (.o (.c (.ptr 2 2 _ rfl))) (.cons (renFlV rfl) (.cons (renFlV rfl) .nil))))))) ?_
                    refine CdOK.loopE (σ := (Bool × Int × Remap × Bool)) (fun k s => Ev (ref35_Mark.l2 r_ page11 x17 k s.1 s.2.1 s.2.2.1) _) (fun s => [(2, .o (.c (.ptr (h.length + 0) 0))), (4, .o (.c (.ptr (h.length + 1) 0))), (7, VI (page11)), (9, .o (.c (.L 1 (x17.map cI)))), (10, .o (.c (.ptr (h.length + 2) 0))), (12, VB (s.1)), (13, VI (s.2.1))]) (fun s => h ++ ([⟨[I (r_.pages), I (r_.spares), .L 2 (r_.places.map Place.cs), .L 1 (r_.bad.map cI)], true, true⟩, ⟨[I (bx18.pages), I (bx18.spares), .L 2 (bx18.places.map Place.cs), .L 1 (bx18.bad.map cI)], true, true⟩, ⟨[I (s.2.2.1.pages), I (s.2.2.1.spares), .g (h.length + 3) ((s.2.2.1.places).length) 2 s.2.2.2, .L 1 (s.2.2.1.bad.map cI)], true, true⟩, ⟨(s.2.2.1.places.map Place.cs).flatten, true, s.2.2.2⟩] : Heap)) FU (false, 0, (⟨r_.pages, r_.spares, ([] : List Place), (((r_.bad.take (Int.toNat k24)) ++ ([address] : List Int)) ++ (r_.bad.drop (Int.toNat k24)))⟩ : Remap), false) hm (.cons rfl (.cons rfl (.cons rfl (.cons rfl (.cons rfl (.cons rfl (.cons rfl .nil))))))) rfl ?_
                    rintro kk46 ⟨done43, i44, bx45, bx45v2⟩ T0 hm
                    replace hm : Ev (ref35_Mark.l2 r_ page11 x17 kk46 done43 i44 bx45) _ := hm
                    cases kk46 with
                    | zero => exact (Ev.non hm).elim
                    | succ kk46 =>
                    rw [ref35_Mark.l2_s] at hm
                    show CdOK _ _ _ (look T0 [(2, .o (.c (.ptr (h.length + 0) 0))), (4, .o (.c (.ptr (h.length + 1) 0))), (7, VI (page11)), (9, .o (.c (.L 1 (x17.map cI)))), (10, .o (.c (.ptr (h.length + 2) 0))), (12, VB (done43)), (13, VI (i44))]) (h ++ ([⟨[I (r_.pages), I (r_.spares), .L 2 (r_.places.map Place.cs), .L 1 (r_.bad.map cI)], true, true⟩, ⟨[I (bx18.pages), I (bx18.spares), .L 2 (bx18.places.map Place.cs), .L 1 (bx18.bad.map cI)], true, true⟩, ⟨[I (bx45.pages), I (bx45.spares), .g (h.length + 3) ((bx45.places).length) 2 bx45v2, .L 1 (bx45.bad.map cI)], true, true⟩, ⟨(bx45.places.map Place.cs).flatten, true, bx45v2⟩] : Heap)) _
                    refine CdOK.seq ?_
                    refine CdOK.seq ?_
                    refine CdOK.region ?_
                    refine RgOK.s (v := VI (i44)) rfl rfl rfl (e_mv (ev_t rfl)) ?_
                    refine RgOK.s (v := .o (.c (.ptr (h.length + 0) 2))) rfl rfl rfl (e_fa' fa29_2 (ev_t rfl)) ?_
                    refine RgOK.s (v := .o (.c (.L 2 (r_.places.map Place.cs)))) rfl rfl rfl (e_ldb1 (ev_t rfl) ty26 (bx rfl rfl) rfl) ?_
                    refine RgOK.s (v := VI ((r_.places.length : Int))) rfl rfl rfl (e_lenM (ev_t rfl) is26) ?_
                    refine RgOK.s (v := VB (decide (i44 < (r_.places.length : Int)))) rfl rfl rfl (e_bin (ev_t rfl) (ev_t rfl) rfl rfl) ?_
                    refine RgOK.nil ?_
                    show CdOK _ _ _ _ _ _
                    refine CdOK.condD (ev_t rfl) ?_ ?_
                    · intro c47; replace hm := hm.ifp c47
                      refine CdOK.skip ?_
                      show CdOK _ _ _ _ _ _
                      refine CdOK.seq ?_
                      refine CdOK.block ?_
                      replace hm := hm.bnd
                      refine CdOK.joinE (σ := (Bool × Remap × Bool)) (fun s => (s.1, s.2.1)) hm (fun s => [(2, .o (.c (.ptr (h.length + 0) 0))), (4, .o (.c (.ptr (h.length + 1) 0))), (7, VI (page11)), (9, .o (.c (.L 1 (x17.map cI)))), (10, .o (.c (.ptr (h.length + 2) 0))), (12, VB (s.1)), (13, VI (i44))]) (fun s => h ++ ([⟨[I (r_.pages), I (r_.spares), .L 2 (r_.places.map Place.cs), .L 1 (r_.bad.map cI)], true, true⟩, ⟨[I (bx18.pages), I (bx18.spares), .L 2 (bx18.places.map Place.cs), .L 1 (bx18.bad.map cI)], true, true⟩, ⟨[I (s.2.1.pages), I (s.2.1.spares), .g (h.length + 3) ((s.2.1.places).length) 2 s.2.2, .L 1 (s.2.1.bad.map cI)], true, true⟩, ⟨(s.2.1.places.map Place.cs).flatten, true, s.2.2⟩] : Heap)) ?_ ?_
                      · intro hm
                        refine CdOK.seq ?_
                        refine CdOK.region ?_
                        refine RgOK.sb rfl rfl rfl (e_mv (ev_t rfl)) ?_ ?_
                        · intro c50; replace hm := hm.ifp c50
                          refine RgOK.s (v := VB (false)) rfl rfl rfl (e_un (ev_t rfl) rfl) ?_
                          refine RgOK.s (v := VB (false)) rfl rfl rfl (e_mv (ev_t rfl)) ?_
                          refine RgOK.sk rfl rfl rfl ?_
                          refine RgOK.sk rfl rfl rfl ?_
                          refine RgOK.sk rfl rfl rfl ?_
                          refine RgOK.sk rfl rfl rfl ?_
                          refine RgOK.sk rfl rfl rfl ?_
                          refine RgOK.sk rfl rfl rfl ?_
                          refine RgOK.sk rfl rfl rfl ?_
                          refine RgOK.sk rfl rfl rfl ?_
                          refine RgOK.s (v := VB (false)) rfl rfl rfl (e_pick (t := false) (ev_t rfl) rfl) ?_
                          refine RgOK.nil ?_
                          show CdOK _ _ _ _ _ _
                          refine CdOK.cond_false rfl ?_
                          refine CdOK.skip ?_
                          refine Told.id ?_
                          exact ⟨(done43, bx45, bx45v2), hm.ret, (.cons rfl (.cons rfl (.cons rfl (.cons rfl (.cons rfl (.cons rfl (.cons rfl .nil))))))), rfl⟩
                        · intro c51; replace hm := hm.ifn (by rw [c51]; exact Bool.false_ne_true)
                          refine RgOK.s (v := VB (true)) rfl rfl rfl (e_un (ev_t rfl) rfl) ?_
                          refine RgOK.s (v := VB (true)) rfl rfl rfl (e_mv (ev_t rfl)) ?_
                          refine RgOK.s (v := .o (.c (.ptr (h.length + 0) 2))) rfl rfl rfl (e_fa' fa29_2 (ev_t rfl)) ?_
                          refine RgOK.s (v := .o (.c (.L 2 (r_.places.map Place.cs)))) rfl rfl rfl (e_ldb1 (ev_t rfl) ty26 (bx rfl rfl) rfl) ?_
                          refine RgOK.s (v := VI (i44)) rfl rfl rfl (e_mv (ev_t rfl)) ?_
                          obtain ⟨c52, hm⟩ := hm.ifs
                          refine RgOK.s (v := .o (.c (.rp [I ((gd r_.places i44).page), I ((gd r_.places i44).address)]))) rfl rfl rfl (e_ixM (f := Place.cs) (l := r_.places) (i := i44) (ev_t rfl) (ev_t rfl) el26 c52) ?_
                          refine RgOK.s (v := .o (.c (.rp [I ((gd r_.places i44).page), I ((gd r_.places i44).address)]))) rfl rfl rfl (e_faR fa117_0 (ev_t rfl) rfl) ?_
                          refine RgOK.s (v := VI ((gd r_.places i44).page)) rfl rfl rfl (e_ldR1 (ev_t rfl) ty3 rfl) ?_
                          refine RgOK.s (v := VI (page11)) rfl rfl rfl (e_mv (ev_t rfl)) ?_
                          refine RgOK.s (v := VB (decide (page11 ≤ ((gd r_.places i44).page)))) rfl rfl rfl (e_bin (ev_t rfl) (ev_t rfl) rfl rfl) ?_
                          refine RgOK.s (v := VB (decide (page11 ≤ ((gd r_.places i44).page)))) rfl rfl rfl (e_pick (t := true) (ev_t rfl) (ev_t rfl)) ?_
                          refine RgOK.nil ?_
                          show CdOK _ _ _ _ _ _
                          refine CdOK.condD (ev_t rfl) ?_ ?_
                          · intro c53; replace hm := hm.ifp c53
                            refine CdOK.draw2 (ord := [0, 1, 2, 3, 4, 5, 6, 7, 8, 9, 10, 11]) (chain := [8, 10]) fol (by decide +kernel) (by decide +kernel) ?_
                            refine Dr2.s (v := .o (.c (.ptr (h.length + 2) 2))) rfl rfl rfl rfl rfl rfl (e_fa' fa29_2 (ev_t rfl)) ?_
                            refine Dr2.f (v := .o (.c (.g (h.length + 3) ((bx45.places).length) 2 bx45v2))) rfl rfl rfl rfl rfl rfl (e_ldb1 (ev_t rfl) ty26 (bx rfl rfl) rfl) ?_
                            refine Dr2.s (v := VI (page11)) rfl rfl rfl rfl rfl rfl (e_mv (ev_t rfl)) ?_
                            refine Dr2.s (v := .o (.c (.L 1 (x17.map cI)))) rfl rfl rfl rfl rfl rfl (e_mv (ev_t rfl)) ?_
                            obtain ⟨c54, hm⟩ := hm.ifs
                            refine Dr2.s (v := .o (.c (.rp [I ((gd x17 0))]))) rfl rfl rfl rfl rfl rfl (e_ixM (f := cI) (l := x17) (i := 0) (ev_t rfl) rfl el27 c54) ?_
                            refine Dr2.f (v := VI ((gd x17 0))) rfl rfl rfl rfl rfl rfl (e_ldR1 (ev_t rfl) ty3 rfl) ?_
                            refine Dr2.s (v := .o (.agg [I (page11), I ((gd x17 0))])) rfl rfl rfl rfl rfl rfl (e_bld (cs := [I (page11), I ((gd x17 0))]) zo117 bl117 rfl rfl) ?_
                            refine Dr2.s (v := .o (.c (.LC 2 (([(⟨page11, (gd x17 0)⟩ : Place)] : List Place).map Place.cs)))) rfl rfl rfl rfl rfl rfl (e_lit (cs := [I (page11), I ((gd x17 0))]) (xs := ([(⟨page11, (gd x17 0)⟩ : Place)]).map Place.cs) slt26 rfl rfl rfl rfl rfl) ?_
                            obtain ⟨c55, hm⟩ := hm.ifs
                            refine Dr2.c (v := .o (.c (.g (h.length + 4) (((bx45.places ++ ([(⟨page11, (gd x17 0)⟩ : Place)] : List Place))).length) 2 (bx45v2 || decide (0 < ([(⟨page11, (gd x17 0)⟩ : Place)] : List Place).length))))) rfl rfl rfl rfl rfl (e_apG (k := 2) (q := 8796093022208) (m := ([(⟨page11, (gd x17 0)⟩ : Place)] : List Place).length) (j := 3) (f := Place.cs) (xs := bx45.places) (ys := ([(⟨page11, (gd x17 0)⟩ : Place)] : List Place)) (L' := [⟨[I (r_.pages), I (r_.spares), .L 2 (r_.places.map Place.cs), .L 1 (r_.bad.map cI)], true, true⟩, ⟨[I (bx18.pages), I (bx18.spares), .L 2 (bx18.places.map Place.cs), .L 1 (bx18.bad.map cI)], true, true⟩, ⟨[I (bx45.pages), I (bx45.spares), .g (h.length + 3) ((bx45.places).length) 2 bx45v2, .L 1 (bx45.bad.map cI)], true, true⟩, ⟨(bx45.places.map Place.cs).flatten, true, false⟩, ⟨((bx45.places ++ ([(⟨page11, (gd x17 0)⟩ : Place)] : List Place)).map Place.cs).flatten, true, (bx45v2 || decide (0 < ([(⟨page11, (gd x17 0)⟩ : Place)] : List Place).length))⟩]) slt26 rfl (ev_t rfl) (ev_t rfl) (bx rfl rfl) (by intro x; rfl) src_LC rfl c55 rfl (by first | rfl | simp) rfl rfl) (.m (by decide +kernel) (.m (by decide +kernel) .nil)) ?_
                            refine Dr2.s (v := .o (.c (.ptr (h.length + 2) 2))) rfl rfl rfl rfl rfl rfl (e_fa' fa29_2 (ev_t rfl)) ?_
                            refine Dr2.c0 rfl rfl rfl rfl (e_stN (L' := [⟨[I (r_.pages), I (r_.spares), .L 2 (r_.places.map Place.cs), .L 1 (r_.bad.map cI)], true, true⟩, ⟨[I (bx18.pages), I (bx18.spares), .L 2 (bx18.places.map Place.cs), .L 1 (bx18.bad.map cI)], true, true⟩, ⟨[I (bx45.pages), I (bx45.spares), .g (h.length + 4) (((bx45.places ++ ([(⟨page11, (gd x17 0)⟩ : Place)] : List Place))).length) 2 (bx45v2 || decide (0 < ([(⟨page11, (gd x17 0)⟩ : Place)] : List Place).length)), .L 1 (bx45.bad.map cI)], true, true⟩, ⟨(bx45.places.map Place.cs).flatten, true, false⟩, ⟨((bx45.places ++ ([(⟨page11, (gd x17 0)⟩ : Place)] : List Place)).map Place.cs).flatten, true, (bx45v2 || decide (0 < ([(⟨page11, (gd x17 0)⟩ : Place)] : List Place).length))⟩]) rfl (ev_t rfl) (ev_t rfl) ty26 rfl rfl rfl rfl rfl) (.m (by decide +kernel) (.m (by decide +kernel) .nil)) ?_
                            refine Dr2.s (v := VB (true)) rfl rfl rfl rfl rfl rfl (e_as rfl) ?_
                            refine Dr2.nil ?_
                            refine Told.re (σ := [0, 1, 2, 4]) (X := [(2, .o (.c (.ptr (h.length + 0) 0))), (4, .o (.c (.ptr (h.length + 1) 0))), (7, VI (page11)), (9, .o (.c (.L 1 (x17.map cI)))), (10, .o (.c (.ptr (h.length + 2) 0))), (12, VB (true)), (13, VI (i44))]) (L' := [⟨[I (r_.pages), I (r_.spares), .L 2 (r_.places.map Place.cs), .L 1 (r_.bad.map cI)], true, true⟩, ⟨[I (bx18.pages), I (bx18.spares), .L 2 (bx18.places.map Place.cs), .L 1 (bx18.bad.map cI)], true, true⟩, ⟨[I ((⟨bx45.pages, bx45.spares, (bx45.places ++ ([(⟨page11, (gd x17 0)⟩ : Place)] : List Place)), bx45.bad⟩ : Remap).pages), I ((⟨bx45.pages, bx45.spares, (bx45.places ++ ([(⟨page11, (gd x17 0)⟩ : Place)] : List Place)), bx45.bad⟩ : Remap).spares), .g (h.length + 3) (((⟨bx45.pages, bx45.spares, (bx45.places ++ ([(⟨page11, (gd x17 0)⟩ : Place)] : List Place)), bx45.bad⟩ : Remap).places).length) 2 (bx45v2 || decide (0 < ([(⟨page11, (gd x17 0)⟩ : Place)] : List Place).length)), .L 1 ((⟨bx45.pages, bx45.spares, (bx45.places ++ ([(⟨page11, (gd x17 0)⟩ : Place)] : List Place)), bx45.bad⟩ : Remap).bad.map cI)], true, true⟩, ⟨((⟨bx45.pages, bx45.spares, (bx45.places ++ ([(⟨page11, (gd x17 0)⟩ : Place)] : List Place)), bx45.bad⟩ : Remap).places.map Place.cs).flatten, true, (bx45v2 || decide (0 < ([(⟨page11, (gd x17 0)⟩ : Place)] : List Place).length))⟩]) rfl rfl hC (by decide) (.obj 0 rfl (renFl rfl) (.obj 1 rfl (renFl rfl) (.obj 2 rfl (R2.of (.fl _ rfl) (R2.of (.fl _ rfl) (R2.of (.gg 4 3 _ _ _ _ _ rfl (by first | rfl | simp) rfl) (R2.of (.fl _ rfl) (R2.nil _))))) (.obj 4 rfl (renFl (flat_all (f := Place.cs) (l := (bx45.places ++ ([(⟨page11, (gd x17 0)⟩ : Place)] : List Place))) (by intro x; rfl))) .nil)))) (.cons (.o (.c (.ptr 0 0 _ rfl))) (.cons (.o (.c (.ptr 1 1 _ rfl))) (.cons (renFlV rfl) (.cons (renFlV rfl) (.cons (.o (.c (.ptr 2 2 _ rfl))) (.cons (renFlV rfl) (.cons (renFlV rfl) .nil))))))) ?_
                            exact ⟨(true, (⟨bx45.pages, bx45.spares, (bx45.places ++ ([(⟨page11, (gd x17 0)⟩ : Place)] : List Place)), bx45.bad⟩ : Remap), (bx45v2 || decide (0 < ([(⟨page11, (gd x17 0)⟩ : Place)] : List Place).length))), hm.ret, (.cons rfl (.cons rfl (.cons rfl (.cons rfl (.cons rfl (.cons rfl (.cons rfl .nil))))))), rfl⟩
                          · intro c56; replace hm := hm.ifn c56
                            refine CdOK.skip ?_
                            refine Told.id ?_
                            exact ⟨(done43, bx45, bx45v2), hm.ret, (.cons rfl (.cons rfl (.cons rfl (.cons rfl (.cons rfl (.cons rfl (.cons rfl .nil))))))), rfl⟩
                      · rintro ⟨done48, bx49, bx49v2⟩ T0 hm
                        show CdOK _ _ _ (look T0 [(2, .o (.c (.ptr (h.length + 0) 0))), (4, .o (.c (.ptr (h.length + 1) 0))), (7, VI (page11)), (9, .o (.c (.L 1 (x17.map cI)))), (10, .o (.c (.ptr (h.length + 2) 0))), (12, VB (done48)), (13, VI (i44))]) (h ++ ([⟨[I (r_.pages), I (r_.spares), .L 2 (r_.places.map Place.cs), .L 1 (r_.bad.map cI)], true, true⟩, ⟨[I (bx18.pages), I (bx18.spares), .L 2 (bx18.places.map Place.cs), .L 1 (bx18.bad.map cI)], true, true⟩, ⟨[I (bx49.pages), I (bx49.spares), .g (h.length + 3) ((bx49.places).length) 2 bx49v2, .L 1 (bx49.bad.map cI)], true, true⟩, ⟨(bx49.places.map Place.cs).flatten, true, bx49v2⟩] : Heap)) _
                        refine CdOK.seq ?_
                        refine CdOK.region ?_
                        refine RgOK.s (v := .o (.c (.ptr (h.length + 0) 2))) rfl rfl rfl (e_fa' fa29_2 (ev_t rfl)) ?_
                        refine RgOK.s (v := .o (.c (.L 2 (r_.places.map Place.cs)))) rfl rfl rfl (e_ldb1 (ev_t rfl) ty26 (bx rfl rfl) rfl) ?_
                        refine RgOK.s (v := VI (i44)) rfl rfl rfl (e_mv (ev_t rfl)) ?_
                        obtain ⟨c58, hm⟩ := hm.ifs
                        refine RgOK.s (v := .o (.c (.rp [I ((gd r_.places i44).page), I ((gd r_.places i44).address)]))) rfl rfl rfl (e_ixM (f := Place.cs) (l := r_.places) (i := i44) (ev_t rfl) (ev_t rfl) el26 c58) ?_
                        refine RgOK.s (v := .o (.c (.rp [I ((gd r_.places i44).page), I ((gd r_.places i44).address)]))) rfl rfl rfl (e_faR fa117_0 (ev_t rfl) rfl) ?_
                        refine RgOK.s (v := VI ((gd r_.places i44).page)) rfl rfl rfl (e_ldR1 (ev_t rfl) ty3 rfl) ?_
                        refine RgOK.s (v := VI (page11)) rfl rfl rfl (e_mv (ev_t rfl)) ?_
                        refine RgOK.s (v := VB (decide (((gd r_.places i44).page) ≠ page11))) rfl rfl rfl (e_neK (ev_t rfl) (ev_t rfl)) ?_
                        refine RgOK.nil ?_
                        show CdOK _ _ _ _ _ _
                        refine CdOK.condD (ev_t rfl) ?_ ?_
                        · intro c59; replace hm := hm.ifp c59
                          refine CdOK.draw2 (ord := [0, 1, 2, 3, 4, 5, 6, 7, 8, 9, 10]) (chain := [8, 10]) fol (by decide +kernel) (by decide +kernel) ?_
                          refine Dr2.s (v := .o (.c (.ptr (h.length + 2) 2))) rfl rfl rfl rfl rfl rfl (e_fa' fa29_2 (ev_t rfl)) ?_
                          refine Dr2.f (v := .o (.c (.g (h.length + 3) ((bx49.places).length) 2 bx49v2))) rfl rfl rfl rfl rfl rfl (e_ldb1 (ev_t rfl) ty26 (bx rfl rfl) rfl) ?_
                          refine Dr2.s (v := .o (.c (.ptr (h.length + 0) 2))) rfl rfl rfl rfl rfl rfl (e_fa' fa29_2 (ev_t rfl)) ?_
                          refine Dr2.f (v := .o (.c (.L 2 (r_.places.map Place.cs)))) rfl rfl rfl rfl rfl rfl (e_ldb1 (ev_t rfl) ty26 (bx rfl rfl) rfl) ?_
                          refine Dr2.s (v := VI (i44)) rfl rfl rfl rfl rfl rfl (e_mv (ev_t rfl)) ?_
                          obtain ⟨c60, hm⟩ := hm.ifs
                          refine Dr2.s (v := .o (.c (.rp [I ((gd r_.places i44).page), I ((gd r_.places i44).address)]))) rfl rfl rfl rfl rfl rfl (e_ixM (f := Place.cs) (l := r_.places) (i := i44) (ev_t rfl) (ev_t rfl) el26 c60) ?_
                          refine Dr2.f (v := .o (.agg [I ((gd r_.places i44).page), I ((gd r_.places i44).address)])) rfl rfl rfl rfl rfl rfl (e_ldRA (ev_t rfl) ty117 rfl rfl) ?_
                          refine Dr2.s (v := .o (.c (.LC 2 (([(gd r_.places i44)] : List Place).map Place.cs)))) rfl rfl rfl rfl rfl rfl (e_lit (cs := [I ((gd r_.places i44).page), I ((gd r_.places i44).address)]) (xs := ([(gd r_.places i44)]).map Place.cs) slt26 rfl rfl rfl rfl rfl) ?_
                          obtain ⟨c61, hm⟩ := hm.ifs
                          refine Dr2.c (v := .o (.c (.g (h.length + 4) (((bx49.places ++ ([(gd r_.places i44)] : List Place))).length) 2 (bx49v2 || decide (0 < ([(gd r_.places i44)] : List Place).length))))) rfl rfl rfl rfl rfl (e_apG (k := 2) (q := 8796093022208) (m := ([(gd r_.places i44)] : List Place).length) (j := 3) (f := Place.cs) (xs := bx49.places) (ys := ([(gd r_.places i44)] : List Place)) (L' := [⟨[I (r_.pages), I (r_.spares), .L 2 (r_.places.map Place.cs), .L 1 (r_.bad.map cI)], true, true⟩, ⟨[I (bx18.pages), I (bx18.spares), .L 2 (bx18.places.map Place.cs), .L 1 (bx18.bad.map cI)], true, true⟩, ⟨[I (bx49.pages), I (bx49.spares), .g (h.length + 3) ((bx49.places).length) 2 bx49v2, .L 1 (bx49.bad.map cI)], true, true⟩, ⟨(bx49.places.map Place.cs).flatten, true, false⟩, ⟨((bx49.places ++ ([(gd r_.places i44)] : List Place)).map Place.cs).flatten, true, (bx49v2 || decide (0 < ([(gd r_.places i44)] : List Place).length))⟩]) slt26 rfl (ev_t rfl) (ev_t rfl) (bx rfl rfl) (by intro x; rfl) src_LC rfl c61 rfl (by first | rfl | simp) rfl rfl) (.m (by decide +kernel) (.m (by decide +kernel) (.m (by decide +kernel) .nil))) ?_
                          refine Dr2.s (v := .o (.c (.ptr (h.length + 2) 2))) rfl rfl rfl rfl rfl rfl (e_fa' fa29_2 (ev_t rfl)) ?_
                          refine Dr2.c0 rfl rfl rfl rfl (e_stN (L' := [⟨[I (r_.pages), I (r_.spares), .L 2 (r_.places.map Place.cs), .L 1 (r_.bad.map cI)], true, true⟩, ⟨[I (bx18.pages), I (bx18.spares), .L 2 (bx18.places.map Place.cs), .L 1 (bx18.bad.map cI)], true, true⟩, ⟨[I (bx49.pages), I (bx49.spares), .g (h.length + 4) (((bx49.places ++ ([(gd r_.places i44)] : List Place))).length) 2 (bx49v2 || decide (0 < ([(gd r_.places i44)] : List Place).length)), .L 1 (bx49.bad.map cI)], true, true⟩, ⟨(bx49.places.map Place.cs).flatten, true, false⟩, ⟨((bx49.places ++ ([(gd r_.places i44)] : List Place)).map Place.cs).flatten, true, (bx49v2 || decide (0 < ([(gd r_.places i44)] : List Place).length))⟩]) rfl (ev_t rfl) (ev_t rfl) ty26 rfl rfl rfl rfl rfl) (.m (by decide +kernel) (.m (by decide +kernel) (.m (by decide +kernel) .nil))) ?_
                          refine Dr2.nil ?_
                          show CdOK _ _ _ _ _ _
                          refine CdOK.region ?_
                          refine RgOK.s (v := VI (i44)) rfl rfl rfl (e_mv (ev_t rfl)) ?_
                          refine RgOK.s (v := VI ((w64 (i44 + 1)))) rfl rfl rfl (e_bin (ev_t rfl) rfl rfl rfl) ?_
                          refine RgOK.s (v := VI ((w64 (i44 + 1)))) rfl rfl rfl (e_as (ev_t rfl)) ?_
                          refine RgOK.nil ?_
                          refine Told.re (σ := [0, 1, 2, 4]) (X := [(2, .o (.c (.ptr (h.length + 0) 0))), (4, .o (.c (.ptr (h.length + 1) 0))), (7, VI (page11)), (9, .o (.c (.L 1 (x17.map cI)))), (10, .o (.c (.ptr (h.length + 2) 0))), (12, VB (done48)), (13, VI ((w64 (i44 + 1))))]) (L' := [⟨[I (r_.pages), I (r_.spares), .L 2 (r_.places.map Place.cs), .L 1 (r_.bad.map cI)], true, true⟩, ⟨[I (bx18.pages), I (bx18.spares), .L 2 (bx18.places.map Place.cs), .L 1 (bx18.bad.map cI)], true, true⟩, ⟨[I ((⟨bx49.pages, bx49.spares, (bx49.places ++ ([(gd r_.places i44)] : List Place)), bx49.bad⟩ : Remap).pages), I ((⟨bx49.pages, bx49.spares, (bx49.places ++ ([(gd r_.places i44)] : List Place)), bx49.bad⟩ : Remap).spares), .g (h.length + 3) (((⟨bx49.pages, bx49.spares, (bx49.places ++ ([(gd r_.places i44)] : List Place)), bx49.bad⟩ : Remap).places).length) 2 (bx49v2 || decide (0 < ([(gd r_.places i44)] : List Place).length)), .L 1 ((⟨bx49.pages, bx49.spares, (bx49.places ++ ([(gd r_.places i44)] : List Place)), bx49.bad⟩ : Remap).bad.map cI)], true, true⟩, ⟨((⟨bx49.pages, bx49.spares, (bx49.places ++ ([(gd r_.places i44)] : List Place)), bx49.bad⟩ : Remap).places.map Place.cs).flatten, true, (bx49v2 || decide (0 < ([(gd r_.places i44)] : List Place).length))⟩]) rfl rfl hC (by decide) (.obj 0 rfl (renFl rfl) (.obj 1 rfl (renFl rfl) (.obj 2 rfl (R2.of (.fl _ rfl) (R2.of (.fl _ rfl) (R2.of (.gg 4 3 _ _ _ _ _ rfl (by first | rfl | simp) rfl) (R2.of (.fl _ rfl) (R2.nil _))))) (.obj 4 rfl (renFl (flat_all (f := Place.cs) (l := (bx49.places ++ ([(gd r_.places i44)] : List Place))) (by intro x; rfl))) .nil)))) (.cons (.o (.c (.ptr 0 0 _ rfl))) (.cons (.o (.c (.ptr 1 1 _ rfl))) (.cons (renFlV rfl) (.cons (renFlV rfl) (.cons (.o (.c (.ptr 2 2 _ rfl))) (.cons (renFlV rfl) (.cons (renFlV rfl) .nil))))))) ?_
                          exact ⟨_, (done48, (w64 (i44 + 1)), (⟨bx49.pages, bx49.spares, (bx49.places ++ ([(gd r_.places i44)] : List Place)), bx49.bad⟩ : Remap), (bx49v2 || decide (0 < ([(gd r_.places i44)] : List Place).length))), Nat.lt_succ_self _, hm, (.cons rfl (.cons rfl (.cons rfl (.cons rfl (.cons rfl (.cons rfl (.cons rfl .nil))))))), rfl⟩
                        · intro c62; replace hm := hm.ifn c62
                          refine CdOK.skip ?_
                          show CdOK _ _ _ _ _ _
                          refine CdOK.region ?_
                          refine RgOK.s (v := VI (i44)) rfl rfl rfl (e_mv (ev_t rfl)) ?_
                          refine RgOK.s (v := VI ((w64 (i44 + 1)))) rfl rfl rfl (e_bin (ev_t rfl) rfl rfl rfl) ?_
                          refine RgOK.s (v := VI ((w64 (i44 + 1)))) rfl rfl rfl (e_as (ev_t rfl)) ?_
                          refine RgOK.nil ?_
                          refine Told.id ?_
                          exact ⟨_, (done48, (w64 (i44 + 1)), bx49, bx49v2), Nat.lt_succ_self _, hm, (.cons rfl (.cons rfl (.cons rfl (.cons rfl (.cons rfl (.cons rfl (.cons rfl .nil))))))), rfl⟩
                    · intro c63; replace hm := hm.ifn c63
                      refine CdOK.exit ?_
                      refine Told.re (σ := [1, 2, 3]) (X := [(4, .o (.c (.ptr (h.length + 0) 0))), (7, VI (page11)), (9, .o (.c (.L 1 (x17.map cI)))), (10, .o (.c (.ptr (h.length + 1) 0))), (12, VB (done43))]) (L' := [⟨[I (bx18.pages), I (bx18.spares), .L 2 (bx18.places.map Place.cs), .L 1 (bx18.bad.map cI)], true, true⟩, ⟨[I (bx45.pages), I (bx45.spares), .g (h.length + 2) ((bx45.places).length) 2 bx45v2, .L 1 (bx45.bad.map cI)], true, true⟩, ⟨(bx45.places.map Place.cs).flatten, true, bx45v2⟩]) rfl rfl hC (by decide) (.obj 1 rfl (renFl rfl) (.obj 2 rfl (R2.of (.fl _ rfl) (R2.of (.fl _ rfl) (R2.of (.gg 3 2 _ _ _ _ _ rfl (by first | rfl | simp) rfl) (R2.of (.fl _ rfl) (R2.nil _))))) (.obj 3 rfl (renFl (flat_all (f := Place.cs) (l := bx45.places) (by intro x; rfl))) .nil))) (.cons (.o (.c (.ptr 1 0 _ rfl))) (.cons (renFlV rfl) (.cons (renFlV rfl) (.cons (.o (.c (.ptr 2 1 _ rfl))) (.cons (renFlV rfl) .nil))))) ?_
                      exact ⟨(done43, bx45, bx45v2), hm.ret, (.cons rfl (.cons rfl (.cons rfl (.cons rfl (.cons rfl .nil))))), rfl⟩
                  · rintro ⟨done41, bx42, bx42v2⟩ T0 hm
                    show CdOK _ _ _ _ _ _
                    replace hm := hm.bnd
                    refine CdOK.joinE (σ := (Remap × Bool)) (fun s => s.1) hm (fun s => [(4, .o (.c (.ptr (h.length + 0) 0))), (7, VI (page11)), (10, .o (.c (.ptr (h.length + 1) 0)))]) (fun s => h ++ ([⟨[I (bx18.pages), I (bx18.spares), .L 2 (bx18.places.map Place.cs), .L 1 (bx18.bad.map cI)], true, true⟩, ⟨[I (s.1.pages), I (s.1.spares), .g (h.length + 2) ((s.1.places).length) 2 s.2, .L 1 (s.1.bad.map cI)], true, true⟩, ⟨(s.1.places.map Place.cs).flatten, true, s.2⟩] : Heap)) ?_ ?_
                    · intro hm
                      refine CdOK.seq ?_
                      refine CdOK.region ?_
                      refine RgOK.s (v := VB (done41)) rfl rfl rfl (e_mv (ev_t rfl)) ?_
                      refine RgOK.s (v := VB ((!done41))) rfl rfl rfl (e_un (ev_t rfl) rfl) ?_
                      refine RgOK.nil ?_
                      show CdOK _ _ _ _ _ _
                      refine CdOK.condB (ev_t rfl) ?_ ?_
                      · intro c66; replace hm := hm.ifp c66
                        refine CdOK.draw2 (ord := [0, 1, 2, 3, 4, 5, 6, 7, 8, 9, 10]) (chain := [8, 10]) fol (by decide +kernel) (by decide +kernel) ?_
                        refine Dr2.s (v := .o (.c (.ptr (h.length + 1) 2))) rfl rfl rfl rfl rfl rfl (e_fa' fa29_2 (ev_t rfl)) ?_
                        refine Dr2.f (v := .o (.c (.g (h.length + 2) ((bx42.places).length) 2 bx42v2))) rfl rfl rfl rfl rfl rfl (e_ldb1 (ev_t rfl) ty26 (bx rfl rfl) rfl) ?_
                        refine Dr2.s (v := VI (page11)) rfl rfl rfl rfl rfl rfl (e_mv (ev_t rfl)) ?_
                        refine Dr2.s (v := .o (.c (.L 1 (x17.map cI)))) rfl rfl rfl rfl rfl rfl (e_mv (ev_t rfl)) ?_
                        obtain ⟨c67, hm⟩ := hm.ifs
                        refine Dr2.s (v := .o (.c (.rp [I ((gd x17 0))]))) rfl rfl rfl rfl rfl rfl (e_ixM (f := cI) (l := x17) (i := 0) (ev_t rfl) rfl el27 c67) ?_
                        refine Dr2.f (v := VI ((gd x17 0))) rfl rfl rfl rfl rfl rfl (e_ldR1 (ev_t rfl) ty3 rfl) ?_
                        refine Dr2.s (v := .o (.agg [I (page11), I ((gd x17 0))])) rfl rfl rfl rfl rfl rfl (e_bld (cs := [I (page11), I ((gd x17 0))]) zo117 bl117 rfl rfl) ?_
                        refine Dr2.s (v := .o (.c (.LC 2 (([(⟨page11, (gd x17 0)⟩ : Place)] : List Place).map Place.cs)))) rfl rfl rfl rfl rfl rfl (e_lit (cs := [I (page11), I ((gd x17 0))]) (xs := ([(⟨page11, (gd x17 0)⟩ : Place)]).map Place.cs) slt26 rfl rfl rfl rfl rfl) ?_
                        obtain ⟨c68, hm⟩ := hm.ifs
                        refine Dr2.c (v := .o (.c (.g (h.length + 3) (((bx42.places ++ ([(⟨page11, (gd x17 0)⟩ : Place)] : List Place))).length) 2 (bx42v2 || decide (0 < ([(⟨page11, (gd x17 0)⟩ : Place)] : List Place).length))))) rfl rfl rfl rfl rfl (e_apG (k := 2) (q := 8796093022208) (m := ([(⟨page11, (gd x17 0)⟩ : Place)] : List Place).length) (j := 2) (f := Place.cs) (xs := bx42.places) (ys := ([(⟨page11, (gd x17 0)⟩ : Place)] : List Place)) (L' := [⟨[I (bx18.pages), I (bx18.spares), .L 2 (bx18.places.map Place.cs), .L 1 (bx18.bad.map cI)], true, true⟩, ⟨[I (bx42.pages), I (bx42.spares), .g (h.length + 2) ((bx42.places).length) 2 bx42v2, .L 1 (bx42.bad.map cI)], true, true⟩, ⟨(bx42.places.map Place.cs).flatten, true, false⟩, ⟨((bx42.places ++ ([(⟨page11, (gd x17 0)⟩ : Place)] : List Place)).map Place.cs).flatten, true, (bx42v2 || decide (0 < ([(⟨page11, (gd x17 0)⟩ : Place)] : List Place).length))⟩]) slt26 rfl (ev_t rfl) (ev_t rfl) (bx rfl rfl) (by intro x; rfl) src_LC rfl c68 rfl (by first | rfl | simp) rfl rfl) (.m (by decide +kernel) (.m (by decide +kernel) .nil)) ?_
                        refine Dr2.s (v := .o (.c (.ptr (h.length + 1) 2))) rfl rfl rfl rfl rfl rfl (e_fa' fa29_2 (ev_t rfl)) ?_
                        refine Dr2.c0 rfl rfl rfl rfl (e_stN (L' := [⟨[I (bx18.pages), I (bx18.spares), .L 2 (bx18.places.map Place.cs), .L 1 (bx18.bad.map cI)], true, true⟩, ⟨[I (bx42.pages), I (bx42.spares), .g (h.length + 3) (((bx42.places ++ ([(⟨page11, (gd x17 0)⟩ : Place)] : List Place))).length) 2 (bx42v2 || decide (0 < ([(⟨page11, (gd x17 0)⟩ : Place)] : List Place).length)), .L 1 (bx42.bad.map cI)], true, true⟩, ⟨(bx42.places.map Place.cs).flatten, true, false⟩, ⟨((bx42.places ++ ([(⟨page11, (gd x17 0)⟩ : Place)] : List Place)).map Place.cs).flatten, true, (bx42v2 || decide (0 < ([(⟨page11, (gd x17 0)⟩ : Place)] : List Place).length))⟩]) rfl (ev_t rfl) (ev_t rfl) ty26 rfl rfl rfl rfl rfl) (.m (by decide +kernel) (.m (by decide +kernel) .nil)) ?_
                        refine Dr2.nil ?_
                        refine Told.re (σ := [0, 1, 3]) (X := [(4, .o (.c (.ptr (h.length + 0) 0))), (7, VI (page11)), (10, .o (.c (.ptr (h.length + 1) 0)))]) (L' := [⟨[I (bx18.pages), I (bx18.spares), .L 2 (bx18.places.map Place.cs), .L 1 (bx18.bad.map cI)], true, true⟩, ⟨[I ((⟨bx42.pages, bx42.spares, (bx42.places ++ ([(⟨page11, (gd x17 0)⟩ : Place)] : List Place)), bx42.bad⟩ : Remap).pages), I ((⟨bx42.pages, bx42.spares, (bx42.places ++ ([(⟨page11, (gd x17 0)⟩ : Place)] : List Place)), bx42.bad⟩ : Remap).spares), .g (h.length + 2) (((⟨bx42.pages, bx42.spares, (bx42.places ++ ([(⟨page11, (gd x17 0)⟩ : Place)] : List Place)), bx42.bad⟩ : Remap).places).length) 2 (bx42v2 || decide (0 < ([(⟨page11, (gd x17 0)⟩ : Place)] : List Place).length)), .L 1 ((⟨bx42.pages, bx42.spares, (bx42.places ++ ([(⟨page11, (gd x17 0)⟩ : Place)] : List Place)), bx42.bad⟩ : Remap).bad.map cI)], true, true⟩, ⟨((⟨bx42.pages, bx42.spares, (bx42.places ++ ([(⟨page11, (gd x17 0)⟩ : Place)] : List Place)), bx42.bad⟩ : Remap).places.map Place.cs).flatten, true, (bx42v2 || decide (0 < ([(⟨page11, (gd x17 0)⟩ : Place)] : List Place).length))⟩]) rfl rfl hC (by decide) (.obj 0 rfl (renFl rfl) (.obj 1 rfl (R2.of (.fl _ rfl) (R2.of (.fl _ rfl) (R2.of (.gg 3 2 _ _ _ _ _ rfl (by first | rfl | simp) rfl) (R2.of (.fl _ rfl) (R2.nil _))))) (.obj 3 rfl (renFl (flat_all (f := Place.cs) (l := (bx42.places ++ ([(⟨page11, (gd x17 0)⟩ : Place)] : List Place))) (by intro x; rfl))) .nil))) (.cons (.o (.c (.ptr 0 0 _ rfl))) (.cons (renFlV rfl) (.cons (.o (.c (.ptr 1 1 _ rfl))) .nil))) ?_
                        exact ⟨((⟨bx42.pages, bx42.spares, (bx42.places ++ ([(⟨page11, (gd x17 0)⟩ : Place)] : List Place)), bx42.bad⟩ : Remap), (bx42v2 || decide (0 < ([(⟨page11, (gd x17 0)⟩ : Place)] : List Place).length))), hm.ret, (.cons rfl (.cons rfl (.cons rfl .nil))), rfl⟩
                      · intro c69; replace hm := hm.ifn c69
                        refine CdOK.skip ?_
                        refine Told.id ?_
                        exact ⟨(bx42, bx42v2), hm.ret, (.cons rfl (.cons rfl (.cons rfl .nil))), rfl⟩
                    · rintro ⟨bx65, bx65v2⟩ T0 hm
                      show CdOK _ _ _ (look T0 [(4, .o (.c (.ptr (h.length + 0) 0))), (7, VI (page11)), (10, .o (.c (.ptr (h.length + 1) 0)))]) (h ++ ([⟨[I (bx18.pages), I (bx18.spares), .L 2 (bx18.places.map Place.cs), .L 1 (bx18.bad.map cI)], true, true⟩, ⟨[I (bx65.pages), I (bx65.spares), .g (h.length + 2) ((bx65.places).length) 2 bx65v2, .L 1 (bx65.bad.map cI)], true, true⟩, ⟨(bx65.places.map Place.cs).flatten, true, bx65v2⟩] : Heap)) _
                      refine CdOK.seq ?_
                      refine CdOK.region ?_
                      refine RgOK.s (v := .o (.agg [I (bx65.pages), I (bx65.spares), .g (h.length + 2) ((bx65.places).length) 2 bx65v2, .L 1 (bx65.bad.map cI)])) rfl rfl rfl (e_ldbA (ev_t rfl) ty29 (bx rfl rfl) rfl rfl) ?_
                      refine RgOK.s (v := VI (page11)) rfl rfl rfl (e_mv (ev_t rfl)) ?_
                      refine RgOK.s0 rfl rfl (e_stN (L' := [⟨[I (bx65.pages), I (bx65.spares), .g (h.length + 2) ((bx65.places).length) 2 bx65v2, .L 1 (bx65.bad.map cI)], true, true⟩, ⟨[I (bx65.pages), I (bx65.spares), .g (h.length + 2) ((bx65.places).length) 2 bx65v2, .L 1 (bx65.bad.map cI)], true, true⟩, ⟨(bx65.places.map Place.cs).flatten, true, bx65v2⟩]) rfl (ev_t rfl) (ev_t rfl) ty29 rfl rfl rfl rfl rfl) ?_
                      refine RgOK.s (v := VI (page11)) rfl rfl rfl (e_as (ev_t rfl)) ?_
                      refine RgOK.s (v := VI (0)) rfl rfl rfl (e_as rfl) ?_
                      refine RgOK.nil ?_
                      show CdOK _ _ _ _ _ _
                      refine CdOK.ret ?_
                      refine ⟨.inr rfl, _, (resA_c (look_find rfl) (eLoad_A ty29 (bx rfl rfl) rfl rfl rfl) (resA_t (look_find rfl) (resA_t (look_find rfl) resA_n))), h, [⟨[I (bx65.pages), I (bx65.spares), .g (h.length + 2) ((bx65.places).length) 2 bx65v2, .L 1 (bx65.bad.map cI)], true, true⟩, ⟨[I (bx65.pages), I (bx65.spares), .g (h.length + 2) ((bx65.places).length) 2 bx65v2, .L 1 (bx65.bad.map cI)], true, true⟩, ⟨(bx65.places.map Place.cs).flatten, true, bx65v2⟩], _, rfl, rfl, hC, ((.tup (R2.of (.agg (R2.of (.fl _ rfl) (R2.of (.fl _ rfl) (R2.of (.fzg 2 _ 2 _ (bx65.places.map Place.cs) rfl (by decide) (by first | exact List.length_map .. | simp) (lens_all (by intro x; rfl)) (vl_all (by intro x; rfl))) (R2.of (.fl _ rfl) (R2.nil _)))))) (R2.of (.c (.fl _ rfl)) (R2.of (.c (.fl _ rfl)) (R2.nil _))))) : RenV _ _ _ _ (.tup [.agg [I (bx65.pages), I (bx65.spares), .L 2 (bx65.places.map Place.cs), .L 1 (bx65.bad.map cI)], .c (I (page11)), .c (I (0))])), ?_⟩
                      have hr := hm.ret
                      subst hr
                      exact ⟨rfl, rfl⟩
end Rv
