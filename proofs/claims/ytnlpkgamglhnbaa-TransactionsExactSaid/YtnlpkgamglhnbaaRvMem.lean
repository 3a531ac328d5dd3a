import Derived.Test.YtnlpkgamglhnbaaRvOps
set_option linter.unusedVariables false
set_option linter.unusedSimpArgs false
namespace Rv
open Go Go.RowKit

theorem addr_add (B o n : Nat) : Addr.add ⟨B, o, none⟩ n = ⟨B, o + n, none⟩ := Addr.add_lit B o n
theorem lt_of_get {α : Type} {l : List α} {i : Nat} {x : α} (h : l[i]? = some x) : i < l.length := by
  rcases Nat.lt_or_ge i l.length with h' | h'
  · exact h'
  · rw [List.getElem?_eq_none h'] at h; cases h

/-- Cells of a live object, in a row. -/
theorem HR.cellsAt {B0 : Pt} {μ : Mu} {h : Heap} {w : World} (hr : HR B0 μ h w) {b : Nat} {ob : AO} (hb : h[b]? = some ob) (hl : ob.live = true) {l : Loc} (hm : μ.ls[b]? = some l) {o n : Nat} {cs : List Cell} (hc : cs = (ob.cells.drop o).take n) (hn : cs.length = n) :
    ∃ us : List Value, us.length = n ∧ R2 (RC μ) cs us ∧ ∀ (j : Nat) (v : Value), us[j]? = some v → w.cell? ((⟨l.B, l.base + o, none⟩ : Addr).add j) = some v := by
  obtain ⟨l', arr, T, fr, hm', hh, hcs, _⟩ := hr.ok b ob hb hl
  obtain rfl : l' = l := by rw [hm] at hm'; exact (Option.some.inj hm').symm
  have hcell : ∀ (j : Nat) (c : Cell), cs[j]? = some c → ∃ u, arr[l'.base + o + j]? = some u ∧ RC μ c u := by
    intro j c hj
    rw [hc, List.getElem?_take] at hj
    split at hj
    · rw [List.getElem?_drop] at hj
      rw [Nat.add_assoc]
      exact hcs _ _ hj
    · cases hj
  refine ⟨(arr.toList.drop (l'.base + o)).take n, ?_, ⟨?_, fun i c u hci hui => ?_⟩, fun j v hv => ?_⟩
  · rw [List.length_take, List.length_drop]
    rcases Nat.eq_zero_or_pos n with h0 | h0
    · omega
    · obtain ⟨c, hc'⟩ : ∃ c, cs[n - 1]? = some c := ⟨cs[n - 1], List.getElem?_eq_getElem _⟩
      obtain ⟨u, hu, _⟩ := hcell _ _ hc'
      have := (Array.getElem?_eq_some_iff.1 hu).1
      simp only [Array.length_toList]
      omega
  · rw [hn, List.length_take, List.length_drop]
    rcases Nat.eq_zero_or_pos n with h0 | h0
    · omega
    · obtain ⟨c, hc'⟩ : ∃ c, cs[n - 1]? = some c := ⟨cs[n - 1], List.getElem?_eq_getElem _⟩
      obtain ⟨u, hu, _⟩ := hcell _ _ hc'
      have := (Array.getElem?_eq_some_iff.1 hu).1
      simp only [Array.length_toList]
      omega
  · obtain ⟨u', hu', hr'⟩ := hcell i c hci
    rw [List.getElem?_take] at hui
    split at hui
    · rw [List.getElem?_drop, Array.getElem?_toList] at hui
      rw [hui] at hu'
      obtain rfl := Option.some.inj hu'
      exact hr'
    · cases hui
  · rw [addr_add, cell_at hh]
    rw [List.getElem?_take] at hv
    split at hv
    · rw [List.getElem?_drop, Array.getElem?_toList] at hv
      exact hv
    · cases hv

def isAggD : TypeDesc → Bool
  | .struct _ | .array _ _ => true
  | _ => false
theorem rv_isAgg (P : Program) (t : TypeId) (d : TypeDesc) (hd : P.underlying t = some d) (w : World) : (isAgg t).run P w = .ok (isAggD d) w := by
  unfold isAgg
  rw [Sem.run_bind, run_underlying hd]
  cases d <;> rfl
theorem rv_sizeOf (P : Program) (t : TypeId) (i : TypeInfo) (hi : P.info? t = some i) (w : World) : (Go.sizeOf t).run P w = .ok i.size w := by
  simp [Go.sizeOf, typeInfo, hi]

def eLoad (P : Program) (t : TypeId) (b o : Nat) (h : Heap) : Option AV :=
  match h[b]?, P.underlying t, P.info? t with
  | some ob, some d, some i =>
    if ob.live = true then
      if isAggD d = true then if ((ob.cells.drop o).take i.size).length = i.size then some (.o (.agg ((ob.cells.drop o).take i.size))) else none
      else match ob.cells[o]? with | some c => some (.o (.c c)) | none => none
    else none
  | _, _, _ => none
/-- What is read of memory that stays. -/
def eLoadR (P : Program) (t : TypeId) (cs : List Cell) : Option AV :=
  match P.underlying t, P.info? t with
  | some d, some i =>
    if isAggD d = true then if (cs.take i.size).length = i.size then some (.o (.agg (cs.take i.size))) else none
    else match cs[0]? with | some c => some (.o (.c c)) | none => none
  | _, _ => none
theorem FC.rc {μ : Mu} {c : Cell} {u : Value} (h : FC μ.F c u) : RC μ c u := by
  cases c <;> first | exact h | exact h.elim
/-- Cells that stay, in a row. -/
theorem HR.cellsF {B0 : Pt} {μ : Mu} {h : Heap} {w : World} (hr : HR B0 μ h w) {B o : Nat} {cs : List Cell} (hc : ∀ (j : Nat) (c : Cell), cs[j]? = some c → ∃ val, μ.F B (o + j) = some val ∧ FC μ.F c val) :
    ∃ us : List Value, us.length = cs.length ∧ R2 (RC μ) cs us ∧ ∀ (j : Nat) (v : Value), us[j]? = some v → w.cell? ((⟨B, o, none⟩ : Addr).add j) = some v := by
  refine ⟨(List.range cs.length).map fun j => (μ.F B (o + j)).getD undef, by simp, ⟨by simp, fun i c u hci hui => ?_⟩, fun j v hv => ?_⟩
  · obtain ⟨val, h1, h2⟩ := hc i c hci
    have hi := lt_of_get hci
    simp [hi, h1] at hui
    subst hui
    exact h2.rc
  · have hj : j < cs.length := by
      have := lt_of_get hv
      simpa using this
    obtain ⟨val, h1, _⟩ := hc j cs[j] (List.getElem?_eq_getElem hj)
    simp [hj, h1] at hv
    subst hv
    rw [addr_add]
    exact hr.fz B (o + j) val h1
theorem eLoadR_ok (P : Program) {t : TypeId} {cs : List Cell} {v : AV} (he : eLoadR P t cs = some v) {B0 : Pt} {μ : Mu} {h : Heap} {w : World} (hr : HR B0 μ h w) {u : Value} (hu : RC μ (.rp cs) u) :
    ∃ r, (Instr.loadAt t u).run P w = .ok r w ∧ RV μ v r := by
  obtain ⟨B, o, rfl, hc⟩ := hu
  unfold eLoadR at he
  split at he
  · rename_i d i hd hi
    split at he
    · rename_i ha
      split at he
      · rename_i hn
        obtain rfl := Option.some.inj he
        obtain ⟨us, h1, h2, h3⟩ := hr.cellsF (cs := cs.take i.size) (B := B) (o := o) (fun j c hj => hc j c (by rw [List.getElem?_take] at hj; split at hj; exact hj; cases hj))
        refine ⟨.agg us.toArray, ?_, us.toArray, rfl, by simpa using h2⟩
        have hl := run_loadCells_list (P := P) w ⟨B, o, none⟩ us h3
        rw [h1, hn] at hl
        simp only [Instr.loadAt, Instr.sureAddr, Sem.run_bind, Sem.run_pure, Result.andThen_ok, loadVar, rv_isAgg P t d hd, ha, if_true, rv_sizeOf P t i hi]
        simp only [hl, Result.andThen_ok]
      · cases he
    · rename_i ha
      split at he
      · rename_i c hc0
        obtain rfl := Option.some.inj he
        obtain ⟨val, h1, h2⟩ := hc 0 c hc0
        have h3 := hr.fz B (o + 0) val h1
        refine ⟨val, ?_, h2.rc⟩
        simp only [Instr.loadAt, Instr.sureAddr, Sem.run_bind, Sem.run_pure, Result.andThen_ok, loadVar, rv_isAgg P t d hd]
        simp only [Nat.add_zero] at h3
        simp only [ha, Bool.false_eq_true, if_false, run_load, h3]
      · cases he
  · cases he
theorem eLoad_ok (P : Program) {t : TypeId} {b o : Nat} {h : Heap} {v : AV} (he : eLoad P t b o h = some v) {B0 : Pt} {μ : Mu} {w : World} (hr : HR B0 μ h w) {u : Value} (hu : RC μ (.ptr b o) u) :
    ∃ r, (Instr.loadAt t u).run P w = .ok r w ∧ RV μ v r := by
  obtain ⟨l, hm, rfl⟩ := hu
  unfold eLoad at he
  split at he
  · rename_i ob d i hb hd hi
    split at he
    · rename_i hl
      split at he
      · rename_i ha
        split at he
        · rename_i hn
          obtain rfl := Option.some.inj he
          obtain ⟨us, h1, h2, h3⟩ := hr.cellsAt hb hl hm rfl hn
          refine ⟨.agg us.toArray, ?_, us.toArray, rfl, by simpa using h2⟩
          have hc := run_loadCells_list (P := P) w ⟨l.B, l.base + o, none⟩ us h3
          rw [h1] at hc
          simp only [Instr.loadAt, Instr.sureAddr, Sem.run_bind, Sem.run_pure, Result.andThen_ok, loadVar, rv_isAgg P t d hd, ha, if_true, rv_sizeOf P t i hi]
          simp only [hc, Result.andThen_ok]
        · cases he
      · rename_i ha
        split at he
        · rename_i c hc
          obtain rfl := Option.some.inj he
          obtain ⟨u, h1, h2⟩ := hr.cell hb hl hm hc
          refine ⟨u, ?_, h2⟩
          simp only [Instr.loadAt, Instr.sureAddr, Sem.run_bind, Sem.run_pure, Result.andThen_ok, loadVar, rv_isAgg P t d hd]
          simp only [ha, Bool.false_eq_true, if_false, run_load, h1]
        · cases he
    · cases he
  · cases he

def putCells (cs : List Cell) (o : Nat) : List Cell → List Cell
  | [] => cs
  | c :: r => putCells (cs.set o c) (o + 1) r
theorem putCells_length (new : List Cell) : ∀ (cs : List Cell) (o : Nat), (putCells cs o new).length = cs.length := by
  induction new with
  | nil => intro cs o; rfl
  | cons c r ih => intro cs o; simp [putCells, ih]

theorem Bel.set {B0 : Pt} {w : World} {B o : Nat} (hB : ¬ B0.p B) (u : Value) : Bel B0 w (w.setCell ⟨B, o, none⟩ u) := (Bel.refl _ _).setCell hB u

theorem HR.stores (P : Program) {B0 : Pt} {μ : Mu} {l : Loc} {b : Nat} (hm : μ.ls[b]? = some l) (new : List Cell) : ∀ {us : List Value} {h : Heap} {w : World} {ob : AO} {o i : Nat}, HR B0 μ h w → h[b]? = some ob → ob.live = true → ob.own = true → R2 (RC μ) new us → o + i + new.length ≤ ob.cells.length →
    ∃ w', (storeCells ⟨l.B, l.base + o, none⟩ us i).run P w = .ok () w' ∧ HR B0 μ (h.set b { ob with cells := putCells ob.cells (o + i) new }) w' ∧ Bel B0 w w' := by
  induction new with
  | nil =>
    intro us h w ob o i hr hb hl ho hu hn
    have : us = [] := List.eq_nil_of_length_eq_zero (by simpa using hu.1.symm)
    subst this
    refine ⟨w, rfl, ?_, Bel.refl _ _⟩
    have : h.set b { ob with cells := putCells ob.cells (o + i) [] } = h := by
      apply List.ext_getElem?
      intro k
      by_cases e : b = k
      · subst e; rw [List.getElem?_set_self (lt_of_get hb), hb]; rfl
      · rw [List.getElem?_set_ne e]
    rw [this]; exact hr
  | cons c r ih =>
    intro us h w ob o i hr hb hl ho hu hn
    obtain ⟨u, us, rfl⟩ : ∃ u us', us = u :: us' := by
      cases us with
      | nil => simp [R2] at hu
      | cons u us => exact ⟨u, us, rfl⟩
    have hc : RC μ c u := hu.2 0 c u rfl rfl
    have hr2 : R2 (RC μ) r us := ⟨by simpa using hu.1, fun j a b ha hb => hu.2 (j + 1) a b (by simpa using ha) (by simpa using hb)⟩
    simp only [List.length_cons] at hn
    have hs := hr.set hb hl ho hm (j := o + i) (by omega) hc
    have hlt := lt_of_get hb
    obtain ⟨w', hrun, hr', hb'⟩ := ih (us := us) (h := h.set b { ob with cells := ob.cells.set (o + i) c }) (w := w.setCell ⟨l.B, l.base + (o + i), none⟩ u) (ob := { ob with cells := ob.cells.set (o + i) c }) (o := o) (i := i + 1) hs (List.getElem?_set_self hlt) hl ho hr2 (by simp; omega)
    refine ⟨w', ?_, ?_, ?_⟩
    · obtain ⟨l', arr, T, fr, hm', hh, hcs, hown⟩ := hr.ok b ob hb hl
      obtain rfl : l' = l := by rw [hm] at hm'; exact (Option.some.inj hm').symm
      obtain ⟨u0, hu0, _⟩ := hr.cell hb hl hm (j := o + i) (c := ob.cells[o + i]) (List.getElem?_eq_getElem (by omega))
      have hfz : w.frozen? ⟨l'.B, l'.base + (o + i), none⟩ = false := by
        simp [World.frozen?, hh, (hown ho).1]
      have hst : (store ⟨l'.B, l'.base + (o + i), none⟩ u).run P w = .ok () (w.setCell ⟨l'.B, l'.base + (o + i), none⟩ u) := by
        rw [run_store P w _ _ _ (RC.one hc), hu0]
        simp [hfz]
      have hadd : Addr.add ⟨l'.B, l'.base + o, none⟩ i = ⟨l'.B, l'.base + (o + i), none⟩ := by rw [addr_add, Nat.add_assoc]
      simp only [storeCells, Sem.run_bind, hadd, hst, Result.andThen_ok]
      exact hrun
    · rw [List.set_set] at hr'
      exact hr'
    · have hown := (hr.ok b ob hb hl)
      obtain ⟨l', arr, T, fr, hm', hh, hcs, hown⟩ := hown
      obtain rfl : l' = l := by rw [hm] at hm'; exact (Option.some.inj hm').symm
      exact (Bel.set (hown ho).2.1 u).trans hb'

def eStore (P : Program) (t : TypeId) (b o : Nat) (x : V1) (h : Heap) : Option Heap :=
  match h[b]?, P.info? t with
  | some ob, some i =>
    if ob.live = true ∧ ob.own = true ∧ x.cells.length = i.size ∧ o + x.cells.length ≤ ob.cells.length then some (h.set b { ob with cells := putCells ob.cells o x.cells }) else none
  | _, _ => none
theorem eStore_ok (P : Program) {t : TypeId} {b o : Nat} {x : V1} {h h' : Heap} (he : eStore P t b o x h = some h') {B0 : Pt} {μ : Mu} {w : World} (hr : HR B0 μ h w) {u v : Value} (hu : RC μ (.ptr b o) u) (hv : R1 μ x v) :
    ∃ w', (Instr.storeAt t u v).run P w = .ok () w' ∧ HR B0 μ h' w' ∧ Bel B0 w w' := by
  obtain ⟨l, hm, rfl⟩ := hu
  unfold eStore at he
  split at he
  · rename_i ob i hb hi
    split at he
    · rename_i hc
      obtain ⟨hl, ho, hs, hn⟩ := hc
      obtain rfl := Option.some.inj he
      have hcs := R1.cells hv
      obtain ⟨w', h1, h2, h3⟩ := HR.stores P hm x.cells (o := o) (i := 0) hr hb hl ho hcs (by omega)
      refine ⟨w', ?_, h2, h3⟩
      have hsz : v.cells.size = i.size := by rw [← hs, hcs.1]; simp
      simp only [Instr.storeAt, Instr.sureAddr, Sem.run_bind, Sem.run_pure, Result.andThen_ok, storeVar, rv_sizeOf P t i hi]
      simp only [hsz, ne_eq, not_true_eq_false, if_false]
      exact h1
    · cases he
  · cases he

theorem Bel.new {B0 : Pt} {w : World} (hB : ∀ k, B0.p k → k < w.heap.size) (o : Obj) : Bel B0 w (w.alloc o) := (Bel.refl _ _).alloc hB o

theorem eBox_ok (P : Program) {e : TypeId} {x : V1} {h : Heap} {B0 : Pt} {μ : Mu} {w : World} (hr : HR B0 μ h w) {u : Value} (hu : R1 μ x u) :
    ∃ r w' l, (Instr.box e u).run P w = .ok r w' ∧ HR B0 (Mu.add μ [l]) (h ++ [⟨x.cells, true, true⟩]) w' ∧ RV (Mu.add μ [l]) (.o (.c (.ptr h.length 0))) r ∧ Bel B0 w w' := by
  have ha := hr.alloc (R1.cells hu) e [] (by simp)
  refine ⟨.pointer (some ⟨w.heap.size, 0, none⟩), w.alloc (.cells u.cells e), ⟨w.heap.size, 0, u.cells.size⟩, ?_, by simpa using ha, ⟨⟨w.heap.size, 0, u.cells.size⟩, ?_, rfl⟩, Bel.new hr.size _⟩
  · simp [Instr.box, newVar, newRow]
  · show (μ.ls ++ [_])[h.length]? = _
    rw [← hr.len]; simp

def zeroOf (P : Program) (e : TypeId) : Option (List Cell) :=
  match P.info? e with
  | some i => match i.zero with
    | some z => if z.cells.toList.all (·.oneCell') then some (z.cells.toList.map .v) else none
    | none => none
  | none => none
theorem zeroOf_ok {P : Program} {e : TypeId} {cs : List Cell} (h : zeroOf P e = some cs) : ∃ i z, P.info? e = some i ∧ i.zero = some z ∧ ∀ μ, R2 (RC μ) cs z.cells.toList := by
  unfold zeroOf at h
  split at h
  · rename_i i hi
    split at h
    · rename_i z hz
      split at h
      · rename_i hall
        obtain rfl := Option.some.inj h
        refine ⟨i, z, hi, hz, fun μ => ⟨by simp, fun j a b ha hb => ?_⟩⟩
        rw [List.getElem?_map, Option.map_eq_some_iff] at ha
        obtain ⟨y, hy, rfl⟩ := ha
        rw [hy] at hb
        obtain rfl := Option.some.inj hb
        exact ⟨rfl, (List.all_eq_true.1 hall) _ (List.mem_of_getElem? hy)⟩
      · cases h
    · cases h
  · cases h
theorem eAlloc_ok (P : Program) {e : TypeId} {cs : List Cell} {h : Heap} (hz : zeroOf P e = some cs) {B0 : Pt} {μ : Mu} {w : World} (hr : HR B0 μ h w) :
    ∃ r w' l, (Instr.alloc e true (.tuple #[])).run P w = .ok r w' ∧ HR B0 (Mu.add μ [l]) (h ++ [⟨cs, true, true⟩]) w' ∧ RV (Mu.add μ [l]) (.o (.c (.ptr h.length 0))) r ∧ Bel B0 w w' := by
  obtain ⟨i, z, hi, hzz, hrel⟩ := zeroOf_ok hz
  have ha := hr.alloc (hrel μ) e [] (by simp)
  refine ⟨.pointer (some ⟨w.heap.size, 0, none⟩), w.alloc (.cells z.cells e), ⟨w.heap.size, 0, z.cells.size⟩, ?_, by simpa using ha, ⟨⟨w.heap.size, 0, z.cells.size⟩, ?_, rfl⟩, Bel.new hr.size _⟩
  · simp [Instr.alloc, zeroValue, typeInfo, hi, hzz, newVar, newRow]
  · show (μ.ls ++ [_])[h.length]? = _
    rw [← hr.len]; simp

def eFieldAddr (P : Program) (s : TypeId) (b o f : Nat) : Option AV :=
  match P.underlying s with
  | some (.struct fields) => match fields[f]? with
    | some fd => match P.info? fd.type with
      | some i => if i.size = 0 then none else some (.o (.c (.ptr b (o + fd.offset))))
      | none => none
    | none => none
  | _ => none
theorem eFieldAddr_ok (P : Program) {s : TypeId} {b o f : Nat} {v : AV} (he : eFieldAddr P s b o f = some v) {μ : Mu} (w : World) {u : Value} (hu : RC μ (.ptr b o) u) :
    ∃ r, (Instr.fieldAt s u f).run P w = .ok r w ∧ RV μ v r := by
  obtain ⟨l, hm, rfl⟩ := hu
  unfold eFieldAddr at he
  split at he
  · rename_i fields hs
    split at he
    · rename_i fd hf
      split at he
      · rename_i i hi
        split at he
        · cases he
        · rename_i hz
          obtain rfl := Option.some.inj he
          refine ⟨.pointer (some ⟨l.B, l.base + (o + fd.offset), none⟩), ?_, l, hm, rfl⟩
          simp only [Instr.fieldAt, Sem.run_bind, run_underlying hs, Result.andThen_ok, hf, Instr.sureAddr, Sem.run_pure, fieldPlace, rv_sizeOf P _ i hi, hz, if_false, addr_add, Nat.add_assoc]
      · cases he
    · cases he
  · cases he

def eFieldR (P : Program) (s : TypeId) (cs : List Cell) (f : Nat) : Option AV :=
  match P.underlying s with
  | some (.struct fields) => match fields[f]? with
    | some fd => match P.info? fd.type with
      | some i => if i.size = 0 then none else some (.o (.c (.rp (cs.drop fd.offset))))
      | none => none
    | none => none
  | _ => none
theorem rp_drop {μ : Mu} {cs : List Cell} {B o n : Nat} (hc : ∀ (j : Nat) (c : Cell), cs[j]? = some c → ∃ val, μ.F B (o + j) = some val ∧ FC μ.F c val) : RC μ (.rp (cs.drop n)) (.pointer (some ⟨B, o + n, none⟩)) := by
  refine ⟨B, o + n, rfl, fun j c hj => ?_⟩
  rw [List.getElem?_drop] at hj
  rw [Nat.add_assoc]
  exact hc (n + j) c hj
theorem eFieldR_ok (P : Program) {s : TypeId} {cs : List Cell} {f : Nat} {v : AV} (he : eFieldR P s cs f = some v) {μ : Mu} (w : World) {u : Value} (hu : RC μ (.rp cs) u) :
    ∃ r, (Instr.fieldAt s u f).run P w = .ok r w ∧ RV μ v r := by
  obtain ⟨B, o, rfl, hc⟩ := hu
  unfold eFieldR at he
  split at he
  · rename_i fields hs
    split at he
    · rename_i fd hf
      split at he
      · rename_i i hi
        split at he
        · cases he
        · rename_i hz
          obtain rfl := Option.some.inj he
          refine ⟨.pointer (some ⟨B, o + fd.offset, none⟩), ?_, rp_drop hc⟩
          simp only [Instr.fieldAt, Sem.run_bind, run_underlying hs, Result.andThen_ok, hf, Instr.sureAddr, Sem.run_pure, fieldPlace, rv_sizeOf P _ i hi, hz, if_false, addr_add]
      · cases he
    · cases he
  · cases he
def eIndexR (P : Program) (t : TypeId) (cs : List Cell) (i : Int) : Option AV :=
  match P.underlying t with
  | some (.array len e) => match P.info? e with
    | some inf => if 0 ≤ i ∧ i < len then some (.o (.c (.rp (cs.drop (i.toNat * inf.size))))) else none
    | none => none
  | _ => none
theorem eIndexR_ok (P : Program) {t : TypeId} {cs : List Cell} {k : IntKind} {i : Int} {v : AV} (he : eIndexR P t cs i = some v) {μ : Mu} (w : World) {u : Value} (hu : RC μ (.rp cs) u) :
    ∃ r, (Instr.indexAt t u (.int k i)).run P w = .ok r w ∧ RV μ v r := by
  obtain ⟨B, o, rfl, hc⟩ := hu
  unfold eIndexR at he
  split at he
  · rename_i len e hs
    split at he
    · rename_i inf hi
      split at he
      · rename_i hcn
        obtain rfl := Option.some.inj he
        refine ⟨.pointer (some ⟨B, o + i.toNat * inf.size, none⟩), ?_, rp_drop hc⟩
        simp only [Instr.indexAt, asIntOf, Sem.run_bind, Sem.run_pure, Result.andThen_ok, run_underlying hs, Instr.sureAddr]
        rw [if_pos hcn]
        simp only [Sem.run_bind, rv_sizeOf P _ inf hi, Result.andThen_ok, Sem.run_pure, addr_add]
      · cases he
    · cases he
  · cases he
/-- An element of a slice that stays. -/
def eIndexL (P : Program) (t : TypeId) (k : Nat) (xs : List (List Cell)) (i : Int) : Option AV :=
  match P.underlying t with
  | some (.slice e) => match P.info? e with
    | some inf => if inf.size = k ∧ 0 ≤ i then match xs[i.toNat]? with
      | some ps => some (.o (.c (.rp ps)))
      | none => none
      else none
    | none => none
  | _ => none
theorem eIndexL_ok (P : Program) {t : TypeId} {kk : Nat} {xs : List (List Cell)} {k : IntKind} {i : Int} {v : AV} (he : eIndexL P t kk xs i = some v) {μ : Mu} (w : World) {u : Value} (hu : LR μ.F kk xs u) :
    ∃ r, (Instr.indexAt t u (.int k i)).run P w = .ok r w ∧ RV μ v r := by
  obtain ⟨A, c, rfl, hlc, hnil, hpos⟩ := LR.addr hu
  unfold eIndexL at he
  split at he
  · rename_i e hs
    split at he
    · rename_i inf hi
      split at he
      · rename_i hcn
        obtain ⟨rfl, h0⟩ := hcn
        split at he
        · rename_i ps hps
          obtain rfl := Option.some.inj he
          have hlt := lt_of_get hps
          obtain ⟨B, o, rfl, hel⟩ := hpos (fun e => by subst e; simp at hps)
          refine ⟨.pointer (some ⟨B, o + i.toNat * inf.size, none⟩), ?_, B, _, rfl, (hel _ ps hps).2⟩
          simp only [Instr.indexAt, asIntOf, Sem.run_bind, Sem.run_pure, Result.andThen_ok, run_underlying hs]
          rw [if_pos (by omega)]
          simp only [Sem.run_bind, rv_sizeOf P _ inf hi, Result.andThen_ok, Sem.run_pure, addr_add]
        · cases he
      · cases he
    · cases he
  · cases he
theorem g_sl {μ : Mu} {b n k : Nat} {u : Value} (h : RC μ (.g b n k true) u) : RC μ (.sl b 0 n n k false) u := by
  obtain ⟨l, c', h1, h2, h3, h4⟩ := h.2 rfl
  exact ⟨l, c', h1, h2, h3, nofun, by omega⟩
def eIndexArr (P : Program) (t : TypeId) (b o : Nat) (i : Int) : Option AV :=
  match P.underlying t with
  | some (.array len e) => match P.info? e with
    | some inf => if 0 ≤ i ∧ i < len then some (.o (.c (.ptr b (o + i.toNat * inf.size)))) else none
    | none => none
  | _ => none
theorem eIndexArr_ok (P : Program) {t : TypeId} {b o : Nat} {k : IntKind} {i : Int} {v : AV} (he : eIndexArr P t b o i = some v) {μ : Mu} (w : World) {u : Value} (hu : RC μ (.ptr b o) u) :
    ∃ r, (Instr.indexAt t u (.int k i)).run P w = .ok r w ∧ RV μ v r := by
  obtain ⟨l, hm, rfl⟩ := hu
  unfold eIndexArr at he
  split at he
  · rename_i len e hs
    split at he
    · rename_i inf hi
      split at he
      · rename_i hc
        obtain rfl := Option.some.inj he
        refine ⟨.pointer (some ⟨l.B, l.base + (o + i.toNat * inf.size), none⟩), ?_, l, hm, rfl⟩
        simp only [Instr.indexAt, asIntOf, Sem.run_bind, Sem.run_pure, Result.andThen_ok, run_underlying hs, Instr.sureAddr]
        rw [if_pos hc]
        simp only [Sem.run_bind, rv_sizeOf P _ inf hi, Result.andThen_ok, Sem.run_pure, addr_add, Nat.add_assoc]
      · cases he
    · cases he
  · cases he
def eIndexSl (P : Program) (t : TypeId) (b o n : Nat) (i : Int) : Option AV :=
  match P.underlying t with
  | some (.slice e) => match P.info? e with
    | some inf => if 0 ≤ i ∧ i < n then some (.o (.c (.ptr b (o + i.toNat * inf.size)))) else none
    | none => none
  | _ => none
theorem eIndexSl_ok (P : Program) {t : TypeId} {b o n c kk : Nat} {ex : Bool} {k : IntKind} {i : Int} {v : AV} (he : eIndexSl P t b o n i = some v) {μ : Mu} (w : World) {u : Value} (hu : RC μ (.sl b o n c kk ex) u) :
    ∃ r, (Instr.indexAt t u (.int k i)).run P w = .ok r w ∧ RV μ v r := by
  obtain ⟨l, c', hm, rfl, _⟩ := hu
  unfold eIndexSl at he
  split at he
  · rename_i e hs
    split at he
    · rename_i inf hi
      split at he
      · rename_i hc
        obtain rfl := Option.some.inj he
        refine ⟨.pointer (some ⟨l.B, l.base + (o + i.toNat * inf.size), none⟩), ?_, l, hm, rfl⟩
        simp only [Instr.indexAt, asIntOf, Sem.run_bind, Sem.run_pure, Result.andThen_ok, run_underlying hs]
        rw [if_pos hc]
        simp only [Sem.run_bind, rv_sizeOf P _ inf hi, Result.andThen_ok, Sem.run_pure, addr_add, Nat.add_assoc]
      · cases he
    · cases he
  · cases he

theorem eIndexRd_ok (P : Program) {t : TypeId} {b o n kk : Nat} {k : IntKind} {i : Int} {v : AV} (he : eIndexSl P t b o n i = some v) {μ : Mu} (w : World) {u : Value} (hu : RC μ (.rd b o n kk) u) :
    ∃ r, (Instr.indexAt t u (.int k i)).run P w = .ok r w ∧ RV μ v r := by
  obtain ⟨A, c', rfl, _, _, hpos⟩ := hu
  unfold eIndexSl at he
  split at he
  · rename_i e hs
    split at he
    · rename_i inf hi
      split at he
      · rename_i hc
        obtain rfl := Option.some.inj he
        obtain ⟨l, hm, rfl, _⟩ := hpos (by omega)
        refine ⟨.pointer (some ⟨l.B, l.base + (o + i.toNat * inf.size), none⟩), ?_, l, hm, rfl⟩
        simp only [Instr.indexAt, asIntOf, Sem.run_bind, Sem.run_pure, Result.andThen_ok, run_underlying hs]
        rw [if_pos hc]
        simp only [Sem.run_bind, rv_sizeOf P _ inf hi, Result.andThen_ok, Sem.run_pure, addr_add, Nat.add_assoc]
      · cases he
    · cases he
  · cases he

theorem eIndexG_ok (P : Program) {t : TypeId} {b n kk : Nat} {lv : Bool} {k : IntKind} {i : Int} {v : AV} (he : eIndexSl P t b 0 n i = some v) {μ : Mu} (w : World) {u : Value} (hu : RC μ (.g b n kk lv) u) :
    ∃ r, (Instr.indexAt t u (.int k i)).run P w = .ok r w ∧ RV μ v r := by
  cases lv with
  | true => exact eIndexSl_ok P he w (g_sl hu)
  | false =>
    obtain ⟨rfl, _⟩ := hu.1 rfl
    unfold eIndexSl at he
    split at he
    · split at he
      · split at he
        · omega
        · cases he
      · cases he
    · cases he
def ePart (P : Program) (t : TypeId) (cs : List Cell) (off : Nat) : Option AV :=
  match P.underlying t, P.info? t with
  | some d, some i =>
    if isAggD d = true then if ((cs.drop off).take i.size).length = i.size then some (.o (.agg ((cs.drop off).take i.size))) else none
    else match cs[off]? with | some c => some (.o (.c c)) | none => none
  | _, _ => none
theorem ePart_ok (P : Program) {t : TypeId} {cs : List Cell} {off : Nat} {v : AV} (he : ePart P t cs off = some v) {μ : Mu} (w : World) {us : Array Value} (hu : R2 (RC μ) cs us.toList) :
    ∃ r, (part t us off).run P w = .ok r w ∧ RV μ v r := by
  unfold ePart at he
  split at he
  · rename_i d i hd hi
    split at he
    · rename_i ha
      split at he
      · rename_i hn
        obtain rfl := Option.some.inj he
        refine ⟨.agg (us.extract off (off + i.size)), ?_, _, rfl, ?_⟩
        · simp [part, rv_isAgg P t d hd, ha, rv_sizeOf P t i hi]
        · have := (hu.drop off).take i.size
          simpa [Array.toList_extract, List.extract_eq_take_drop] using this
      · cases he
    · rename_i ha
      split at he
      · rename_i c hc
        obtain rfl := Option.some.inj he
        obtain ⟨u, hu', hr⟩ := hu.get hc
        refine ⟨u, ?_, hr⟩
        have hu2 : us[off]? = some u := by simpa using hu'
        simp [part, rv_isAgg P t d hd, ha, hu2]
      · cases he
  · cases he
def eField (P : Program) (s : TypeId) (cs : List Cell) (f : Nat) : Option AV :=
  match P.underlying s with
  | some (.struct fields) => match fields[f]? with
    | some fd => ePart P fd.type cs fd.offset
    | none => none
  | _ => none
theorem eField_ok (P : Program) {s : TypeId} {cs : List Cell} {f : Nat} {v : AV} (he : eField P s cs f = some v) {μ : Mu} (w : World) {u : Value} (hu : R1 μ (.agg cs) u) :
    ∃ r, (Instr.field s u f).run P w = .ok r w ∧ RV μ v r := by
  obtain ⟨us, rfl, h2⟩ := hu
  unfold eField at he
  split at he
  · rename_i fields hs
    split at he
    · rename_i fd hf
      obtain ⟨r, h1, h3⟩ := ePart_ok P he w h2
      exact ⟨r, by simp [Instr.field, run_underlying hs, hf, asAgg, h1], h3⟩
    · cases he
  · cases he
def eIndexA (P : Program) (t : TypeId) (cs : List Cell) (n : Int) : Option AV :=
  match P.underlying t with
  | some (.array len e) => match P.info? e with
    | some i => if 0 ≤ n ∧ n < len then ePart P e cs (n.toNat * i.size) else none
    | none => none
  | _ => none
theorem eIndexA_ok (P : Program) {t : TypeId} {cs : List Cell} {k : IntKind} {n : Int} {v : AV} (he : eIndexA P t cs n = some v) {μ : Mu} (w : World) {u : Value} (hu : R1 μ (.agg cs) u) :
    ∃ r, (Instr.index t u (.int k n)).run P w = .ok r w ∧ RV μ v r := by
  obtain ⟨us, rfl, h2⟩ := hu
  unfold eIndexA at he
  split at he
  · rename_i len e hs
    split at he
    · rename_i i hi
      split at he
      · rename_i hn
        obtain ⟨r, h1, h3⟩ := ePart_ok P he w h2
        refine ⟨r, ?_, h3⟩
        simp [Instr.index, asIntOf, run_underlying hs, hn, rv_sizeOf P _ i hi, h1]
      · cases he
    · cases he
  · cases he
def eIndexS (P : Program) (t : TypeId) (s : ByteArray) (i : Int) : Option Value :=
  match P.underlying t with
  | some .string => if 0 ≤ i then match s[i.toNat]? with | some b => some (.int .u8 b.toNat) | none => none else none
  | _ => none
theorem eIndexS_ok (P : Program) {t : TypeId} {s : ByteArray} {k : IntKind} {i : Int} {v : Value} (he : eIndexS P t s i = some v) (w : World) :
    (Instr.index t (.string s) (.int k i)).run P w = .ok v w ∧ v.oneCell' = true := by
  unfold eIndexS at he
  split at he
  · rename_i hs
    split at he
    · rename_i h0
      split at he
      · rename_i b hb
        obtain rfl := Option.some.inj he
        exact ⟨by simp [Instr.index, asIntOf, run_underlying hs, h0, hb], rfl⟩
      · cases he
    · cases he
  · cases he
end Rv
