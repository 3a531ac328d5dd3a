import Derived.Test.YtnlpkgamglhnbaaRvAppend
set_option linter.unusedVariables false
set_option linter.unusedSimpArgs false
namespace Rv
open Go Go.RowKit

theorem set_same {h : Heap} {b : Nat} {ob : AO} (hb : h[b]? = some ob) : h.set b ob = h := by
  apply List.ext_getElem?
  intro k
  by_cases e : b = k
  · subst e; rw [List.getElem?_set_self (lt_of_get hb), hb]
  · rw [List.getElem?_set_ne e]

def eCopy (P : Program) (t : TypeId) (d x : Cell) (h : Heap) : Option (Nat × Heap) :=
  match P.underlying t with
  | some (.slice e) => match P.info? e with
    | some i => match srcCells x i.size h with
      | some (m, cs) => match d with
        | .sl b o n c k ex => if min m n = 0 then some (0, h) else match h[b]? with
          | some ob => if ob.live = true ∧ ob.own = true ∧ o + min m n * i.size ≤ ob.cells.length then some (min m n, h.set b { ob with cells := putCells ob.cells o (cs.take (min m n * i.size)) }) else none
          | none => none
        | .emp => some (0, h)
        | .v (.slice none 0 0) => some (0, h)
        | _ => none
      | none => none
    | none => none
  | _ => none
theorem run_copy_of (P : Program) (w w' : World) {t t2 ty e : TypeId} {i : TypeInfo} (ht : P.underlying t = some (.slice e)) (hi : P.info? e = some i) (a : Addr) (n c m : Nat) (u : Value) (new : List Value)
    (hlen : (Builtin.lenOf u).run P w = .ok m w) (hf : (Builtin.firstCells i.size (min m n) u).run P w = .ok new.toArray w) (hst : (storeCells a new).run P w = .ok () w') :
    (Builtin.copy_ #[t, t2] ty #[.slice (some a) n c, u]).run P w = .ok (.int .i64 ((min m n : Nat) : Int)) w' := by
  have hf' : (Builtin.firstCells i.size (Nat.min m n) u).run P w = .ok new.toArray w := hf
  simp only [Builtin.copy_, run_underlying ht, Sem.run_bind, Sem.run_pure, Result.andThen_ok, hlen, rv_sizeOf P e i hi, hf', hst, List.getElem?_toArray, List.getElem?_cons_zero, List.getElem?_cons_succ]
  rfl
theorem run_copy_nil (P : Program) (w : World) {t t2 ty e : TypeId} {i : TypeInfo} (ht : P.underlying t = some (.slice e)) (hi : P.info? e = some i) (c m : Nat) (u : Value)
    (hlen : (Builtin.lenOf u).run P w = .ok m w) (hf : (Builtin.firstCells i.size 0 u).run P w = .ok #[] w) :
    (Builtin.copy_ #[t, t2] ty #[.slice none 0 c, u]).run P w = .ok (goInt 0) w := by
  have hf' : (Builtin.firstCells i.size (Nat.min m 0) u).run P w = .ok #[] w := by rw [show Nat.min m 0 = 0 from Nat.min_zero m]; exact hf
  have h0 : Nat.min m 0 = 0 := Nat.min_zero m
  simp only [Builtin.copy_, run_underlying ht, Sem.run_bind, Sem.run_pure, Result.andThen_ok, hlen, rv_sizeOf P e i hi, hf', List.getElem?_toArray, List.getElem?_cons_zero, List.getElem?_cons_succ, h0, hf]
  rfl
theorem eCopy_ok (P : Program) {t t2 ty : TypeId} {d x : Cell} {h h' : Heap} {q : Nat} (he : eCopy P t d x h = some (q, h')) {B0 : Pt} {μ : Mu} {w : World} (hr : HR B0 μ h w) {ud ux : Value} (hd : RC μ d ud) (hx : RC μ x ux) :
    ∃ w', (Builtin.copy_ #[t, t2] ty #[ud, ux]).run P w = .ok (.int .i64 q) w' ∧ HR B0 μ h' w' ∧ Bel B0 w w' := by
  unfold eCopy at he
  split at he
  · rename_i e ht
    split at he
    · rename_i i hi
      split at he
      · rename_i m cs hsrc
        obtain ⟨hcl, hlen, vs, hvs, hf, hpos⟩ := srcCells_ok P hsrc hr hx
        have hf0 : (Builtin.firstCells i.size 0 ux).run P w = .ok #[] w := by simpa using hf 0 (Nat.zero_le _)
        split at he
        · rename_i b o n c k ex
          obtain ⟨l, c', hm, rfl, _⟩ := hd
          split at he
          · rename_i h0
            obtain ⟨rfl, rfl⟩ := Prod.mk.inj (Option.some.inj he)
            refine ⟨w, ?_, hr, Bel.refl _ _⟩
            have := run_copy_of P w w (t2 := t2) (ty := ty) ht hi ⟨l.B, l.base + o, none⟩ n c' m ux [] hlen (by rw [h0]; exact hf0) rfl
            rw [h0] at this
            exact this
          · split at he
            · rename_i ob hb
              split at he
              · rename_i hc
                obtain ⟨hl, ho, hfit⟩ := hc
                obtain ⟨rfl, rfl⟩ := Prod.mk.inj (Option.some.inj he)
                have hle : min m n ≤ m := Nat.min_le_left _ _
                have hcl2 : (cs.take (min m n * i.size)).length = min m n * i.size := by rw [List.length_take, hcl]; exact Nat.min_eq_left (Nat.mul_le_mul_right _ hle)
                obtain ⟨w', h1, h2, h3⟩ := HR.stores P hm (cs.take (min m n * i.size)) (o := o) (i := 0) hr hb hl ho (hvs.take _) (by rw [hcl2]; omega)
                exact ⟨w', run_copy_of P w w' ht hi _ n c' m ux _ hlen (hf _ hle) h1, h2, h3⟩
              · cases he
            · cases he
        · obtain ⟨A, c', rfl⟩ := hd
          obtain ⟨rfl, rfl⟩ := Prod.mk.inj (Option.some.inj he)
          refine ⟨w, ?_, hr, Bel.refl _ _⟩
          cases A with
          | none => exact run_copy_nil P w ht hi c' m ux hlen hf0
          | some a =>
            have := run_copy_of P w w (t2 := t2) (ty := ty) ht hi a 0 c' m ux [] hlen (by rw [Nat.min_zero]; exact hf0) rfl
            rw [Nat.min_zero] at this
            exact this
        · obtain ⟨rfl, _⟩ := hd
          obtain ⟨rfl, rfl⟩ := Prod.mk.inj (Option.some.inj he)
          exact ⟨w, run_copy_nil P w ht hi 0 m ux hlen hf0, hr, Bel.refl _ _⟩
        · cases he
      · cases he
    · cases he
  · cases he

def eClear (P : Program) (t : TypeId) (x : Cell) (h : Heap) : Option Heap :=
  match P.underlying t with
  | some (.slice e) => match P.info? e, zeroOf P e with
    | some i, some z => match x with
      | .sl b o n c k ex => if n = 0 then some h else match h[b]? with
        | some ob => if ob.live = true ∧ ob.own = true ∧ 0 < z.length ∧ o + n * z.length ≤ ob.cells.length then some (h.set b { ob with cells := putCells ob.cells o (List.replicate n z).flatten }) else none
        | none => none
      | .emp => some h
      | .v (.slice none 0 0) => some h
      | _ => none
    | _, _ => none
  | _ => none
theorem eClear_ok (P : Program) {t ty : TypeId} {x : Cell} {h h' : Heap} (he : eClear P t x h = some h') {B0 : Pt} {μ : Mu} {w : World} (hr : HR B0 μ h w) {ux : Value} (hx : RC μ x ux) :
    ∃ w', (Builtin.clear_ #[t] ty #[ux]).run P w = .ok (.tuple #[]) w' ∧ HR B0 μ h' w' ∧ Bel B0 w w' := by
  unfold eClear at he
  split at he
  · rename_i e ht
    split at he
    · rename_i i z hi hz
      obtain ⟨i', zv, hi', hzz, hrel⟩ := zeroOf_ok hz
      split at he
      · rename_i b o n c k ex
        obtain ⟨l, c', hm, rfl, _⟩ := hx
        split at he
        · rename_i h0
          subst h0
          obtain rfl := Option.some.inj he
          exact ⟨w, by simp [Builtin.clear_, run_underlying ht], hr, Bel.refl _ _⟩
        · rename_i h0
          split at he
          · rename_i ob hb
            split at he
            · rename_i hc
              obtain ⟨hl, ho, hz0, hfit⟩ := hc
              obtain rfl := Option.some.inj he
              have hzr := zeros_rel (hrel μ) n hz0
              have hzs : z.length = zv.cells.size := by have := (hrel μ).1; simpa using this
              obtain ⟨w', h1, h2, h3⟩ := HR.stores P hm (List.replicate n z).flatten (o := o) (i := 0) hr hb hl ho hzr (by rw [flat_rep_length]; omega)
              refine ⟨w', ?_, h2, h3⟩
              have hzc : Builtin.zeroCells zv.cells n = madeCells zv.cells (n * z.length) := by rw [hzs]; rfl
              have hst : (storeCells ⟨l.B, l.base + o, none⟩ (Builtin.zeroCells zv.cells n).toList 0).run P w = .ok () w' := by rw [hzc]; exact h1
              obtain ⟨n', rfl⟩ : ∃ n', n = n' + 1 := ⟨n - 1, by omega⟩
              simp [Builtin.clear_, run_underlying ht, zeroValue, typeInfo, hi', hzz, hst]
            · cases he
          · cases he
      · obtain ⟨A, c', rfl⟩ := hx
        obtain rfl := Option.some.inj he
        refine ⟨w, ?_, hr, Bel.refl _ _⟩
        cases A <;> simp [Builtin.clear_, run_underlying ht]
      · obtain ⟨rfl, _⟩ := hx
        obtain rfl := Option.some.inj he
        exact ⟨w, by simp [Builtin.clear_, run_underlying ht], hr, Bel.refl _ _⟩
      · cases he
    · cases he
  · cases he

def eLen (P : Program) (t : TypeId) (x : AV) : Option Nat :=
  match P.underlying t with
  | some .string => match x with | .o (.c (.v (.string s))) => some s.size | _ => none
  | some (.array n _) => some n
  | some (.slice _) => match x with
    | .o (.c (.sl b o n c k ex)) => some n
    | .o (.c (.rd b o n k)) => some n
    | .o (.c (.L k xs)) => some xs.length
    | .o (.c (.g b n k lv)) => some n
    | .o (.c (.LC k xs)) => some xs.length
    | .o (.c .emp) => some 0
    | .o (.c (.v (.slice none 0 0))) => some 0
    | _ => none
  | _ => none
theorem eLen_ok (P : Program) {t ty : TypeId} {x : AV} {n : Nat} (he : eLen P t x = some n) {μ : Mu} (w : World) {u : Value} (hx : RV μ x u) : (Builtin.len_ #[t] ty #[u]).run P w = .ok (.int .i64 n) w := by
  unfold eLen at he
  split at he
  · rename_i ht
    split at he
    · obtain rfl := Option.some.inj he
      obtain ⟨rfl, _⟩ := hx
      simp [Builtin.len_, run_underlying ht, goInt]
    · cases he
  · rename_i ht
    obtain rfl := Option.some.inj he
    cases u <;> simp [Builtin.len_, run_underlying ht, goInt]
  · rename_i ht
    split at he
    · obtain rfl := Option.some.inj he
      obtain ⟨l, c', _, rfl, _⟩ := hx
      simp [Builtin.len_, run_underlying ht, goInt]
    · obtain rfl := Option.some.inj he
      obtain ⟨A, c', rfl, _⟩ := hx
      simp [Builtin.len_, run_underlying ht, goInt]
    · obtain rfl := Option.some.inj he
      obtain ⟨A, c', rfl, _⟩ := LR.addr hx
      simp [Builtin.len_, run_underlying ht, goInt]
    · rename_i b k lv
      obtain rfl := Option.some.inj he
      cases lv with
      | false =>
        obtain ⟨rfl, A, rfl⟩ := hx.1 rfl
        simp [Builtin.len_, run_underlying ht, goInt]
      | true =>
        obtain ⟨l, c', _, rfl, _⟩ := hx.2 rfl
        simp [Builtin.len_, run_underlying ht, goInt]
    · obtain rfl := Option.some.inj he
      obtain ⟨A, rfl⟩ := hx.2
      simp [Builtin.len_, run_underlying ht, goInt]
    · obtain rfl := Option.some.inj he
      obtain ⟨A, c', rfl⟩ := hx
      simp [Builtin.len_, run_underlying ht, goInt]
    · obtain rfl := Option.some.inj he
      obtain ⟨rfl, _⟩ := hx
      simp [Builtin.len_, run_underlying ht, goInt]
    · cases he
  · cases he
def eCap (P : Program) (t : TypeId) (x : AV) : Option Nat :=
  match P.underlying t with
  | some (.slice _) => match x with
    | .o (.c (.sl b o n c k true)) => some c
    | .o (.c (.v (.slice none 0 0))) => some 0
    | _ => none
  | _ => none
theorem eCap_ok (P : Program) {t ty : TypeId} {x : AV} {n : Nat} (he : eCap P t x = some n) {μ : Mu} (w : World) {u : Value} (hx : RV μ x u) : (Builtin.cap_ #[t] ty #[u]).run P w = .ok (.int .i64 n) w := by
  unfold eCap at he
  split at he
  · rename_i e ht
    split at he
    · obtain rfl := Option.some.inj he
      obtain ⟨l, c', _, rfl, _, hex, _⟩ := hx
      rw [hex rfl]
      simp [Builtin.cap_, run_underlying ht, goInt]
    · obtain rfl := Option.some.inj he
      obtain ⟨rfl, _⟩ := hx
      simp [Builtin.cap_, run_underlying ht, goInt]
    · cases he
  · cases he

def fillA (place : Nat → Option (Nat × Nat)) (cells : List Cell) : List (Nat × V1) → Option (List Cell)
  | [] => some cells
  | (i, v) :: rest => match place i with
    | none => none
    | some (off, size) => if v.cells.length = size ∧ off + v.cells.length ≤ cells.length then fillA place (putCells cells off v.cells) rest else none
theorem fold_put {μ : Mu} (new : List Cell) : ∀ (cs : List Cell) (us : Array Value) (vs : List Value) (off j : Nat), R2 (RC μ) cs us.toList → R2 (RC μ) new vs → off + j + new.length ≤ cs.length →
    R2 (RC μ) (putCells cs (off + j) new) ((vs.zipIdx j).foldl (fun cs (x : Value × Nat) => cs.setIfInBounds (off + x.2) x.1) us).toList := by
  induction new with
  | nil =>
    intro cs us vs off j h1 h2 _
    have : vs = [] := List.eq_nil_of_length_eq_zero (by simpa using h2.1.symm)
    subst this
    exact h1
  | cons c r ih =>
    intro cs us vs off j h1 h2 hn
    obtain ⟨u, vs', rfl⟩ : ∃ u vs', vs = u :: vs' := by
      cases vs with
      | nil => simp [R2] at h2
      | cons u vs => exact ⟨u, vs, rfl⟩
    have hc : RC μ c u := h2.2 0 c u rfl rfl
    have hr : R2 (RC μ) r vs' := ⟨by simpa using h2.1, fun k a b ha hb => h2.2 (k + 1) a b (by simpa using ha) (by simpa using hb)⟩
    simp only [List.zipIdx_cons, List.foldl_cons, putCells]
    simp only [List.length_cons] at hn
    refine ih (cs.set (off + j) c) (us.setIfInBounds (off + j) u) vs' off (j + 1) ⟨by simpa using h1.1, fun k a b ha hb => ?_⟩ hr (by simp; omega)
    rw [Array.toList_setIfInBounds] at hb
    by_cases e : off + j = k
    · subst e
      have hl := h1.1
      rw [List.getElem?_set_self (by omega)] at ha
      rw [List.getElem?_set_self (by omega)] at hb
      obtain rfl := Option.some.inj ha
      obtain rfl := Option.some.inj hb
      exact hc
    · rw [List.getElem?_set_ne e] at ha hb
      exact h1.2 k a b ha hb
theorem fillA_ok {μ : Mu} {place : Nat → Option (Nat × Nat)} : ∀ {parts : List (Nat × V1)} {cs cs' : List Cell} {us : Array Value} {vparts : List (Nat × Value)}, fillA place cs parts = some cs' → R2 (RC μ) cs us.toList → R2 (fun a b => a.1 = b.1 ∧ R1 μ a.2 b.2) parts vparts →
    ∃ us', Instr.fill place us vparts = some us' ∧ R2 (RC μ) cs' us'.toList := by
  intro parts
  induction parts with
  | nil =>
    intro cs cs' us vparts h1 h2 h3
    have : vparts = [] := List.eq_nil_of_length_eq_zero (by simpa using h3.1.symm)
    subst this
    obtain rfl := Option.some.inj h1
    exact ⟨us, rfl, h2⟩
  | cons p rest ih =>
    intro cs cs' us vparts h1 h2 h3
    obtain ⟨i, v⟩ := p
    obtain ⟨q, vr, rfl⟩ : ∃ q vr, vparts = q :: vr := by
      cases vparts with
      | nil => simp [R2] at h3
      | cons q vr => exact ⟨q, vr, rfl⟩
    obtain ⟨e1, e2⟩ := h3.2 0 _ _ rfl rfl
    obtain ⟨i', u⟩ := q
    simp only at e1 e2
    subst e1
    have hrest : R2 (fun a b => a.1 = b.1 ∧ R1 μ a.2 b.2) rest vr := ⟨by simpa using h3.1, fun k a b ha hb => h3.2 (k + 1) a b (by simpa using ha) (by simpa using hb)⟩
    simp only [fillA] at h1
    split at h1
    · cases h1
    · rename_i off size hp
      split at h1
      · rename_i hc
        have hcells := R1.cells e2
        have hsz : u.cells.size = v.cells.length := by rw [hcells.1]; simp
        have hus : us.size = cs.length := by rw [h2.1]; simp
        have hput := fold_put (μ := μ) v.cells cs us u.cells.toList off 0 h2 hcells (by omega)
        obtain ⟨us', g1, g2⟩ := ih h1 hput hrest
        refine ⟨us', ?_, g2⟩
        simp only [Instr.fill, hp]
        rw [if_neg (by simp only [Bool.or_eq_true, decide_eq_true_eq, ne_eq]; omega)]
        rw [← Array.foldl_toList, Array.toList_zipIdx]
        exact g1
      · cases h1

def sizesOf (P : Program) : List Field → Option (List (Nat × Nat))
  | [] => some []
  | f :: r => match P.info? f.type, sizesOf P r with
    | some i, some l => some ((f.offset, i.size) :: l)
    | _, _ => none
theorem sizesOf_ok {P : Program} (w : World) : ∀ {fs : List Field} {l : List (Nat × Nat)}, sizesOf P fs = some l → (fs.mapM (fun f => do pure (f.offset, ← Go.sizeOf f.type)) : Sem (List (Nat × Nat))).run P w = .ok l w := by
  intro fs
  induction fs with
  | nil => intro l h; obtain rfl := Option.some.inj h; rfl
  | cons f r ih =>
    intro l h
    simp only [sizesOf] at h
    split at h
    · rename_i i l' hi hl
      obtain rfl := Option.some.inj h
      simp only [List.mapM_cons, Sem.run_bind, rv_sizeOf P _ i hi, Result.andThen_ok, Sem.run_pure, ih hl]
    · cases h

def eBuild (P : Program) (t : TypeId) (parts : List (Nat × V1)) : Option V1 :=
  match zeroOf P t, P.underlying t with
  | some z, some (.struct fields) => match sizesOf P fields.toList with
    | some l => match fillA (fun i => l[i]?) z parts with
      | some cs => some (.agg cs)
      | none => none
    | none => none
  | some z, some (.array _ e) => match P.info? e with
    | some i => match fillA (fun j => some (j * i.size, i.size)) z parts with
      | some cs => some (.agg cs)
      | none => none
    | none => none
  | _, _ => none
theorem eBuild_ok (P : Program) {t : TypeId} {parts : List (Nat × V1)} {v : V1} (he : eBuild P t parts = some v) {μ : Mu} (w : World) {vparts : Array (Nat × Value)} (hp : R2 (fun a b => a.1 = b.1 ∧ R1 μ a.2 b.2) parts vparts.toList) :
    ∃ r, (Instr.build t vparts).run P w = .ok r w ∧ R1 μ v r := by
  unfold eBuild at he
  split at he
  · rename_i z fields hz hu
    obtain ⟨i, zv, hi, hzz, hrel⟩ := zeroOf_ok hz
    split at he
    · rename_i l hl
      split at he
      · rename_i cs hcs
        obtain rfl := Option.some.inj he
        obtain ⟨us, g1, g2⟩ := fillA_ok hcs (hrel μ) hp
        refine ⟨.agg us, ?_, us, rfl, g2⟩
        have hm : (fields.mapM (fun f => do pure (f.offset, ← Go.sizeOf f.type)) : Sem (Array (Nat × Nat))).run P w = .ok l.toArray w := by
          rw [← Array.toArray_toList (xs := fields), List.mapM_toArray]
          simp only [Sem.run_map, sizesOf_ok w hl, Result.andThen_ok]
        have g1' : Instr.fill (fun i => l.toArray[i]?) zv.cells vparts.toList = some us := by simpa using g1
        simp only [Instr.build, Sem.run_bind, zeroValue, typeInfo, run_program, Result.andThen_ok, hi, Sem.run_pure, hzz, run_underlying hu, hm, g1']
      · cases he
    · cases he
  · rename_i z n e hz hu
    obtain ⟨i, zv, hi, hzz, hrel⟩ := zeroOf_ok hz
    split at he
    · rename_i ie hie
      split at he
      · rename_i cs hcs
        obtain rfl := Option.some.inj he
        obtain ⟨us, g1, g2⟩ := fillA_ok hcs (hrel μ) hp
        refine ⟨.agg us, ?_, us, rfl, g2⟩
        simp only [Instr.build, Sem.run_bind, zeroValue, typeInfo, run_program, Result.andThen_ok, hi, Sem.run_pure, hzz, run_underlying hu, Go.sizeOf, hie, g1]
      · cases he
    · cases he
  · cases he

def eBuildSlice (P : Program) (t : TypeId) (len : Nat) (parts : List (Nat × V1)) (h : Heap) : Option (Cell × Heap) :=
  match P.underlying t with
  | some (.slice e) => match P.info? e, zeroOf P e with
    | some i, some z => if z.length = i.size ∧ 0 < i.size ∧ len * i.size ≤ 16777216 then
        match fillA (fun j => some (j * i.size, i.size)) (List.replicate len z).flatten parts with
        | some cs => some (.sl h.length 0 len len i.size true, h ++ [⟨cs, true, true⟩])
        | none => none
      else none
    | _, _ => none
  | _ => none
theorem eBuildSlice_ok (P : Program) {t : TypeId} {len : Nat} {parts : List (Nat × V1)} {h h' : Heap} {x : Cell} (he : eBuildSlice P t len parts h = some (x, h')) {B0 : Pt} {μ : Mu} {w : World} (hr : HR B0 μ h w) {vparts : Array (Nat × Value)} (hp : R2 (fun a b => a.1 = b.1 ∧ R1 μ a.2 b.2) parts vparts.toList) :
    ∃ r w' l, (Instr.buildSlice t len vparts).run P w = .ok r w' ∧ HR B0 (Mu.add μ [l]) h' w' ∧ RC (Mu.add μ [l]) x r ∧ Bel B0 w w' := by
  unfold eBuildSlice at he
  split at he
  · rename_i e hu
    split at he
    · rename_i i z hi hz
      obtain ⟨i', zv, hi', hzz, hrel⟩ := zeroOf_ok hz
      obtain rfl : i' = i := by rw [hi] at hi'; exact (Option.some.inj hi').symm
      split at he
      · rename_i hc
        obtain ⟨c1, c2, c4⟩ := hc
        split at he
        · rename_i cs hcs
          obtain ⟨rfl, rfl⟩ := Prod.mk.inj (Option.some.inj he)
          have hzr := zeros_rel (hrel μ) len (by omega)
          obtain ⟨us, g1, g2⟩ := fillA_ok hcs hzr hp
          have ha := hr.alloc g2 e [] (by simp)
          refine ⟨.slice (some ⟨w.heap.size, 0, none⟩) len len, w.alloc (.cells us e), ⟨w.heap.size, 0, us.size⟩, ?_, by simpa using ha, ⟨⟨w.heap.size, 0, us.size⟩, len, mu_last hr.len _, rfl, Nat.le_refl _, fun _ => rfl, ?_⟩, Bel.new hr.size _⟩
          · have hzs : zv.cells.size = i'.size := by rw [← c1, (hrel ⟨[], fun _ _ => none⟩).1]; simp
            rw [c1] at g1
            have g1' : Instr.fill (fun j => some (j * i'.size, i'.size)) ((Array.range (len * i'.size)).map (zv.cells[· % zv.cells.size]!)) vparts.toList = some us := g1
            simp only [Instr.buildSlice, Sem.run_bind, run_underlying hu, Result.andThen_ok, rv_sizeOf P e i' hi]
            rw [if_neg (by omega)]
            by_cases hlen0 : len * i'.size = 0
            · rw [if_pos hlen0]
              rw [hlen0] at g1' ⊢
              have hem : ∀ f f' : Nat → Value, (Array.range 0).map f = (Array.range 0).map f' := fun f f' => by simp
              rw [hem _ (fun x => (#[] : Array Value)[x % (#[] : Array Value).size]!)] at g1'
              simp only [Sem.run_bind, Result.andThen_ok, Sem.run_pure, g1', newRow, run_newObj]
              rfl
            · rw [if_neg hlen0]
              simp only [Sem.run_bind, zeroValue, typeInfo, run_program, Result.andThen_ok, hi, Sem.run_pure, hzz, g1', newRow, run_newObj]
              rfl
          · have h1 := g2.1
            have h2 : cs.length = len * z.length := by
              have : ∀ {parts : List (Nat × V1)} {a b : List Cell} {pl : Nat → Option (Nat × Nat)}, fillA pl a parts = some b → b.length = a.length := by
                intro parts
                induction parts with
                | nil => intro a b pl h; obtain rfl := Option.some.inj h; rfl
                | cons p r ih =>
                  intro a b pl h
                  simp only [fillA] at h
                  split at h
                  · cases h
                  · split at h
                    · rw [ih h, putCells_length]
                    · cases h
              rw [this hcs, flat_rep_length]
            simp only [Array.length_toList] at h1
            simp only [Nat.zero_add]
            rw [← c1, ← h2, h1]
            exact Nat.le_refl _
        · cases he
      · cases he
    · cases he
  · cases he
end Rv
