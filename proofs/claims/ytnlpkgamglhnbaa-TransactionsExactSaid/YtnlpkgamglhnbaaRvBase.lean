import Derived.WalkKit
import Derived.ArgAppend
import Derived.Laws.Slices
import Derived.Below
namespace Rv
open Go Go.RowKit

/-- One cell: a scalar, an address (object, offset), a slice (object, offset, length, least capacity, cells of an element, is the capacity just that), a function with what it captured, an empty slice of which no more is known, a cell of which nothing is known, a slice (nil or not) that is read: object, offset, length, cells of an element; a slice whose content is told and stays for ever: cells of an element, the elements; a pointer to memory that stays for ever: the cells from there on; the same slice, with no room behind it; a slice of one's own that grows: object, length, cells of an element, has it a block. -/
inductive Cell where
  | v (x : Value)
  | ptr (b o : Nat)
  | sl (b o n c k : Nat) (ex : Bool)
  | fn (f : FuncId) (caps : List (Nat × Nat))
  | emp
  | any
  | rd (b o n k : Nat)
  | L (k : Nat) (xs : List (List Cell))
  | rp (cs : List Cell)
  | LC (k : Nat) (xs : List (List Cell))
  | g (b n k : Nat) (lv : Bool)
/-- A value of one variable. -/
inductive V1 where
  | c (x : Cell)
  | agg (cs : List Cell)
/-- What a slot holds. -/
inductive AV where
  | o (x : V1)
  | tup (xs : List V1)
  | top
structure AO where
  cells : List Cell
  own : Bool
  live : Bool
abbrev Heap := List AO
/-- Where an object lies: the block, the first cell, the cells from there to the block's end. -/
structure Loc where
  B : Nat
  base : Nat
  cap : Nat
/-- Where the objects lie; which cells of memory stay for ever, and what they hold. -/
structure Mu where
  ls : List Loc
  F : Nat → Nat → Option Value
def Mu.le (μ μ' : Mu) : Prop := μ.ls <+: μ'.ls ∧ ∀ B o v, μ.F B o = some v → μ'.F B o = some v
theorem Mu.le_refl (μ : Mu) : Mu.le μ μ := ⟨List.prefix_refl _, fun _ _ _ h => h⟩
theorem Mu.le.trans {a b c : Mu} (h : Mu.le a b) (h' : Mu.le b c) : Mu.le a c := ⟨h.1.trans h'.1, fun B o v e => h'.2 B o v (h.2 B o v e)⟩
def Mu.add (μ : Mu) (l : List Loc) : Mu := ⟨μ.ls ++ l, μ.F⟩
/-- The same of the first objects alone. -/
def Mu.leN (n : Nat) (μ μ' : Mu) : Prop := (∀ (b : Nat) (l : Loc), b < n → μ.ls[b]? = some l → μ'.ls[b]? = some l) ∧ ∀ B o v, μ.F B o = some v → μ'.F B o = some v
theorem Mu.leN_refl (n : Nat) (μ : Mu) : Mu.leN n μ μ := ⟨fun _ _ _ h => h, fun _ _ _ h => h⟩
theorem Mu.leN.trans {n : Nat} {a b c : Mu} (h : Mu.leN n a b) (h' : Mu.leN n b c) : Mu.leN n a c := ⟨fun x l hx e => h'.1 x l hx (h.1 x l hx e), fun B o v e => h'.2 B o v (h.2 B o v e)⟩
theorem Mu.le.toN {n : Nat} {μ μ' : Mu} (h : Mu.le μ μ') : Mu.leN n μ μ' := by
  refine ⟨fun b l _ hb => ?_, h.2⟩
  obtain ⟨t, ht⟩ := h.1
  rw [← ht, List.getElem?_append_left]
  · exact hb
  · rcases Nat.lt_or_ge b μ.ls.length with h' | h'
    · exact h'
    · rw [List.getElem?_eq_none h'] at hb; cases hb
theorem Mu.leN.full {μ μ' : Mu} (h : Mu.leN μ.ls.length μ μ') : Mu.le μ μ' := by
  refine ⟨⟨μ'.ls.drop μ.ls.length, ?_⟩, h.2⟩
  have e : μ.ls = μ'.ls.take μ.ls.length := by
    apply List.ext_getElem?
    intro i
    rw [List.getElem?_take]
    split
    · rename_i hi
      have h1 : μ.ls[i]? = some μ.ls[i] := List.getElem?_eq_getElem hi
      rw [h1, h.1 i _ hi h1]
    · rename_i hi
      exact List.getElem?_eq_none (by omega)
  have e2 := List.take_append_drop μ.ls.length μ'.ls
  rwa [← e] at e2
theorem Mu.le_add (μ : Mu) (l : List Loc) : Mu.le μ (μ.add l) := ⟨⟨_, rfl⟩, fun _ _ _ h => h⟩
def isVL : Cell → Bool
  | .v _ => true
  | .L _ _ => true
  | _ => false
/-- A slice whose elements lie in memory that stays. -/
inductive LR (F : Nat → Nat → Option Value) : Nat → List (List Cell) → Value → Prop
  | mk (k : Nat) (xs : List (List Cell)) (A : Option Addr) (c B o : Nat) (vals : Nat → Nat → Value) (h1 : xs.length ≤ c) (h2 : A = none → xs = [] ∧ c = 0) (h3 : xs ≠ [] → A = some ⟨B, o, none⟩)
      (h4 : ∀ (i : Nat) (ps : List Cell), xs[i]? = some ps → ps.length = k)
      (h5 : ∀ (i j : Nat) (ps : List Cell) (c : Cell), xs[i]? = some ps → ps[j]? = some c → F B (o + i * k + j) = some (vals i j) ∧ isVL c = true)
      (h6 : ∀ (i j : Nat) (ps : List Cell) (x : Value), xs[i]? = some ps → ps[j]? = some (.v x) → vals i j = x ∧ x.oneCell' = true)
      (h7 : ∀ (i j : Nat) (ps : List Cell) (k' : Nat) (xs' : List (List Cell)), xs[i]? = some ps → ps[j]? = some (.L k' xs') → LR F k' xs' (vals i j)) : LR F k xs (.slice A xs.length c)
/-- A cell that stays. -/
def FC (F : Nat → Nat → Option Value) : Cell → Value → Prop
  | .v x, u => u = x ∧ x.oneCell' = true
  | .L k xs, u => LR F k xs u
  | _, _ => False
theorem LR.mono {F F' : Nat → Nat → Option Value} (hF : ∀ B o v, F B o = some v → F' B o = some v) {k : Nat} {xs : List (List Cell)} {u : Value} (h : LR F k xs u) : LR F' k xs u := by
  induction h with
  | mk k xs A c B o vals h1 h2 h3 h4 h5 h6 h7 ih => exact .mk k xs A c B o vals h1 h2 h3 h4 (fun i j ps c hi hj => ⟨hF _ _ _ (h5 i j ps c hi hj).1, (h5 i j ps c hi hj).2⟩) h6 ih
theorem FC.mono {F F' : Nat → Nat → Option Value} (hF : ∀ B o v, F B o = some v → F' B o = some v) {c : Cell} {u : Value} (h : FC F c u) : FC F' c u := by
  cases c with
  | v x => exact h
  | L k xs => exact LR.mono hF h
  | _ => exact h
theorem LR.form {F : Nat → Nat → Option Value} {k : Nat} {xs : List (List Cell)} {u : Value} (h : LR F k xs u) : ∃ A c, u = .slice A xs.length c ∧ xs.length ≤ c ∧ (A = none → xs = [] ∧ c = 0) ∧
    ∀ (i : Nat) (ps : List Cell), xs[i]? = some ps → ps.length = k ∧ ∃ B o, A = some ⟨B, o, none⟩ ∧ ∀ (j : Nat) (c : Cell), ps[j]? = some c → ∃ val, F B (o + i * k + j) = some val ∧ FC F c val := by
  cases h with
  | mk k xs A c B o vals h1 h2 h3 h4 h5 h6 h7 =>
    refine ⟨A, c, rfl, h1, h2, fun i ps hi => ⟨h4 i ps hi, B, o, h3 (fun e => by subst e; simp at hi), fun j c hj => ?_⟩⟩
    obtain ⟨e1, e2⟩ := h5 i j ps c hi hj
    refine ⟨_, e1, ?_⟩
    cases c with
    | v x => exact h6 i j ps x hi hj
    | L k' xs' => exact h7 i j ps k' xs' hi hj
    | _ => cases e2
theorem LR.addr {F : Nat → Nat → Option Value} {k : Nat} {xs : List (List Cell)} {u : Value} (h : LR F k xs u) : ∃ A c, u = .slice A xs.length c ∧ xs.length ≤ c ∧ (A = none → xs = [] ∧ c = 0) ∧
    (xs ≠ [] → ∃ B o, A = some ⟨B, o, none⟩ ∧ ∀ (i : Nat) (ps : List Cell), xs[i]? = some ps → ps.length = k ∧ ∀ (j : Nat) (c : Cell), ps[j]? = some c → ∃ val, F B (o + i * k + j) = some val ∧ FC F c val) := by
  cases h with
  | mk k xs A c B o vals h1 h2 h3 h4 h5 h6 h7 =>
    refine ⟨A, c, rfl, h1, h2, fun hne => ⟨B, o, h3 hne, fun i ps hi => ⟨h4 i ps hi, fun j c hj => ?_⟩⟩⟩
    obtain ⟨e1, e2⟩ := h5 i j ps c hi hj
    refine ⟨_, e1, ?_⟩
    cases c with
    | v x => exact h6 i j ps x hi hj
    | L k' xs' => exact h7 i j ps k' xs' hi hj
    | _ => cases e2
theorem LR.of {F : Nat → Nat → Option Value} {k : Nat} {xs : List (List Cell)} {A : Option Addr} {c : Nat} (h1 : xs.length ≤ c) (h2 : A = none → xs = [] ∧ c = 0)
    (h3 : xs ≠ [] → ∃ B o, A = some ⟨B, o, none⟩ ∧ ∀ (i : Nat) (ps : List Cell), xs[i]? = some ps → ps.length = k ∧ ∀ (j : Nat) (c : Cell), ps[j]? = some c → ∃ val, F B (o + i * k + j) = some val ∧ FC F c val) : LR F k xs (.slice A xs.length c) := by
  by_cases hne : xs = []
  · subst hne
    exact .mk k [] A c 0 0 (fun _ _ => undef) h1 h2 (fun h => absurd rfl h) (fun i ps h => by simp at h) (fun i j ps c h => by simp at h) (fun i j ps c h => by simp at h) (fun i j ps k' xs' h => by simp at h)
  · obtain ⟨B, o, hA, h⟩ := h3 hne
    refine .mk k xs A c B o (fun i j => (F B (o + i * k + j)).getD undef) h1 h2 (fun _ => hA) (fun i ps hi => (h i ps hi).1) (fun i j ps c hi hj => ?_) (fun i j ps x hi hj => ?_) (fun i j ps k' xs' hi hj => ?_)
    · obtain ⟨val, e1, e2⟩ := (h i ps hi).2 j c hj
      rw [e1]
      refine ⟨rfl, ?_⟩
      cases c <;> first | rfl | exact e2.elim
    · obtain ⟨val, e1, e2⟩ := (h i ps hi).2 j _ hj
      rw [e1]; exact e2
    · obtain ⟨val, e1, e2⟩ := (h i ps hi).2 j _ hj
      rw [e1]; exact e2

def R2 {α β : Type} (R : α → β → Prop) (xs : List α) (ys : List β) : Prop := xs.length = ys.length ∧ ∀ (i : Nat) (x : α) (y : β), xs[i]? = some x → ys[i]? = some y → R x y

theorem R2.nil {α β : Type} (R : α → β → Prop) : R2 R [] [] := ⟨rfl, fun _ _ _ h => by simp at h⟩
theorem R2.cons {α β : Type} {R : α → β → Prop} {x : α} {y : β} {xs : List α} {ys : List β} (h : R x y) (hs : R2 R xs ys) : R2 R (x :: xs) (y :: ys) := by
  refine ⟨by simp [hs.1], fun i a b ha hb => ?_⟩
  cases i with
  | zero => simp at ha hb; subst ha; subst hb; exact h
  | succ i => simp at ha hb; exact hs.2 i a b ha hb
theorem R2.mono {α β : Type} {R S : α → β → Prop} {xs : List α} {ys : List β} (h : R2 R xs ys) (hm : ∀ x y, R x y → S x y) : R2 S xs ys := ⟨h.1, fun i x y hx hy => hm _ _ (h.2 i x y hx hy)⟩
theorem R2.get {α β : Type} {R : α → β → Prop} {xs : List α} {ys : List β} (h : R2 R xs ys) {i : Nat} {x : α} (hx : xs[i]? = some x) : ∃ y, ys[i]? = some y ∧ R x y := by
  have hi : i < xs.length := by
    rcases Nat.lt_or_ge i xs.length with h' | h'
    · exact h'
    · rw [List.getElem?_eq_none h'] at hx; cases hx
  have hi' : i < ys.length := h.1 ▸ hi
  exact ⟨ys[i], List.getElem?_eq_getElem hi', h.2 i x _ hx (List.getElem?_eq_getElem hi')⟩
theorem R2.get' {α β : Type} {R : α → β → Prop} {xs : List α} {ys : List β} (h : R2 R xs ys) {i : Nat} {y : β} (hy : ys[i]? = some y) : ∃ x, xs[i]? = some x ∧ R x y := by
  have hi : i < ys.length := by
    rcases Nat.lt_or_ge i ys.length with h' | h'
    · exact h'
    · rw [List.getElem?_eq_none h'] at hy; cases hy
  have hi' : i < xs.length := h.1.symm ▸ hi
  exact ⟨xs[i], List.getElem?_eq_getElem hi', h.2 i _ y (List.getElem?_eq_getElem hi') hy⟩
theorem R2.append {α β : Type} {R : α → β → Prop} {xs xs' : List α} {ys ys' : List β} (h : R2 R xs ys) (h' : R2 R xs' ys') : R2 R (xs ++ xs') (ys ++ ys') := by
  refine ⟨by simp [h.1, h'.1], fun i a b ha hb => ?_⟩
  rcases Nat.lt_or_ge i xs.length with hi | hi
  · rw [List.getElem?_append_left hi] at ha
    rw [List.getElem?_append_left (h.1 ▸ hi)] at hb
    exact h.2 i a b ha hb
  · rw [List.getElem?_append_right hi] at ha
    rw [List.getElem?_append_right (h.1 ▸ hi), ← h.1] at hb
    exact h'.2 _ a b ha hb
theorem R2.take {α β : Type} {R : α → β → Prop} {xs : List α} {ys : List β} (h : R2 R xs ys) (n : Nat) : R2 R (xs.take n) (ys.take n) := by
  refine ⟨by simp [h.1], fun i a b ha hb => ?_⟩
  rw [List.getElem?_take] at ha hb
  split at ha
  · rename_i hi; rw [if_pos hi] at hb; exact h.2 i a b ha hb
  · cases ha
theorem R2.drop {α β : Type} {R : α → β → Prop} {xs : List α} {ys : List β} (h : R2 R xs ys) (n : Nat) : R2 R (xs.drop n) (ys.drop n) := by
  refine ⟨by simp [h.1], fun i a b ha hb => ?_⟩
  rw [List.getElem?_drop] at ha hb
  exact h.2 _ a b ha hb
theorem R2.map {α β γ δ : Type} {R : α → β → Prop} {S : γ → δ → Prop} {xs : List α} {ys : List β} (h : R2 R xs ys) (f : α → γ) (g : β → δ) (hm : ∀ x y, R x y → S (f x) (g y)) : R2 S (xs.map f) (ys.map g) := by
  refine ⟨by simp [h.1], fun i a b ha hb => ?_⟩
  rw [List.getElem?_map, Option.map_eq_some_iff] at ha hb
  obtain ⟨x, hx, rfl⟩ := ha
  obtain ⟨y, hy, rfl⟩ := hb
  exact hm _ _ (h.2 i x y hx hy)

def RP (μ : Mu) (p : Nat × Nat) (u : Value) : Prop := ∃ l, μ.ls[p.1]? = some l ∧ u = .pointer (some ⟨l.B, l.base + p.2, none⟩)
/-- A cell and the model's value. -/
def RC (μ : Mu) : Cell → Value → Prop
  | .v x, u => u = x ∧ x.oneCell' = true
  | .ptr b o, u => RP μ (b, o) u
  | .sl b o n c k ex, u => ∃ l c', μ.ls[b]? = some l ∧ u = .slice (some ⟨l.B, l.base + o, none⟩) n c' ∧ c ≤ c' ∧ (ex = true → c' = c) ∧ o + c' * k ≤ l.cap
  | .fn f caps, u => ∃ us : Array Value, u = .func (.func f) #[] us ∧ R2 (RP μ) caps us.toList
  | .emp, u => ∃ A c', u = .slice A 0 c'
  | .any, u => u.oneCell' = true
  | .rd b o n k, u => ∃ A c', u = .slice A n c' ∧ n ≤ c' ∧ (A = none → n = 0 ∧ c' = 0) ∧ (0 < n → ∃ l, μ.ls[b]? = some l ∧ A = some ⟨l.B, l.base + o, none⟩ ∧ o + c' * k ≤ l.cap)
  | .L k xs, u => LR μ.F k xs u
  | .rp cs, u => ∃ B o, u = .pointer (some ⟨B, o, none⟩) ∧ ∀ (j : Nat) (c : Cell), cs[j]? = some c → ∃ val, μ.F B (o + j) = some val ∧ FC μ.F c val
  | .LC k xs, u => LR μ.F k xs u ∧ ∃ A, u = .slice A xs.length xs.length
  | .g b n k lv, u => (lv = false → n = 0 ∧ ∃ A, u = .slice A 0 0) ∧ (lv = true → ∃ l c', μ.ls[b]? = some l ∧ u = .slice (some ⟨l.B, l.base, none⟩) n c' ∧ n ≤ c' ∧ c' * k ≤ l.cap)
def R1 (μ : Mu) : V1 → Value → Prop
  | .c x, u => RC μ x u
  | .agg cs, u => ∃ us : Array Value, u = .agg us ∧ R2 (RC μ) cs us.toList
def RV (μ : Mu) : AV → Value → Prop
  | .o x, u => R1 μ x u
  | .tup xs, u => ∃ us : Array Value, u = .tuple us ∧ R2 (R1 μ) xs us.toList
  | .top, _ => True

theorem pre_get {μ μ' : Mu} (h : Mu.le μ μ') {b : Nat} {l : Loc} (hb : μ.ls[b]? = some l) : μ'.ls[b]? = some l := by
  obtain ⟨⟨t, ht⟩, _⟩ := h
  rw [← ht]
  have hl : b < μ.ls.length := by
    rcases Nat.lt_or_ge b μ.ls.length with h' | h'
    · exact h'
    · rw [List.getElem?_eq_none h'] at hb; cases hb
  rw [List.getElem?_append_left hl]; exact hb
theorem RP.mono {μ μ' : Mu} (h : Mu.le μ μ') {p : Nat × Nat} {u : Value} (hr : RP μ p u) : RP μ' p u := by
  obtain ⟨l, hl, e⟩ := hr
  exact ⟨l, pre_get h hl, e⟩
theorem RC.mono {μ μ' : Mu} (h : Mu.le μ μ') {c : Cell} {u : Value} (hr : RC μ c u) : RC μ' c u := by
  cases c with
  | v x => exact hr
  | ptr b o => exact RP.mono h hr
  | sl b o n c k ex => obtain ⟨l, c', hl, r⟩ := hr; exact ⟨l, c', pre_get h hl, r⟩
  | fn f caps => obtain ⟨us, e, r⟩ := hr; exact ⟨us, e, r.mono fun _ _ => RP.mono h⟩
  | emp => exact hr
  | any => exact hr
  | rd b o n k => obtain ⟨A, c', e, h1, h2, h3⟩ := hr; exact ⟨A, c', e, h1, h2, fun h0 => by obtain ⟨l, hl, r⟩ := h3 h0; exact ⟨l, pre_get h hl, r⟩⟩
  | L k xs => exact LR.mono h.2 hr
  | LC k xs => exact ⟨LR.mono h.2 hr.1, hr.2⟩
  | g b n k lv => exact ⟨hr.1, fun e => by obtain ⟨l, c', hl, r⟩ := hr.2 e; exact ⟨l, c', pre_get h hl, r⟩⟩
  | rp cs => obtain ⟨B, o, e, r⟩ := hr; exact ⟨B, o, e, fun j c hj => by obtain ⟨val, h1, h2⟩ := r j c hj; exact ⟨val, h.2 _ _ _ h1, FC.mono h.2 h2⟩⟩
theorem R1.mono {μ μ' : Mu} (h : Mu.le μ μ') {c : V1} {u : Value} (hr : R1 μ c u) : R1 μ' c u := by
  cases c with
  | c x => exact RC.mono h hr
  | agg cs => obtain ⟨us, e, r⟩ := hr; exact ⟨us, e, r.mono fun _ _ => RC.mono h⟩
theorem RV.mono {μ μ' : Mu} (h : Mu.le μ μ') {c : AV} {u : Value} (hr : RV μ c u) : RV μ' c u := by
  cases c with
  | o x => exact R1.mono h hr
  | tup cs => obtain ⟨us, e, r⟩ := hr; exact ⟨us, e, r.mono fun _ _ => R1.mono h⟩
  | top => trivial
theorem RC.one {μ : Mu} {c : Cell} {u : Value} (hr : RC μ c u) : u.oneCell' = true := by
  cases c with
  | v x => obtain ⟨rfl, h⟩ := hr; exact h
  | ptr b o => obtain ⟨l, _, rfl⟩ := hr; rfl
  | sl b o n c k ex => obtain ⟨l, c', _, rfl, _⟩ := hr; rfl
  | fn f caps => obtain ⟨us, rfl, _⟩ := hr; rfl
  | emp => obtain ⟨A, c', rfl⟩ := hr; rfl
  | any => exact hr
  | rd b o n k => obtain ⟨A, c', rfl, _⟩ := hr; rfl
  | L k xs => obtain ⟨A, c, rfl, _⟩ := LR.form hr; rfl
  | rp cs => obtain ⟨B, o, rfl, _⟩ := hr; rfl
  | LC k xs => obtain ⟨A, rfl⟩ := hr.2; rfl
  | g b n k lv =>
    cases lv with
    | false => obtain ⟨_, A, rfl⟩ := hr.1 rfl; rfl
    | true => obtain ⟨l, c', _, rfl, _⟩ := hr.2 rfl; rfl
theorem cells_one {u : Value} (h : u.oneCell' = true) : u.cells = #[u] := by cases u <;> first | rfl | (simp [Value.oneCell'] at h)

/-- The cells of a value. -/
def V1.cells : V1 → List Cell
  | .c x => [x]
  | .agg cs => cs
theorem R1.cells {μ : Mu} {x : V1} {u : Value} (h : R1 μ x u) : R2 (RC μ) x.cells u.cells.toList := by
  cases x with
  | c x => rw [cells_one (RC.one h)]; exact R2.cons h (R2.nil _)
  | agg cs => obtain ⟨us, rfl, r⟩ := h; exact r

/-- The blocks that are not the call's own; the cells in them that are told to stay; those in which no object of the heap lies. -/
structure Pt where
  p : Nat → Prop
  F0 : Nat → Nat → Option Value
  s : Nat → Prop
  sp : ∀ k, s k → p k
/-- What a call leaves as it was. -/
structure Bel (B : Pt) (w w' : World) : Prop where
  os : w'.os = w.os
  tape : w'.tape = w.tape
  output : w'.output = w.output
  size : w.heap.size ≤ w'.heap.size
  block : ∀ k, B.p k → w'.heap[k]? = w.heap[k]?
theorem Bel.refl (B : Pt) (w : World) : Bel B w w := ⟨rfl, rfl, rfl, Nat.le_refl _, fun _ _ => rfl⟩
theorem Bel.trans {B : Pt} {a b c : World} (h : Bel B a b) (k : Bel B b c) : Bel B a c :=
  ⟨k.os.trans h.os, k.tape.trans h.tape, k.output.trans h.output, Nat.le_trans h.size k.size, fun i hi => (k.block i hi).trans (h.block i hi)⟩
theorem Bel.drew {B : Pt} {a w : World} (h : Bel B a w) : Bel B a w.drew := ⟨h.os, h.tape, h.output, h.size, h.block⟩
theorem Bel.alloc {B : Pt} {a w : World} (h : Bel B a w) (hB : ∀ k, B.p k → k < w.heap.size) (o : Obj) : Bel B a (w.alloc o) :=
  h.trans ⟨rfl, rfl, rfl, by simp, fun k hk => Below.heap_alloc _ _ _ (hB k hk)⟩
theorem Bel.setCell {B : Pt} {a w : World} (h : Bel B a w) {q : Addr} (hp : ¬ B.p q.block) (u : Value) : Bel B a (w.setCell q u) :=
  h.trans ⟨rfl, rfl, rfl, by simp [World.setCell], fun k hk => Below.heap_setCell _ _ _ _ (fun e => hp (e ▸ hk))⟩
theorem Bel.mono {B B' : Pt} {w w' : World} (h : Bel B w w') (hB : ∀ k, B'.p k → B.p k) : Bel B' w w' := ⟨h.os, h.tape, h.output, h.size, fun k hk => h.block k (hB k hk)⟩

/-- The abstract heap and the world. -/
structure HR (B0 : Pt) (μ : Mu) (h : Heap) (w : World) : Prop where
  len : μ.ls.length = h.length
  size : ∀ k, B0.p k → k < w.heap.size
  ok : ∀ (b : Nat) (o : AO), h[b]? = some o → o.live = true → ∃ (l : Loc) (arr : Array Value) (T : TypeId) (fr : Nat × Nat), μ.ls[b]? = some l ∧ w.heap[l.B]? = some (Obj.cells arr T fr) ∧
    (∀ (j : Nat) (c : Cell), o.cells[j]? = some c → ∃ u, arr[l.base + j]? = some u ∧ RC μ c u) ∧ (o.own = true → fr = (0, 0) ∧ ¬ B0.p l.B ∧ arr.size = l.base + l.cap ∧ o.cells.length ≤ l.cap ∧ ∀ v ∈ arr.toList, v.oneCell' = true)
  inj : ∀ (b b' : Nat) (o o' : AO) (l l' : Loc), h[b]? = some o → h[b']? = some o' → o.live = true → o'.live = true → o.own = true → b ≠ b' → μ.ls[b]? = some l → μ.ls[b']? = some l' → l.B ≠ l'.B
  fz : ∀ (B o : Nat) (v : Value), μ.F B o = some v → w.cell? ⟨B, o, none⟩ = some v
  nof : ∀ (b : Nat) (o : AO) (l : Loc), h[b]? = some o → o.live = true → o.own = true → μ.ls[b]? = some l → ∀ j, μ.F l.B j = none
  fp : ∀ (B o : Nat) (v : Value), μ.F B o = some v → B0.p B → B0.F0 B o = some v
  ns : ∀ (b : Nat) (o : AO) (l : Loc), h[b]? = some o → o.live = true → μ.ls[b]? = some l → ¬ B0.s l.B

theorem HR.drew {B0 : Pt} {μ : Mu} {h : Heap} {w : World} (hr : HR B0 μ h w) : HR B0 μ h w.drew := ⟨hr.len, hr.size, hr.ok, hr.inj, hr.fz, hr.nof, hr.fp, hr.ns⟩

theorem cell_at {w : World} {B o : Nat} {arr : Array Value} {T : TypeId} {fr : Nat × Nat} (hb : w.heap[B]? = some (Obj.cells arr T fr)) : w.cell? ⟨B, o, none⟩ = arr[o]? := by
  simp [World.cell?, hb]
/-- A live object's cell, in the world. -/
theorem HR.cell {B0 : Pt} {μ : Mu} {h : Heap} {w : World} (hr : HR B0 μ h w) {b : Nat} {ob : AO} (hb : h[b]? = some ob) (hl : ob.live = true) {l : Loc} (hm : μ.ls[b]? = some l) {j : Nat} {c : Cell} (hc : ob.cells[j]? = some c) :
    ∃ u, w.cell? ⟨l.B, l.base + j, none⟩ = some u ∧ RC μ c u := by
  obtain ⟨l', arr, T, fr, hm', hh, hcs, _⟩ := hr.ok b ob hb hl
  obtain rfl : l' = l := by rw [hm] at hm'; exact (Option.some.inj hm').symm
  obtain ⟨u, hu, hru⟩ := hcs j c hc
  exact ⟨u, by rw [cell_at hh]; exact hu, hru⟩
theorem HR.locOf {B0 : Pt} {μ : Mu} {h : Heap} {w : World} (hr : HR B0 μ h w) {b : Nat} {ob : AO} (hb : h[b]? = some ob) : ∃ l, μ.ls[b]? = some l := by
  have hl : b < h.length := by
    rcases Nat.lt_or_ge b h.length with h' | h'
    · exact h'
    · rw [List.getElem?_eq_none h'] at hb; cases hb
  exact ⟨μ.ls[b]'(hr.len ▸ hl), List.getElem?_eq_getElem _⟩

theorem getElem?_push_lt' {α : Type} (xs : Array α) (x : α) {i : Nat} {y : α} (h : xs[i]? = some y) : (xs.push x)[i]? = some y := by
  have hi : i < xs.size := by
    rcases Nat.lt_or_ge i xs.size with h' | h'
    · exact h'
    · rw [Array.getElem?_eq_none h'] at h; cases h
  rw [Array.getElem?_push, if_neg (by omega)]; exact h

/-- A new block: a new object of the call's own. -/
theorem HR.alloc {B0 : Pt} {μ : Mu} {h : Heap} {w : World} (hr : HR B0 μ h w) {cs : List Cell} {us : List Value} (hcs : R2 (RC μ) cs us) (T : TypeId) (extra : List Value) (hx : ∀ v ∈ extra, v.oneCell' = true) :
    HR B0 (Mu.add μ [⟨w.heap.size, 0, us.length + extra.length⟩]) (h ++ [⟨cs, true, true⟩]) (w.alloc (Obj.cells (us ++ extra).toArray T)) := by
  have pre : Mu.le μ (Mu.add μ [⟨w.heap.size, 0, us.length + extra.length⟩]) := Mu.le_add _ _
  have old : ∀ {b : Nat} {l : Loc} {ob : AO}, h[b]? = some ob → ob.live = true → μ.ls[b]? = some l → l.B < w.heap.size := by
    intro b l ob hb hl hm
    obtain ⟨l', arr, T', fr, hm', hh, _⟩ := hr.ok b ob hb hl
    obtain rfl : l' = l := by rw [hm] at hm'; exact (Option.some.inj hm').symm
    rcases Nat.lt_or_ge l'.B w.heap.size with h' | h'
    · exact h'
    · rw [Array.getElem?_eq_none h'] at hh; cases hh
  have hlow : ∀ {B o : Nat} {v : Value}, μ.F B o = some v → B < w.heap.size := fun {B o v} e => by
    have := hr.fz B o v e
    exact World.block_lt_of_cell? w ⟨B, o, none⟩ this
  refine ⟨by simp [Mu.add, hr.len], fun k hk => by have := hr.size k hk; simp; omega, fun b ob hb hl => ?_, fun b b' ob ob' l l' hb hb' hl hl' ho hne hm hm' => ?_, fun B o v e => ?_, fun b ob l hb hl ho hm j => ?_, hr.fp, fun b ob l hb hl hm => ?_⟩
  rotate_right
  · rcases Nat.lt_or_ge b h.length with hlt | hge
    · rw [List.getElem?_append_left hlt] at hb
      have hm : (μ.ls ++ [⟨w.heap.size, 0, us.length + extra.length⟩])[b]? = some l := hm
      rw [List.getElem?_append_left (hr.len ▸ hlt)] at hm
      exact hr.ns b ob l hb hl hm
    · have e : b = h.length := by
        rcases Nat.lt_or_ge h.length b with h' | h'
        · rw [List.getElem?_eq_none (by simp; omega)] at hb; cases hb
        · omega
      subst e
      have hm : (μ.ls ++ [⟨w.heap.size, 0, us.length + extra.length⟩])[h.length]? = some l := hm
      rw [← hr.len] at hm
      simp at hm
      subst hm
      exact fun hs => Nat.lt_irrefl _ (hr.size _ (B0.sp _ hs))
  rotate_left 2
  · have h1 := hr.fz B o v e
    have h2 := hlow e
    unfold World.cell? at h1 ⊢
    have h3 : (w.alloc (Obj.cells (us ++ extra).toArray T)).heap[B]? = w.heap[B]? := by
      show (w.heap.push _)[B]? = _
      rw [Array.getElem?_push, if_neg (by omega)]
    simp only [h3]; exact h1
  · rcases Nat.lt_or_ge b h.length with hlt | hge
    · rw [List.getElem?_append_left hlt] at hb
      have hm : (μ.ls ++ [⟨w.heap.size, 0, us.length + extra.length⟩])[b]? = some l := hm
      rw [List.getElem?_append_left (hr.len ▸ hlt)] at hm
      exact hr.nof b ob l hb hl ho hm j
    · have e : b = h.length := by
        rcases Nat.lt_or_ge h.length b with h' | h'
        · rw [List.getElem?_eq_none (by simp; omega)] at hb; cases hb
        · omega
      subst e
      have hm : (μ.ls ++ [⟨w.heap.size, 0, us.length + extra.length⟩])[h.length]? = some l := hm
      rw [← hr.len] at hm
      simp at hm
      subst hm
      cases e : μ.F w.heap.size j with
      | none => exact e
      | some v => exact absurd (hlow e) (Nat.lt_irrefl _)
  · rcases Nat.lt_or_ge b h.length with hlt | hge
    · rw [List.getElem?_append_left hlt] at hb
      obtain ⟨l, arr, T', fr, hm, hh, hcells, hown⟩ := hr.ok b ob hb hl
      refine ⟨l, arr, T', fr, pre_get pre hm, ?_, fun j c hc => ?_, hown⟩
      · show (w.heap.push _)[l.B]? = _
        exact getElem?_push_lt' _ _ hh
      · obtain ⟨u, hu, hru⟩ := hcells j c hc
        exact ⟨u, hu, RC.mono pre hru⟩
    · have e : b = h.length := by
        rcases Nat.lt_or_ge h.length b with h' | h'
        · rw [List.getElem?_eq_none (by simp; omega)] at hb; cases hb
        · omega
      subst e
      simp at hb
      subst hb
      refine ⟨⟨w.heap.size, 0, us.length + extra.length⟩, (us ++ extra).toArray, T, (0, 0), ?_, ?_, fun j c hc => ?_, fun _ => ⟨rfl, fun hk => Nat.lt_irrefl _ (hr.size _ hk), by simp, by have h1 := hcs.1; show cs.length ≤ us.length + extra.length; omega, fun v hv => ?_⟩⟩
      · show (μ.ls ++ [_])[_]? = _; rw [← hr.len]; simp
      · show (w.heap.push _)[w.heap.size]? = _
        simp
      rotate_left
      · simp only [List.mem_append] at hv
        rcases hv with hv | hv
        · obtain ⟨i, hi⟩ := List.getElem?_of_mem hv
          obtain ⟨c, _, hc⟩ := hcs.get' hi
          exact RC.one hc
        · exact hx v hv
      · obtain ⟨u, hu, hru⟩ := hcs.get hc
        refine ⟨u, ?_, RC.mono pre hru⟩
        have hi : j < us.length := by
          rcases Nat.lt_or_ge j us.length with h' | h'
          · exact h'
          · rw [List.getElem?_eq_none h'] at hu; cases hu
        simp only [Nat.zero_add, List.getElem?_toArray]
        rw [List.getElem?_append_left hi]; exact hu
  · have hnew : ∀ {b : Nat} {l : Loc} {ob : AO}, (h ++ [(⟨cs, true, true⟩ : AO)])[b]? = some ob → ob.live = true → (μ.ls ++ [(⟨w.heap.size, 0, us.length + extra.length⟩ : Loc)])[b]? = some l → (b < h.length ∧ h[b]? = some ob ∧ μ.ls[b]? = some l) ∨ (b = h.length ∧ l.B = w.heap.size) := by
      intro b l ob hb hl hm
      rcases Nat.lt_or_ge b h.length with hlt | hge
      · rw [List.getElem?_append_left hlt] at hb
        rw [List.getElem?_append_left (hr.len ▸ hlt)] at hm
        exact .inl ⟨hlt, hb, hm⟩
      · have e : b = h.length := by
          rcases Nat.lt_or_ge h.length b with h' | h'
          · rw [List.getElem?_eq_none (by simp; omega)] at hb; cases hb
          · omega
        subst e
        rw [← hr.len] at hm
        simp at hm
        subst hm
        exact .inr ⟨rfl, rfl⟩
    rcases hnew hb hl hm with ⟨_, h1, h2⟩ | ⟨h1, h2⟩ <;> rcases hnew hb' hl' hm' with ⟨_, h3, h4⟩ | ⟨h3, h4⟩
    · exact hr.inj b b' ob ob' l l' h1 h3 hl hl' ho hne h2 h4
    · have := old h1 hl h2; omega
    · have := old h3 hl' h4; omega
    · omega

theorem heap_setCell (w : World) (B o : Nat) (u : Value) (k : Nat) : (w.setCell ⟨B, o, none⟩ u).heap[k]? = if B = k then (w.heap[k]?).map (fun ob => match ob with | .cells c e f => .cells (c.setIfInBounds o u) e f | x => x) else w.heap[k]? := by
  simp only [World.setCell, Array.getElem?_modify]
  split
  · simp; rfl
  · rfl

/-- A store into one cell of an object of the call's own. -/
theorem HR.set {B0 : Pt} {μ : Mu} {h : Heap} {w : World} (hr : HR B0 μ h w) {b : Nat} {ob : AO} (hb : h[b]? = some ob) (hl : ob.live = true) (ho : ob.own = true) {l : Loc} (hm : μ.ls[b]? = some l) {j : Nat} (hj : j < ob.cells.length) {c : Cell} {u : Value} (hc : RC μ c u) :
    HR B0 μ (h.set b { ob with cells := ob.cells.set j c }) (w.setCell ⟨l.B, l.base + j, none⟩ u) := by
  have hlt : b < h.length := by
    rcases Nat.lt_or_ge b h.length with h' | h'
    · exact h'
    · rw [List.getElem?_eq_none h'] at hb; cases hb
  have back : ∀ {x : Nat} {y : AO}, (h.set b { ob with cells := ob.cells.set j c })[x]? = some y → ∃ y', h[x]? = some y' ∧ y'.live = y.live ∧ y'.own = y.own := by
    intro x y hx
    by_cases e : b = x
    · subst e
      rw [List.getElem?_set_self hlt] at hx
      obtain rfl := Option.some.inj hx
      exact ⟨ob, hb, rfl, rfl⟩
    · rw [List.getElem?_set_ne e] at hx
      exact ⟨y, hx, rfl, rfl⟩
  refine ⟨by simp [hr.len], fun k hk => by simpa [World.setCell] using hr.size k hk, fun b' ob' hb' hl' => ?_, fun b1 b2 o1 o2 l1 l2 h1 h2 hl1 hl2 ho1 hne hm1 hm2 => ?_, fun B o v e => ?_, fun b1 o1 l1 h1 hl1 ho1 hm1 q => ?_, hr.fp, fun b1 o1 l1 h1 hl1 hm1 => by obtain ⟨y1, g1, g2, g3⟩ := back h1; exact hr.ns b1 y1 l1 g1 (g2 ▸ hl1) hm1⟩
  rotate_left 2
  · have h1 := hr.fz B o v e
    have h2 := hr.nof b ob l hb hl ho hm
    have h3 : l.B ≠ B := fun e' => by subst e'; rw [h2] at e; cases e
    unfold World.cell? at h1 ⊢
    have h4 : (w.setCell ⟨l.B, l.base + j, none⟩ u).heap[B]? = w.heap[B]? := by rw [heap_setCell, if_neg h3]
    simp only [h4]; exact h1
  · obtain ⟨y1, g1, g2, g3⟩ := back h1
    exact hr.nof b1 y1 l1 g1 (g2 ▸ hl1) (g3 ▸ ho1) hm1 q
  · by_cases e : b = b'
    · subst e
      rw [List.getElem?_set_self hlt] at hb'
      obtain rfl := Option.some.inj hb'
      obtain ⟨l', arr, T, fr, hm', hh, hcs, hown⟩ := hr.ok b ob hb hl
      obtain rfl : l' = l := by rw [hm] at hm'; exact (Option.some.inj hm').symm
      obtain ⟨h1, h2, h3, h4, h5⟩ := hown ho
      refine ⟨l', arr.setIfInBounds (l'.base + j) u, T, fr, hm, ?_, fun j' c' hc' => ?_, fun _ => ⟨h1, h2, by simpa using h3, by simpa using h4, fun v hv => ?_⟩⟩
      rotate_right
      · rw [Array.toList_setIfInBounds] at hv
        rcases List.mem_or_eq_of_mem_set hv with hv | rfl
        · exact h5 v hv
        · exact RC.one hc
      · rw [heap_setCell, if_pos rfl, hh]; rfl
      · simp only at hc'
        by_cases e2 : j = j'
        · subst e2
          rw [List.getElem?_set_self hj] at hc'
          obtain rfl := Option.some.inj hc'
          refine ⟨u, ?_, hc⟩
          rw [Array.getElem?_setIfInBounds]
          simp
          omega
        · rw [List.getElem?_set_ne e2] at hc'
          obtain ⟨u', hu', hru'⟩ := hcs j' c' hc'
          refine ⟨u', ?_, hru'⟩
          rw [Array.getElem?_setIfInBounds, if_neg (by omega)]
          exact hu'
    · rw [List.getElem?_set_ne e] at hb'
      obtain ⟨l', arr, T, fr, hm', hh, hcs, hown⟩ := hr.ok b' ob' hb' hl'
      refine ⟨l', arr, T, fr, hm', ?_, hcs, hown⟩
      rw [heap_setCell, if_neg (hr.inj b b' ob ob' l l' hb hb' hl hl' ho e hm hm')]
      exact hh
  · obtain ⟨y1, g1, g2, g3⟩ := back h1
    obtain ⟨y2, k1, k2, k3⟩ := back h2
    exact hr.inj b1 b2 y1 y2 l1 l2 g1 k1 (g2 ▸ hl1) (k2 ▸ hl2) (g3 ▸ ho1) hne hm1 hm2

/-- An object that nobody may use any more. -/
def kill (h : Heap) (b : Nat) : Heap := h.modify b fun o => { o with live := false }
theorem kill_get {h : Heap} {b x : Nat} {y : AO} (hx : (kill h b)[x]? = some y) (hl : y.live = true) : x ≠ b ∧ h[x]? = some y := by
  unfold kill at hx
  rw [List.getElem?_modify] at hx
  by_cases e : b = x
  · subst e
    simp only [if_true] at hx
    cases hh : h[b]? with
    | none => rw [hh] at hx; cases hx
    | some z => rw [hh] at hx; simp at hx; subst hx; cases hl
  · simp only [if_neg e] at hx
    exact ⟨fun h' => e h'.symm, by simpa using hx⟩
theorem HR.kill {B0 : Pt} {μ : Mu} {h : Heap} {w : World} (hr : HR B0 μ h w) (b : Nat) : HR B0 μ (kill h b) w := by
  refine ⟨by simp [Rv.kill, hr.len], hr.size, fun b' ob' hb' hl' => hr.ok b' ob' (kill_get hb' hl').2 hl', fun b1 b2 o1 o2 l1 l2 h1 h2 hl1 hl2 ho1 hne hm1 hm2 => hr.inj b1 b2 o1 o2 l1 l2 (kill_get h1 hl1).2 (kill_get h2 hl2).2 hl1 hl2 ho1 hne hm1 hm2, hr.fz, fun b1 o1 l1 h1 hl1 ho1 hm1 q => hr.nof b1 o1 l1 (kill_get h1 hl1).2 hl1 ho1 hm1 q, hr.fp, fun b1 o1 l1 h1 hl1 hm1 => hr.ns b1 o1 l1 (kill_get h1 hl1).2 hl1 hm1⟩
end Rv
