import Derived.Test.YtnlpkgamglhnbaaRvMem
set_option linter.unusedVariables false
set_option linter.unusedSimpArgs false
namespace Rv
open Go Go.RowKit

/-- A bound of a cut: what is given, or what stands for nothing. -/
def bnd (x : Option Value) (d lim : Nat) : Option Nat :=
  match x with
  | none => some d
  | some (.int _ i) => if 0 ≤ i ∧ i ≤ (lim : Int) then some i.toNat else none
  | _ => none
theorem bnd_int {x : Value} {d lim n : Nat} (h : bnd (some x) d lim = some n) : n ≤ lim ∧ ∃ k i, x = .int k i ∧ 0 ≤ i ∧ i = (n : Int) := by
  cases x <;> simp only [bnd] at h
  case int k i =>
    split at h
    · rename_i hc
      obtain rfl := Option.some.inj h
      exact ⟨by omega, k, i, rfl, hc.1, by omega⟩
    · cases h
  all_goals cases h
theorem run_bnd (P : Program) (w : World) {x : Value} {d lim n lim' : Nat} (h : bnd (some x) d lim = some n) (hl : lim ≤ lim') (code : BoundsCode) : (Instr.sliceBound x lim' code).run P w = .ok n w := by
  obtain ⟨h1, k, i, rfl, h2, h3⟩ := bnd_int h
  have := run_sliceBound (P := P) w k i lim' code h2 (by omega)
  rw [this]; congr 1; omega

def eSlice (b o n c k : Nat) (ex : Bool) (lo hi mx : Option Value) : Option Cell :=
  match mx with
  | none => match bnd hi n c with
    | some h => match bnd lo 0 h with
      | some l => if h ≤ c ∧ l ≤ h then (if l = 0 then some (.sl b o h c k ex) else if l < h then some (.sl b (o + l * k) (h - l) (c - l) k ex) else some .emp) else none
      | none => none
    | none => none
  | some _ => match bnd mx 0 c with
    | some m => match hi with
      | none => none
      | some _ => match bnd hi 0 m with
        | some h => match bnd lo 0 h with
          | some l => if l ≤ h then (if l = 0 then some (.sl b o h m k true) else if l < h then some (.sl b (o + l * k) (h - l) (m - l) k true) else some .emp) else none
          | none => none
        | none => none
    | none => none
theorem bnd_le {x : Option Value} {d lim n : Nat} (h : bnd x d lim = some n) (hd : d ≤ lim) : n ≤ lim := by
  cases x with
  | none => obtain rfl := Option.some.inj h; exact hd
  | some x => exact (bnd_int h).1
/-- The cut's three bounds. -/
theorem run_bounds_plain (P : Program) (w : World) (isS : Bool) {lo hi : Option Value} {n c c' l h : Nat} (hh : bnd hi n c = some h) (hl : bnd lo 0 h = some l) (hc : c ≤ c') :
    (Instr.sliceBounds isS n c' lo hi none).run P w = .ok (l, h, c') w := by
  cases hi with
  | none =>
    obtain rfl := Option.some.inj hh
    cases lo with
    | none => obtain rfl := Option.some.inj hl; simp [Instr.sliceBounds]
    | some x => simp [Instr.sliceBounds, run_bnd P w hl (Nat.le_refl _)]
  | some y =>
    cases lo with
    | none => obtain rfl := Option.some.inj hl; simp [Instr.sliceBounds, run_bnd P w hh hc]
    | some x => simp [Instr.sliceBounds, run_bnd P w hh hc, run_bnd P w hl (Nat.le_refl _)]
theorem run_bounds_full (P : Program) (w : World) (isS : Bool) {lo : Option Value} {y z : Value} {n c c' l h m : Nat} (hm : bnd (some z) 0 c = some m) (hh : bnd (some y) 0 m = some h) (hl : bnd lo 0 h = some l) (hc : c ≤ c') :
    (Instr.sliceBounds isS n c' lo (some y) (some z)).run P w = .ok (l, h, m) w := by
  cases lo with
  | none => obtain rfl := Option.some.inj hl; simp [Instr.sliceBounds, run_bnd P w hm hc, run_bnd P w hh (Nat.le_refl _)]
  | some x => simp [Instr.sliceBounds, run_bnd P w hm hc, run_bnd P w hh (Nat.le_refl _), run_bnd P w hl (Nat.le_refl _)]

theorem run_sliceAt_of (P : Program) (w : World) {t e : TypeId} {i : TypeInfo} (ht : P.underlying t = some (.slice e)) (hi : P.info? e = some i) {a : Option Addr} {n c : Nat} {lo hi' mx : Option Value} {l h m : Nat}
    (hb : (Instr.sliceBounds true n c lo hi' mx).run P w = .ok (l, h, m) w) : (Instr.sliceAt t (.slice a n c) lo hi' mx).run P w = .ok (.slice (if m = l then a else a.map (·.add (l * i.size))) (h - l) (m - l)) w := by
  simp [Instr.sliceAt, run_underlying ht, Instr.slice, hb, rv_sizeOf P e i hi]

/-- The cell that a cut gives. -/
def eSliceC (P : Program) (t : TypeId) (x : Cell) (lo hi mx : Option Value) : Option Cell :=
  match P.underlying t with
  | some (.slice e) => match P.info? e with
    | some i => match x with
      | .sl b o n c k ex => if i.size = k then eSlice b o n c k ex lo hi mx else none
      | .rd b o n k => match mx with
        | none => match bnd hi n n with
          | some h => match bnd lo 0 h with
            | some l => if i.size = k ∧ l ≤ h ∧ h ≤ n then some (.rd b (o + l * k) (h - l) k) else none
            | none => none
          | none => none
        | some _ => none
      | .L k xs => match mx with
        | none => match bnd hi xs.length xs.length with
          | some h => match bnd lo 0 h with
            | some l => if i.size = k ∧ l ≤ h ∧ h ≤ xs.length then some (.L k ((xs.take h).drop l)) else none
            | none => none
          | none => none
        | some _ => match bnd mx 0 xs.length with
          | some m => match hi with
            | none => none
            | some _ => match bnd hi 0 m with
              | some h => match bnd lo 0 h with
                | some l => if i.size = k ∧ l ≤ h ∧ h = m ∧ h ≤ xs.length then some (.LC k ((xs.take h).drop l)) else none
                | none => none
              | none => none
          | none => none
      | .LC k xs => match mx with
        | none => match bnd hi xs.length xs.length with
          | some h => match bnd lo 0 h with
            | some l => if i.size = k ∧ l ≤ h ∧ h ≤ xs.length then some (.L k ((xs.take h).drop l)) else none
            | none => none
          | none => none
        | some _ => none
      | .emp => match mx with
        | none => match bnd hi 0 0, bnd lo 0 0 with
          | some _, some _ => some .emp
          | _, _ => none
        | some _ => match hi with
          | none => none
          | some _ => match bnd mx 0 0, bnd hi 0 0, bnd lo 0 0 with
            | some _, some _, some _ => some .emp
            | _, _, _ => none
      | .v (.slice none 0 0) => match mx with
        | none => match bnd hi 0 0, bnd lo 0 0 with
          | some _, some _ => some (.v (.slice none 0 0))
          | _, _ => none
        | some _ => match hi with
          | none => none
          | some _ => match bnd mx 0 0, bnd hi 0 0, bnd lo 0 0 with
            | some _, some _, some _ => some (.v (.slice none 0 0))
            | _, _, _ => none
      | _ => none
    | none => none
  | some .string => match x, mx with
    | .v (.string s), none => match bnd hi s.size s.size with
      | some h => match bnd lo 0 h with
        | some l => some (.v (.string (s.extract l h)))
        | none => none
      | none => none
    | _, _ => none
  | _ => none

theorem eSlice_ok (P : Program) {t e : TypeId} {i : TypeInfo} (ht : P.underlying t = some (.slice e)) (hi : P.info? e = some i) {b o n c k : Nat} {ex : Bool} {lo hi' mx : Option Value} {r : Cell} (hk : i.size = k)
    (he : eSlice b o n c k ex lo hi' mx = some r) {μ : Mu} (w : World) {u : Value} (hu : RC μ (.sl b o n c k ex) u) :
    ∃ v, (Instr.sliceAt t u lo hi' mx).run P w = .ok v w ∧ RC μ r v := by
  obtain ⟨L, c', hm, rfl, hcc, hex, hcap⟩ := hu
  subst hk
  unfold eSlice at he
  split at he
  · split at he
    · rename_i h hh
      split at he
      · rename_i l hl
        split at he
        · rename_i hle
          have hb := run_bounds_plain P w true hh hl hcc
          have hs := run_sliceAt_of P w ht hi (a := some ⟨L.B, L.base + o, none⟩) hb
          refine ⟨_, hs, ?_⟩
          split at he
          · rename_i h0
            subst h0
            obtain rfl := Option.some.inj he
            refine ⟨L, c', hm, ?_, hcc, hex, hcap⟩
            split <;> simp [Addr.add]
          · split at he
            · rename_i h0 hlt
              obtain rfl := Option.some.inj he
              have hne : ¬ c' = l := by omega
              refine ⟨L, c' - l, hm, ?_, by omega, fun hx => by have := hex hx; omega, ?_⟩
              · rw [if_neg hne]; simp [addr_add, Nat.add_assoc]
              · rw [Nat.add_assoc, ← Nat.add_mul]; rw [show l + (c' - l) = c' by omega]; exact hcap
            · obtain rfl := Option.some.inj he
              have : h - l = 0 := by omega
              rw [this]
              exact ⟨_, _, rfl⟩
        · cases he
      · cases he
    · cases he
  · split at he
    · rename_i z m hmm
      split at he
      · cases he
      · rename_i y
        split at he
        · rename_i h hh
          split at he
          · rename_i l hl
            split at he
            · rename_i hle
              have hb := run_bounds_full P w true (n := n) hmm hh hl hcc
              have hs := run_sliceAt_of P w ht hi (a := some ⟨L.B, L.base + o, none⟩) hb
              have hmc := (bnd_int hmm).1
              have hhm := (bnd_int hh).1
              refine ⟨_, hs, ?_⟩
              split at he
              · rename_i h0
                subst h0
                obtain rfl := Option.some.inj he
                refine ⟨L, m, hm, ?_, Nat.le_refl _, fun _ => rfl, ?_⟩
                · split <;> simp [Addr.add]
                · have := Nat.mul_le_mul_right i.size (show m ≤ c' by omega); omega
              · split at he
                · rename_i h0 hlt
                  obtain rfl := Option.some.inj he
                  have hne : ¬ m = l := by omega
                  refine ⟨L, m - l, hm, ?_, Nat.le_refl _, fun _ => rfl, ?_⟩
                  · rw [if_neg hne]; simp [addr_add, Nat.add_assoc]
                  · rw [Nat.add_assoc, ← Nat.add_mul, show l + (m - l) = m by omega]
                    have := Nat.mul_le_mul_right i.size (show m ≤ c' by omega); omega
                · obtain rfl := Option.some.inj he
                  have : h - l = 0 := by omega
                  rw [this]
                  exact ⟨_, _, rfl⟩
            · cases he
          · cases he
        · cases he
    · cases he

/-- A cut of a slice that stays. -/
theorem LR.cut {F : Nat → Nat → Option Value} {k : Nat} {xs : List (List Cell)} {A : Option Addr} {c : Nat} (hu : LR F k xs (.slice A xs.length c)) {l h m : Nat} (hlh : l ≤ h) (hh : h ≤ xs.length) (hm : h ≤ m) (hmc : m ≤ c) :
    LR F k ((xs.take h).drop l) (.slice (if m = l then A else A.map (·.add (l * k))) (h - l) (m - l)) := by
  obtain ⟨A', c', e, hlc, hnil, hpos⟩ := LR.addr hu
  obtain ⟨rfl, rfl⟩ : A = A' ∧ c = c' := by cases e; exact ⟨rfl, rfl⟩
  have hlen : ((xs.take h).drop l).length = h - l := by simp; omega
  rw [← hlen]
  refine LR.of (by rw [hlen]; omega) (fun e => ?_) (fun hne => ?_)
  · have hA : A = none := by
      split at e
      · exact e
      · cases A <;> simp_all
    obtain ⟨h1, h2⟩ := hnil hA
    refine ⟨?_, by omega⟩
    subst h1; simp
  · have hlt : l < h := by
      rcases Nat.lt_or_ge l h with h1 | h1
      · exact h1
      · exact absurd (List.eq_nil_of_length_eq_zero (by rw [hlen]; omega)) hne
    obtain ⟨B, o, rfl, hel⟩ := hpos (fun e => by subst e; simp at hh; omega)
    refine ⟨B, o + l * k, by rw [if_neg (by omega)]; simp [addr_add], fun i ps hi => ?_⟩
    rw [List.getElem?_drop, List.getElem?_take] at hi
    split at hi
    · obtain ⟨g1, g2⟩ := hel _ ps hi
      refine ⟨g1, fun j c hj => ?_⟩
      rw [show o + l * k + i * k + j = o + (l + i) * k + j by rw [Nat.add_mul]; omega]
      exact g2 j c hj
    · cases hi
theorem bnd00 {x : Option Value} {n : Nat} (h : bnd x 0 0 = some n) : n = 0 := Nat.le_zero.1 (bnd_le h (Nat.le_refl _))
theorem eSliceC_ok (P : Program) {t : TypeId} {x r : Cell} {lo hi mx : Option Value} (he : eSliceC P t x lo hi mx = some r) {μ : Mu} (w : World) {u : Value} (hu : RC μ x u) :
    ∃ v, (Instr.sliceAt t u lo hi mx).run P w = .ok v w ∧ RC μ r v := by
  unfold eSliceC at he
  split at he
  · rename_i e ht
    split at he
    · rename_i i hi'
      split at he
      · split at he
        · rename_i hk
          exact eSlice_ok P ht hi' hk he w hu
        · cases he
      · rename_i b o n k
        obtain ⟨A, c', rfl, hnc, hnil, hpos⟩ := hu
        split at he
        · split at he
          · rename_i h hh
            split at he
            · rename_i l hl
              split at he
              · rename_i hc
                obtain ⟨rfl, hlh, hhn⟩ := hc
                obtain rfl := Option.some.inj he
                refine ⟨_, run_sliceAt_of P w ht hi' (run_bounds_plain P w true hh hl hnc), ?_⟩
                by_cases h0 : c' = l
                · rw [if_pos h0]
                  refine ⟨A, c' - l, rfl, by omega, fun e => ⟨by have := hnil e; omega, by omega⟩, fun hp => by omega⟩
                · rw [if_neg h0]
                  refine ⟨A.map (·.add (l * i.size)), c' - l, rfl, by omega, fun e => ?_, fun hp => ?_⟩
                  · have : A = none := by cases A <;> simp_all
                    have := hnil this
                    omega
                  · obtain ⟨L, hm, rfl, hcap⟩ := hpos (by omega)
                    refine ⟨L, hm, by simp [addr_add, Nat.add_assoc], ?_⟩
                    rw [Nat.add_assoc, ← Nat.add_mul, show l + (c' - l) = c' by omega]; exact hcap
              · cases he
            · cases he
          · cases he
        · cases he
      · rename_i k xs
        have hu' : LR μ.F k xs u := hu
        obtain ⟨A, c', rfl, hnc, _, _⟩ := LR.addr hu'
        split at he
        · split at he
          · rename_i h hh
            split at he
            · rename_i l hl
              split at he
              · rename_i hc
                obtain ⟨rfl, hlh, hhn⟩ := hc
                obtain rfl := Option.some.inj he
                exact ⟨_, run_sliceAt_of P w ht hi' (run_bounds_plain P w true hh hl hnc), hu'.cut hlh hhn (Nat.le_trans hhn hnc) (Nat.le_refl _)⟩
              · cases he
            · cases he
          · cases he
        · split at he
          · rename_i m hm
            split at he
            · cases he
            · split at he
              · rename_i h hh
                split at he
                · rename_i l hl
                  split at he
                  · rename_i hc
                    obtain ⟨rfl, hlh, rfl, hhn⟩ := hc
                    obtain rfl := Option.some.inj he
                    have hlen : ((xs.take h).drop l).length = h - l := by simp; omega
                    exact ⟨_, run_sliceAt_of P w ht hi' (run_bounds_full P w true hm hh hl hnc), hu'.cut hlh hhn (Nat.le_refl _) (by omega), _, by rw [hlen]⟩
                  · cases he
                · cases he
              · cases he
          · cases he
      · rename_i k xs
        have hu' : LR μ.F k xs u := hu.1
        obtain ⟨A, c', rfl, hnc, _, _⟩ := LR.addr hu'
        split at he
        · split at he
          · rename_i h hh
            split at he
            · rename_i l hl
              split at he
              · rename_i hc
                obtain ⟨rfl, hlh, hhn⟩ := hc
                obtain rfl := Option.some.inj he
                exact ⟨_, run_sliceAt_of P w ht hi' (run_bounds_plain P w true hh hl hnc), hu'.cut hlh hhn (Nat.le_trans hhn hnc) (Nat.le_refl _)⟩
              · cases he
            · cases he
          · cases he
        · cases he
      · obtain ⟨A, c', rfl⟩ := hu
        split at he
        · split at he
          · rename_i h l hh hl
            obtain rfl := Option.some.inj he
            obtain rfl := bnd00 hh
            obtain rfl := bnd00 hl
            exact ⟨_, run_sliceAt_of P w ht hi' (run_bounds_plain P w true hh hl (Nat.zero_le _)), _, _, rfl⟩
          · cases he
        · split at he
          · cases he
          · split at he
            · rename_i m h l hm hh hl
              obtain rfl := Option.some.inj he
              obtain rfl := bnd00 hm
              obtain rfl := bnd00 hh
              obtain rfl := bnd00 hl
              exact ⟨_, run_sliceAt_of P w ht hi' (run_bounds_full P w true hm hh hl (Nat.zero_le _)), _, _, rfl⟩
            · cases he
      · obtain ⟨rfl, _⟩ := hu
        split at he
        · split at he
          · rename_i h l hh hl
            obtain rfl := Option.some.inj he
            obtain rfl := bnd00 hh
            obtain rfl := bnd00 hl
            exact ⟨_, run_sliceAt_of P w ht hi' (run_bounds_plain P w true hh hl (Nat.zero_le _)), rfl, rfl⟩
          · cases he
        · split at he
          · cases he
          · split at he
            · rename_i m h l hm hh hl
              obtain rfl := Option.some.inj he
              obtain rfl := bnd00 hm
              obtain rfl := bnd00 hh
              obtain rfl := bnd00 hl
              exact ⟨_, run_sliceAt_of P w ht hi' (run_bounds_full P w true hm hh hl (Nat.zero_le _)), rfl, rfl⟩
            · cases he
      · cases he
    · cases he
  · rename_i ht
    split at he
    · rename_i s
      split at he
      · rename_i h hh
        split at he
        · rename_i l hl
          obtain rfl := Option.some.inj he
          obtain ⟨rfl, _⟩ := hu
          refine ⟨.string (s.extract l h), ?_, rfl, rfl⟩
          simp [Instr.sliceAt, run_underlying ht, Instr.slice, run_bounds_plain P w false hh hl (Nat.le_refl _)]
        · cases he
      · cases he
    · cases he
  · cases he

def eMake (P : Program) (t : TypeId) (n c : Int) (h : Heap) : Option (Cell × Heap) :=
  match P.underlying t with
  | some (.slice e) => match P.info? e, zeroOf P e with
    | some i, some z => if 0 ≤ n ∧ n ≤ c ∧ c ≤ 9223372036854775807 ∧ (i.bytes : Int) * c ≤ 281474976710656 ∧ z.length = i.size ∧ 0 < i.size then
        some (.g h.length n.toNat i.size true, h ++ [⟨(List.replicate n.toNat z).flatten, true, true⟩]) else none
    | _, _ => none
  | _ => none

theorem flat_rep_get {α : Type} (z : List α) : ∀ (c j : Nat), j < c * z.length → (List.replicate c z).flatten[j]? = z[j % z.length]? := by
  intro c
  induction c with
  | zero => intro j h; omega
  | succ c ih =>
    intro j h
    rw [List.replicate_succ, List.flatten_cons]
    rcases Nat.lt_or_ge j z.length with hj | hj
    · rw [List.getElem?_append_left hj, Nat.mod_eq_of_lt hj]
    · rw [List.getElem?_append_right hj, ih (j - z.length) (by rw [Nat.succ_mul] at h; omega), Nat.mod_eq_sub_mod hj]
theorem flat_rep_length {α : Type} (z : List α) (c : Nat) : (List.replicate c z).flatten.length = c * z.length := by
  induction c with
  | zero => simp
  | succ c ih => rw [List.replicate_succ, List.flatten_cons, List.length_append, ih, Nat.succ_mul, Nat.add_comm]
theorem madeCells_get (z : Array Value) (n j : Nat) (h : j < n) (hz : 0 < z.size) : (madeCells z n)[j]? = z[j % z.size]? := by
  have hm : j % z.size < z.size := Nat.mod_lt _ hz
  rw [Array.getElem?_eq_getElem (by simpa [size_madeCells] using h), Array.getElem?_eq_getElem hm]
  simp [madeCells, hm]
theorem zeros_rel {μ : Mu} {z : List Cell} {za : Array Value} (hz : R2 (RC μ) z za.toList) (c : Nat) (h0 : 0 < z.length) : R2 (RC μ) (List.replicate c z).flatten (madeCells za (c * z.length)).toList := by
  have hs : z.length = za.size := by simpa using hz.1
  refine ⟨(flat_rep_length z c).trans (by simp [size_madeCells]), fun i x y hx hy => ?_⟩
  have hi : i < c * z.length := by have := lt_of_get hx; rwa [flat_rep_length] at this
  rw [flat_rep_get _ _ _ hi] at hx
  rw [Array.getElem?_toList, madeCells_get _ _ _ hi (by omega), ← hs] at hy
  exact hz.2 _ _ _ hx (by rwa [Array.getElem?_toList])

theorem eMake_ok (P : Program) {t : TypeId} {n c : Int} {h h' : Heap} {x : Cell} (he : eMake P t n c h = some (x, h')) (kl kc : IntKind) {B0 : Pt} {μ : Mu} {w : World} (hr : HR B0 μ h w) :
    ∃ r w' l, (Instr.makeSlice t (.int kl n) (.int kc c)).run P w = .ok r w' ∧ HR B0 (Mu.add μ [l]) h' w' ∧ RC (Mu.add μ [l]) x r ∧ Bel B0 w w' := by
  unfold eMake at he
  split at he
  · rename_i e ht
    split at he
    · rename_i i z hi hz
      split at he
      · rename_i hc
        obtain ⟨h1, h2, h3, h4, h5, h6⟩ := hc
        obtain ⟨rfl, rfl⟩ := Prod.mk.inj (Option.some.inj he)
        obtain ⟨i', zv, hi', hzz, hrel⟩ := zeroOf_ok hz
        obtain rfl : i' = i := by rw [hi] at hi'; exact (Option.some.inj hi').symm
        have hzr := zeros_rel (hrel μ) c.toNat (by omega)
        have hnc : n.toNat ≤ c.toNat := by omega
        have hle : n.toNat * z.length ≤ c.toNat * z.length := Nat.mul_le_mul_right _ hnc
        have hsplit : (List.replicate c.toNat z).flatten.take (n.toNat * z.length) = (List.replicate n.toNat z).flatten := by
          have e1 : List.replicate c.toNat z = List.replicate n.toNat z ++ List.replicate (c.toNat - n.toNat) z := by rw [List.replicate_append_replicate]; congr 1; omega
          rw [e1, List.flatten_append, ← flat_rep_length z n.toNat, List.take_left]
        have hzr2 := hzr.take (n.toNat * z.length)
        rw [hsplit] at hzr2
        have hone : ∀ v ∈ (madeCells zv.cells (c.toNat * z.length)).toList.drop (n.toNat * z.length), v.oneCell' = true := fun v hv => by
          have hv' := List.mem_of_mem_drop hv
          obtain ⟨q, hq⟩ := List.getElem?_of_mem hv'
          obtain ⟨x, _, hx⟩ := hzr.get' hq
          exact RC.one hx
        have ha := hr.alloc hzr2 e _ hone
        have hrun := run_make (P := P) w t e i' zv ht hi hzz kl kc n c h1 h2 h4 h3
        rw [← h5] at hrun
        have hlen : ((madeCells zv.cells (c.toNat * z.length)).toList.take (n.toNat * z.length)).length + ((madeCells zv.cells (c.toNat * z.length)).toList.drop (n.toNat * z.length)).length = c.toNat * z.length := by
          have hml : (madeCells zv.cells (c.toNat * z.length)).toList.length = c.toNat * z.length := by rw [← hzr.1]; exact flat_rep_length z c.toNat
          rw [List.length_take, List.length_drop, hml]; omega
        refine ⟨_, _, ⟨w.heap.size, 0, c.toNat * z.length⟩, hrun, ?_, ⟨nofun, fun _ => ⟨⟨w.heap.size, 0, c.toNat * z.length⟩, c.toNat, ?_, rfl, hnc, ?_⟩⟩, Bel.new hr.size _⟩
        · rw [hlen, List.take_append_drop] at ha
          simpa [size_madeCells] using ha
        · show (μ.ls ++ [_])[_]? = _; rw [← hr.len]; simp
        · show c.toNat * i'.size ≤ c.toNat * z.length
          rw [h5]; exact Nat.le_refl _
      · cases he
    · cases he
  · cases he

/-- How many elements, and their cells. -/
def srcCells (x : Cell) (k : Nat) (h : Heap) : Option (Nat × List Cell) :=
  match x with
  | .sl b o m c k' ex => match h[b]? with
    | some ob => if ob.live = true ∧ k' = k ∧ ((ob.cells.drop o).take (m * k)).length = m * k then some (m, (ob.cells.drop o).take (m * k)) else none
    | none => none
  | .rd b o m k' => if m = 0 then some (0, []) else match h[b]? with
    | some ob => if ob.live = true ∧ k' = k ∧ ((ob.cells.drop o).take (m * k)).length = m * k then some (m, (ob.cells.drop o).take (m * k)) else none
    | none => none
  | .L k' xs => if k' = k then some (xs.length, xs.flatten) else none
  | .LC k' xs => if k' = k then some (xs.length, xs.flatten) else none
  | .g b n k' lv => match h[b]? with
    | some ob => if ob.live = lv ∧ k' = k ∧ ob.cells.length = n * k then some (n, ob.cells) else none
    | none => none
  | .emp => some (0, [])
  | .v (.slice none 0 0) => some (0, [])
  | _ => none
theorem flatten_get {α : Type} {k : Nat} : ∀ {xs : List (List α)}, (∀ (i : Nat) (ps : List α), xs[i]? = some ps → ps.length = k) → xs.flatten.length = xs.length * k ∧ ∀ (q : Nat) (x : α), xs.flatten[q]? = some x → ∃ i j ps, xs[i]? = some ps ∧ ps[j]? = some x ∧ q = i * k + j := by
  intro xs
  induction xs with
  | nil => intro _; exact ⟨by simp, fun q x h => by simp at h⟩
  | cons y r ih =>
    intro hk
    have hy : y.length = k := hk 0 y rfl
    obtain ⟨h1, h2⟩ := ih (fun i ps hi => hk (i + 1) ps (by simpa using hi))
    refine ⟨by simp only [List.flatten_cons, List.length_append, List.length_cons, Nat.add_mul]; omega, fun q x hq => ?_⟩
    rw [List.flatten_cons] at hq
    rcases Nat.lt_or_ge q y.length with hlt | hge
    · rw [List.getElem?_append_left hlt] at hq
      exact ⟨0, q, y, rfl, hq, by omega⟩
    · rw [List.getElem?_append_right hge] at hq
      obtain ⟨i, j, ps, g1, g2, g3⟩ := h2 _ x hq
      exact ⟨i + 1, j, ps, by simpa using g1, g2, by rw [Nat.add_mul]; omega⟩
/-- The cells of a slice that stays. -/
theorem LR.cells {B0 : Pt} {μ : Mu} {h : Heap} {w : World} (hr : HR B0 μ h w) {k : Nat} {xs : List (List Cell)} {A : Option Addr} {c : Nat} (hu : LR μ.F k xs (.slice A xs.length c)) :
    xs.flatten.length = xs.length * k ∧ ∃ us : List Value, us.length = xs.length * k ∧ R2 (RC μ) xs.flatten us ∧ (0 < xs.length → ∃ B o, A = some ⟨B, o, none⟩ ∧ ∀ (j : Nat) (v : Value), us[j]? = some v → w.cell? ((⟨B, o, none⟩ : Addr).add j) = some v) := by
  obtain ⟨A', c', e, hlc, hnil, hpos⟩ := LR.addr hu
  obtain ⟨rfl, rfl⟩ : A = A' ∧ c = c' := by cases e; exact ⟨rfl, rfl⟩
  by_cases hne : xs = []
  · subst hne
    exact ⟨by simp, [], by simp, by simpa using R2.nil _, fun h0 => by simp at h0⟩
  · obtain ⟨B, o, rfl, hel⟩ := hpos hne
    obtain ⟨f1, f2⟩ := flatten_get (k := k) (xs := xs) (fun i ps hi => (hel i ps hi).1)
    obtain ⟨us, h1, h2, h3⟩ := hr.cellsF (B := B) (o := o) (cs := xs.flatten) (fun q x hq => by
      obtain ⟨i, j, ps, g1, g2, rfl⟩ := f2 q x hq
      rw [← Nat.add_assoc]
      exact (hel i ps g1).2 j x g2)
    exact ⟨f1, us, h1.trans f1, h2, fun _ => ⟨B, o, rfl, h3⟩⟩
theorem srcL_ok (P : Program) {k : Nat} {xs : List (List Cell)} {B0 : Pt} {μ : Mu} {h : Heap} {w : World} (hr : HR B0 μ h w) {u : Value} (hu : LR μ.F k xs u) :
    xs.flatten.length = xs.length * k ∧ (Builtin.lenOf u).run P w = .ok xs.length w ∧ ∃ us : List Value, R2 (RC μ) xs.flatten us ∧ (∀ q, q ≤ xs.length → (Builtin.firstCells k q u).run P w = .ok (us.take (q * k)).toArray w) ∧ (0 < xs.length → ∃ a c', u = .slice (some a) xs.length c' ∧ ∀ (j : Nat) (v : Value), us[j]? = some v → w.cell? (a.add j) = some v) := by
  obtain ⟨A, c, rfl, hlc, hnil, _⟩ := LR.addr hu
  obtain ⟨f1, us, h1, h2, h3⟩ := LR.cells hr hu
  refine ⟨f1, rfl, us, h2, fun q hq => ?_, fun h0 => ?_⟩
  · rcases Nat.eq_zero_or_pos xs.length with h0 | h0
    · obtain rfl : q = 0 := by omega
      cases A <;> simp [Builtin.firstCells, loadCells, loadCellsFrom]
    · obtain ⟨B, o, rfl, h4⟩ := h3 h0
      have hlen : (us.take (q * k)).length = q * k := by rw [List.length_take, h1]; exact Nat.min_eq_left (Nat.mul_le_mul_right k hq)
      have hld := run_loadCells_list (P := P) w ⟨B, o, none⟩ (us.take (q * k)) (fun j v hv => h4 j v (by rw [List.getElem?_take] at hv; split at hv; exact hv; cases hv))
      rw [hlen] at hld
      exact hld
  · obtain ⟨B, o, rfl, h4⟩ := h3 h0
    exact ⟨_, c, rfl, h4⟩
theorem srcCells_ok (P : Program) {x : Cell} {k : Nat} {h : Heap} {m : Nat} {cs : List Cell} (he : srcCells x k h = some (m, cs)) {B0 : Pt} {μ : Mu} {w : World} (hr : HR B0 μ h w) {u : Value} (hu : RC μ x u) :
    cs.length = m * k ∧ (Builtin.lenOf u).run P w = .ok m w ∧ ∃ us : List Value, R2 (RC μ) cs us ∧ (∀ q, q ≤ m → (Builtin.firstCells k q u).run P w = .ok (us.take (q * k)).toArray w) ∧ (0 < m → ∃ a c', u = .slice (some a) m c' ∧ ∀ (j : Nat) (v : Value), us[j]? = some v → w.cell? (a.add j) = some v) := by
  unfold srcCells at he
  split at he
  · rename_i b o m' c k' ex
    split at he
    · rename_i ob hb
      split at he
      · rename_i hc
        obtain ⟨hl, hk, hn⟩ := hc
        obtain ⟨rfl, rfl⟩ := Prod.mk.inj (Option.some.inj he)
        obtain ⟨l, c', hm, rfl, _⟩ := hu
        obtain ⟨us, h1, h2, h3⟩ := hr.cellsAt hb hl hm rfl hn
        refine ⟨hn, rfl, us, h2, fun q hq => ?_, fun _ => ⟨_, c', rfl, h3⟩⟩
        have hlen : (us.take (q * k)).length = q * k := by rw [List.length_take, h1]; exact Nat.min_eq_left (Nat.mul_le_mul_right k hq)
        have hld := run_loadCells_list (P := P) w ⟨l.B, l.base + o, none⟩ (us.take (q * k)) (fun j v hv => h3 j v (by rw [List.getElem?_take] at hv; split at hv; exact hv; cases hv))
        rw [hlen] at hld
        exact hld
      · cases he
    · cases he
  · rename_i b o m' k'
    obtain ⟨A, c', rfl, hnc, hnil, hpos⟩ := hu
    split at he
    · rename_i h0
      obtain ⟨rfl, rfl⟩ := Prod.mk.inj (Option.some.inj he)
      subst h0
      refine ⟨by simp, rfl, [], R2.nil _, fun q hq => ?_, fun h => by omega⟩
      obtain rfl : q = 0 := by omega
      cases A <;> simp [Builtin.firstCells, loadCells, loadCellsFrom]
    · rename_i h0
      split at he
      · rename_i ob hb
        split at he
        · rename_i hc
          obtain ⟨hl, hk, hn⟩ := hc
          obtain ⟨rfl, rfl⟩ := Prod.mk.inj (Option.some.inj he)
          obtain ⟨l, hm, rfl, _⟩ := hpos (by omega)
          obtain ⟨us, h1, h2, h3⟩ := hr.cellsAt hb hl hm rfl hn
          refine ⟨hn, rfl, us, h2, fun q hq => ?_, fun _ => ⟨_, c', rfl, h3⟩⟩
          have hlen : (us.take (q * k)).length = q * k := by rw [List.length_take, h1]; exact Nat.min_eq_left (Nat.mul_le_mul_right k hq)
          have hld := run_loadCells_list (P := P) w ⟨l.B, l.base + o, none⟩ (us.take (q * k)) (fun j v hv => h3 j v (by rw [List.getElem?_take] at hv; split at hv; exact hv; cases hv))
          rw [hlen] at hld
          exact hld
        · cases he
      · cases he
  · split at he
    · rename_i hk
      subst hk
      obtain ⟨rfl, rfl⟩ := Prod.mk.inj (Option.some.inj he)
      exact srcL_ok P hr hu
    · cases he
  · split at he
    · rename_i hk
      subst hk
      obtain ⟨rfl, rfl⟩ := Prod.mk.inj (Option.some.inj he)
      exact srcL_ok P hr hu.1
    · cases he
  · rename_i b n k' lv
    split at he
    · rename_i ob hb
      split at he
      · rename_i hc
        obtain ⟨hl, hk, hn⟩ := hc
        obtain ⟨rfl, rfl⟩ := Prod.mk.inj (Option.some.inj he)
        cases lv with
        | true =>
          obtain ⟨l, c', hm, rfl, _⟩ := hu.2 rfl
          obtain ⟨us, h1, h2, h3⟩ := hr.cellsAt (o := 0) (n := n * k) (cs := ob.cells) hb hl hm (by rw [List.drop_zero, ← hn, List.take_length]) hn
          refine ⟨hn, rfl, us, h2, fun q hq => ?_, fun _ => ⟨_, c', rfl, h3⟩⟩
          have hlen : (us.take (q * k)).length = q * k := by rw [List.length_take, h1]; exact Nat.min_eq_left (Nat.mul_le_mul_right k hq)
          have hld := run_loadCells_list (P := P) w ⟨l.B, l.base + 0, none⟩ (us.take (q * k)) (fun j v hv => h3 j v (by rw [List.getElem?_take] at hv; split at hv; exact hv; cases hv))
          rw [hlen] at hld
          exact hld
        | false =>
          obtain ⟨rfl, A, rfl⟩ := hu.1 rfl
          have h0 : ob.cells = [] := List.eq_nil_of_length_eq_zero (by omega)
          rw [h0]
          refine ⟨by simp, rfl, [], R2.nil _, fun q hq => ?_, fun h => by omega⟩
          obtain rfl : q = 0 := by omega
          cases A <;> simp [Builtin.firstCells, loadCells, loadCellsFrom]
      · cases he
    · cases he
  · obtain ⟨rfl, rfl⟩ := Prod.mk.inj (Option.some.inj he)
    obtain ⟨A, c', rfl⟩ := hu
    refine ⟨by simp, rfl, [], R2.nil _, fun q hq => ?_, fun h => by omega⟩
    obtain rfl : q = 0 := by omega
    cases A <;> simp [Builtin.firstCells, loadCells, loadCellsFrom]
  · obtain ⟨rfl, rfl⟩ := Prod.mk.inj (Option.some.inj he)
    obtain ⟨rfl, _⟩ := hu
    refine ⟨by simp, rfl, [], R2.nil _, fun q hq => ?_, fun h => by omega⟩
    simp [Builtin.firstCells]
  · cases he

/-- The cells of an object of the call's own that lie behind those that are told. -/
theorem HR.share {B0 : Pt} {μ : Mu} {h : Heap} {w : World} (hr : HR B0 μ h w) {b : Nat} {ob : AO} (hb : h[b]? = some ob) (hl : ob.live = true) (ho : ob.own = true) {l : Loc} (hm : μ.ls[b]? = some l) {o n j : Nat} {cs : List Cell} (hc : cs = (ob.cells.drop o).take n) (hcap : o + (cs.length + j) ≤ l.cap) :
    HR B0 (Mu.add μ [⟨l.B, l.base + o, l.cap - o⟩]) (Rv.kill h b ++ [⟨cs ++ List.replicate j .any, true, true⟩]) w := by
  have pre : Mu.le μ (Mu.add μ [⟨l.B, l.base + o, l.cap - o⟩]) := Mu.le_add _ _
  have hk : (Rv.kill h b).length = h.length := by simp [Rv.kill]
  have hrk := hr.kill b
  obtain ⟨l', arr, T, fr, hm', hh, hcs, hown⟩ := hr.ok b ob hb hl
  obtain rfl : l' = l := by rw [hm] at hm'; exact (Option.some.inj hm').symm
  obtain ⟨g1, g2, g3, g4, g5⟩ := hown ho
  have hcl : ∀ (q : Nat) (x : Cell), cs[q]? = some x → ob.cells[o + q]? = some x := by
    intro q x hq
    rw [hc, List.getElem?_take] at hq
    split at hq
    · rw [List.getElem?_drop] at hq; exact hq
    · cases hq
  refine ⟨by simp [Mu.add, hr.len, hk], hr.size, fun b' ob' hb' hl' => ?_, fun b1 b2 o1 o2 l1 l2 h1 h2 hl1 hl2 ho1 hne hm1 hm2 => ?_, hr.fz, fun b1 o1 l1 h1 hl1 ho1 hm1 q => ?_, hr.fp, fun b1 o1 l1 h1 hl1 hm1 => ?_⟩
  rotate_right
  · rcases Nat.lt_or_ge b1 h.length with hlt | hge
    · rw [List.getElem?_append_left (by omega)] at h1
      have hm1 : (μ.ls ++ [(⟨l'.B, l'.base + o, l'.cap - o⟩ : Loc)])[b1]? = some l1 := hm1
      rw [List.getElem?_append_left (hr.len ▸ hlt)] at hm1
      exact hrk.ns b1 o1 l1 h1 hl1 hm1
    · have e : b1 = h.length := by
        have := lt_of_get h1
        simp [hk] at this
        omega
      subst e
      have hm1 : (μ.ls ++ [(⟨l'.B, l'.base + o, l'.cap - o⟩ : Loc)])[h.length]? = some l1 := hm1
      rw [← hr.len] at hm1
      simp at hm1
      subst hm1
      exact hr.ns b ob l' hb hl hm
  rotate_left 2
  · rcases Nat.lt_or_ge b1 h.length with hlt | hge
    · rw [List.getElem?_append_left (by omega)] at h1
      have hm1 : (μ.ls ++ [(⟨l'.B, l'.base + o, l'.cap - o⟩ : Loc)])[b1]? = some l1 := hm1
      rw [List.getElem?_append_left (hr.len ▸ hlt)] at hm1
      exact hrk.nof b1 o1 l1 h1 hl1 ho1 hm1 q
    · have e : b1 = h.length := by
        have := lt_of_get h1
        simp [hk] at this
        omega
      subst e
      have hm1 : (μ.ls ++ [(⟨l'.B, l'.base + o, l'.cap - o⟩ : Loc)])[h.length]? = some l1 := hm1
      rw [← hr.len] at hm1
      simp at hm1
      subst hm1
      exact hr.nof b ob l' hb hl ho hm q
  · rcases Nat.lt_or_ge b' h.length with hlt | hge
    · rw [List.getElem?_append_left (by omega)] at hb'
      obtain ⟨l2, arr2, T2, fr2, hm2, hh2, hcells, hown2⟩ := hrk.ok b' ob' hb' hl'
      exact ⟨l2, arr2, T2, fr2, pre_get pre hm2, hh2, fun q c hq => by obtain ⟨u, hu, hru⟩ := hcells q c hq; exact ⟨u, hu, RC.mono pre hru⟩, hown2⟩
    · have e : b' = h.length := by
        have := lt_of_get hb'
        simp [hk] at this
        omega
      subst e
      rw [← hk] at hb'
      simp at hb'
      subst hb'
      refine ⟨⟨l'.B, l'.base + o, l'.cap - o⟩, arr, T, fr, by show (μ.ls ++ [_])[_]? = _; rw [← hr.len]; simp, hh, fun q c hq => ?_, fun _ => ⟨g1, g2, by simp only; omega, by simp only [List.length_append, List.length_replicate]; omega, g5⟩⟩
      simp only at hq ⊢
      rcases Nat.lt_or_ge q cs.length with hq2 | hq2
      · rw [List.getElem?_append_left hq2] at hq
        obtain ⟨u, hu, hru⟩ := hcs _ _ (hcl q c hq)
        exact ⟨u, by rw [Nat.add_assoc]; exact hu, RC.mono pre hru⟩
      · rw [List.getElem?_append_right hq2, List.getElem?_replicate] at hq
        split at hq
        · rename_i hq3
          obtain rfl := Option.some.inj hq
          have hlt : l'.base + o + q < arr.size := by omega
          refine ⟨arr[l'.base + o + q], Array.getElem?_eq_getElem hlt, g5 _ (by simp)⟩
        · cases hq
  · have hnew : ∀ {x : Nat} {lx : Loc} {y : AO}, (Rv.kill h b ++ [(⟨cs ++ List.replicate j .any, true, true⟩ : AO)])[x]? = some y → y.live = true → (μ.ls ++ [(⟨l'.B, l'.base + o, l'.cap - o⟩ : Loc)])[x]? = some lx → (x < h.length ∧ (Rv.kill h b)[x]? = some y ∧ μ.ls[x]? = some lx) ∨ (x = h.length ∧ lx.B = l'.B) := by
      intro x lx y hx hy hmx
      rcases Nat.lt_or_ge x h.length with hlt | hge
      · rw [List.getElem?_append_left (by omega)] at hx
        rw [List.getElem?_append_left (hr.len ▸ hlt)] at hmx
        exact .inl ⟨hlt, hx, hmx⟩
      · have e : x = h.length := by
          have := lt_of_get hx
          simp [hk] at this
          omega
        subst e
        rw [← hr.len] at hmx
        simp at hmx
        subst hmx
        exact .inr ⟨rfl, rfl⟩
    have hdist : ∀ {x : Nat} {lx : Loc} {y : AO}, (Rv.kill h b)[x]? = some y → y.live = true → μ.ls[x]? = some lx → l'.B ≠ lx.B := by
      intro x lx y hx hy hmx
      obtain ⟨k1, k2⟩ := kill_get hx hy
      exact hr.inj b x ob y l' lx hb k2 hl hy ho (fun e => k1 e.symm) hm hmx
    rcases hnew h1 hl1 hm1 with ⟨_, k1, k2⟩ | ⟨k1, k2⟩ <;> rcases hnew h2 hl2 hm2 with ⟨_, k3, k4⟩ | ⟨k3, k4⟩
    · exact hrk.inj b1 b2 o1 o2 l1 l2 k1 k3 hl1 hl2 ho1 hne k2 k4
    · have := hdist k1 hl1 k2; omega
    · have := hdist k3 hl2 k4; omega
    · omega
end Rv
