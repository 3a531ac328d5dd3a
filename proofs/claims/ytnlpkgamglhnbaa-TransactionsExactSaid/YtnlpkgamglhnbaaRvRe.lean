import Derived.Test.YtnlpkgamglhnbaaRvBuiltin
set_option linter.unusedVariables false
set_option linter.unusedSimpArgs false
namespace Rv
open Go Go.RowKit

inductive WkC : Cell → Cell → Prop
  | refl (x : Cell) : WkC x x
  | sl (b o n c k : Nat) (ex : Bool) (h : n ≤ c) : WkC (.sl b o n c k ex) (.rd b o n k)
  | nl (b o k : Nat) : WkC (.v (.slice none 0 0)) (.rd b o 0 k)
  | nlL (k : Nat) : WkC (.v (.slice none 0 0)) (.L k [])
  | LC (k : Nat) (xs : List (List Cell)) : WkC (.LC k xs) (.L k xs)
  | gsl (b n k : Nat) : WkC (.g b n k true) (.sl b 0 n n k false)
  | gLC (b k : Nat) : WkC (.g b 0 k false) (.LC k [])
  | zero (b o b' o' k k' : Nat) : WkC (.rd b o 0 k) (.rd b' o' 0 k')
theorem WkC.ok {μ : Mu} {x y : Cell} (hw : WkC x y) {u : Value} (hx : RC μ x u) : RC μ y u := by
  cases hw with
  | refl => exact hx
  | sl b o n c k ex h =>
    obtain ⟨l, c', hm, rfl, h1, h2, h3⟩ := hx
    exact ⟨_, c', rfl, by omega, nofun, fun _ => ⟨l, hm, rfl, h3⟩⟩
  | nlL k => obtain ⟨rfl, _⟩ := hx; exact LR.of (Nat.le_refl _) (fun _ => ⟨rfl, rfl⟩) (fun h => absurd rfl h)
  | LC => exact hx.1
  | gsl b n k => exact g_sl hx
  | gLC b k =>
    obtain ⟨_, A, rfl⟩ := hx.1 rfl
    exact ⟨LR.of (Nat.le_refl _) (fun _ => ⟨rfl, rfl⟩) (fun h => absurd rfl h), A, rfl⟩
  | nl b o k => obtain ⟨rfl, _⟩ := hx; exact ⟨none, 0, rfl, Nat.le_refl _, fun _ => ⟨rfl, rfl⟩, fun h => by omega⟩
  | zero b o b' o' k k' => obtain ⟨A, c', rfl, h1, h2, _⟩ := hx; exact ⟨A, c', rfl, h1, h2, fun h => by omega⟩
def flatC : Cell → Bool
  | .v _ => true
  | .L _ _ => true
  | .rp _ => true
  | .LC _ _ => true
  | _ => false
def refsLt (n : Nat) : Cell → Prop
  | .ptr b _ => b < n
  | .sl b _ _ _ _ _ => b < n
  | .g b _ _ lv => lv = true → b < n
  | .fn _ caps => ∀ p ∈ caps, p.1 < n
  | .rd b _ m _ => 0 < m → b < n
  | _ => True
/-- No object of the heap leads out of it. -/
def Cl (h : Heap) : Prop := ∀ (b : Nat) (ob : AO), h[b]? = some ob → ob.live = true → ∀ c ∈ ob.cells, refsLt h.length c
theorem RC.refs {μ : Mu} {c : Cell} {u : Value} (h : RC μ c u) : refsLt μ.ls.length c := by
  cases c with
  | ptr b o => obtain ⟨l, hl, _⟩ := h; exact lt_of_get hl
  | sl b o n c k ex => obtain ⟨l, c', hl, _⟩ := h; exact lt_of_get hl
  | g b n k lv => intro e; obtain ⟨l, c', hl, _⟩ := h.2 e; exact lt_of_get hl
  | fn f caps =>
    intro p hp
    obtain ⟨us, _, hr⟩ := h
    obtain ⟨i, hi⟩ := List.getElem?_of_mem hp
    obtain ⟨y, _, l, hl, _⟩ := hr.get hi
    exact lt_of_get hl
  | rd b o n k => intro e; obtain ⟨A, c', _, _, _, h3⟩ := h; obtain ⟨l, hl, _⟩ := h3 e; exact lt_of_get hl
  | _ => trivial
theorem HR.cl {B0 : Pt} {μ : Mu} {h : Heap} {w : World} (hr : HR B0 μ h w) : Cl h := by
  intro b ob hb hl c hc
  obtain ⟨l, arr, T, fr, _, _, h3, _⟩ := hr.ok b ob hb hl
  obtain ⟨j, hj⟩ := List.getElem?_of_mem hc
  obtain ⟨u, _, hu⟩ := h3 j c hj
  rw [← hr.len]; exact hu.refs
theorem Cl.set {h : Heap} (hC : Cl h) {b : Nat} {cs : List Cell} {own live : Bool} (hf : cs.all flatC = true) : Cl (h.set b ⟨cs, own, live⟩) := by
  intro x ob hx hl c hc
  rw [List.length_set]
  rw [List.getElem?_set] at hx
  split at hx
  · split at hx
    · cases hx
      have := List.all_eq_true.1 hf c hc
      cases c <;> first | trivial | cases this
    · cases hx
  · exact hC x ob hx hl c hc
theorem RC.low {n : Nat} {μ μ' : Mu} (hle : Mu.leN n μ μ') {c : Cell} {u : Value} (h : RC μ c u) (hc : refsLt n c) : RC μ' c u := by
  cases c with
  | v x => exact h
  | ptr b o => obtain ⟨l, hl, e⟩ := h; exact ⟨l, hle.1 _ _ hc hl, e⟩
  | sl b o n c k ex => obtain ⟨l, c', hl, e⟩ := h; exact ⟨l, c', hle.1 _ _ hc hl, e⟩
  | g b n k lv => exact ⟨h.1, fun e => by obtain ⟨l, c', hl, r⟩ := h.2 e; exact ⟨l, c', hle.1 _ _ (hc e) hl, r⟩⟩
  | fn f caps =>
    obtain ⟨us, e, hr⟩ := h
    refine ⟨us, e, hr.1, fun i p u hp hu => ?_⟩
    obtain ⟨l, hl, e2⟩ := hr.2 i p u hp hu
    exact ⟨l, hle.1 _ _ (hc p (List.mem_of_getElem? hp)) hl, e2⟩
  | rd b o n k =>
    obtain ⟨A, c', e, h1, h2, h3⟩ := h
    exact ⟨A, c', e, h1, h2, fun h0 => by obtain ⟨l, hl, r⟩ := h3 h0; exact ⟨l, hle.1 _ _ (hc h0) hl, r⟩⟩
  | emp => exact h
  | any => exact h
  | L k xs => exact LR.mono hle.2 h
  | LC k xs => exact ⟨LR.mono hle.2 h.1, h.2⟩
  | rp cs => obtain ⟨B, o, e, r⟩ := h; exact ⟨B, o, e, fun j c hj => by obtain ⟨val, h1, h2⟩ := r j c hj; exact ⟨val, hle.2 _ _ _ h1, FC.mono hle.2 h2⟩⟩

/-- What a cell becomes: the objects behind the first n are those of L; object j is from now on what object σ j was; those that go stay for ever as they are. -/
inductive Ren (n : Nat) (σ : List Nat) (L : Heap) : Cell → Cell → Prop
  | fl (c : Cell) (h : flatC c = true) : Ren n σ L c c
  | lo (c : Cell) (h : refsLt n c) : Ren n σ L c c
  | wk {c c' c2 : Cell} (h : Ren n σ L c c') (h2 : WkC c' c2) : Ren n σ L c c2
  | any (c : Cell) : Ren n σ L c .any
  | ptr (i j o : Nat) (h : σ[j]? = some i) : Ren n σ L (.ptr (n + i) o) (.ptr (n + j) o)
  | g (i j m k : Nat) (lv : Bool) (h : σ[j]? = some i) : Ren n σ L (.g (n + i) m k lv) (.g (n + j) m k lv)
  | gg (i j m m' k : Nat) (lv lv' : Bool) (h : σ[j]? = some i) (hm : m = m') (hl : lv = lv') : Ren n σ L (.g (n + i) m k lv) (.g (n + j) m' k lv')
  | sl (i j o m c k : Nat) (ex : Bool) (h : σ[j]? = some i) : Ren n σ L (.sl (n + i) o m c k ex) (.sl (n + j) o m c k ex)
  | slg (i j m c k : Nat) (ex : Bool) (h : σ[j]? = some i) (hc : m ≤ c) : Ren n σ L (.sl (n + i) 0 m c k ex) (.g (n + j) m k true)
  | nilg (b k : Nat) : Ren n σ L (.v (.slice none 0 0)) (.g b 0 k false)
  | fzg (i m k : Nat) (lv : Bool) (xs : List (List Cell)) (hi : L[i]? = some ⟨xs.flatten, true, lv⟩) (hs : i ∉ σ) (hm : xs.length = m) (hk : ∀ ps ∈ xs, ps.length = k) (hv : ∀ ps ∈ xs, ps.all isVL = true) : Ren n σ L (.g (n + i) m k lv) (.L k xs)
  | fzs (i m c k : Nat) (ex : Bool) (xs : List (List Cell)) (cs : List Cell) (hi : L[i]? = some ⟨cs, true, true⟩) (hs : i ∉ σ) (hcv : cs.all isVL = true) (hx : cs.take (m * k) = xs.flatten) (hm : xs.length = m) (hc : m ≤ c) (hk : ∀ ps ∈ xs, ps.length = k) : Ren n σ L (.sl (n + i) 0 m c k ex) (.L k xs)
  | fzp (i o : Nat) (cs : List Cell) (hi : L[i]? = some ⟨cs, true, true⟩) (hs : i ∉ σ) (hv : cs.all isVL = true) : Ren n σ L (.ptr (n + i) o) (.rp (cs.drop o))
  | fn (f : FuncId) (caps caps' : List (Nat × Nat)) (h : R2 (fun p p' : Nat × Nat => p.2 = p'.2 ∧ ((p.1 < n ∧ p'.1 = p.1) ∨ ∃ i j, p.1 = n + i ∧ p'.1 = n + j ∧ σ[j]? = some i)) caps caps') : Ren n σ L (.fn f caps) (.fn f caps')
/-- The objects that stay, in their new order. -/
inductive MatchL (n : Nat) (σ : List Nat) (L : Heap) : List Nat → Heap → Prop
  | nil : MatchL n σ L [] []
  | dead (i : Nat) (o : AO) {τ : List Nat} {L' : Heap} (ho : o.live = false) (h : MatchL n σ L τ L') : MatchL n σ L (i :: τ) (o :: L')
  | obj (i : Nat) {cs cs' : List Cell} {lv : Bool} {τ : List Nat} {L' : Heap} (hi : L[i]? = some ⟨cs, true, lv⟩) (hc : R2 (Ren n σ L) cs cs') (h : MatchL n σ L τ L') : MatchL n σ L (i :: τ) (⟨cs', true, lv⟩ :: L')
theorem MatchL.len {n : Nat} {σ : List Nat} {L : Heap} {τ : List Nat} {L' : Heap} (h : MatchL n σ L τ L') : L'.length = τ.length := by
  induction h with
  | nil => rfl
  | dead i o ho h ih => simp [ih]
  | obj i hi hc h ih => simp [ih]
theorem MatchL.get {n : Nat} {σ : List Nat} {L : Heap} {τ : List Nat} {L' : Heap} (h : MatchL n σ L τ L') : ∀ (j : Nat) (o : AO), L'[j]? = some o → o.live = true → ∃ i cs, τ[j]? = some i ∧ L[i]? = some ⟨cs, true, true⟩ ∧ o.own = true ∧ R2 (Ren n σ L) cs o.cells := by
  induction h with
  | nil => intro j o hj; simp at hj
  | dead i o' ho h ih =>
    intro j o hj hl
    cases j with
    | zero => simp at hj; subst hj; rw [ho] at hl; cases hl
    | succ j => simpa using ih j o (by simpa using hj) hl
  | @obj i cs cs' lv τ L' hi hc h ih =>
    intro j o hj hl
    cases j with
    | zero => simp at hj; subst hj; simp at hl; subst hl; exact ⟨i, cs, rfl, hi, rfl, hc⟩
    | succ j => simpa using ih j o (by simpa using hj) hl
/-- What goes and stays for ever. -/
def Fzn (n : Nat) (σ : List Nat) (L : Heap) (μ : Mu) (B q : Nat) : Prop := ∃ (i : Nat) (ob : AO) (l : Loc), L[i]? = some ob ∧ ob.live = true ∧ ob.own = true ∧ i ∉ σ ∧ μ.ls[n + i]? = some l ∧ l.B = B ∧ l.base ≤ q ∧ q < l.base + ob.cells.length
open Classical in
noncomputable def frzF (n : Nat) (σ : List Nat) (L : Heap) (μ : Mu) (w : World) : Nat → Nat → Option Value := fun B q => match μ.F B q with
  | some v => some v
  | none => if Fzn n σ L μ B q then w.cell? ⟨B, q, none⟩ else none
theorem locs_get {n : Nat} {ls : List Loc} {σ : List Nat} (hn : n ≤ ls.length) {j i : Nat} (hj : σ[j]? = some i) : (ls.take n ++ σ.map fun i => (ls[n + i]?).getD ⟨0, 0, 0⟩)[n + j]? = some ((ls[n + i]?).getD ⟨0, 0, 0⟩) := by
  rw [List.getElem?_append_right (by simp; omega)]
  simp only [List.length_take, Nat.min_eq_left hn, Nat.add_sub_cancel_left, List.getElem?_map, hj, Option.map_some]
theorem HR.re {B0 : Pt} {μ : Mu} {H L L' : Heap} {w : World} {σ : List Nat} (hr : HR B0 μ (H ++ L) w) (hC : Cl H) (hnd : σ.Nodup) (hm : MatchL H.length σ L σ L') :
    ∃ μ', Mu.leN H.length μ μ' ∧ HR B0 μ' (H ++ L') w ∧ ∀ c c' u, Ren H.length σ L c c' → RC μ c u → RC μ' c' u := by
  have hlen : μ.ls.length = H.length + L.length := by rw [hr.len]; simp
  let ls' := μ.ls.take H.length ++ σ.map fun i => (μ.ls[H.length + i]?).getD ⟨0, 0, 0⟩
  let F' := frzF H.length σ L μ w
  have hF : ∀ B o v, μ.F B o = some v → F' B o = some v := fun B o v e => by simp only [F', frzF, e]
  have hle : Mu.leN H.length μ ⟨ls', F'⟩ := ⟨fun b l hb hl => by
    show ls'[b]? = some l
    simp only [ls']
    rw [List.getElem?_append_left (by simp; omega), List.getElem?_take, if_pos hb]; exact hl, hF⟩
  have hL : ∀ {i : Nat} {o : AO}, L[i]? = some o → (H ++ L)[H.length + i]? = some o := fun {i o} h => by rw [List.getElem?_append_right (by omega)]; simpa using h
  have hnew : ∀ {j i : Nat} {l : Loc}, σ[j]? = some i → μ.ls[H.length + i]? = some l → ls'[H.length + j]? = some l := fun {j i l} hj hl => by
    have := locs_get (n := H.length) (ls := μ.ls) (by omega) hj
    rw [hl] at this; exact this
  have hfrz : ∀ {i : Nat} {cs : List Cell} {l : Loc}, L[i]? = some ⟨cs, true, true⟩ → i ∉ σ → μ.ls[H.length + i]? = some l → ∀ (q : Nat) (c : Cell), cs[q]? = some c → isVL c = true → ∃ val, F' l.B (l.base + q) = some val ∧ FC F' c val := by
    intro i cs l hi hs hl q c hq hv
    obtain ⟨l', arr, T, fr, g1, g2, g3, g4⟩ := hr.ok _ _ (hL hi) rfl
    obtain rfl : l' = l := by rw [hl] at g1; exact (Option.some.inj g1).symm
    obtain ⟨u, hu, hru⟩ := g3 q c hq
    refine ⟨u, ?_, ?_⟩
    · have h0 := hr.nof _ _ l' (hL hi) rfl rfl hl (l'.base + q)
      simp only [F', frzF, h0]
      rw [if_pos ⟨i, _, l', hi, rfl, rfl, hs, hl, rfl, by omega, by have := lt_of_get hq; show l'.base + q < l'.base + cs.length; omega⟩]
      rw [cell_at g2]; exact hu
    · cases c with
      | v x => exact hru
      | L k xs => exact LR.mono hF hru
      | _ => cases hv
  have hRen : ∀ c c' u, Ren H.length σ L c c' → RC μ c u → RC ⟨ls', F'⟩ c' u := by
    intro c c' u hc
    induction hc with
    | fl c h =>
      intro hu
      refine hu.low hle ?_
      cases c <;> first | trivial | cases h
    | lo c h => intro hu; exact hu.low hle h
    | wk h h2 ih => intro hu; exact h2.ok (ih hu)
    | any c => intro hu; exact RC.one hu
    | ptr i j o h => intro hu; obtain ⟨l, hl, e⟩ := hu; exact ⟨l, hnew h hl, e⟩
    | g i j m k lv h => intro hu; exact ⟨hu.1, fun e => by obtain ⟨l, c', hl, r⟩ := hu.2 e; exact ⟨l, c', hnew h hl, r⟩⟩
    | gg i j m m' k lv lv' h hm' hl' => intro hu; subst hm'; subst hl'; exact ⟨hu.1, fun e => by obtain ⟨l, c', hl, r⟩ := hu.2 e; exact ⟨l, c', hnew h hl, r⟩⟩
    | sl i j o m c k ex h => intro hu; obtain ⟨l, c', hl, r⟩ := hu; exact ⟨l, c', hnew h hl, r⟩
    | slg i j m c k ex h hc =>
      intro hu
      obtain ⟨l, c', hl, rfl, h1, h2, h3⟩ := hu
      exact ⟨nofun, fun _ => ⟨l, c', hnew h hl, by simp, by omega, by omega⟩⟩
    | nilg b k => intro hu; obtain ⟨rfl, _⟩ := hu; exact ⟨fun _ => ⟨rfl, none, rfl⟩, nofun⟩
    | fzg i m k lv xs hi hs hm hk hv =>
      intro hu
      subst hm
      have hk' : ∀ (a : Nat) (ps : List Cell), xs[a]? = some ps → ps.length = k := fun a ps ha => hk ps (List.mem_of_getElem? ha)
      cases lv with
      | false =>
        obtain ⟨h0, A, rfl⟩ := hu.1 rfl
        obtain rfl : xs = [] := List.eq_nil_of_length_eq_zero h0
        exact LR.of (Nat.le_refl _) (fun _ => ⟨rfl, rfl⟩) (fun h => absurd rfl h)
      | true =>
        obtain ⟨l, c', hl, rfl, h1, h2⟩ := hu.2 rfl
        refine LR.of h1 nofun (fun hne => ⟨l.B, l.base, rfl, fun a ps ha => ⟨hk' a ps ha, fun q c hq => ?_⟩⟩)
        have hfl : xs.flatten[a * k + q]? = some c := by
          obtain ⟨f1, f2⟩ := flatten_get hk'
          have hlt : a * k + q < xs.flatten.length := by
            rw [f1]
            have h3 := lt_of_get ha
            have h4 := lt_of_get hq
            have h5 := hk' a ps ha
            have : (a + 1) * k ≤ xs.length * k := Nat.mul_le_mul_right k h3
            rw [Nat.add_mul] at this
            omega
          obtain ⟨i2, j2, ps2, e1, e2, e3⟩ := f2 (a * k + q) _ (List.getElem?_eq_getElem hlt)
          have h4 := lt_of_get hq
          have h5 := hk' a ps ha
          have h6 := lt_of_get e2
          have h7 := hk' i2 ps2 e1
          obtain ⟨rfl, rfl⟩ : i2 = a ∧ j2 = q := by
            have hk0 : 0 < k := by omega
            have e4 : (a * k + q) / k = a := by rw [Nat.mul_comm, Nat.mul_add_div hk0, Nat.div_eq_of_lt (by omega)]; omega
            have e5 : (i2 * k + j2) / k = i2 := by rw [Nat.mul_comm, Nat.mul_add_div hk0, Nat.div_eq_of_lt (by omega)]; omega
            have : i2 = a := by rw [← e5, ← e3, e4]
            subst this; omega
          rw [ha] at e1; cases e1
          rw [List.getElem?_eq_getElem hlt, ← e2, hq]
        obtain ⟨val, e1, e2⟩ := hfrz hi hs hl _ c hfl (List.all_eq_true.1 (hv ps (List.mem_of_getElem? ha)) c (List.mem_of_getElem? hq))
        exact ⟨val, by rw [Nat.add_assoc]; exact e1, e2⟩
    | fzs i m c k ex xs cs hi hs hcv hx hm hc hk =>
      intro hu
      subst hm
      have hk' : ∀ (a : Nat) (ps : List Cell), xs[a]? = some ps → ps.length = k := fun a ps ha => hk ps (List.mem_of_getElem? ha)
      obtain ⟨l, c', hl, rfl, h1, _, h2⟩ := hu
      refine LR.of (by omega) nofun (fun hne => ⟨l.B, l.base, by simp, fun a ps ha => ⟨hk' a ps ha, fun q c2 hq => ?_⟩⟩)
      have hfl : xs.flatten[a * k + q]? = some c2 := by
        obtain ⟨f1, f2⟩ := flatten_get hk'
        have hlt : a * k + q < xs.flatten.length := by
          rw [f1]
          have h3 := lt_of_get ha
          have h4 := lt_of_get hq
          have h5 := hk' a ps ha
          have : (a + 1) * k ≤ xs.length * k := Nat.mul_le_mul_right k h3
          rw [Nat.add_mul] at this
          omega
        obtain ⟨i2, j2, ps2, e1, e2, e3⟩ := f2 (a * k + q) _ (List.getElem?_eq_getElem hlt)
        have h4 := lt_of_get hq
        have h5 := hk' a ps ha
        have h6 := lt_of_get e2
        have h7 := hk' i2 ps2 e1
        obtain ⟨rfl, rfl⟩ : i2 = a ∧ j2 = q := by
          have hk0 : 0 < k := by omega
          have e4 : (a * k + q) / k = a := by rw [Nat.mul_comm, Nat.mul_add_div hk0, Nat.div_eq_of_lt (by omega)]; omega
          have e5 : (i2 * k + j2) / k = i2 := by rw [Nat.mul_comm, Nat.mul_add_div hk0, Nat.div_eq_of_lt (by omega)]; omega
          have : i2 = a := by rw [← e5, ← e3, e4]
          subst this; omega
        rw [ha] at e1; cases e1
        rw [List.getElem?_eq_getElem hlt, ← e2, hq]
      rw [← hx, List.getElem?_take] at hfl
      split at hfl
      · obtain ⟨val, e1, e2⟩ := hfrz hi hs hl _ c2 hfl (List.all_eq_true.1 hcv c2 (List.mem_of_getElem? hfl))
        exact ⟨val, by rw [Nat.add_assoc]; exact e1, e2⟩
      · cases hfl
    | fzp i o cs hi hs hv =>
      intro hu
      obtain ⟨l, hl, rfl⟩ := hu
      refine ⟨l.B, l.base + o, rfl, fun q c hq => ?_⟩
      rw [List.getElem?_drop] at hq
      obtain ⟨val, e1, e2⟩ := hfrz hi hs hl _ c hq (List.all_eq_true.1 hv c (List.mem_of_getElem? hq))
      exact ⟨val, by rw [Nat.add_assoc]; exact e1, e2⟩
    | fn f caps caps' h =>
      intro hu
      obtain ⟨us, e, hr2⟩ := hu
      refine ⟨us, e, h.1.symm.trans hr2.1, fun x p' u hp' hu => ?_⟩
      obtain ⟨p, hp, he, hcase⟩ := h.get' hp'
      obtain ⟨l, hl, e2⟩ := hr2.2 x p u hp hu
      rcases hcase with ⟨h1, h2⟩ | ⟨i, j, h1, h2, h3⟩
      · exact ⟨l, by rw [h2]; exact hle.1 _ _ h1 hl, by rw [← he]; exact e2⟩
      · exact ⟨l, by rw [h2]; exact hnew h3 (by rw [← h1]; exact hl), by rw [← he]; exact e2⟩
  -- every object of the new heap that lives, and where it came from
  have hlen2 : ls'.length = (H ++ L').length := by simp [ls', hm.len, hlen]
  have horig : ∀ {x : Nat} {o : AO}, (H ++ L')[x]? = some o → o.live = true → ∃ y o2, (H ++ L)[y]? = some o2 ∧ o2.live = true ∧ o2.own = o.own ∧ (∀ l, μ.ls[y]? = some l ↔ ls'[x]? = some l) ∧ R2 (fun c c' => ∀ u, RC μ c u → RC ⟨ls', F'⟩ c' u) o2.cells o.cells ∧ ((x < H.length ∧ y = x) ∨ ∃ i j, x = H.length + j ∧ y = H.length + i ∧ σ[j]? = some i) := by
    intro x o hx hl
    rcases Nat.lt_or_ge x H.length with hlt | hge
    · rw [List.getElem?_append_left hlt] at hx
      refine ⟨x, o, by rw [List.getElem?_append_left hlt]; exact hx, hl, rfl, fun l => ?_, ⟨rfl, fun i c c' h1 h2 u hu => ?_⟩, .inl ⟨hlt, rfl⟩⟩
      · simp only [ls']
        rw [List.getElem?_append_left (by simp; omega), List.getElem?_take, if_pos hlt]
      · rw [h1] at h2; cases h2
        exact hu.low hle (hC x o hx hl c (List.mem_of_getElem? h1))
    · obtain ⟨j, rfl⟩ : ∃ j, x = H.length + j := ⟨x - H.length, by omega⟩
      rw [List.getElem?_append_right (by omega), Nat.add_sub_cancel_left] at hx
      obtain ⟨i, cs, h1, h2, h3, h4⟩ := hm.get j o hx hl
      refine ⟨H.length + i, _, hL h2, rfl, h3.symm, fun l => ?_, ⟨h4.1, fun a c c' g1 g2 u hu => hRen c c' u (h4.2 a c c' g1 g2) hu⟩, .inr ⟨i, j, rfl, rfl, h1⟩⟩
      have hlt : H.length + i < μ.ls.length := by have := lt_of_get h2; omega
      have e1 : μ.ls[H.length + i]? = some μ.ls[H.length + i] := List.getElem?_eq_getElem hlt
      rw [hnew h1 e1, e1]
  have huniq : ∀ {x x' y y' : Nat}, ((x < H.length ∧ y = x) ∨ ∃ i j, x = H.length + j ∧ y = H.length + i ∧ σ[j]? = some i) → ((x' < H.length ∧ y' = x') ∨ ∃ i j, x' = H.length + j ∧ y' = H.length + i ∧ σ[j]? = some i) → x ≠ x' → y ≠ y' := by
    intro x x' y y' h1 h2 hne he
    rcases h1 with ⟨a1, a2⟩ | ⟨i, j, a1, a2, a3⟩ <;> rcases h2 with ⟨b1, b2⟩ | ⟨i', j', b1, b2, b3⟩
    · omega
    · omega
    · omega
    · have : i = i' := by omega
      subst this
      have h5 : j = j' := by
        have hj := lt_of_get a3
        have hj' := lt_of_get b3
        rw [List.getElem?_eq_getElem hj] at a3
        rw [List.getElem?_eq_getElem hj'] at b3
        have hpw := List.pairwise_iff_getElem.1 hnd
        have he2 : σ[j] = σ[j'] := (Option.some.inj a3).trans (Option.some.inj b3).symm
        rcases Nat.lt_trichotomy j j' with h | h | h
        · exact absurd he2 (hpw j j' hj hj' h)
        · exact h
        · exact absurd he2.symm (hpw j' j hj' hj h)
      omega
  refine ⟨⟨ls', F'⟩, hle, ⟨hlen2, hr.size, fun x o hx hl => ?_, fun x x' o o' l l' hx hx' hl hl' ho hne hmx hmx' => ?_, fun B q v e => ?_, fun x o l hx hl ho hmx q => ?_, fun B q v e hp => ?_, fun x o l hx hl hmx => by obtain ⟨y, o2, h1, h2, h3, h4, _⟩ := horig hx hl; exact hr.ns y o2 l h1 h2 ((h4 l).2 hmx)⟩, hRen⟩
  rotate_right
  · have e : F' B q = some v := e
    simp only [F', frzF] at e
    split at e
    · rename_i v' hv; obtain rfl := Option.some.inj e; exact hr.fp B q _ hv hp
    · split at e
      · rename_i hz
        obtain ⟨i, ob, l, h1, h2, h3, _, h5, h6, _⟩ := hz
        obtain ⟨l', arr, T, fr, g1, g2, g3, g4⟩ := hr.ok _ _ (hL h1) h2
        rw [h5] at g1; obtain rfl := Option.some.inj g1
        exact absurd (h6 ▸ hp) (g4 h3).2.1
      · cases e
  · obtain ⟨y, o2, h1, h2, h3, h4, h5, _⟩ := horig hx hl
    obtain ⟨l, arr, T, fr, g1, g2, g3, g4⟩ := hr.ok y o2 h1 h2
    refine ⟨l, arr, T, fr, (h4 l).1 g1, g2, fun j c hc => ?_, fun ho => ?_⟩
    · obtain ⟨c0, hc0, hcc⟩ := h5.get' hc
      obtain ⟨u, hu, hru⟩ := g3 j c0 hc0
      exact ⟨u, hu, hcc u hru⟩
    · obtain ⟨k1, k2, k3, k4, k5⟩ := g4 (h3.trans ho)
      exact ⟨k1, k2, k3, by rw [← h5.1]; exact k4, k5⟩
  · obtain ⟨y, o2, h1, h2, h3, h4, _, h6⟩ := horig hx hl
    obtain ⟨y', o2', k1, k2, k3, k4, _, k6⟩ := horig hx' hl'
    exact hr.inj y y' o2 o2' l l' h1 k1 h2 k2 (h3.trans ho) (huniq h6 k6 hne) ((h4 l).2 hmx) ((k4 l').2 hmx')
  · have e : F' B q = some v := e
    simp only [F', frzF] at e
    split at e
    · rename_i v' hv
      cases e
      exact hr.fz B q _ hv
    · split at e
      · exact e
      · cases e
  · obtain ⟨y, o2, h1, h2, h3, h4, _, h6⟩ := horig hx hl
    have hly := (h4 l).2 hmx
    have h0 := hr.nof y o2 l h1 h2 (h3.trans ho) hly q
    show F' l.B q = none
    simp only [F', frzF, h0]
    rw [if_neg]
    rintro ⟨i, ob, l2, g1, g2, g3, g4, g5, g6, _⟩
    have hne : y ≠ H.length + i := by
      rcases h6 with ⟨a1, a2⟩ | ⟨i', j', a1, a2, a3⟩
      · omega
      · intro e
        have : i' = i := by omega
        subst this
        exact g4 (List.mem_of_getElem? a3)
    exact hr.inj y (H.length + i) o2 ob l l2 h1 (hL g1) h2 g2 (h3.trans ho) hne hly g5 g6.symm

def chunk (k n : Nat) (cs : List Cell) : List (List Cell) := (List.range n).map fun i => (cs.drop (i * k)).take k
theorem chunk_len (k n : Nat) (cs : List Cell) : (chunk k n cs).length = n := by simp [chunk]
theorem chunk_lens {k n : Nat} {cs : List Cell} (h : cs.length = n * k) : ∀ ps ∈ chunk k n cs, ps.length = k := fun ps hp => by
  obtain ⟨i, hi, rfl⟩ := List.mem_map.1 hp
  have hi := List.mem_range.1 hi
  have : (i + 1) * k ≤ n * k := Nat.mul_le_mul_right k hi
  rw [Nat.add_mul] at this
  rw [List.length_take, List.length_drop]
  omega
theorem chunk_flat {k : Nat} : ∀ {n : Nat} {cs : List Cell}, cs.length = n * k → (chunk k n cs).flatten = cs := by
  intro n
  induction n with
  | zero => intro cs h; simp at h; subst h; rfl
  | succ n ih =>
    intro cs h
    have h1 : chunk k (n + 1) cs = cs.take k :: chunk k n (cs.drop k) := by
      simp only [chunk, List.range_succ_eq_map, List.map_cons, List.map_map, Nat.zero_mul, List.drop_zero]
      congr 1
      apply List.map_congr_left
      intro i _
      simp only [Function.comp, List.drop_drop]
      rw [show k + i * k = (i + 1) * k by rw [Nat.add_mul]; omega]
    rw [h1, List.flatten_cons, ih (by rw [List.length_drop, h, Nat.add_mul]; omega), List.take_append_drop]
/-- fields that are slices: where they lie, and how great an element is -/
def nlOf (P : Program) (e : TypeId) : List (Nat × Nat) := match P.underlying e with
  | some (.struct fields) => fields.toList.filterMap fun f => match P.underlying f.type with
    | some (.slice ee) => (P.info? ee).map fun i => (f.offset, i.size)
    | _ => none
  | _ => []
def nlSet (p : Nat × Nat) (ps : List Cell) : List Cell := match ps[p.1]? with
  | some (.v (.slice none 0 0)) => ps.set p.1 (.L p.2 [])
  | _ => ps
def nlL (l : List (Nat × Nat)) (ps : List Cell) : List Cell := l.foldl (fun ps p => nlSet p ps) ps
/-- the same, but that nothing more is known of some nil slices than that they are empty -/
def NW (ps ps' : List Cell) : Prop := R2 (fun c c' => c' = c ∨ (c = .v (.slice none 0 0) ∧ ∃ k, c' = .L k [])) ps ps'
theorem NW.refl (ps : List Cell) : NW ps ps := ⟨rfl, fun i x y hx hy => by rw [hx] at hy; cases hy; exact .inl rfl⟩
theorem NW.trans {a b c : List Cell} (h : NW a b) (h' : NW b c) : NW a c := ⟨h.1.trans h'.1, fun i x z hx hz => by
  obtain ⟨y, hy, h1⟩ := h.get hx
  rcases h'.2 i y z hy hz with e | ⟨e, k, e2⟩
  · rw [e]; exact h1
  · rcases h1 with e1 | ⟨e1, k1, e3⟩
    · exact .inr ⟨e1.symm.trans e, k, e2⟩
    · rw [e3] at e; cases e⟩
theorem nlSet_ok (p : Nat × Nat) (ps : List Cell) : NW ps (nlSet p ps) := by
  unfold nlSet
  split
  · rename_i h
    refine ⟨by simp, fun i x y hx hy => ?_⟩
    by_cases e : p.1 = i
    · subst e
      rw [List.getElem?_set_self (lt_of_get h)] at hy
      rw [h] at hx
      cases hx; cases hy
      exact .inr ⟨rfl, _, rfl⟩
    · rw [List.getElem?_set_ne e, hx] at hy
      cases hy; exact .inl rfl
  · exact .refl _
theorem nlL_ok : ∀ (l : List (Nat × Nat)) (ps : List Cell), NW ps (nlL l ps) := by
  intro l
  induction l with
  | nil => intro ps; exact .refl _
  | cons p r ih => intro ps; exact (nlSet_ok p ps).trans (ih _)
theorem LR.nw {F : Nat → Nat → Option Value} {k : Nat} {xs xs' : List (List Cell)} {u : Value} (hw : R2 NW xs xs') (h : LR F k xs u) : LR F k xs' u := by
  obtain ⟨A, c, rfl, h1, h2, h3⟩ := LR.addr h
  have hl := hw.1
  rw [hl]
  refine LR.of (by rw [← hl]; exact h1) (fun e => ?_) (fun hne => ?_)
  · obtain ⟨e1, e2⟩ := h2 e
    subst e1
    exact ⟨List.eq_nil_of_length_eq_zero hl.symm, e2⟩
  · obtain ⟨B, o, hA, h4⟩ := h3 (fun e => hne (by subst e; exact List.eq_nil_of_length_eq_zero hl.symm))
    refine ⟨B, o, hA, fun i ps' hi => ?_⟩
    obtain ⟨ps, hps, hnw⟩ := hw.get' hi
    obtain ⟨h5, h6⟩ := h4 i ps hps
    refine ⟨hnw.1.symm.trans h5, fun j c' hj => ?_⟩
    obtain ⟨c0, hc0, hcc⟩ := hnw.get' hj
    obtain ⟨val, e1, e2⟩ := h6 j c0 hc0
    refine ⟨val, e1, ?_⟩
    rcases hcc with rfl | ⟨rfl, k', rfl⟩
    · exact e2
    · obtain ⟨rfl, _⟩ := e2
      exact LR.of (xs := []) (Nat.le_refl _) (fun _ => ⟨rfl, rfl⟩) (fun h => absurd rfl h)
theorem R2.mapL {xs : List (List Cell)} (l : List (Nat × Nat)) : R2 NW xs (xs.map (nlL l)) := ⟨by simp, fun i x y hx hy => by
  rw [List.getElem?_map, hx] at hy
  cases hy; exact nlL_ok l x⟩
def eLit (P : Program) (t : TypeId) (len : Nat) (parts : List (Nat × V1)) : Option Cell :=
  match P.underlying t with
  | some (.slice e) => match P.info? e, zeroOf P e with
    | some i, some z => if z.length = i.size ∧ 0 < i.size ∧ len * i.size ≤ 16777216 then
        match fillA (fun j => some (j * i.size, i.size)) (List.replicate len z).flatten parts with
        | some cs => if cs.all isVL = true then some (.LC i.size ((chunk i.size len cs).map (nlL (nlOf P e)))) else none
        | none => none
      else none
    | _, _ => none
  | _ => none
theorem fillA_len : ∀ {parts : List (Nat × V1)} {a b : List Cell} {pl : Nat → Option (Nat × Nat)}, fillA pl a parts = some b → b.length = a.length := by
  intro parts
  induction parts with
  | nil => intro a b pl h; obtain rfl := Option.some.inj h; rfl
  | cons p r ih =>
    intro a b pl h
    simp only [fillA] at h
    split at h
    · cases h
    · split at h
      · rw [ih h, putCells_length]
      · cases h
theorem eLit_ok (P : Program) {t : TypeId} {len : Nat} {parts : List (Nat × V1)} {x : Cell} (he : eLit P t len parts = some x) {B0 : Pt} {μ : Mu} {h : Heap} {w : World} (hr : HR B0 μ h w) {vparts : Array (Nat × Value)} (hp : R2 (fun a b => a.1 = b.1 ∧ R1 μ a.2 b.2) parts vparts.toList) :
    ∃ r w' μ', (Instr.buildSlice t len vparts).run P w = .ok r w' ∧ Mu.le μ μ' ∧ HR B0 μ' h w' ∧ RC μ' x r ∧ Bel B0 w w' := by
  unfold eLit at he
  split at he
  · rename_i e hu
    split at he
    · rename_i i z hi hz
      split at he
      · rename_i hc
        split at he
        · rename_i cs hcs
          split at he
          · rename_i hv
            obtain rfl := Option.some.inj he
            have hb : eBuildSlice P t len parts h = some (.sl h.length 0 len len i.size true, h ++ [⟨cs, true, true⟩]) := by
              simp only [eBuildSlice, hu, hi, hz, hcs]
              rw [if_pos hc]
            obtain ⟨r, w', l, h1, h2, h3, h4⟩ := eBuildSlice_ok P hb hr hp
            have hcl : cs.length = len * i.size := by rw [fillA_len hcs, flat_rep_length, hc.1]
            obtain ⟨μ', g1, g2, g3⟩ := h2.re (H := h) (L := [⟨cs, true, true⟩]) (L' := []) (σ := []) hr.cl List.nodup_nil .nil
            have hex : ∃ A, r = .slice A len len := by
              obtain ⟨l', c', _, e1, _, e2, _⟩ := h3
              have := e2 rfl
              subst this
              exact ⟨_, e1⟩
            have hL : RC μ' (.L i.size (chunk i.size len cs)) r := g3 _ _ _ (.fzs 0 len len i.size true (chunk i.size len cs) cs rfl (by simp) hv (by rw [chunk_flat hcl, ← hcl, List.take_length]) (chunk_len _ _ _) (Nat.le_refl _) (chunk_lens hcl)) (by simpa using h3)
            refine ⟨r, w', μ', h1, ?_, by simpa using g2, ⟨LR.nw (R2.mapL _) hL, ?_⟩, h4⟩
            · have h5 : Mu.leN h.length μ μ' := (Mu.le_add μ [l]).toN.trans g1
              exact Mu.leN.full (by rw [hr.len]; exact h5)
            · rw [List.length_map, chunk_len]; exact hex
          · cases he
        · cases he
      · cases he
    · cases he
  · cases he
end Rv
