/- Chapter 8: who asks first gets first. -/
import Derived.Test.YtnlpkgamglhnbaaRvPLk4
import Derived.Test.YtnlpkgamglhnbaaRvLaw08o
import Derived.KernelRfl
import GoSem.Claim
set_option linter.unusedVariables false
set_option linter.unusedSimpArgs false
namespace Rv
open Go Go.RowKit Go.Proofs

theorem law08_awake_true : law08_awake = some true := by kernel_rfl
def kL : Lock := ⟨3, 3⟩
def Good (l : List Grant) : Prop := (∀ a ∈ l, a.lock = kL ∧ (a.mode = 1 ∨ a.mode = 2) ∧ 1 ≤ a.tx ∧ a.tx ≤ 12) ∧ l.Pairwise fun a b => a.tx < b.tx
theorem Good.sub {l l' : List Grant} (h : Good l) (hs : l'.Sublist l) : Good l' := ⟨fun a ha => h.1 a (hs.subset ha), h.2.sublist hs⟩
def shG (x : Grant) : Bool := decide (x.mode = 1)
def Fh : List Grant → List Grant
  | [] => []
  | g :: r => if g.mode = 2 then [g] else g :: r.takeWhile shG
def Fw : List Grant → List Grant
  | [] => []
  | g :: r => if g.mode = 2 then r else r.dropWhile shG
theorem Fh_cons (g : Grant) (r : List Grant) : Fh (g :: r) = if g.mode = 2 then [g] else g :: r.takeWhile shG := rfl
theorem Fw_cons (g : Grant) (r : List Grant) : Fw (g :: r) = if g.mode = 2 then r else r.dropWhile shG := rfl
theorem F_app (l : List Grant) : Fh l ++ Fw l = l := by
  cases l with
  | nil => rfl
  | cons g r =>
    rw [Fh_cons, Fw_cons]
    split
    · rfl
    · rw [List.cons_append, List.takeWhile_append_dropWhile]
theorem blk_held {held p : List Grant} {x e : Grant} (he : e ∈ held) (hc : confG e x = true) : blkG held p x = true := by
  unfold blkG; rw [Bool.or_eq_true]; exact .inl (List.any_eq_true.2 ⟨e, he, hc⟩)
theorem blk_pre {held p : List Grant} {x e : Grant} (he : e ∈ p) (hc : confG e x = true) : blkG held p x = true := by
  unfold blkG; rw [Bool.or_eq_true]; exact .inr (List.any_eq_true.2 ⟨e, he, hc⟩)
theorem hold_end {h : List Grant} {x : Grant} (hg : Good (h ++ [x])) : holdL h x = h ++ [x] := by
  have hlt : ∀ e ∈ h, ltG e x = true := fun e he => by
    have h1 := (hg.1 e (by simp [he])).1
    have h2 := (hg.1 x (by simp)).1
    have h3 := (List.pairwise_append.1 hg.2).2.2 e he x (by simp)
    rw [ltG_iff, h1, h2]; omega
  unfold holdL
  rw [List.filter_eq_self.2 hlt, List.filter_eq_nil_iff.2 fun e he => by simpa using ltG_asymm (hlt e he)]
theorem confGood {l : List Grant} (hg : Good l) {a b : Grant} (ha : a ∈ l) (hb : b ∈ l) (hne : a.tx ≠ b.tx) (hm : a.mode = 2 ∨ b.mode = 2) : confG a b = true := by
  rw [confG_iff]
  exact ⟨hne, (hg.1 a ha).1.trans (hg.1 b hb).1.symm, hm⟩
theorem allB_ex {h r : List Grant} {x : Grant} (hg : Good (h ++ x :: r)) (hx : x.mode = 2) (hh : h ≠ []) : AllB h (x :: r) := by
  intro p y s e
  have hp := List.pairwise_append.1 hg.2
  cases p with
  | nil =>
    cases e
    obtain ⟨e0, he0⟩ := List.exists_mem_of_ne_nil h hh
    exact blk_held he0 (confGood hg (by simp [he0]) (by simp) (by have := hp.2.2 e0 he0 x (by simp); omega) (.inr hx))
  | cons a p =>
    obtain ⟨rfl, e2⟩ := List.cons.inj e
    have hy : y ∈ r := by rw [e2]; simp
    exact blk_pre (e := x) (by simp) (confGood hg (by simp) (by simp [hy]) (by have := (List.pairwise_cons.1 hp.2.1).1 y hy; omega) (.inl hx))
theorem sett_sh : ∀ (r h : List Grant), Good (h ++ r) → h ≠ [] → (∀ a ∈ h, a.mode = 1) → sett h [] r = (h ++ r.takeWhile shG, r.dropWhile shG) := by
  intro r
  induction r with
  | nil => intro h _ _ _; simp [sett]
  | cons x r ih =>
    intro h hg hh hm
    by_cases hx : x.mode = 1
    · have hb : ¬ blkG h [] x = true := by
        unfold blkG
        rw [Bool.or_eq_true]
        rintro (hc | hc)
        · obtain ⟨e, he, hc⟩ := List.any_eq_true.1 hc
          have := (confG_iff.1 hc).2.2
          have := hm e he
          omega
        · simp at hc
      rw [show sett h [] (x :: r) = sett (holdL h x) [] r from if_neg hb, hold_end (hg.sub (by simp))]
      rw [ih (h ++ [x]) (by rw [List.append_assoc]; exact hg) (by simp) (fun a ha => by
        rcases List.mem_append.1 ha with ha | ha
        · exact hm a ha
        · rw [List.mem_singleton.1 ha]; exact hx)]
      have hs : shG x = true := by simp [shG, hx]
      simp [List.takeWhile_cons, List.dropWhile_cons, hs]
    · have hx2 : x.mode = 2 := by have := (hg.1 x (by simp)).2.1; omega
      have hs : shG x = false := by simp [shG, hx]
      rw [sett_all (allB_ex hg hx2 hh)]
      simp [List.takeWhile_cons, List.dropWhile_cons, hs]
theorem sett_F {l : List Grant} (hg : Good l) : sett [] [] l = (Fh l, Fw l) := by
  cases l with
  | nil => rfl
  | cons g r =>
    have hb : ¬ blkG [] [] g = true := by simp [blkG]
    rw [show sett [] [] (g :: r) = sett (holdL [] g) [] r from if_neg hb, hold_end (h := []) (hg.sub (by simp))]
    rw [Fh_cons, Fw_cons]
    by_cases hm : g.mode = 2
    · rw [if_pos hm, if_pos hm]
      rw [sett_all]; rfl
      intro p y s e
      have hy : y ∈ r := by rw [e]; simp
      exact blk_held (e := g) (by simp) (confGood hg (by simp) (by simp [hy]) (by have := (List.pairwise_cons.1 hg.2).1 y hy; omega) (.inl hm))
    · rw [if_neg hm, if_neg hm]
      have hm1 : g.mode = 1 := by have := (hg.1 g (by simp)).2.1; omega
      rw [show ([] ++ [g] : List Grant) = [g] from rfl, sett_sh r [g] hg (by simp) (fun a ha => by rw [List.mem_singleton.1 ha]; exact hm1)]
      rfl
/-- The table behind the requests of a list. -/
abbrev tS (l : List Grant) : Locks := ⟨Fh l, Fw l⟩
theorem tS_set {l : List Grant} (hg : Good l) : setL ⟨[], l⟩ = tS l := by
  show (⟨(sett [] [] l).1, (sett [] [] l).2⟩ : Locks) = _
  rw [sett_F hg]
theorem tS_ok {l : List Grant} (hg : Good l) (hn : l.length ≤ 12) : LkOK (tS l) ∧ AllB (Fh l) (Fw l) := by
  rw [← tS_set hg]
  have hgr : ∀ g ∈ l, grOK g := fun g h => by
    have h1 := hg.1 g h
    unfold grOK
    rw [h1.1]
    refine ⟨⟨h1.2.2.1, by omega⟩, by decide, by decide, h1.2.1⟩
  have := setL_ok (a := []) (b := l) ⟨List.Pairwise.nil, by simp, fun x hx => ⟨by have := (hg.1 x hx).2.1; show (0 : Int) < _; omega, (hg.1 x hx).2.1⟩, hg.2.imp fun h => by omega⟩ (by simp) (by intro a ha; simp at ha) hgr (by simp; omega)
  refine ⟨this.1, ?_⟩
  have h2 := this.2
  rw [tS_set hg] at h2
  exact h2
theorem sett_app : ∀ (a b h p : List Grant), sett h p (a ++ b) = sett (sett h p a).1 (sett h p a).2 b := by
  intro a
  induction a with
  | nil => intros; rfl
  | cons x a ih =>
    intro b h p
    show (if blkG h p x = true then sett h (p ++ [x]) (a ++ b) else sett (holdL h x) p (a ++ b)) = sett (if blkG h p x = true then sett h (p ++ [x]) a else sett (holdL h x) p a).1 (if blkG h p x = true then sett h (p ++ [x]) a else sett (holdL h x) p a).2 b
    split <;> exact ih ..
theorem Fh_mem {l : List Grant} {x : Grant} (h : x ∈ Fh l) : x ∈ l := by rw [← F_app l]; simp [h]
theorem Fw_mem {l : List Grant} {x : Grant} (h : x ∈ Fw l) : x ∈ l := by rw [← F_app l]; simp [h]
theorem ask_S {l : List Grant} {g : Grant} (hg : Good (l ++ [g])) (hn : l.length ≤ 11) : reqL (tS l) g = (tS (l ++ [g]), decide (g.mode ≤ modeL (askL (tS l) g).held g.tx g.lock), 0) := by
  have hgl : Good l := hg.sub (by simp)
  obtain ⟨hok, hall⟩ := tS_ok hgl (by omega)
  have hne : ∀ x ∈ l, x.tx ≠ g.tx := fun x hx => by have := (List.pairwise_append.1 hg.2).2.2 x hx g (by simp); omega
  have h1 := hg.1 g (by simp)
  have hgr : grOK g := by
    unfold grOK
    rw [h1.1]
    exact ⟨⟨h1.2.2.1, by omega⟩, by decide, by decide, h1.2.1⟩
  have hmo : modeL (Fh l) g.tx g.lock = 0 := modeL_none fun x hx hc => hne x (Fh_mem hx) hc.1
  have hf : (Fw l).find? (fun x => decide (x.tx = g.tx)) = none := List.find?_eq_none.2 fun x hx => by simpa using hne x (Fw_mem hx)
  have hlen : (Fh l).length + (Fw l).length = l.length := by rw [← List.length_append, F_app]
  have hask : askL (tS l) g = tS (l ++ [g]) := by
    rw [← tS_set hg]
    have hp : placeL (tS l) g = (Fw l).length := by unfold placeL; rw [if_pos hmo]
    show (⟨(sett (Fh l) [] (insL (Fw l) (placeL (tS l) g) g)).1, (sett (Fh l) [] (insL (Fw l) (placeL (tS l) g) g)).2⟩ : Locks) = ⟨(sett [] [] (l ++ [g])).1, (sett [] [] (l ++ [g])).2⟩
    have hi : insL (Fw l) (Fw l).length g = Fw l ++ [g] := by unfold insL; simp
    have e1 : sett (Fh l) [] (Fw l ++ [g]) = sett (Fh l) (Fw l) [g] := sett_restart hall
    have e2 : sett [] [] (l ++ [g]) = sett (Fh l) (Fw l) [g] := by rw [sett_app, sett_F hgl]
    rw [hp, hi, e1, e2]
  unfold reqL
  rw [if_neg (by simpa using hok), if_neg (by simpa using hgr), hf]
  simp only [hmo]
  rw [if_neg (by omega), if_neg (by omega), Prod.mk.injEq]
  exact ⟨hask, rfl⟩
theorem free_S {g : Grant} {r : List Grant} (hg : Good (g :: r)) : setL ⟨freeL g.tx (Fh (g :: r)), freeL g.tx (Fw (g :: r))⟩ = tS r := by
  have hgr : Good r := hg.sub (by simp)
  have hne : ∀ x ∈ r, x.tx ≠ g.tx := fun x hx => by have := (List.pairwise_cons.1 hg.2).1 x hx; omega
  have hfr : ∀ l : List Grant, (∀ x ∈ l, x ∈ r) → freeL g.tx l = l := fun l hl => List.filter_eq_self.2 fun x hx => by simpa using hne x (hl x hx)
  have hfg : ∀ l : List Grant, (∀ x ∈ l, x ∈ r) → freeL g.tx (g :: l) = l := fun l hl => by
    show List.filter _ (g :: l) = l
    rw [List.filter_cons, if_neg (by simp)]
    exact hfr l hl
  rw [Fh_cons, Fw_cons]
  by_cases hm : g.mode = 2
  · rw [if_pos hm, if_pos hm, hfg [] (by simp), hfr r (fun x hx => hx)]
    exact tS_set hgr
  · rw [if_neg hm, if_neg hm, hfg _ (fun x hx => (List.takeWhile_sublist _).subset hx), hfr _ (fun x hx => (List.dropWhile_sublist _).subset hx)]
    cases r with
    | nil => rfl
    | cons h0 r =>
      by_cases hs : shG h0 = true
      · have hm0 : ¬ h0.mode = 2 := by simp [shG] at hs; omega
        have e1 : (h0 :: r).takeWhile shG = h0 :: r.takeWhile shG := by simp [List.takeWhile_cons, hs]
        have e2 : (h0 :: r).dropWhile shG = r.dropWhile shG := by simp [List.dropWhile_cons, hs]
        rw [e1, e2]
        have hF : tS (h0 :: r) = ⟨h0 :: r.takeWhile shG, r.dropWhile shG⟩ := by unfold tS; rw [Fh_cons, Fw_cons, if_neg hm0, if_neg hm0]
        have hall : AllB (Fh (h0 :: r)) (Fw (h0 :: r)) := by
          have hb := sett_spec (h0 :: r) [] [] ⟨List.Pairwise.nil, by simp, fun x hx => ⟨by have := (hgr.1 x hx).2.1; show (0 : Int) < _; omega, (hgr.1 x hx).2.1⟩, by rw [List.nil_append]; exact hgr.2.imp fun {a b} (h : a.tx < b.tx) => (show a.tx ≠ b.tx by omega)⟩ (AllB.nil _)
          have := hb.2.1
          rw [sett_F hgr] at this
          exact this
        rw [hF]
        have hh : Fh (h0 :: r) = h0 :: r.takeWhile shG := congrArg Locks.held hF
        have hw : Fw (h0 :: r) = r.dropWhile shG := congrArg Locks.waiting hF
        rw [hh, hw] at hall
        show (⟨(sett _ [] _).1, (sett _ [] _).2⟩ : Locks) = _
        rw [sett_all hall]
      · have e1 : (h0 :: r).takeWhile shG = [] := by simp [List.takeWhile_cons, hs]
        have e2 : (h0 :: r).dropWhile shG = h0 :: r := by simp [List.dropWhile_cons, hs]
        rw [e1, e2]
        exact tS_set hgr

/-! ### the statement -/
section
variable {modes : List Int}
def oG (modes : List Int) (i : Nat) : Grant := ⟨(i : Int) + 1, kL, 1 + gd modes (i : Int) % 2⟩
def rg (modes : List Int) (i j : Nat) : List Grant := (List.range' i (j - i)).map (oG modes)
theorem rg_mem {i j : Nat} {x : Grant} : x ∈ rg modes i j ↔ ∃ k, i ≤ k ∧ k < j ∧ oG modes k = x := by
  unfold rg
  rw [List.mem_map]
  constructor
  · rintro ⟨k, hk, e⟩
    rw [List.mem_range'_1] at hk
    exact ⟨k, hk.1, by omega, e⟩
  · rintro ⟨k, h1, h2, e⟩
    exact ⟨k, List.mem_range'_1.2 ⟨h1, by omega⟩, e⟩
theorem rg_good {i j : Nat} (hj : j ≤ 12) : Good (rg modes i j) := by
  refine ⟨fun a ha => ?_, ?_⟩
  · obtain ⟨k, h1, h2, rfl⟩ := rg_mem.1 ha
    refine ⟨rfl, ?_, ?_, ?_⟩
    · show 1 + gd modes (k : Int) % 2 = 1 ∨ 1 + gd modes (k : Int) % 2 = 2; omega
    · show 1 ≤ (k : Int) + 1; omega
    · show (k : Int) + 1 ≤ 12; omega
  · unfold rg
    rw [List.pairwise_map]
    refine (List.pairwise_lt_range' ..).imp fun {a b} h => ?_
    show (a : Int) + 1 < (b : Int) + 1; omega
theorem rg_cons {i j : Nat} (h : i < j) : rg modes i j = oG modes i :: rg modes (i + 1) j := by
  unfold rg
  rw [show j - i = (j - (i + 1)) + 1 by omega, List.range'_succ]; rfl
theorem rg_snoc {i j : Nat} (h : i ≤ j) : rg modes i (j + 1) = rg modes i j ++ [oG modes j] := by
  unfold rg
  rw [show j + 1 - i = (j - i) + 1 by omega, List.range'_concat, List.map_append]
  simp only [List.map_cons, List.map_nil, Nat.one_mul]
  rw [show i + (j - i) = j by omega]
theorem rg_nil (i : Nat) : rg modes i i = [] := by unfold rg; simp
theorem rg_app {i m j : Nat} (h1 : i ≤ m) (h2 : m ≤ j) : rg modes i j = rg modes i m ++ rg modes m j := by
  unfold rg
  rw [← List.map_append, show j - i = (m - i) + (j - m) by omega, ← List.range'_append]
  rw [show i + 1 * (m - i) = m by omega]
theorem tw_app {p : Grant → Bool} {a b : List Grant} (ha : ∀ x ∈ a, p x = true) (hb : b = [] ∨ ∃ y r, b = y :: r ∧ p y = false) : (a ++ b).takeWhile p = a := by
  induction a with
  | nil =>
    rcases hb with rfl | ⟨y, r, rfl, hy⟩
    · rfl
    · simp [List.takeWhile_cons, hy]
  | cons x a ih =>
    rw [List.cons_append, List.takeWhile_cons, if_pos (ha x (by simp)), ih fun y hy => ha y (by simp [hy])]
theorem Fh_rg {i n last : Nat} (hi : i < n) (h : (gd modes (i : Int) % 2 = 1 ∧ last = i) ∨ (gd modes (i : Int) % 2 = 0 ∧ i ≤ last ∧ last < n ∧ (∀ j, i < j → j ≤ last → gd modes (j : Int) % 2 = 0) ∧ (last + 1 = n ∨ gd modes ((last + 1 : Nat) : Int) % 2 = 1))) : Fh (rg modes i n) = rg modes i (last + 1) := by
  rw [rg_cons hi]
  rw [Fh_cons]
  rcases h with ⟨h1, rfl⟩ | ⟨h1, h2, h3, h4, h5⟩
  · rw [if_pos (show (oG modes last).mode = 2 by show 1 + gd modes (last : Int) % 2 = 2; omega), rg_cons (by omega), rg_nil]
  · rw [if_neg (show ¬ (oG modes i).mode = 2 by show ¬ (1 + gd modes (i : Int) % 2 = 2); omega), rg_cons (show i < last + 1 by omega)]
    congr 1
    rw [rg_app (show i + 1 ≤ last + 1 by omega) (show last + 1 ≤ n by omega)]
    refine tw_app (fun x hx => ?_) ?_
    · obtain ⟨k, k1, k2, rfl⟩ := rg_mem.1 hx
      have := h4 k (by omega) (by omega)
      unfold shG
      rw [decide_eq_true_iff]
      show 1 + gd modes (k : Int) % 2 = 1
      omega
    · rcases h5 with h5 | h5
      · left; rw [h5, rg_nil]
      · by_cases hn : last + 1 < n
        · right
          refine ⟨_, _, rg_cons hn, ?_⟩
          unfold shG oG
          simp only [decide_eq_false_iff_not]
          omega
        · left; rw [show n = last + 1 by omega, rg_nil]
theorem mode_rg {i e j : Nat} (he : e ≤ 12) : 0 < modeL (rg modes i e) ((j : Int) + 1) kL ↔ i ≤ j ∧ j < e := by
  have ha : AscG (rg modes i e) := by
    have hg := rg_good (modes := modes) (i := i) he
    refine List.Pairwise.imp_of_mem (fun {a b} hm1 hm2 h => ?_) hg.2
    rw [ltG_iff, (hg.1 a hm1).1, (hg.1 b hm2).1]; omega
  constructor
  · intro h
    rcases modeL_cases _ ha ((j : Int) + 1) kL with ⟨x, hx, h1, _, _⟩ | ⟨_, h2⟩
    · obtain ⟨k, k1, k2, rfl⟩ := rg_mem.1 hx
      have : (k : Int) + 1 = (j : Int) + 1 := h1
      have : k = j := by omega
      subst this; exact ⟨k1, k2⟩
    · omega
  · rintro ⟨h1, h2⟩
    have e : modeL (rg modes i e) ((j : Int) + 1) kL = (oG modes j).mode := modeL_some ha (rg_mem.2 ⟨j, h1, h2, rfl⟩) rfl rfl
    rw [e]
    show 0 < 1 + gd modes (j : Int) % 2; omega
theorem gd_rng' {modes : List Int} (hw : ∀ x ∈ modes, 0 ≤ x ∧ x ≤ 255) {n : Nat} (hnl : n ≤ modes.length) {i : Nat} (hi : i < n) : 0 ≤ gd modes (i : Int) ∧ gd modes (i : Int) ≤ 255 := by
  rw [gd_nat (show i < modes.length by omega)]
  exact hw _ (List.getElem_mem _)
variable (hw : ∀ x ∈ modes, 0 ≤ x ∧ x ≤ 255) {n : Nat} (hn : (if 12 < (modes.length : Int) then 12 else (modes.length : Int)) = (n : Int)) (hn12 : n ≤ 12) (hnl : n ≤ modes.length)
include hn hn12
theorem ord_l4 {i last : Nat} (hl : last < n) (t : Locks) (ht : LkOK t) (hh : t.held = rg modes i (last + 1)) : ∀ (k j : Nat), j ≤ n → n - j < k → law08_LocksOrder.l4 modes (i : Int) t (last : Int) k (j : Int) = some (.inl ()) := by
  have hcnt := ht.cnt
  intro k
  induction k with
  | zero => intro j h1 h2; omega
  | succ k ih =>
    intro j h1 h2
    rw [law08_LocksOrder.l4.eq_2, hn]
    by_cases hj : j < n
    · rw [if_pos (by omega), w64_id (x := (j : Int) + 1) (by omega), lkmode_eq (by omega) (by omega), if_pos ht, hh]
      simp only [Option.bind_some]
      have hmo : 0 < modeL (rg modes i (last + 1)) ((j : Int) + 1) ⟨3, 3⟩ ↔ i ≤ j ∧ j < last + 1 := mode_rg (by omega)
      have hih := ih (j + 1) (by omega) (by omega)
      have hcast : ((j + 1 : Nat) : Int) = (j : Int) + 1 := rfl
      rw [hcast] at hih
      by_cases c1 : (i : Int) ≤ (j : Int)
      · rw [if_pos c1]
        have : decide (0 < modeL (rg modes i (last + 1)) ((j : Int) + 1) ⟨3, 3⟩) = decide ((j : Int) ≤ (last : Int)) := by
          apply decide_eq_decide.2; rw [hmo]; omega
        rw [this, hih]; simp
      · rw [if_neg c1]
        have : decide (0 < modeL (rg modes i (last + 1)) ((j : Int) + 1) ⟨3, 3⟩) = false := by
          rw [decide_eq_false_iff_not, hmo]; omega
        rw [this, hih]; simp
    · rw [if_neg (by omega)]
include hw hnl
theorem ord_l1 : ∀ (k i : Nat), i ≤ n → n - i < k → law08_LocksOrder.l1 modes k (i : Int) (tS (rg modes 0 i)) = some (.inl (tS (rg modes 0 n))) := by
  intro k
  induction k with
  | zero => intro i h1 h2; omega
  | succ k ih =>
    intro i h1 h2
    rw [law08_LocksOrder.l1.eq_2, hn]
    by_cases hi : i < n
    · have hr := gd_rng' hw hnl hi
      rw [if_pos (by omega), if_pos (by omega), w64_id (x := gd modes (i : Int)) (by omega), Int.tmod_eq_emod_of_nonneg (by omega), w64_id (x := 1 + gd modes (i : Int) % 2) (by omega), w64_id (x := (i : Int) + 1) (by omega)]
      have hg : Good (rg modes 0 i ++ [oG modes i]) := by rw [← rg_snoc (by omega)]; exact rg_good (by omega)
      have hlen : (rg modes 0 i).length = i := by unfold rg; simp
      have hl2 : (Fh (rg modes 0 i)).length + (Fw (rg modes 0 i)).length = i := by rw [← List.length_append, F_app, hlen]
      show ((locks_Request (tS (rg modes 0 i)) (oG modes i)).bind _) = _
      rw [lkreq_eq (t := tS (rg modes 0 i)) (by show (Fh _).length ≤ _; omega) (by show (Fw _).length ≤ _; omega), ask_S hg (by omega), ← rg_snoc (by omega)]
      simp only [Option.bind_some]
      rw [if_neg (by simp)]
      exact ih (i + 1) (by omega) (by omega)
    · have : i = n := by omega
      subst this
      rw [if_neg (by omega)]
theorem ord_l3 {i : Nat} : ∀ (k last : Nat), i ≤ last → last < n → n - last < k → (∀ j, i < j → j ≤ last → gd modes (j : Int) % 2 = 0) →
    ∃ last' : Nat, law08_LocksOrder.l3 modes k (last : Int) = some (last' : Int) ∧ i ≤ last' ∧ last' < n ∧ (∀ j, i < j → j ≤ last' → gd modes (j : Int) % 2 = 0) ∧ (last' + 1 = n ∨ gd modes ((last' + 1 : Nat) : Int) % 2 = 1) := by
  intro k
  induction k with
  | zero => intro last h1 h2 h3; omega
  | succ k ih =>
    intro last h1 h2 h3 h4
    rw [law08_LocksOrder.l3.eq_2, hn, w64_succ (by omega)]
    by_cases hl : last + 1 < n
    · have hr := gd_rng' hw hnl hl
      rw [if_pos (by omega), if_pos (by omega), Int.tmod_eq_emod_of_nonneg hr.1]
      by_cases hc : gd modes ((last + 1 : Nat) : Int) % 2 = 0
      · rw [if_pos hc]
        exact ih (last + 1) (by omega) hl (by omega) fun j q1 q2 => by
          by_cases e : j = last + 1
          · subst e; exact hc
          · exact h4 j q1 (by omega)
      · rw [if_neg hc]
        exact ⟨last, rfl, h1, h2, h4, .inr (by omega)⟩
    · rw [if_neg (by omega)]
      exact ⟨last, rfl, h1, h2, h4, .inl (by omega)⟩
theorem ord_l2 : ∀ (k i : Nat), i ≤ n → n - i < k → law08_LocksOrder.l2 modes k (i : Int) (tS (rg modes i n)) = some (.inl ⟨[], []⟩) := by
  intro k
  induction k with
  | zero => intro i h1 h2; omega
  | succ k ih =>
    intro i h1 h2
    rw [law08_LocksOrder.l2.eq_2, hn]
    by_cases hi : i < n
    · have hr := gd_rng' hw hnl hi
      have hlen : (rg modes i n).length = n - i := by unfold rg; simp
      obtain ⟨hok, _⟩ := tS_ok (rg_good (modes := modes) (i := i) hn12) (by omega)
      have hcnt := hok.cnt
      rw [if_pos (by omega), if_pos (by omega), Int.tmod_eq_emod_of_nonneg hr.1]
      have key : ∀ last : Nat, last < n → Fh (rg modes i n) = rg modes i (last + 1) → ((law08_LocksOrder.l4 modes (i : Int) (tS (rg modes i n)) (last : Int) FU 0).bind fun (z : Sum Unit Bool) => match z with | .inl (s45 : Unit) => ((locks_Release (tS (rg modes i n)) (w64 ((i : Int) + 1))).bind fun (x46 : Locks) => law08_LocksOrder.l2 modes k (w64 ((i : Int) + 1)) x46) | .inr r => some (Sum.inr r)) = some (.inl ⟨[], []⟩) := fun last hl hF => by
        have e4 : law08_LocksOrder.l4 modes (i : Int) (tS (rg modes i n)) (last : Int) FU 0 = some (.inl ()) := ord_l4 hn hn12 hl (tS (rg modes i n)) hok hF FU 0 (by omega) (by unfold FU; omega)
        rw [e4]
        simp only [Option.bind_some]
        rw [w64_id (x := (i : Int) + 1) (by omega), lkrelease_eq (by omega) (by omega), if_pos hok]
        simp only [Option.bind_some]
        have hfree := free_S (g := oG modes i) (r := rg modes (i + 1) n) (by rw [← rg_cons hi]; exact rg_good hn12)
        rw [← rg_cons hi] at hfree
        have e : (oG modes i).tx = (i : Int) + 1 := rfl
        rw [e] at hfree
        rw [hfree]
        exact ih (i + 1) (by omega) (by omega)
      by_cases hc : gd modes (i : Int) % 2 = 0
      · rw [if_pos hc]
        obtain ⟨last, e, l1, l2, l3, l4⟩ := ord_l3 hw hn hn12 hnl (i := i) FU i (Nat.le_refl _) hi (by unfold FU; omega) (fun j q1 q2 => by omega)
        rw [e]
        exact key last l2 (Fh_rg hi (.inr ⟨hc, l1, l2, l3, l4⟩))
      · rw [if_neg hc]
        exact key i hi (Fh_rg hi (.inl ⟨by omega, rfl⟩))
    · have : i = n := by omega
      subst this
      rw [if_neg (by omega), rg_nil]; rfl
end
theorem law08_LocksOrder_true (modes : List Int) (hw : ∀ x ∈ modes, (Lit.int .u8 x).wf = true) : law08_LocksOrder modes = some true := by
  have hw' : ∀ x ∈ modes, 0 ≤ x ∧ x ≤ 255 := fun x hx => by simpa [Lit.wf, IntKind.min, IntKind.max, IntKind.signed, IntKind.bits] using hw x hx
  obtain ⟨n, hn, hn12, hnl⟩ : ∃ n : Nat, (if 12 < (modes.length : Int) then 12 else (modes.length : Int)) = (n : Int) ∧ n ≤ 12 ∧ n ≤ modes.length := by
    by_cases h : (12 : Int) < (modes.length : Int)
    · exact ⟨12, by rw [if_pos h]; rfl, by omega, by omega⟩
    · exact ⟨modes.length, by rw [if_neg h], by omega, by omega⟩
  rw [law08_LocksOrder.eq_1, law08_awake_true]
  simp only [Option.bind_some, Bool.not_true, Bool.false_eq_true, if_false]
  have e1 : law08_LocksOrder.l1 modes FU 0 ⟨[], []⟩ = some (.inl (tS (rg modes 0 n))) := ord_l1 hw' hn hn12 hnl FU 0 (by omega) (by unfold FU; omega)
  have e2 : law08_LocksOrder.l2 modes FU 0 (tS (rg modes 0 n)) = some (.inl ⟨[], []⟩) := ord_l2 hw' hn hn12 hnl FU 0 (by omega) (by unfold FU; omega)
  rw [e1]
  simp only [Option.bind_some]
  rw [e2]
  rfl
end Rv
