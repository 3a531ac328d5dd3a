/- Chapter 8: asking again, releasing again. -/
import Derived.Test.YtnlpkgamglhnbaaRvPLkDr
import Derived.Test.YtnlpkgamglhnbaaRvLaw08r
import Derived.KernelRfl
import GoSem.Claim
set_option linter.unusedVariables false
set_option linter.unusedSimpArgs false
namespace Rv
open Go Go.RowKit Go.Proofs

theorem law08_awake_true : law08_awake = some true := by kernel_rfl
/-- what settling keeps: a mode of whom nobody asks for; who waits, or holds what it asked for; what is there was there -/
theorem sett_keep : ∀ (rest held pre : List Grant) (tx : Int) (k : Lock), AscG held → (∀ x ∈ rest, x.tx ≠ tx) → modeL (sett held pre rest).1 tx k = modeL held tx k := by
  intro rest
  induction rest with
  | nil => intros; rfl
  | cons g r ih =>
    intro held pre tx k ha hr
    by_cases hc : blkG held pre g = true
    · rw [show sett held pre (g :: r) = sett held (pre ++ [g]) r from if_pos hc]
      exact ih _ _ _ _ ha fun x hx => hr x (by simp [hx])
    · rw [show sett held pre (g :: r) = sett (holdL held g) pre r from if_neg hc, ih _ _ _ _ (holdL_asc ha g) fun x hx => hr x (by simp [hx])]
      exact modeL_hold_ne ha fun e => hr g (by simp) e.1
theorem sett_where : ∀ (rest held pre : List Grant), AscG held → (pre ++ rest).Pairwise (fun a b => a.tx ≠ b.tx) → ∀ x ∈ pre ++ rest, x ∈ (sett held pre rest).2 ∨ modeL (sett held pre rest).1 x.tx x.lock = x.mode := by
  intro rest
  induction rest with
  | nil => intro held pre _ _ x hx; left; simpa [sett] using hx
  | cons g r ih =>
    intro held pre ha hp x hx
    by_cases hc : blkG held pre g = true
    · rw [show sett held pre (g :: r) = sett held (pre ++ [g]) r from if_pos hc]
      exact ih held (pre ++ [g]) ha (by rw [List.append_assoc]; exact hp) x (by rw [List.append_assoc]; exact hx)
    · rw [show sett held pre (g :: r) = sett (holdL held g) pre r from if_neg hc]
      rw [List.pairwise_append, List.pairwise_cons] at hp
      obtain ⟨p1, ⟨p2, p3⟩, p4⟩ := hp
      by_cases e : x = g
      · subst e
        right
        rw [sett_keep _ _ _ _ _ (holdL_asc ha x) fun y hy => fun e => p2 y hy e.symm]
        exact modeL_hold_self ha x
      · refine ih (holdL held g) pre (holdL_asc ha g) ?_ x ?_
        · rw [List.pairwise_append]
          exact ⟨p1, p3, fun a ha b hb => p4 a ha b (by simp [hb])⟩
        · rcases List.mem_append.1 hx with h | h
          · exact List.mem_append_left _ h
          · rcases List.mem_cons.1 h with h | h
            · exact absurd h e
            · exact List.mem_append_right _ h
theorem sett_sub : ∀ (rest held pre : List Grant), (∀ x ∈ (sett held pre rest).1, x ∈ held ∨ x ∈ rest) ∧ (∀ x ∈ (sett held pre rest).2, x ∈ pre ∨ x ∈ rest) := by
  intro rest
  induction rest with
  | nil => intro held pre; exact ⟨fun x hx => .inl hx, fun x hx => .inl hx⟩
  | cons g r ih =>
    intro held pre
    by_cases hc : blkG held pre g = true
    · rw [show sett held pre (g :: r) = sett held (pre ++ [g]) r from if_pos hc]
      obtain ⟨h1, h2⟩ := ih held (pre ++ [g])
      refine ⟨fun x hx => (h1 x hx).imp id fun h => by simp [h], fun x hx => ?_⟩
      rcases h2 x hx with h | h
      · rcases List.mem_append.1 h with h | h
        · exact .inl h
        · right; rw [List.mem_singleton.1 h]; simp
      · right; simp [h]
    · rw [show sett held pre (g :: r) = sett (holdL held g) pre r from if_neg hc]
      obtain ⟨h1, h2⟩ := ih (holdL held g) pre
      refine ⟨fun x hx => ?_, fun x hx => (h2 x hx).imp id fun h => by simp [h]⟩
      rcases h1 x hx with h | h
      · rcases holdL_mem.1 h with h | ⟨h, _⟩
        · right; rw [h]; simp
        · exact .inl h
      · right; simp [h]
/-- Asked once, the table answers a second time the same. -/
theorem ask_again {t : Locks} (h : TabOK t) {g : Grant} (hg : grOK g) (hc : t.held.length + t.waiting.length < 1000) (he : (reqL t g).2.2 = 0) :
    TabOK (reqL t g).1 ∧ (reqL t g).1.held.length + (reqL t g).1.waiting.length ≤ 1000 ∧ reqL (reqL t g).1 g = ((reqL t g).1, (reqL t g).2.1, 0) ∧
    ((reqL t g).2.1 = true → reqL (reqL t g).1 ⟨g.tx, g.lock, 1⟩ = ((reqL t g).1, true, 0)) := by
  obtain ⟨ht, hl⟩ := h.req hg (by omega) he
  refine ⟨ht, by omega, ?_⟩
  have hg1 : grOK ⟨g.tx, g.lock, 1⟩ := ⟨hg.1, hg.2.1, hg.2.2.1, .inl rfl⟩
  have hmode : 1 ≤ g.mode := by have := hg.2.2.2; omega
  -- where the lock is held and nobody of the transaction waits
  have yes : ∀ u : Locks, TabOK u → u.held.length + u.waiting.length < 1024 → (∀ x ∈ u.waiting, x.tx ≠ g.tx) → g.mode ≤ modeL u.held g.tx g.lock → reqL u g = (u, true, 0) ∧ reqL u ⟨g.tx, g.lock, 1⟩ = (u, true, 0) := by
    intro u hu hn hno hm
    constructor
    · rcases req_cases hu.ok hg hn with ⟨w, _, hw, hwt, _⟩ | ⟨_, _, ⟨_, e⟩ | ⟨hlt, _⟩⟩
      · exact absurd hwt (hno w hw)
      · exact e
      · omega
    · rcases req_cases hu.ok hg1 hn with ⟨w, _, hw, hwt, _⟩ | ⟨_, _, ⟨_, e⟩ | ⟨hlt, _⟩⟩
      · exact absurd hwt (hno w hw)
      · exact e
      · have hlt' : modeL u.held g.tx g.lock < 1 := hlt
        omega
  rcases req_cases h.ok hg (by omega) with ⟨w, hf, hw, hwt, ⟨hwg, e⟩ | ⟨_, e⟩⟩ | ⟨_, hno, ⟨hm, e⟩ | ⟨hm, e⟩⟩
  · rw [e]
    exact ⟨e, fun h => by cases h⟩
  · rw [e] at he; cases he
  · rw [e]
    exact ⟨e, fun _ => (yes t h (by omega) hno hm).2⟩
  · rw [e] at ht hl ⊢
    have ht : TabOK (askL t g) := ht
    have hl : (askL t g).held.length + (askL t g).waiting.length ≤ t.held.length + t.waiting.length + 1 := hl
    show reqL (askL t g) g = (askL t g, decide (g.mode ≤ modeL (askL t g).held g.tx g.lock), 0) ∧ (decide (g.mode ≤ modeL (askL t g).held g.tx g.lock) = true → reqL (askL t g) ⟨g.tx, g.lock, 1⟩ = (askL t g, true, 0))
    have honly : ∀ x ∈ (askL t g).waiting, x.tx = g.tx → x = g := fun x hx hxt => by
      rcases (sett_sub (insL t.waiting (placeL t g) g) t.held []).2 x hx with h1 | h1
      · simp at h1
      · rcases insL_mem.1 h1 with h2 | h2
        · exact h2
        · exact absurd hxt (hno x h2)
    have hwh := sett_where (insL t.waiting (placeL t g) g) t.held [] h.ok.asc (insL_pw h.ok.wt _ hno) g (insL_mem.2 (.inl rfl))
    by_cases hd : g.mode ≤ modeL (askL t g).held g.tx g.lock
    · have hno2 : ∀ x ∈ (askL t g).waiting, x.tx ≠ g.tx := fun x hx hxt => by
        have h1 := honly x hx hxt
        subst h1
        have := (ht.ok.wg x hx).2
        omega
      obtain ⟨y1, y2⟩ := yes (askL t g) ht (by omega) hno2 hd
      rw [y1, decide_eq_true hd]
      exact ⟨rfl, fun _ => y2⟩
    · rw [decide_eq_false hd]
      refine ⟨?_, fun h => by cases h⟩
      have hgw : g ∈ (askL t g).waiting := by
        rcases hwh with h1 | h1
        · exact h1
        · exact absurd (show g.mode ≤ modeL (askL t g).held g.tx g.lock from Int.le_of_eq h1.symm) hd
      rcases req_cases ht.ok hg (by omega) with ⟨w, hf, hw, hwt, ⟨hwg, e2⟩ | ⟨hne, _⟩⟩ | ⟨_, hno2, _⟩
      · exact e2
      · exact absurd (honly w hw hwt) hne
      · exact absurd rfl (hno2 g hgw)
theorem free_none {tx : Int} {l : List Grant} (h : ∀ x ∈ l, x.tx ≠ tx) : freeL tx l = l := List.filter_eq_self.2 fun x hx => by simpa using h x hx
theorem free_mem {tx : Int} {l : List Grant} {x : Grant} (h : x ∈ freeL tx l) : x ∈ l ∧ x.tx ≠ tx := by
  have := List.mem_filter.1 h
  exact ⟨this.1, by simpa using this.2⟩
theorem set_self {t : Locks} (h : TabOK t) : setL ⟨t.held, t.waiting⟩ = t := by
  show (⟨(sett t.held [] t.waiting).1, (sett t.held [] t.waiting).2⟩ : Locks) = t
  rw [sett_all h.all]
theorem same_self {t : Locks} (h : LkOK t) : ref08_Same t t = some true := by
  have := h.cnt
  rw [rsame_eq (by omega) (by omega)]; simp
theorem rel_eq {t : Locks} (h : LkOK t) (tx : Int) : locks_Release t tx = some (setL ⟨freeL tx t.held, freeL tx t.waiting⟩) := by
  have := h.cnt
  rw [lkrelease_eq (by omega) (by omega), if_pos h]
theorem can_eq {t : Locks} (h : LkOK t) (tx : Int) : locks_Cancel t tx = some (setL ⟨t.held, freeL tx t.waiting⟩) := by
  have := h.cnt
  rw [lkcancel_eq (by omega) (by omega), if_pos h]
theorem dro_eq {t : Locks} (h : LkOK t) (tx : Int) (k : Lock) : locks_Drop t tx k = some (setL ⟨dropL tx k t.held, t.waiting⟩) := by
  have := h.cnt
  rw [lkdrop_eq (by omega) (by omega), if_pos h]
theorem law08_LocksRepeat_true (codes : List Int) (hw : ∀ x ∈ codes, (Lit.int .u8 x).wf = true) : law08_LocksRepeat codes = some true := by
  have hw' : ∀ x ∈ codes, 0 ≤ x ∧ x ≤ 255 := fun x hx => by simpa [Lit.wf, IntKind.min, IntKind.max, IntKind.signed, IntKind.bits] using hw x hx
  obtain ⟨c, ec, hc, _, _⟩ := new_codes2 hw' (n := 200) (by decide) (by decide)
  obtain ⟨t, c1, e1, ht, s1, hl1⟩ := locks2 hc
  obtain ⟨g, c2, e2, hg, _, _⟩ := grant2 s1.1
  rw [law08_LocksRepeat.eq_1, law08_awake_true]
  simp only [Option.bind_some, Bool.not_true, Bool.false_eq_true, if_false, ec, e1, e2]
  rw [lkreq_eq (by omega) (by omega)]
  have hpair : ∀ (r : Locks × Bool × Int), (if r.2.1 = true then some (r.1, true, r.2.2) else some (r.1, false, r.2.2)) = some r := fun r => by
    obtain ⟨a, b, d⟩ := r
    cases b <;> rfl
  simp only [Option.bind_some, hpair]
  by_cases he : (reqL t g).2.2 = 0
  rotate_left
  · rw [if_pos he]
    rcases req_cases ht.ok hg (by omega) with ⟨w, _, _, _, ⟨_, e⟩ | ⟨_, e⟩⟩ | ⟨_, _, ⟨_, e⟩ | ⟨_, e⟩⟩
    · rw [e] at he; exact absurd rfl he
    · rw [e]; rfl
    · rw [e] at he; exact absurd rfl he
    · rw [e] at he; exact absurd rfl he
  rw [if_neg (by simpa using he)]
  obtain ⟨hu, hul, ha, hb⟩ := ask_again ht hg (by omega) he
  generalize hR : reqL t g = R at *
  obtain ⟨u, held, er⟩ := R
  simp only at he hu hul ha hb ⊢
  subst he
  rw [lkreq_eq (by omega) (by omega), ha]
  simp only [Option.bind_some]
  rw [if_neg (by simp), if_neg (by simp), same_self hu.ok]
  simp only [Option.bind_some, Bool.not_true, Bool.false_eq_true, if_false]
  have hx : TabOK (setL ⟨freeL g.tx u.held, freeL g.tx u.waiting⟩) := hu.set List.filter_sublist List.filter_sublist
  have hy : TabOK (setL ⟨u.held, freeL g.tx u.waiting⟩) := hu.set (List.Sublist.refl _) List.filter_sublist
  have hz : TabOK (setL ⟨dropL g.tx g.lock u.held, u.waiting⟩) := hu.set List.filter_sublist (List.Sublist.refl _)
  have x1 : ∀ x ∈ (setL ⟨freeL g.tx u.held, freeL g.tx u.waiting⟩).held, x.tx ≠ g.tx := fun x hx => by
    rcases (sett_sub (freeL g.tx u.waiting) (freeL g.tx u.held) []).1 x hx with h | h
    · exact (free_mem h).2
    · exact (free_mem h).2
  have x2 : ∀ x ∈ (setL ⟨freeL g.tx u.held, freeL g.tx u.waiting⟩).waiting, x.tx ≠ g.tx := fun x hx => by
    rcases (sett_sub (freeL g.tx u.waiting) (freeL g.tx u.held) []).2 x hx with h | h
    · simp at h
    · exact (free_mem h).2
  have y2 : ∀ x ∈ (setL ⟨u.held, freeL g.tx u.waiting⟩).waiting, x.tx ≠ g.tx := fun x hx => by
    rcases (sett_sub (freeL g.tx u.waiting) u.held []).2 x hx with h | h
    · simp at h
    · exact (free_mem h).2
  have hq : held = true → locks_Request u ⟨g.tx, g.lock, 1⟩ = some (u, true, 0) := fun h => by rw [lkreq_eq (by omega) (by omega), hb h]
  have hsu := same_self hu.ok
  cases held
  case true =>
    rw [if_pos rfl, hq rfl]
    simp only [Option.bind_some, if_true]
    rw [if_neg (by simp), hsu]
    simp only [Option.bind_some, Bool.not_true, Bool.false_eq_true, if_false]
    rw [rel_eq hu.ok, can_eq hu.ok, dro_eq hu.ok]
    simp only [Option.bind_some]
    generalize hX : setL ⟨freeL g.tx u.held, freeL g.tx u.waiting⟩ = X at *
    generalize hY : setL ⟨u.held, freeL g.tx u.waiting⟩ = Y at *
    generalize hZ : setL ⟨dropL g.tx g.lock u.held, u.waiting⟩ = Z at *
    rw [rel_eq hx.ok, free_none x1, free_none x2, set_self hx]
    simp only [Option.bind_some]
    rw [same_self hx.ok]
    simp only [Option.bind_some, if_true]
    rw [can_eq hy.ok, free_none y2, set_self hy]
    simp only [Option.bind_some]
    rw [same_self hy.ok]
    simp only [Option.bind_some, if_true]
    rw [can_eq hx.ok, free_none x2, set_self hx]
    simp only [Option.bind_some]
    rw [same_self hx.ok]
    simp only [Option.bind_some, if_true]
    have hcx := hx.ok.cnt
    rw [lkmode_eq (by omega) (by omega), if_pos hx.ok, modeL_none fun y hy hc => x1 y hy hc.1]
    simp only [Option.bind_some, if_true]
    rw [lkvalid_true hz.ok]
    rfl
  case false =>
    rw [if_neg (by simp)]
    simp only [Option.bind_some]
    rw [rel_eq hu.ok, can_eq hu.ok, dro_eq hu.ok]
    simp only [Option.bind_some]
    generalize hX : setL ⟨freeL g.tx u.held, freeL g.tx u.waiting⟩ = X at *
    generalize hY : setL ⟨u.held, freeL g.tx u.waiting⟩ = Y at *
    generalize hZ : setL ⟨dropL g.tx g.lock u.held, u.waiting⟩ = Z at *
    rw [rel_eq hx.ok, free_none x1, free_none x2, set_self hx]
    simp only [Option.bind_some]
    rw [same_self hx.ok]
    simp only [Option.bind_some, if_true]
    rw [can_eq hy.ok, free_none y2, set_self hy]
    simp only [Option.bind_some]
    rw [same_self hy.ok]
    simp only [Option.bind_some, if_true]
    rw [can_eq hx.ok, free_none x2, set_self hx]
    simp only [Option.bind_some]
    rw [same_self hx.ok]
    simp only [Option.bind_some, if_true]
    have hcx := hx.ok.cnt
    rw [lkmode_eq (by omega) (by omega), if_pos hx.ok, modeL_none fun y hy hc => x1 y hy hc.1]
    simp only [Option.bind_some, if_true]
    rw [lkvalid_true hz.ok]
    rfl
end Rv
