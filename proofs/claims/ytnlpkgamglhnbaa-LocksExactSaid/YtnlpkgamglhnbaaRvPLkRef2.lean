/- Chapter 8: what the document's own functions answer: the same; settling, asking, taking away. -/
import Derived.Test.YtnlpkgamglhnbaaRvPLkRef
import Derived.Test.YtnlpkgamglhnbaaRvR08b
set_option linter.unusedVariables false
set_option linter.unusedSimpArgs false
namespace Rv
open Go Go.RowKit Go.Proofs

/-! ### holding -/
def hOut (l : List Grant) (g : Grant) (d : Bool) : List Grant := l.filter (ltG · g) ++ (if d = true then g :: l.filter (ltG g ·) else [])
theorem rhold_l1 {l : List Grant} (ha : AscG l) (hn : l.length ≤ 1000000) (g : Grant) : ∀ (k i : Nat) (d : Bool), i ≤ l.length → (d = true ↔ ∃ x ∈ l.take i, ¬ ltG x g = true) → l.length - i < k →
    ref08_hold.l1 l g k (hOut (l.take i) g d) d (i : Int) = some (hOut l g (decide (∃ x ∈ l, ¬ ltG x g = true)), decide (∃ x ∈ l, ¬ ltG x g = true)) := by
  intro k
  induction k with
  | zero => intro i d h1 h2 h3; omega
  | succ k ih =>
    intro i d h1 h2 h3
    rw [ref08_hold.l1.eq_2]
    by_cases hi : i < l.length
    · have hlen : (hOut (l.take i) g d).length ≤ 3 * l.length + 1 := by
        unfold hOut
        have e1 := List.length_filter_le (ltG · g) (l.take i)
        have e2 := List.length_filter_le (ltG g ·) (l.take i)
        rw [List.length_take] at e1 e2
        split <;> simp only [List.length_append, List.length_cons, List.length_nil] <;> omega
      have hst : l.take (i + 1) = l.take i ++ [l[i]] := by rw [List.take_add_one, List.getElem?_eq_getElem hi]; rfl
      -- the first half: is g to be put in now?
      have hmid : (if d = true then some (hOut (l.take i) g d, d) else (if (0 : Int) ≤ (i : Int) ∧ (i : Int) < (l.length : Int) then ((ref08_less (gd l (i : Int)) g).bind fun (x13 : Bool) => (if (!x13) = true then (if (hOut (l.take i) g d).length + ([g] : List Grant).length ≤ 4398046511104 then some ((hOut (l.take i) g d ++ ([g] : List Grant)), true) else none) else some (hOut (l.take i) g d, d))) else none)) = some (hOut (l.take i) g (d || !ltG l[i] g), (d || !ltG l[i] g)) := by
        cases d with
        | true => simp
        | false =>
          rw [if_neg (by simp), if_pos (inr_nat hi), rless_eq, gd_nat hi]
          simp only [Option.bind_some, Bool.false_or]
          by_cases c : ltG l[i] g = true
          · simp [c]
          · have hno : ∀ x ∈ l.take i, ltG x g = true := fun x hx => by
              by_cases hc : ltG x g = true
              · exact hc
              · exact absurd (h2.2 ⟨x, hx, hc⟩) (by simp)
            have e0 : (l.take i).filter (ltG g ·) = [] := List.filter_eq_nil_iff.2 fun x hx => by simpa using ltG_asymm (hno x hx)
            have hb : (hOut (l.take i) g false).length + 1 ≤ 4398046511104 := by omega
            simp only [List.length_cons, List.length_nil, Nat.zero_add]
            rw [if_pos (by simpa using c), if_pos hb]
            simp only [c, Bool.not_false]
            unfold hOut
            simp [e0]
      rw [if_pos (by omega)]
      have hcond : (0 : Int) ≤ (i : Int) ∧ (i : Int) < (l.length : Int) := inr_nat hi
      rw [hmid]
      simp only [Option.bind_some]
      rw [if_pos hcond, gd_nat hi]
      generalize hd' : (d || !ltG l[i] g) = d'
      have hlen' : (hOut (l.take i) g d').length ≤ 3 * l.length + 1 := by
        unfold hOut
        have e1 := List.length_filter_le (ltG · g) (l.take i)
        have e2 := List.length_filter_le (ltG g ·) (l.take i)
        rw [List.length_take] at e1 e2
        split <;> simp only [List.length_append, List.length_cons, List.length_nil] <;> omega
      have hd2 : d' = true ↔ ∃ x ∈ l.take (i + 1), ¬ ltG x g = true := by
        rw [← hd', hst, Bool.or_eq_true, h2]
        constructor
        · rintro (⟨x, hx, hc⟩ | hc)
          · exact ⟨x, List.mem_append_left _ hx, hc⟩
          · exact ⟨l[i], List.mem_append_right _ (List.mem_singleton.2 rfl), by simpa using hc⟩
        · rintro ⟨x, hx, hc⟩
          rcases List.mem_append.1 hx with hx | hx
          · exact .inl ⟨x, hx, hc⟩
          · rw [List.mem_singleton.1 hx] at hc
            exact .inr (by simpa using hc)
      -- with the i-th element, or without it
      have hadd : ¬ keyG l[i] g = true → hOut (l.take i) g d' ++ [l[i]] = hOut (l.take (i + 1)) g d' := fun hk => by
        unfold hOut
        rw [hst, List.filter_append, List.filter_append]
        rcases ltG_tri l[i] g with h | h | h
        · have h' : ltG g l[i] = false := by simpa using ltG_asymm h
          -- before g: none behind it can have been put in
          have hall : ∀ x ∈ l.take i, ltG x g = true := fun x hx => by
            obtain ⟨j, hj⟩ := List.getElem?_of_mem hx
            rw [List.getElem?_take] at hj
            split at hj
            · rename_i hlt
              rw [List.getElem?_eq_getElem (by omega)] at hj
              cases hj
              exact ltG_trans (List.pairwise_iff_getElem.1 ha j i (by omega) hi hlt) h
            · cases hj
          have hdf : d' = false := by
            rw [Bool.eq_false_iff]
            intro e
            obtain ⟨x, hx, hc⟩ := hd2.1 e
            rw [hst] at hx
            rcases List.mem_append.1 hx with hx | hx
            · exact hc (hall x hx)
            · rw [List.mem_singleton.1 hx] at hc; exact hc h
          rw [hdf]
          simp [h]
        · exact absurd h hk
        · have h' : ltG l[i] g = false := by simpa using ltG_asymm h
          have hdt : d' = true := hd2.2 ⟨l[i], by rw [hst]; exact List.mem_append_right _ (List.mem_singleton.2 rfl), by simp [h']⟩
          rw [hdt]
          simp [h, h']
      have hskip : keyG l[i] g = true → hOut (l.take i) g d' = hOut (l.take (i + 1)) g d' := fun hk => by
        have h1 : ltG l[i] g = false := by
          rw [Bool.eq_false_iff]; intro h; exact ltG_key h hk
        have h2 : ltG g l[i] = false := by
          rw [Bool.eq_false_iff]; intro h; refine ltG_key h ?_; rw [keyG_iff] at *; omega
        unfold hOut
        rw [hst, List.filter_append, List.filter_append]
        simp [h1, h2]
      have hih := ih (i + 1) d' (by omega) hd2 (by omega)
      simp only [List.length_cons, List.length_nil, Nat.zero_add]
      by_cases c1 : l[i].tx ≠ g.tx
      · have hk : ¬ keyG l[i] g = true := fun h => c1 (keyG_iff.1 h).1
        rw [if_pos c1, if_pos hcond, if_pos (by omega), w64_succ (by omega), hadd hk]
        exact hih
      · rw [if_neg c1, if_pos hcond]
        by_cases c2 : l[i].lock = g.lock
        · have hk : keyG l[i] g = true := by simp only [keyG, decide_eq_true_eq]; exact ⟨by simpa using c1, c2⟩
          rw [if_neg (by simpa using c2), w64_succ (by omega), hskip hk]
          exact hih
        · have hk : ¬ keyG l[i] g = true := fun h => by simp only [keyG, decide_eq_true_eq] at h; exact c2 h.2
          rw [if_pos c2, if_pos hcond, if_pos (by omega), w64_succ (by omega), hadd hk]
          exact hih
    · have e : i = l.length := by omega
      subst e
      rw [if_neg (by omega)]
      rw [List.take_length] at h2 ⊢
      have : d = decide (∃ x ∈ l, ¬ ltG x g = true) := by rw [Bool.eq_iff_iff, h2]; simp
      rw [← this]
theorem rhold_eq {l : List Grant} (ha : AscG l) (hn : l.length ≤ 1000000) (g : Grant) : ref08_hold l g = some (holdL l g) := by
  have h0 := rhold_l1 ha hn g FU 0 false (by omega) (by simp) (by unfold FU; omega)
  have e : hOut (l.take 0) g false = [] := by unfold hOut; simp
  rw [e] at h0
  have h0' : ref08_hold.l1 l g FU [] false 0 = _ := h0
  rw [ref08_hold.eq_1, h0']
  simp only [Option.bind_some]
  by_cases hd : ∃ x ∈ l, ¬ ltG x g = true
  · rw [decide_eq_true hd]
    simp only [Bool.not_true, Bool.false_eq_true, if_false]
    rfl
  · rw [decide_eq_false hd]
    have hall : ∀ x ∈ l, ltG x g = true := fun x hx => by
      by_cases hc : ltG x g = true
      · exact hc
      · exact absurd ⟨x, hx, hc⟩ hd
    have e0 : l.filter (ltG g ·) = [] := List.filter_eq_nil_iff.2 fun x hx => by simpa using ltG_asymm (hall x hx)
    have hl := List.length_filter_le (ltG · g) l
    have e1 : hOut l g false = l.filter (ltG · g) := by unfold hOut; simp
    simp only [Bool.not_false, if_true, e1, List.length_cons, List.length_nil, Nat.zero_add]
    rw [if_pos (by omega)]
    unfold holdL
    rw [e0]

/-! ### settling -/
theorem rable_eq {t : Locks} {i : Nat} (hi : i < t.waiting.length) (hm : t.held.length ≤ 1000000) (hn : t.waiting.length ≤ 1000000) : ref08_able t (i : Int) = some (!blkG t.held (t.waiting.take i) t.waiting[i]) := by
  rw [ref08_able.eq_1]
  have h1 := loopF (L := ref08_able.l1 t (i : Int)) (n := t.held.length) (fun k => ∃ h : k < t.held.length, confG t.held[k] t.waiting[i] = true) (fun _ => false) () (fun k j hj => by
    rw [ref08_able.l1.eq_2, if_pos (by omega), if_pos (inr_nat hj), if_pos (inr_nat hi), rconf_eq, gd_nat hj, gd_nat hi]
    simp only [Option.bind_some]
    by_cases c : confG t.held[j] t.waiting[i] = true
    · rw [if_pos c]; exact .inl ⟨⟨hj, c⟩, rfl⟩
    · rw [if_neg c, w64_succ (by omega)]; exact .inr ⟨fun h => c h.2, rfl⟩) (fun k => by rw [ref08_able.l1.eq_2, if_neg (by omega)]) FU 0 (by omega) (FU_lt hm 0)
  have h2 := loopF (L := ref08_able.l2 t (i : Int)) (n := i) (fun k => ∃ h : k < i, confG (t.waiting[k]'(by omega)) t.waiting[i] = true) (fun _ => false) () (fun k j hj => by
    have hj' : j < t.waiting.length := by omega
    rw [ref08_able.l2.eq_2, if_pos (by omega), if_pos (inr_nat hj'), if_pos (inr_nat hi), rconf_eq, gd_nat hj', gd_nat hi]
    simp only [Option.bind_some]
    by_cases c : confG t.waiting[j] t.waiting[i] = true
    · rw [if_pos c]; exact .inl ⟨⟨hj, c⟩, rfl⟩
    · rw [if_neg c, w64_succ (by omega)]; exact .inr ⟨fun h => c h.2, rfl⟩) (fun k => by rw [ref08_able.l2.eq_2, if_neg (by omega)]) FU 0 (by omega) (FU_lt (by omega) 0)
  unfold blkG
  rcases h1 with ⟨j, _, q1, ⟨q2, q3⟩, _, q5⟩ | ⟨q1, q2⟩
  · have q5' : ref08_able.l1 t (i : Int) FU 0 = _ := q5
    rw [q5']
    have : t.held.any (confG · t.waiting[i]) = true := List.any_eq_true.2 ⟨_, List.getElem_mem q2, q3⟩
    simp [this]
  · have q2' : ref08_able.l1 t (i : Int) FU 0 = _ := q2
    rw [q2']
    have e1 : t.held.any (confG · t.waiting[i]) = false := List.any_eq_false.2 fun x hx hc => by
      obtain ⟨j, hj⟩ := List.getElem?_of_mem hx
      have hlt := lt_of_get hj
      rw [List.getElem?_eq_getElem hlt] at hj
      cases hj
      exact q1 j (by omega) hlt ⟨hlt, hc⟩
    simp only [Option.bind_some]
    rcases h2 with ⟨j, _, p1, ⟨p2, p3⟩, _, p5⟩ | ⟨p1, p2⟩
    · have p5' : ref08_able.l2 t (i : Int) FU 0 = _ := p5
      rw [p5']
      have : (t.waiting.take i).any (confG · t.waiting[i]) = true := by
        refine List.any_eq_true.2 ⟨t.waiting[j]'(by omega), ?_, p3⟩
        have : (t.waiting.take i)[j]? = some (t.waiting[j]'(by omega)) := by rw [List.getElem?_take, if_pos p2, List.getElem?_eq_getElem]
        exact List.mem_of_getElem? this
      simp [e1, this]
    · have p2' : ref08_able.l2 t (i : Int) FU 0 = _ := p2
      rw [p2']
      have e2 : (t.waiting.take i).any (confG · t.waiting[i]) = false := List.any_eq_false.2 fun x hx hc => by
        obtain ⟨j, hj⟩ := List.getElem?_of_mem hx
        rw [List.getElem?_take] at hj
        split at hj
        · rename_i hlt
          rw [List.getElem?_eq_getElem (by omega)] at hj
          cases hj
          exact p1 j (by omega) hlt ⟨hlt, hc⟩
        · cases hj
      simp [e1, e2]
theorem rsettle_l1 (c : Nat) : ∀ (k : Nat) (rest held pre : List Grant), InvL held (pre ++ rest) → AllB held pre → held.length + pre.length + rest.length ≤ 1000000 → pre.length + rest.length ≤ c → (pre.length + rest.length) * c + rest.length < k →
    ref08_settle.l1 k (pre.length : Int) ⟨held, pre ++ rest⟩ = some ⟨(sett held pre rest).1, (sett held pre rest).2⟩ := by
  intro k
  induction k with
  | zero => intro rest held pre _ _ _ _ h; omega
  | succ k ih =>
    intro rest held pre hi hb hn hcc hk
    rw [ref08_settle.l1.eq_2]
    cases rest with
    | nil =>
      rw [List.append_nil, if_neg (by simp)]; rfl
    | cons g r =>
      simp only [List.length_cons] at hn hcc hk
      have hmul : (pre.length + (r.length + 1)) * c = (pre.length + r.length) * c + c := by rw [← Nat.add_assoc, Nat.succ_mul]
      rw [hmul] at hk
      have hlen : (pre ++ g :: r).length = pre.length + (r.length + 1) := by simp
      have hlt : pre.length < (pre ++ g :: r).length := by omega
      have hget : (pre ++ g :: r)[pre.length] = g := by simp
      simp only
      rw [if_pos (by omega), rable_eq (t := ⟨held, pre ++ g :: r⟩) hlt (by show held.length ≤ _; omega) (by show (pre ++ g :: r).length ≤ _; omega)]
      simp only [Option.bind_some, List.take_left, hget]
      by_cases hb2 : blkG held pre g = true
      · rw [if_neg (by simp [hb2]), w64_succ (by omega)]
        have hkk : ((pre ++ [g]).length + r.length) * c + r.length < k := by
          have e : (pre ++ [g]).length + r.length = pre.length + (r.length + 1) := by simp only [List.length_append, List.length_cons, List.length_nil]; omega
          rw [e, hmul]; omega
        have := ih r held (pre ++ [g]) (by rw [List.append_assoc]; exact hi) (hb.snoc hb2) (by simp only [List.length_append, List.length_cons, List.length_nil]; omega) (by simp only [List.length_append, List.length_cons, List.length_nil]; omega) hkk
        rw [show (sett held pre (g :: r)) = sett held (pre ++ [g]) r from if_pos hb2, ← this]
        congr 1
        · simp
        · rw [List.append_assoc]; rfl
      · have hg := hi.wm g (by simp)
        have hl := holdL_len held g
        rw [if_pos (by simpa using hb2), if_pos (inr_nat hlt), rhold_eq hi.asc (by omega), gd_nat hlt, hget]
        simp only [Option.bind_some]
        rw [w64_succ (by omega), if_pos (by omega), if_pos (by omega), Int.toNat_natCast, Int.toNat_natCast]
        have hd : (pre ++ g :: r).drop (pre.length + 1) = r := by simp
        rw [List.take_left, hd, if_pos (by omega), if_pos (by omega)]
        have := ih (pre ++ r) (holdL held g) [] hi.hold (AllB.nil _) (by simp only [List.length_append, List.length_nil]; omega) (by simp only [List.length_append, List.length_nil]; omega) (by rw [List.length_nil, Nat.zero_add, List.length_append]; omega)
        simp only [List.length_nil, List.nil_append] at this
        rw [show (sett held pre (g :: r)) = sett (holdL held g) pre r from if_neg hb2]
        rw [sett_restart (hb.hold hi.asc hg.1 hg.2)] at this
        exact this
theorem rsettle_eq {t : Locks} (hi : InvL t.held t.waiting) (hn : t.held.length + t.waiting.length ≤ 1000000) : ref08_settle t = some (setL t) := by
  have hw : t.waiting.length * t.waiting.length ≤ 1000000 * 1000000 := Nat.mul_le_mul (by omega) (by omega)
  have := rsettle_l1 t.waiting.length FU t.waiting t.held [] hi (AllB.nil _) (by simp; omega) (by simp) (by rw [List.length_nil, Nat.zero_add]; generalize t.waiting.length * t.waiting.length = q at hw; unfold FU; omega)
  have h : ref08_settle.l1 FU 0 t = some (setL t) := this
  rw [ref08_settle.eq_1, h]; rfl

/-! ### asking -/
theorem rplace_eq {t : Locks} (hm : t.held.length ≤ 1000000) (hn : t.waiting.length ≤ 1000000) (g : Grant) : ref08_place t g = some (placeL t g : Int) := by
  rw [ref08_place.eq_1, rmode1_eq hm]
  simp only [Option.bind_some]
  unfold placeL
  by_cases h0 : modeL t.held g.tx g.lock = 0
  · rw [if_pos h0, if_pos h0]
  · rw [if_neg h0, if_neg h0]
    have := loopF (L := ref08_place.l1 t g) (n := t.waiting.length) (fun i => ∃ h : i < t.waiting.length, t.waiting[i].lock = g.lock ∧ modeL t.held t.waiting[i].tx t.waiting[i].lock = 0) (fun i => (i : Int)) () (fun k i hi => by
      rw [ref08_place.l1.eq_2, if_pos (by omega), if_pos (inr_nat hi), gd_nat hi, rmode1_eq hm]
      simp only [Option.bind_some]
      by_cases c1 : t.waiting[i].lock = g.lock
      · rw [if_pos c1]
        by_cases c2 : modeL t.held t.waiting[i].tx t.waiting[i].lock = 0
        · rw [if_pos c2]; exact .inl ⟨⟨hi, c1, c2⟩, rfl⟩
        · rw [if_neg c2, w64_succ (by omega)]; exact .inr ⟨fun h => c2 h.2.2, rfl⟩
      · rw [if_neg c1, w64_succ (by omega)]; exact .inr ⟨fun h => c1 h.2.1, rfl⟩) (fun k => by rw [ref08_place.l1.eq_2, if_neg (by omega)]) FU 0 (by omega) (FU_lt hn 0)
    rcases this with ⟨j, _, h2, ⟨_, h3⟩, h4, h5⟩ | ⟨h1, h2⟩
    · have h5' : ref08_place.l1 t g FU 0 = some (.inr (j : Int)) := h5
      rw [h5']
      simp only [Option.bind_some]
      rw [findIdx_of h2 (by simpa using h3) (fun j' q1 h' hq => h4 j' (by omega) q1 ⟨h', by simpa using hq⟩)]
    · have h2' : ref08_place.l1 t g FU 0 = some (.inl ()) := h2
      rw [h2']
      simp only [Option.bind_some]
      rw [List.findIdx_eq_length.2]
      intro x hx
      obtain ⟨i, hi⟩ := List.getElem?_of_mem hx
      have hlt := lt_of_get hi
      rw [List.getElem?_eq_getElem hlt] at hi
      cases hi
      have := h1 i (by omega) hlt
      simp only [decide_eq_false_iff_not]
      exact fun hc => this ⟨hlt, hc⟩
theorem rreq_eq {t : Locks} (hm : t.held.length ≤ 1000000) (hn : t.waiting.length ≤ 1000000) (g : Grant) : ref08_Request t g = some (reqL t g) := by
  rw [ref08_Request.eq_1, rvalid_eq hm hn, rgrant_eq, rwaiting_eq hm hn]
  simp only [Option.bind_some]
  unfold reqL
  by_cases hv : LkOK t
  rotate_left
  · simp [hv]
  simp only [hv, decide_true, Bool.not_true, Bool.false_eq_true, if_false, not_true_eq_false]
  by_cases hg : grOK g
  rotate_left
  · simp [hg]
  simp only [hg, decide_true, Bool.not_true, Bool.false_eq_true, if_false, not_true_eq_false]
  unfold waitA
  simp only [hv, if_true]
  cases hf : t.waiting.find? (fun x => decide (x.tx = g.tx)) with
  | some w =>
    simp only [if_true, Option.bind_some]
    by_cases hw : w = g
    · simp [hw]
    · simp [hw]
  | none =>
    have hno : ∀ x ∈ t.waiting, x.tx ≠ g.tx := fun x hx => by simpa using List.find?_eq_none.1 hf x hx
    simp only [Bool.false_eq_true, if_false, Option.bind_some, rmode1_eq hm]
    by_cases c1 : g.mode ≤ modeL t.held g.tx g.lock
    · simp [c1]
    rw [if_neg c1, if_neg c1, w64_id (by omega)]
    have hcnt := hv.cnt
    by_cases c2 : t.held.length + t.waiting.length = 1024
    · rw [if_pos (by omega), if_pos c2]
    rw [if_neg (by omega), if_neg c2]
    simp only [rplace_eq hm hn, Option.bind_some]
    have hpl := placeL_le t g
    have ht : (t.waiting.take (placeL t g)).length = placeL t g := by rw [List.length_take]; omega
    have hdl : (t.waiting.drop (placeL t g)).length = t.waiting.length - placeL t g := List.length_drop
    rw [Int.toNat_natCast]
    rw [if_pos (by omega), if_pos (by omega), if_pos (by omega), if_pos (by simp only [List.length_cons, List.length_nil]; omega), if_pos (by rw [List.length_append]; simp only [List.length_cons, List.length_nil]; omega)]
    have hins : (t.waiting.take (placeL t g) ++ [g]) ++ t.waiting.drop (placeL t g) = insL t.waiting (placeL t g) g := by unfold insL; simp
    have hl := insL_len hpl g
    rw [hins, rsettle_eq (t := ⟨t.held, insL t.waiting (placeL t g) g⟩) (hv.ask hg hno (by omega) _) (by show t.held.length + (insL t.waiting (placeL t g) g).length ≤ _; rw [hl]; omega)]
    simp only [Option.bind_some]
    obtain ⟨a1, a2⟩ := askL_len hv hg hno (by omega)
    rw [rmode1_eq (t := askL t g) (by omega)]
    rfl

/-! ### taking away -/
theorem rleft_l1 {l : List Grant} (hn : l.length ≤ 1000000) (tx : Int) (one : Bool) (k : Lock) : ∀ (f i : Nat), i ≤ l.length → l.length - i < f →
    ref08_left.l1 l tx one k f ((l.take i).filter fun x => !decide (x.tx = tx ∧ (one = true → x.lock = k))) (i : Int) = some (l.filter fun x => !decide (x.tx = tx ∧ (one = true → x.lock = k))) := by
  intro f
  induction f with
  | zero => intro i h1 h2; omega
  | succ f ih =>
    intro i h1 h2
    rw [ref08_left.l1.eq_2]
    by_cases hi : i < l.length
    · have hst : l.take (i + 1) = l.take i ++ [l[i]] := by rw [List.take_add_one, List.getElem?_eq_getElem hi]; rfl
      have hlen : ((l.take i).filter fun x => !decide (x.tx = tx ∧ (one = true → x.lock = k))).length ≤ l.length := by
        have := List.length_filter_le (fun x => !decide (x.tx = tx ∧ (one = true → x.lock = k))) (l.take i)
        rw [List.length_take] at this; omega
      have hih := ih (i + 1) (by omega) (by omega)
      rw [hst, List.filter_append] at hih
      have hc : (0 : Int) ≤ (i : Int) ∧ (i : Int) < (l.length : Int) := inr_nat hi
      simp only [List.length_cons, List.length_nil, Nat.zero_add]
      rw [if_pos (by omega), if_pos hc, gd_nat hi, w64_succ (by omega)]
      by_cases c1 : l[i].tx = tx
      · rw [if_neg (by simpa using c1)]
        by_cases c2 : one = true
        · rw [if_pos c2, if_pos hc]
          by_cases c3 : l[i].lock = k
          · rw [if_neg (by simpa using c3)]
            simp only [List.filter_cons, c1, c2, c3, true_and, true_implies, decide_true, Bool.not_true, Bool.false_eq_true, if_false, List.filter_nil, List.append_nil] at hih ⊢
            exact hih
          · rw [if_pos c3, if_pos hc, if_pos (by omega)]
            simp only [List.filter_cons, c1, c2, c3, true_and, true_implies, decide_false, Bool.not_false, if_true, List.filter_nil] at hih ⊢
            exact hih
        · rw [if_neg c2]
          have c2' : one = false := by simpa using c2
          simp only [List.filter_cons, c1, c2', true_and, Bool.false_eq_true, false_implies, and_true, decide_true, Bool.not_true, if_false, List.filter_nil, List.append_nil] at hih ⊢
          exact hih
      · rw [if_pos c1, if_pos hc, if_pos (by omega)]
        simp only [List.filter_cons, c1, false_and, decide_false, Bool.not_false, if_true, List.filter_nil] at hih ⊢
        exact hih
    · have : i = l.length := by omega
      subst this
      rw [if_neg (by omega), List.take_length]
theorem rfree_eq {l : List Grant} (hn : l.length ≤ 1000000) (tx : Int) (k : Lock) : ref08_left l tx false k = some (freeL tx l) := by
  have := rleft_l1 hn tx false k FU 0 (by omega) (by unfold FU; omega)
  have h : ref08_left.l1 l tx false k FU [] 0 = _ := this
  rw [ref08_left.eq_1, h]
  simp
theorem rdrop_eq {l : List Grant} (hn : l.length ≤ 1000000) (tx : Int) (k : Lock) : ref08_left l tx true k = some (dropL tx k l) := by
  have := rleft_l1 hn tx true k FU 0 (by omega) (by unfold FU; omega)
  have h : ref08_left.l1 l tx true k FU [] 0 = _ := this
  have e : (fun x : Grant => !decide (x.tx = tx ∧ (true = true → x.lock = k))) = fun x => !decide (x.tx = tx ∧ x.lock = k) := by funext x; simp
  rw [ref08_left.eq_1, h, e]
  rfl
theorem less_rsettle {t : Locks} (h : LkOK t) {a b : List Grant} (ha : a.Sublist t.held) (hb : b.Sublist t.waiting) : ref08_settle ⟨a, b⟩ = some (setL ⟨a, b⟩) := by
  have h1 := ha.length_le
  have h2 := hb.length_le
  have := h.cnt
  exact rsettle_eq (t := ⟨a, b⟩) (h.less ha hb) (by show a.length + b.length ≤ _; omega)
open Classical in
theorem rcancel_eq {t : Locks} (hm : t.held.length ≤ 1000000) (hn : t.waiting.length ≤ 1000000) (tx : Int) : ref08_Cancel t tx = some (if LkOK t then setL ⟨t.held, freeL tx t.waiting⟩ else t) := by
  rw [ref08_Cancel.eq_1, rvalid_eq hm hn]
  simp only [Option.bind_some]
  by_cases hv : LkOK t
  · rw [if_pos hv, if_neg (by simp [hv]), rfree_eq hn]
    simp only [Option.bind_some]
    rw [less_rsettle hv (List.Sublist.refl _) List.filter_sublist]
    rfl
  · rw [if_neg hv, if_pos (by simp [hv])]
open Classical in
theorem rdropT_eq {t : Locks} (hm : t.held.length ≤ 1000000) (hn : t.waiting.length ≤ 1000000) (tx : Int) (k : Lock) : ref08_Drop t tx k = some (if LkOK t then setL ⟨dropL tx k t.held, t.waiting⟩ else t) := by
  rw [ref08_Drop.eq_1, rvalid_eq hm hn]
  simp only [Option.bind_some]
  by_cases hv : LkOK t
  · rw [if_pos hv, if_neg (by simp [hv]), rdrop_eq hm]
    simp only [Option.bind_some]
    rw [less_rsettle hv List.filter_sublist (List.Sublist.refl _)]
    rfl
  · rw [if_neg hv, if_pos (by simp [hv])]
open Classical in
theorem rrelease_eq {t : Locks} (hm : t.held.length ≤ 1000000) (hn : t.waiting.length ≤ 1000000) (tx : Int) : ref08_Release t tx = some (if LkOK t then setL ⟨freeL tx t.held, freeL tx t.waiting⟩ else t) := by
  rw [ref08_Release.eq_1, rvalid_eq hm hn]
  simp only [Option.bind_some]
  by_cases hv : LkOK t
  · rw [if_pos hv, if_neg (by simp [hv]), rfree_eq hm, rfree_eq hn]
    simp only [Option.bind_some]
    rw [less_rsettle hv List.filter_sublist List.filter_sublist]
    rfl
  · rw [if_neg hv, if_pos (by simp [hv])]
end Rv
