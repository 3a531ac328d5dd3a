import Derived.Test.YtnlpkgamglhnbaaRvDraw
set_option linter.unusedVariables false
set_option linter.unusedSimpArgs false
namespace Rv
open Go Go.RowKit

def StepOK (P : Program) (N : Nat) (ops : List Oper) (h : Heap) (o : Oper) (T : Nat → AV) (v : AV) : Prop :=
  dstOk N o.dst = true ∧ ((wantA ops T o = some false ∧ v = undefA) ∨ (wantA ops T o = some true ∧ (evOp P o T h = some (v, h) ∨ ∃ f args, callA T o = some (f, args) ∧ plainFn P f = true ∧ FnOK P f args h (fun v' h' => v' = v ∧ h' = h))))
theorem StepOK.congr {P : Program} {N : Nat} {ops : List Oper} {h : Heap} {o : Oper} {T T' : Nat → AV} {v : AV} (hs : StepOK P N ops h o T v) (ht : ∀ t ∈ names ops o, T t = T' t) : StepOK P N ops h o T' v := by
  have h1 : wantA ops T o = wantA ops T' o := wantA_congr fun t h => ht t (by simp [names, h])
  have h2 : evOp P o T h = evOp P o T' h := evOp_congr P h fun t h => ht t (by simp [names, h])
  have h3 : callA T o = callA T' o := callA_congr fun t h => ht t (by simp [names, h])
  unfold StepOK at *
  rwa [h1, h2, h3] at hs
/-- One run in the text's order. -/
def DrOK (P : Program) (N : Nat) (ops : List Oper) (h : Heap) : List Oper → (Nat → AV) → ((Nat → AV) → Prop) → Prop
  | [], T, Q => Q T
  | o :: l, T, Q => ∃ v, StepOK P N ops h o T v ∧ DrOK P N ops h l (updO T o.dst v) Q

theorem none_left : ∀ (l : List Oper) (vs : List AV) (k' n : Nat) (T : Nat → AV), n ≤ k' → tsGo l vs k' (fun x => decide (x < n)) T = T := by
  intro l
  induction l with
  | nil => intro vs k' n T _; cases vs <;> rfl
  | cons y r ih =>
    intro vs k' n T hn
    cases vs with
    | nil => rfl
    | cons z vs => simp only [tsGo]; rw [if_neg (by simp; omega)]; exact ih vs (k' + 1) n T (by omega)
theorem DrOK.vals {P : Program} {N : Nat} {ops : List Oper} {h : Heap} {Q : (Nat → AV) → Prop} : ∀ {l : List Oper} {T : Nat → AV} (k : Nat), DrOK P N ops h l T Q →
    ∃ vs : List AV, vs.length = l.length ∧ (∀ (i : Nat) (o : Oper) (v : AV), l[i]? = some o → vs[i]? = some v → StepOK P N ops h o (tsGo l vs k (fun x => decide (x < k + i)) T) v) ∧ Q (tsGo l vs k (fun x => decide (x < k + l.length)) T) := by
  intro l
  induction l with
  | nil => intro T k hd; exact ⟨[], rfl, fun i o v h => by simp at h, hd⟩
  | cons o l ih =>
    intro T k hd
    obtain ⟨v, hs, hr⟩ := hd
    obtain ⟨vs, h1, h2, h3⟩ := ih (k + 1) hr
    refine ⟨v :: vs, by simp [h1], fun i o' v' hi hv => ?_, ?_⟩
    · cases i with
      | zero =>
        simp at hi hv
        subst hi; subst hv
        rw [none_left _ _ _ _ _ (by omega)]
        exact hs
      | succ i =>
        simp only [List.getElem?_cons_succ] at hi hv
        simp only [tsGo]
        rw [if_pos (by simp), show k + (i + 1) = k + 1 + i by omega]
        exact h2 i o' v' hi hv
    · have e : ∀ n m : Nat, n = m → (fun x : Nat => decide (x < n)) = fun x => decide (x < m) := fun n m h => by rw [h]
      simp only [tsGo, List.length_cons]
      rw [if_pos (by simp), e _ _ (show k + (l.length + 1) = k + 1 + l.length by omega)]
      exact h3

theorem count_lt {α : Type} {p q : α → Bool} (hpq : ∀ x, q x = true → p x = true) : ∀ {l : List α} {x : α}, x ∈ l → p x = true → q x = false → (l.filter q).length < (l.filter p).length := by
  intro l
  have le : ∀ l : List α, (l.filter q).length ≤ (l.filter p).length := by
    intro l
    induction l with
    | nil => simp
    | cons y r ih =>
      simp only [List.filter_cons]
      cases hq : q y with
      | true => rw [hpq y hq]; simp; exact ih
      | false => cases p y <;> simp <;> omega
  induction l with
  | nil => intro x h; cases h
  | cons y r ih =>
    intro x hx hp hq
    simp only [List.filter_cons]
    rcases List.mem_cons.1 hx with rfl | hx
    · rw [hp, hq]
      have := le r
      simp; omega
    · have := ih hx hp hq
      cases hqy : q y with
      | true => rw [hpq y hqy]; simp; exact this
      | false => cases p y <;> simp <;> omega

theorem CdOK.draw {P : Program} {n0 N : Nat} {T : Nat → AV} {h : Heap} {Q : CQ} {id : Nat} {ops : Array Oper} (hm : P.follows .mixedOrders = true) (hc : drawChk ops = true) (hd : DrOK P N ops.toList h ops.toList T (fun T' => Q .normal T' h)) : CdOK P (n0 := n0) N (.region id ops true) T h Q := by
  intro B0 μ a w hs hr
  refine wp_region_any hm ?_
  obtain ⟨vs, hvl, hvs, hQ⟩ := hd.vals 0
  simp only [Nat.zero_add] at hvs hQ
  let K := Post n0 N B0 μ a.defers w Q
  have hops : ∀ j : Nat, ops[j]? = ops.toList[j]? := fun j => by simp
  have hpred : ∀ (j : Nat) (o : Oper), ops.toList[j]? = some o → ∀ p ∈ preds o, p < j := fun j o hj p hp => by have := (rowsOk_get hc j o hj).1 p hp; omega
  have hpair : ∀ (i j : Nat) (oi oj : Oper), ops.toList[i]? = some oi → ops.toList[j]? = some oj → i < j → pairOk ops.toList (masks ops.toList []) i j oi oj = true := fun i j oi oj hi hj hlt => by
    have h1 := (rowsOk_get hc j oj hj).2
    simp only [Nat.zero_add] at h1
    have h2 := rowOk_get h1 i oi hi (by omega)
    simpa using h2
  have key : ∀ (fuel : Nat) (listed : Array Bool) (a' : Act) (w' : World) (μ' : Mu), listed.size = ops.size →
      (∀ (j : Nat) (o : Oper), ops.toList[j]? = some o → listed.getD j false = true → ∀ p ∈ preds o, listed.getD p false = true) →
      ((List.range ops.size).filter (fun j => !listed.getD j false)).length ≤ fuel →
      SR N μ' (tsGo ops.toList vs 0 (fun j => listed.getD j false) T) a' → a'.defers = a.defers → Mu.le μ μ' → HR B0 μ' h w' → Bel B0 w w' → wpAny P .any ops K fuel listed a' w' := by
    intro fuel
    induction fuel with
    | zero =>
      intro listed a' w' μ' hsz hcl hcnt hsr hdf hpre hrr hb
      have hall : ∀ j, j < ops.size → listed.getD j false = true := by
        intro j hj
        cases hx : listed.getD j false with
        | true => rfl
        | false =>
          have : j ∈ (List.range ops.size).filter (fun j => !listed.getD j false) := by simp [hj]; simpa using hx
          have := List.length_pos_of_mem this
          omega
      refine ⟨?_, ?_⟩
      · unfold Region.ready
        rw [List.filter_eq_nil_iff]
        intro i hi
        have hi' : i < ops.size := by simpa using hi
        have h1 := hall i hi'
        have hl : i < listed.size := by omega
        simp only [Array.getD_eq_getD_getElem?, Array.getElem?_eq_getElem hl, Option.getD_some] at h1 ⊢
        simp [h1]
      · refine ⟨_, h, μ', hQ, hdf, ⟨hsr.1, fun t => ?_⟩, hpre.toN, hrr, hb⟩
        have e1 : tsGo ops.toList vs 0 (fun j => listed.getD j false) T t = tsGo ops.toList vs 0 (fun x => decide (x < ops.toList.length)) T t := by
          refine tsGo_agree t ops.toList vs 0 T T (fun i o hi _ => ?_) rfl
          have hlt := lt_of_get hi
          simp only [Array.length_toList] at hlt
          simp only [Nat.zero_add]
          rw [hall i hlt]
          simp [hlt]
        rw [← e1]
        exact hsr.2 t
    | succ fuel ih =>
      intro listed a' w' μ' hsz hcl hcnt hsr hdf hpre hrr hb
      refine ⟨fun hnone => ?_, fun i hi => ?_⟩
      · have hall : ∀ j, j < ops.size → listed.getD j false = true := by
          intro j
          induction j using Nat.strongRecOn with
          | _ j jh =>
            intro hj
            cases hx : listed.getD j false with
            | true => rfl
            | false =>
              exfalso
              have ho : ops[j]? = some ops[j] := Array.getElem?_eq_getElem hj
              have : j ∈ Region.ready .any ops listed := by
                refine mem_ready.2 ⟨?_, ops[j], ho, fun e he hbn => ?_⟩
                · have hl : j < listed.size := by omega
                  simp only [Array.getD_eq_getD_getElem?, Array.getElem?_eq_getElem hl, Option.getD_some] at hx ⊢
                  exact hx
                · have hp : e.on ∈ preds ops[j] := by
                    simp only [preds, List.mem_map, List.mem_filter]
                    exact ⟨e, ⟨by simpa using he, hbn⟩, rfl⟩
                  have hlt := hpred j ops[j] (by rw [← hops]; exact ho) e.on hp
                  exact jh e.on hlt (by omega)
              rw [hnone] at this
              cases this
        refine ⟨_, h, μ', hQ, hdf, ⟨hsr.1, fun t => ?_⟩, hpre.toN, hrr, hb⟩
        have e1 : tsGo ops.toList vs 0 (fun j => listed.getD j false) T t = tsGo ops.toList vs 0 (fun x => decide (x < ops.toList.length)) T t := by
          refine tsGo_agree t ops.toList vs 0 T T (fun i o hi _ => ?_) rfl
          have hlt := lt_of_get hi
          simp only [Array.length_toList] at hlt
          simp only [Nat.zero_add]
          rw [hall i hlt]
          simp [hlt]
        rw [← e1]
        exact hsr.2 t
      · obtain ⟨hun, oi, hoi, hpre'⟩ := mem_ready.1 hi
        have hoi' : ops.toList[i]? = some oi := by rw [← hops]; exact hoi
        have hin : i < ops.size := (Array.getElem?_eq_some_iff.1 hoi).1
        have hil : i < listed.size := by omega
        have hif : listed.getD i false = false := by
          simp only [Array.getD_eq_getD_getElem?, Array.getElem?_eq_getElem hil, Option.getD_some] at hun ⊢
          exact hun
        have hpi : ∀ p ∈ preds oi, listed.getD p false = true := fun p hp => by
          simp only [preds, List.mem_map, List.mem_filter] at hp
          obtain ⟨e, ⟨he, hbn⟩, rfl⟩ := hp
          exact hpre' e (by simpa using he) hbn
        have hmask : ∀ (j : Nat) (o : Oper), ops.toList[j]? = some o → (∀ p ∈ preds o, listed.getD p false = true) → ∀ x, ((masks ops.toList []).getD j 0).testBit x = true → listed.getD x false = true :=
          masks_ok (ops := ops.toList) (fun x => listed.getD x false = true) hcl ops.toList [] (by simp) (by simp)
        -- the slots that the operation names stand as in the text's order
        have hnm : ∀ t ∈ names ops.toList oi, ∀ (j : Nat) (oj : Oper), ops.toList[j]? = some oj → oj.dst = some t → j ≠ i → listed.getD j false = decide (j < i) := by
          intro t ht j oj hj hdt hne
          rcases Nat.lt_or_ge j i with hlt | hge
          · have hp := hpair j i oj oi hj hoi' hlt
            have hcon : (oj.dst.toList.any (fun d => (names ops.toList oi).contains d) || oi.dst.toList.any (fun d => (names ops.toList oj).contains d)) = true := by
              rw [hdt]; simp [ht]
            unfold pairOk at hp
            rw [hcon] at hp
            simp only [Bool.not_true, Bool.false_or] at hp
            rw [hmask i oi hoi' hpi j hp]
            simp [hlt]
          · have hgt : i < j := by omega
            have hp := hpair i j oi oj hoi' hj hgt
            have hcon : (oi.dst.toList.any (fun d => (names ops.toList oj).contains d) || oj.dst.toList.any (fun d => (names ops.toList oi).contains d)) = true := by
              rw [hdt]; simp [ht]
            unfold pairOk at hp
            rw [hcon] at hp
            simp only [Bool.not_true, Bool.false_or] at hp
            cases hx : listed.getD j false with
            | false => simp; omega
            | true =>
              have := hmask j oj hj (hcl j oj hj hx) i hp
              rw [hif] at this
              cases this
        have hslot : ∀ t ∈ names ops.toList oi, tsGo ops.toList vs 0 (fun x => decide (x < i)) T t = tsGo ops.toList vs 0 (fun j => listed.getD j false) T t := by
          intro t ht
          refine (tsGo_agree t ops.toList vs 0 T T (fun j oj hj hdt => ?_) rfl).symm
          simp only [Nat.zero_add]
          by_cases e : j = i
          · subst e; rw [hif]; simp
          · exact hnm t ht j oj hj hdt e
        obtain ⟨v, hv⟩ : ∃ v, vs[i]? = some v := ⟨vs[i]'(by rw [hvl]; simpa using hin), List.getElem?_eq_getElem _⟩
        have hst := (hvs i oi v hoi' hv).congr hslot
        -- the new slots
        have hnew : ∀ t, tsGo ops.toList vs 0 (fun j => (listed.setIfInBounds i true).getD j false) T t = updO (tsGo ops.toList vs 0 (fun j => listed.getD j false) T) oi.dst v t := by
          intro t
          have hset : ∀ j, j ≠ i → (listed.setIfInBounds i true).getD j false = listed.getD j false := fun j hj => by
            simp only [Array.getD_eq_getD_getElem?, Array.getElem?_setIfInBounds, if_neg (fun e : i = j => hj e.symm)]
          have hself : (listed.setIfInBounds i true).getD i false = true := by
            simp only [Array.getD_eq_getD_getElem?, Array.getElem?_setIfInBounds_self_of_lt hil, Option.getD_some]
          by_cases hd : oi.dst = some t
          · have hti : t ∈ names ops.toList oi := by simp [names, hd]
            have h1 : tsGo ops.toList vs 0 (fun j => (listed.setIfInBounds i true).getD j false) T t = tsGo ops.toList vs 0 (fun x => decide (x < i + 1)) T t := by
              refine tsGo_agree t ops.toList vs 0 T T (fun j oj hj hdt => ?_) rfl
              simp only [Nat.zero_add]
              by_cases e : j = i
              · subst e; rw [hself]; simp
              · rw [hset j e, hnm t hti j oj hj hdt e]
                by_cases hlt : j < i
                · simp [hlt]; omega
                · simp [hlt]; omega
            have h2 := tsGo_step ops.toList vs 0 i T oi v hoi' hv
            simp only [Nat.zero_add] at h2
            rw [h1, h2, hd]
            simp [updO, upd]
          · rw [updO_other hd]
            refine tsGo_agree t ops.toList vs 0 T T (fun j oj hj hdt => ?_) rfl
            simp only [Nat.zero_add]
            exact hset j fun e => hd (by subst e; rw [hoi'] at hj; obtain rfl := Option.some.inj hj; exact hdt)
        have hgo : ∀ (w'' : World) (μ'' : Mu) (u : Value), Mu.le μ' μ'' → RV μ'' v u → HR B0 μ'' h w'' → Bel B0 w' w'' → wpAny P .any ops K fuel (listed.setIfInBounds i true) (a'.put oi.dst u) w'' := by
          intro w'' μ'' u hp'' hu hr'' hb''
          refine ih _ _ w'' μ'' (by simpa using hsz) (fun j o hj hjl p hp => ?_) ?_ ⟨?_, fun t => ?_⟩ ?_ (hpre.trans hp'') hr'' (hb.trans hb'')
          · have hup : ∀ x, listed.getD x false = true → (listed.setIfInBounds i true).getD x false = true := fun x hx => by
              by_cases e : x = i
              · subst e; simp only [Array.getD_eq_getD_getElem?, Array.getElem?_setIfInBounds_self_of_lt hil, Option.getD_some]
              · simpa only [Array.getD_eq_getD_getElem?, Array.getElem?_setIfInBounds, if_neg (fun e' : i = x => e e'.symm)] using hx
            by_cases e : j = i
            · subst e
              rw [hoi'] at hj
              obtain rfl := Option.some.inj hj
              exact hup p (hpi p hp)
            · refine hup p (hcl j o hj ?_ p hp)
              simpa only [Array.getD_eq_getD_getElem?, Array.getElem?_setIfInBounds, if_neg (fun e' : i = j => e e'.symm)] using hjl
          · have := count_lt (p := fun j => !listed.getD j false) (q := fun j => !(listed.setIfInBounds i true).getD j false) (fun x hx => by
              by_cases e : x = i
              · subst e; simp [Array.getD_eq_getD_getElem?, Array.getElem?_setIfInBounds_self_of_lt hil] at hx
              · simpa only [Array.getD_eq_getD_getElem?, Array.getElem?_setIfInBounds, if_neg (fun e' : i = x => e e'.symm)] using hx) (l := List.range ops.size) (x := i) (by simpa using hin) (by simp only [hif]; rfl) (by simp [Array.getD_eq_getD_getElem?, Array.getElem?_setIfInBounds_self_of_lt hil])
            omega
          · exact ((hsr.mono hp'').put hst.1 hu).1
          · rw [hnew t]; exact ((hsr.mono hp'').put hst.1 hu).2 t
          · rw [← hdf]; cases oi.dst <;> rfl
        unfold wpOp
        simp only [hoi]
        obtain ⟨hdst, hcase⟩ := hst
        rcases hcase with ⟨hw, rfl⟩ | ⟨hw, hcase⟩
        · rw [wantA_ok hsr hw]
          simp only [Bool.false_eq_true, if_false]
          exact hgo w' μ' undef (Mu.le_refl _) R_undef hrr (Bel.refl _ _)
        · rw [wantA_ok hsr hw]
          simp only [if_true]
          left
          rcases hcase with he | ⟨f, args, hcall, hpl, hfn⟩
          · obtain ⟨nx, w1, μ1, hrun, hval, hmm, hr1, hb1⟩ := evOp_ok P he hsr.2 hrr
            rcases hval with ⟨u, rfl, hu⟩ | ⟨rfl, rfl⟩
            · show oi.upon P a' _ _ _
              rw [hrun]
              exact hgo w1 μ1 u hmm hu hr1 hb1
            · show oi.upon P a' _ _ _
              rw [hrun]
              exact hgo w1 μ1 undef hmm R_undef hr1 hb1
          · obtain ⟨us, hrun, hus⟩ := callA_ok hcall hpl hsr.2 w'
            show oi.upon P a' _ _ _
            rw [hrun]
            refine Calls.mono (hfn B0 μ' w' us hrr hus) ?_
            rintro e w1 ⟨u, v', h', μ1, rfl, ⟨rfl, rfl⟩, hu, hmm, hr1, hb1⟩
            exact hgo w1 μ1 u hmm hu hr1 hb1
  refine key ops.size (Array.replicate ops.size false) a w.drew μ (by simp) (fun j o hj hjl => ?_) ?_ ⟨hs.1, fun t => ?_⟩ rfl (Mu.le_refl _) hr.drew (Bel.refl _ _).drew
  · exfalso
    simp only [Array.getD_eq_getD_getElem?, Array.getElem?_replicate] at hjl
    split at hjl <;> cases hjl
  · refine Nat.le_trans (List.length_filter_le _ _) ?_
    simp
  · have := hs.2 t
    have e : tsGo ops.toList vs 0 (fun j => (Array.replicate ops.size false).getD j false) T t = T t := by
      rw [tsGo_agree (S' := fun x => decide (x < 0)) t ops.toList vs 0 T T (fun i o hi _ => by
        simp only [Array.getD_eq_getD_getElem?, Array.getElem?_replicate]
        split <;> simp) rfl, none_left _ _ _ _ _ (Nat.le_refl _)]
    rw [e]; exact this
end Rv
