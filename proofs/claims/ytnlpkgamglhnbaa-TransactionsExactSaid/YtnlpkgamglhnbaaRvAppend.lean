import Derived.Test.YtnlpkgamglhnbaaRvSlices
set_option linter.unusedVariables false
set_option linter.unusedSimpArgs false
namespace Rv
open Go Go.RowKit

theorem putCells_app (cs : List Cell) : ∀ (a b : List Cell), b.length = cs.length → putCells (a ++ b) a.length cs = a ++ cs := by
  induction cs with
  | nil => intro a b h; have : b = [] := List.eq_nil_of_length_eq_zero h; subst this; rfl
  | cons c r ih =>
    intro a b h
    obtain ⟨x, b', rfl⟩ : ∃ x b', b = x :: b' := by
      cases b with
      | nil => simp at h
      | cons x b' => exact ⟨x, b', rfl⟩
    have h1 : (a ++ x :: b').set a.length c = (a ++ [c]) ++ b' := by simp
    have := ih (a ++ [c]) b' (by simpa using h)
    simp only [putCells, h1]
    rw [show a.length + 1 = (a ++ [c]).length by simp, this]
    simp

def eAppend (P : Program) (t : TypeId) (s x : Cell) (h : Heap) : Option (Cell × Heap) :=
  match P.underlying t with
  | some (.slice e) => match P.info? e, zeroOf P e with
    | some i, some z => match srcCells x i.size h with
      | some (m, cs) =>
        if z.length = i.size ∧ 0 < i.size then
          match s with
          | .v (.slice none 0 0) => if m ≤ 9223372036854775807 ∧ m * i.bytes ≤ 140737488355328 then some (.g h.length m i.size (decide (0 < m)), h ++ [⟨cs, true, decide (0 < m)⟩]) else none
          | .sl b o n c k ex =>
            if k = i.size ∧ n ≤ c then
              if m = 0 then some (s, h) else
              match h[b]? with
              | some ob =>
                if ob.live = true then
                  if n + m ≤ c then (if ob.own = true ∧ o + (n + m) * k ≤ ob.cells.length then some (.sl b o (n + m) c k ex, h.set b { ob with cells := putCells ob.cells (o + n * k) cs }) else none)
                  else if n + m ≤ 9223372036854775807 ∧ (n + m) * i.bytes ≤ 140737488355328 ∧ ((ob.cells.drop o).take (n * k)).length = n * k then
                    if ex = true then some (.sl h.length 0 (n + m) (n + m) k false, h ++ [⟨(ob.cells.drop o).take (n * k) ++ cs, true, true⟩])
                    else if ob.own = true then some (.sl h.length 0 (n + m) (n + m) k false, kill h b ++ [⟨(ob.cells.drop o).take (n * k) ++ cs, true, true⟩]) else none
                  else none
                else none
              | none => none
            else none
          | .g b n k lv => match h[b]? with
            | some ob => if ob.own = true ∧ ob.live = lv ∧ k = i.size ∧ ob.cells.length = n * k ∧ n + m ≤ 9223372036854775807 ∧ (n + m) * i.bytes ≤ 140737488355328 then
                some (.g h.length (n + m) k (lv || decide (0 < m)), kill h b ++ [⟨ob.cells ++ cs, true, lv || decide (0 < m)⟩]) else none
            | none => none
          | .LC k xs => if k = i.size ∧ (xs.length = 0 ∨ 0 < m) then if xs.length + m ≤ 9223372036854775807 ∧ (xs.length + m) * i.bytes ≤ 140737488355328 then some (.g h.length (xs.length + m) i.size (decide (0 < m)), h ++ [⟨xs.flatten ++ cs, true, decide (0 < m)⟩]) else none else none
          | _ => none
        else none
      | none => none
    | _, _ => none
  | _ => none

theorem zeroCells_one {z : Value} (h : ∀ v ∈ z.cells.toList, v.oneCell' = true) (n : Nat) : ∀ v ∈ (Builtin.zeroCells z.cells n).toList, v.oneCell' = true := by
  intro v hv
  rcases Nat.eq_zero_or_pos z.cells.size with h0 | h0
  · simp [Builtin.zeroCells, h0] at hv
  · simp only [Builtin.zeroCells, Array.toList_map, List.mem_map] at hv
    obtain ⟨i, _, rfl⟩ := hv
    have hm : i % z.cells.size < z.cells.size := Nat.mod_lt _ h0
    refine h _ ?_
    simp [hm]
theorem rel_one {μ : Mu} {cs : List Cell} {us : List Value} (h : R2 (RC μ) cs us) : ∀ v ∈ us, v.oneCell' = true := by
  intro v hv
  obtain ⟨i, hi⟩ := List.getElem?_of_mem hv
  obtain ⟨c, _, hc⟩ := h.get' hi
  exact RC.one hc
/-- append in a row that has room. -/
theorem run_append_room' (P : Program) (w w' : World) {t ty e : TypeId} {i : TypeInfo} (ht : P.underlying t = some (.slice e)) (hi : P.info? e = some i) (b : Addr) (n c m : Nat) (u : Value) (new : List Value) (hroom : n + m ≤ c)
    (hlen : (Builtin.lenOf u).run P w = .ok m w) (hf : (Builtin.firstCells i.size m u).run P w = .ok new.toArray w) (hst : (storeCells (b.add (n * i.size)) new).run P w = .ok () w') :
    (Builtin.append_ #[t, t] ty #[.slice (some b) n c, u]).run P w = .ok (.slice (some b) (n + m) c) w' := by
  simp [Builtin.append_, run_underlying ht, Go.sizeOf, typeInfo, hi, hlen, hroom, hf, hst]
/-- append of nothing. -/
theorem run_append_none (P : Program) (w : World) {t ty e : TypeId} {i : TypeInfo} (ht : P.underlying t = some (.slice e)) (hi : P.info? e = some i) (A : Option Addr) (n c : Nat) (u : Value) (hroom : n ≤ c)
    (hlen : (Builtin.lenOf u).run P w = .ok 0 w) (hf : (Builtin.firstCells i.size 0 u).run P w = .ok #[] w) :
    (Builtin.append_ #[t, t] ty #[.slice A n c, u]).run P w = .ok (.slice A n c) w := by
  cases A <;> simp [Builtin.append_, run_underlying ht, Go.sizeOf, typeInfo, hi, hlen, hroom, hf, storeCells]

theorem mu_last {μ : Mu} {h : Heap} (e : μ.ls.length = h.length) (l : Loc) : (Mu.add μ [l]).ls[h.length]? = some l := by show (μ.ls ++ [l])[_]? = _; rw [← e]; simp
theorem new_world {B0 : Pt} {μ : Mu} {hp : Heap} {a b : List Value} {z : Array Value} {T : TypeId} {w : World} (h : HR B0 μ hp (w.alloc (Obj.cells (a ++ b).toArray T))) (e : z.toList = b) : HR B0 μ hp (w.alloc (Obj.cells (a.toArray ++ z) T)) := by
  have : a.toArray ++ z = (a ++ b).toArray := by apply Array.ext'; simp [e]
  rw [this]; exact h

/-- An object that is none. -/
theorem HR.dead {B0 : Pt} {μ : Mu} {h : Heap} {w : World} (hr : HR B0 μ h w) (l : Loc) {o : AO} (ho : o.live = false) : HR B0 (Mu.add μ [l]) (h ++ [o]) w := by
  have low : ∀ {b : Nat} {ob : AO}, (h ++ [o])[b]? = some ob → ob.live = true → h[b]? = some ob := fun {b ob} hb hl => by
    rcases Nat.lt_or_ge b h.length with hlt | hge
    · rwa [List.getElem?_append_left hlt] at hb
    · have e : b = h.length := by
        have := lt_of_get hb
        simp at this
        omega
      subst e
      simp at hb
      subst hb
      rw [ho] at hl; cases hl
  have lowm : ∀ {b : Nat} {ob : AO} {l' : Loc}, h[b]? = some ob → (Mu.add μ [l]).ls[b]? = some l' → μ.ls[b]? = some l' := fun {b ob l'} hb hm => by
    have hm : (μ.ls ++ [l])[b]? = some l' := hm
    rwa [List.getElem?_append_left (hr.len ▸ lt_of_get hb)] at hm
  refine ⟨by simp [Mu.add, hr.len], hr.size, fun b ob hb hl => ?_, fun b b' o1 o2 l1 l2 h1 h2 hl1 hl2 ho1 hne hm1 hm2 => hr.inj b b' o1 o2 l1 l2 (low h1 hl1) (low h2 hl2) hl1 hl2 ho1 hne (lowm (low h1 hl1) hm1) (lowm (low h2 hl2) hm2), hr.fz, fun b o1 l1 h1 hl1 ho1 hm1 q => hr.nof b o1 l1 (low h1 hl1) hl1 ho1 (lowm (low h1 hl1) hm1) q, hr.fp, fun b o1 l1 h1 hl1 hm1 => hr.ns b o1 l1 (low h1 hl1) hl1 (lowm (low h1 hl1) hm1)⟩
  obtain ⟨l', arr, T, fr, g1, g2, g3, g4⟩ := hr.ok b ob (low hb hl) hl
  exact ⟨l', arr, T, fr, pre_get (Mu.le_add _ _) g1, g2, fun j c hc => by obtain ⟨u, hu, hru⟩ := g3 j c hc; exact ⟨u, hu, RC.mono (Mu.le_add _ _) hru⟩, g4⟩
theorem eAppend_ok (P : Program) {t ty : TypeId} {s x r : Cell} {h h' : Heap} (he : eAppend P t s x h = some (r, h')) {B0 : Pt} {μ : Mu} {w : World} (hr : HR B0 μ h w) {us ux : Value} (hs : RC μ s us) (hx : RC μ x ux) :
    ∃ v w' μ', (Builtin.append_ #[t, t] ty #[us, ux]).run P w = .ok v w' ∧ Mu.le μ μ' ∧ HR B0 μ' h' w' ∧ RC μ' r v ∧ Bel B0 w w' := by
  unfold eAppend at he
  split at he
  · rename_i e ht
    split at he
    · rename_i i z hi hz
      obtain ⟨i', zv, hi', hzz, hzrel⟩ := zeroOf_ok hz
      obtain rfl : i' = i := by rw [hi] at hi'; exact (Option.some.inj hi').symm
      split at he
      · rename_i m cs hsrc
        obtain ⟨hcl, hlen, vs, hvs, hf, hpos⟩ := srcCells_ok P hsrc hr hx
        have hvl : vs.length = m * i'.size := by rw [← hcl, hvs.1]
        have hfm : (Builtin.firstCells i'.size m ux).run P w = .ok vs.toArray w := by
          have := hf m (Nat.le_refl _)
          rwa [List.take_of_length_le (by omega)] at this
        have hf0 : (Builtin.firstCells i'.size 0 ux).run P w = .ok #[] w := by
          have := hf 0 (Nat.zero_le _)
          simpa using this
        split at he
        · rename_i hzl
          split at he
          · -- nil
            obtain ⟨rfl, _⟩ := hs
            split at he
            · rename_i hb
              obtain ⟨rfl, rfl⟩ := Prod.mk.inj (Option.some.inj he)
              by_cases hm : m = 0
              · subst hm
                exact ⟨_, w, _, run_append_none P w ht hi none 0 0 ux (Nat.le_refl _) hlen hf0, Mu.le_add μ [⟨0, 0, 0⟩], hr.dead _ rfl, ⟨fun _ => ⟨rfl, none, rfl⟩, fun e => by simp at e⟩, Bel.refl _ _⟩
              · have hd : decide (0 < m) = true := decide_eq_true (by omega)
                rw [hd]
                obtain ⟨a, c', rfl, hcells⟩ := hpos (by omega)
                have hrun := run_append_nil (P := P) w t ty e i' zv ht hi hzz a m c' vs hvl hcells (by omega) (by omega) (by omega)
                have ha := hr.drew.alloc hvs e (Builtin.zeroCells zv.cells (grownCap w m 0 e - m)).toList (zeroCells_one (rel_one (hzrel μ)) _)
                refine ⟨_, _, _, hrun, Mu.le_add _ _, new_world ha rfl, ⟨nofun, fun _ => ⟨⟨w.heap.size, 0, vs.length + (Builtin.zeroCells zv.cells (grownCap w m 0 e - m)).toList.length⟩, grownCap w m 0 e, ?_, rfl, grownCap_ge _ _ _ _, ?_⟩⟩, ((Bel.refl B0 w).drew).trans (Bel.new (w := w.drew) hr.size _)⟩
                · exact mu_last hr.len _
                · have hz2 : zv.cells.size = i'.size := by rw [← hzl.1, (hzrel μ).1]; simp
                  have := grownCap_ge w m 0 e
                  simp only [Array.length_toList, size_zeroCells, hz2, hvl, ← Nat.add_mul]
                  exact Nat.mul_le_mul_right _ (by omega)
            · cases he
          · -- a slice
            rename_i b o n c k ex
            obtain ⟨l, c', hm, rfl, hcc, hex, hcap⟩ := hs
            split at he
            · rename_i hkn
              obtain ⟨rfl, hnc⟩ := hkn
              split at he
              · rename_i hm0
                subst hm0
                obtain ⟨rfl, rfl⟩ := Prod.mk.inj (Option.some.inj he)
                exact ⟨_, w, μ, run_append_none P w ht hi _ n c' ux (by omega) hlen hf0, Mu.le_refl _, hr, ⟨l, c', hm, rfl, hcc, hex, hcap⟩, Bel.refl _ _⟩
              · rename_i hm0
                split at he
                · rename_i ob hb
                  split at he
                  · rename_i hl
                    split at he
                    · -- room for sure
                      rename_i hroom
                      split at he
                      · rename_i hown
                        obtain ⟨rfl, rfl⟩ := Prod.mk.inj (Option.some.inj he)
                        obtain ⟨w', h1, h2, h3⟩ := HR.stores P hm cs (o := o + n * i'.size) (i := 0) hr hb hl hown.1 hvs (by rw [hcl, Nat.add_zero, Nat.add_assoc, ← Nat.add_mul]; exact hown.2)
                        have hadd : (⟨l.B, l.base + o, none⟩ : Addr).add (n * i'.size) = ⟨l.B, l.base + (o + n * i'.size), none⟩ := by rw [addr_add, Nat.add_assoc]
                        refine ⟨_, w', μ, run_append_room' P w w' ht hi _ n c' m ux vs (by omega) hlen hfm (by rw [hadd]; exact h1), Mu.le_refl _, h2, ⟨l, c', hm, rfl, hcc, hex, hcap⟩, h3⟩
                      · cases he
                    · rename_i hroom
                      split at he
                      · rename_i hbig
                        obtain ⟨g1, g2, g3⟩ := hbig
                        obtain ⟨a, ca, rfl, hcells⟩ := hpos (by omega)
                        obtain ⟨os, ho1, ho2, ho3⟩ := hr.cellsAt hb hl hm rfl g3
                        have hz2 : zv.cells.size = i'.size := by rw [← hzl.1, (hzrel μ).1]; simp
                        have grow : ∀ (hh : Heap), HR B0 μ hh w → c' < n + m →
                            ∃ v w' μ', (Builtin.append_ #[t, t] ty #[.slice (some ⟨l.B, l.base + o, none⟩) n c', .slice (some a) m ca]).run P w = .ok v w' ∧ Mu.le μ μ' ∧ HR B0 μ' (hh ++ [⟨(ob.cells.drop o).take (n * i'.size) ++ cs, true, true⟩]) w' ∧ RC μ' (.sl hh.length 0 (n + m) (n + m) i'.size false) v ∧ Bel B0 w w' := by
                          intro hh hrh hlt
                          have hrun := run_append_grow (P := P) w t ty e i' zv ht hi hzz ⟨l.B, l.base + o, none⟩ n c' os ho1 ho3 a m ca vs hvl hcells hlt (by omega) (growslice_fits hlt g2)
                          have ha := hrh.drew.alloc (ho2.append hvs) e (Builtin.zeroCells zv.cells (grownCap w (n + m) c' e - (n + m))).toList (zeroCells_one (rel_one (hzrel μ)) _)
                          have hw : os.toArray ++ vs.toArray = (os ++ vs).toArray := by apply Array.ext'; simp
                          rw [hw] at hrun
                          refine ⟨_, _, _, hrun, Mu.le_add _ _, new_world ha rfl, ⟨⟨w.heap.size, 0, (os ++ vs).length + (Builtin.zeroCells zv.cells (grownCap w (n + m) c' e - (n + m))).toList.length⟩, grownCap w (n + m) c' e, ?_, rfl, grownCap_ge _ _ _ _, nofun, ?_⟩, ((Bel.refl B0 w).drew).trans (Bel.new (w := w.drew) hr.size _)⟩
                          · exact mu_last hrh.len _
                          · have := grownCap_ge w (n + m) c' e
                            simp only [Array.length_toList, size_zeroCells, hz2, List.length_append, hvl, ho1, Nat.zero_add, ← Nat.add_mul]
                            exact Nat.mul_le_mul_right _ (by omega)
                        split at he
                        · rename_i hex1
                          obtain ⟨rfl, rfl⟩ := Prod.mk.inj (Option.some.inj he)
                          exact grow h hr (by have := hex hex1; omega)
                        · split at he
                          · rename_i hown
                            obtain ⟨rfl, rfl⟩ := Prod.mk.inj (Option.some.inj he)
                            by_cases hfit : n + m ≤ c'
                            · have hcap2 : o + (((ob.cells.drop o).take (n * i'.size)).length + cs.length) ≤ l.cap := by
                                rw [g3, hcl, ← Nat.add_mul]
                                have := Nat.mul_le_mul_right i'.size hfit
                                omega
                              have hsh := hr.share hb hl hown hm (j := cs.length) rfl hcap2
                              have hkl : (Rv.kill h b).length = h.length := by simp [Rv.kill]
                              have hvs' : R2 (RC (Mu.add μ [⟨l.B, l.base + o, l.cap - o⟩])) cs vs := hvs.mono fun _ _ => RC.mono (Mu.le_add _ _)
                              obtain ⟨w', h1, h2, h3⟩ := HR.stores P (b := h.length) (l := ⟨l.B, l.base + o, l.cap - o⟩) (mu_last hr.len _) cs (o := n * i'.size) (i := 0) hsh (ob := ⟨(ob.cells.drop o).take (n * i'.size) ++ List.replicate cs.length .any, true, true⟩) (by rw [← hkl]; simp) rfl rfl hvs' (by simp only [List.length_append, List.length_replicate, g3]; omega)
                              have hadd : (⟨l.B, l.base + o, none⟩ : Addr).add (n * i'.size) = ⟨l.B, l.base + o + n * i'.size, none⟩ := addr_add _ _ _
                              refine ⟨_, w', _, run_append_room' P w w' ht hi _ n c' m _ vs hfit hlen hfm (by rw [hadd]; exact h1), Mu.le_add _ _, ?_, ⟨⟨l.B, l.base + o, l.cap - o⟩, c', mu_last hr.len _, rfl, hfit, nofun, by show 0 + c' * i'.size ≤ l.cap - o; omega⟩, h3⟩
                              have hput : putCells ((ob.cells.drop o).take (n * i'.size) ++ List.replicate cs.length .any) (n * i'.size + 0) cs = (ob.cells.drop o).take (n * i'.size) ++ cs := by
                                have := putCells_app cs ((ob.cells.drop o).take (n * i'.size)) (List.replicate cs.length .any) (by simp)
                                rw [g3] at this
                                exact this
                              rw [← hkl] at h2
                              simp only [hput, List.set_append_right _ _ (Nat.le_refl _), Nat.sub_self, List.set_cons_zero] at h2
                              exact h2
                            · have := grow (Rv.kill h b) (hr.kill b) (by omega)
                              rwa [show (Rv.kill h b).length = h.length by simp [Rv.kill]] at this
                          · cases he
                      · cases he
                  · cases he
                · cases he
            · cases he
          · -- a slice that grows
            rename_i b n k lv
            split at he
            · rename_i ob hb
              split at he
              · rename_i hc
                obtain ⟨ho, hlv, rfl, hcl2, hb1, hb2⟩ := hc
                obtain ⟨rfl, rfl⟩ := Prod.mk.inj (Option.some.inj he)
                have hkl : (Rv.kill h b).length = h.length := by simp [Rv.kill]
                have hz2 : zv.cells.size = i'.size := by rw [← hzl.1, (hzrel μ).1]; simp
                cases lv with
                | false =>
                  obtain ⟨rfl, A, rfl⟩ := hs.1 rfl
                  have h0 : ob.cells = [] := List.eq_nil_of_length_eq_zero (by omega)
                  rw [h0]
                  simp only [List.nil_append, Nat.zero_add, Bool.false_or]
                  by_cases hm0 : m = 0
                  · subst hm0
                    have hcs0 : cs = [] := List.eq_nil_of_length_eq_zero (by omega)
                    subst hcs0
                    refine ⟨_, w, _, run_append_none P w ht hi A 0 0 ux (Nat.le_refl _) hlen hf0, Mu.le_add μ [⟨0, 0, 0⟩], ?_, ⟨fun _ => ⟨rfl, A, rfl⟩, fun e => by simp at e⟩, Bel.refl _ _⟩
                    exact (hr.kill b).dead _ rfl
                  · have hd : decide (0 < m) = true := decide_eq_true (by omega)
                    rw [hd]
                    obtain ⟨a, ca, rfl, hcells⟩ := hpos (by omega)
                    have hvs' : ∀ hh : Heap, HR B0 μ hh w → ∀ q : Nat, HR B0 (Mu.add μ [⟨w.drew.heap.size, 0, vs.length + (Builtin.zeroCells zv.cells q).toList.length⟩]) (hh ++ [⟨cs, true, true⟩]) (w.drew.alloc (Obj.cells (vs ++ (Builtin.zeroCells zv.cells q).toList).toArray e)) := fun hh hrh q => hrh.drew.alloc hvs e _ (zeroCells_one (rel_one (hzrel μ)) _)
                    cases A with
                    | none =>
                      have hrun := run_append_nil (P := P) w t ty e i' zv ht hi hzz a m ca vs hvl hcells (by omega) (by omega) (by simp only [Nat.zero_add] at hb2; omega)
                      refine ⟨_, _, _, hrun, Mu.le_add _ _, new_world (hvs' _ (hr.kill b) _) rfl, ⟨nofun, fun _ => ⟨⟨w.heap.size, 0, vs.length + (Builtin.zeroCells zv.cells (grownCap w m 0 e - m)).toList.length⟩, grownCap w m 0 e, ?_, rfl, grownCap_ge _ _ _ _, ?_⟩⟩, ((Bel.refl B0 w).drew).trans (Bel.new (w := w.drew) hr.size _)⟩
                      · rw [← hkl]; exact mu_last (hr.kill b).len _
                      · have := grownCap_ge w m 0 e
                        simp only [Array.length_toList, size_zeroCells, hz2, hvl, ← Nat.add_mul]
                        exact Nat.mul_le_mul_right _ (by omega)
                    | some A =>
                      have hrun := run_append_grow (P := P) w t ty e i' zv ht hi hzz A 0 0 [] (by simp) (fun j v hj => by simp at hj) a m ca vs hvl hcells (by omega) (by omega) (growslice_fits (by omega) (by simp only [Nat.zero_add] at hb2 ⊢; exact hb2))
                      simp only [show ([] : List Value).toArray ++ vs.toArray = vs.toArray from by apply Array.ext'; simp, Nat.zero_add] at hrun
                      refine ⟨_, _, _, hrun, Mu.le_add _ _, new_world (hvs' _ (hr.kill b) _) rfl, ⟨nofun, fun _ => ⟨⟨w.heap.size, 0, vs.length + (Builtin.zeroCells zv.cells (grownCap w m 0 e - m)).toList.length⟩, grownCap w m 0 e, ?_, rfl, grownCap_ge _ _ _ _, ?_⟩⟩, ((Bel.refl B0 w).drew).trans (Bel.new (w := w.drew) hr.size _)⟩
                      · rw [← hkl]; exact mu_last (hr.kill b).len _
                      · have := grownCap_ge w m 0 e
                        simp only [Array.length_toList, size_zeroCells, hz2, hvl, ← Nat.add_mul]
                        exact Nat.mul_le_mul_right _ (by omega)
                | true =>
                  obtain ⟨l, c', hm, rfl, hcc, hcap⟩ := hs.2 rfl
                  simp only [Bool.true_or]
                  have hall : (ob.cells.drop 0).take (n * i'.size) = ob.cells := by rw [List.drop_zero, ← hcl2, List.take_length]
                  obtain ⟨os, ho1, ho2, ho3⟩ := hr.cellsAt (o := 0) (n := n * i'.size) hb hlv hm hall.symm hcl2
                  simp only [Nat.add_zero] at ho3
                  by_cases hfit : n + m ≤ c'
                  · have hcap2 : 0 + (((ob.cells.drop 0).take (n * i'.size)).length + cs.length) ≤ l.cap := by
                      rw [hall, hcl2, hcl, ← Nat.add_mul]
                      have := Nat.mul_le_mul_right i'.size hfit
                      omega
                    have hsh := hr.share hb hlv ho hm (o := 0) (n := n * i'.size) (j := cs.length) rfl hcap2
                    simp only [Nat.add_zero, Nat.sub_zero, hall] at hsh
                    have hvs' : R2 (RC (Mu.add μ [⟨l.B, l.base, l.cap⟩])) cs vs := hvs.mono fun _ _ => RC.mono (Mu.le_add _ _)
                    obtain ⟨w', h1, h2, h3⟩ := HR.stores P (b := h.length) (l := ⟨l.B, l.base, l.cap⟩) (mu_last hr.len _) cs (o := n * i'.size) (i := 0) hsh (ob := ⟨ob.cells ++ List.replicate cs.length .any, true, true⟩) (by rw [← hkl]; simp) rfl rfl hvs' (by simp only [List.length_append, List.length_replicate, hcl2]; omega)
                    have hadd : (⟨l.B, l.base, none⟩ : Addr).add (n * i'.size) = ⟨l.B, l.base + n * i'.size, none⟩ := addr_add _ _ _
                    refine ⟨_, w', _, run_append_room' P w w' ht hi _ n c' m _ vs hfit hlen hfm (by rw [hadd]; exact h1), Mu.le_add _ _, ?_, ⟨nofun, fun _ => ⟨⟨l.B, l.base, l.cap⟩, c', mu_last hr.len _, rfl, hfit, hcap⟩⟩, h3⟩
                    have hput : putCells (ob.cells ++ List.replicate cs.length .any) (n * i'.size + 0) cs = ob.cells ++ cs := by
                      have := putCells_app cs ob.cells (List.replicate cs.length .any) (by simp)
                      rw [hcl2] at this
                      exact this
                    rw [← hkl] at h2
                    simp only [hput, List.set_append_right _ _ (Nat.le_refl _), Nat.sub_self, List.set_cons_zero] at h2
                    exact h2
                  · have hm0 : 0 < m := by omega
                    obtain ⟨a, ca, rfl, hcells⟩ := hpos hm0
                    have hrun := run_append_grow (P := P) w t ty e i' zv ht hi hzz ⟨l.B, l.base, none⟩ n c' os ho1 ho3 a m ca vs hvl hcells (by omega) (by omega) (growslice_fits (by omega) hb2)
                    have ha := (hr.kill b).drew.alloc (ho2.append hvs) e (Builtin.zeroCells zv.cells (grownCap w (n + m) c' e - (n + m))).toList (zeroCells_one (rel_one (hzrel μ)) _)
                    have hw : os.toArray ++ vs.toArray = (os ++ vs).toArray := by apply Array.ext'; simp
                    rw [hw] at hrun
                    refine ⟨_, _, _, hrun, Mu.le_add _ _, new_world ha rfl, ⟨nofun, fun _ => ⟨⟨w.heap.size, 0, (os ++ vs).length + (Builtin.zeroCells zv.cells (grownCap w (n + m) c' e - (n + m))).toList.length⟩, grownCap w (n + m) c' e, ?_, rfl, grownCap_ge _ _ _ _, ?_⟩⟩, ((Bel.refl B0 w).drew).trans (Bel.new (w := w.drew) hr.size _)⟩
                    · rw [← hkl]; exact mu_last (hr.kill b).len _
                    · have := grownCap_ge w (n + m) c' e
                      simp only [Array.length_toList, size_zeroCells, hz2, List.length_append, hvl, ho1, ← Nat.add_mul]
                      exact Nat.mul_le_mul_right _ (by omega)
              · cases he
            · cases he
          · -- a slice that stays, without room
            rename_i k xs
            split at he
            · rename_i hk
              obtain ⟨rfl, hor⟩ := hk
              obtain ⟨hL, A, rfl⟩ := hs
              split at he
              · rename_i hbig
                obtain ⟨rfl, rfl⟩ := Prod.mk.inj (Option.some.inj he)
                by_cases hm : m = 0
                · subst hm
                  obtain rfl : xs = [] := List.eq_nil_of_length_eq_zero (by omega)
                  have hcs0 : cs = [] := List.eq_nil_of_length_eq_zero (by omega)
                  subst hcs0
                  exact ⟨_, w, _, run_append_none P w ht hi A 0 0 ux (Nat.le_refl _) hlen hf0, Mu.le_add μ [⟨0, 0, 0⟩], hr.dead _ rfl, ⟨fun _ => ⟨rfl, A, rfl⟩, fun e => by simp at e⟩, Bel.refl _ _⟩
                · have hd : decide (0 < m) = true := decide_eq_true (by omega)
                  rw [hd]
                  obtain ⟨a, ca, rfl, hcells⟩ := hpos (by omega)
                  have hz2 : zv.cells.size = i'.size := by rw [← hzl.1, (hzrel μ).1]; simp
                  obtain ⟨f1, os, ho1, ho2, ho3⟩ := LR.cells hr hL
                  obtain ⟨_, _, ea, hlc, hnil, _⟩ := LR.addr hL
                  cases ea
                  cases A with
                  | none =>
                    obtain ⟨rfl, _⟩ := hnil rfl
                    have hrun := run_append_nil (P := P) w t ty e i' zv ht hi hzz a m ca vs hvl hcells (by omega) (by omega) (by have := hbig.2; simp only [List.length_nil, Nat.zero_add] at this; omega)
                    have ha := hr.drew.alloc hvs e (Builtin.zeroCells zv.cells (grownCap w m 0 e - m)).toList (zeroCells_one (rel_one (hzrel μ)) _)
                    refine ⟨_, _, _, hrun, Mu.le_add _ _, ?_, ⟨nofun, fun _ => ⟨⟨w.heap.size, 0, vs.length + (Builtin.zeroCells zv.cells (grownCap w m 0 e - m)).toList.length⟩, grownCap w m 0 e, mu_last hr.len _, by simp, by simpa using grownCap_ge _ _ _ _, ?_⟩⟩, ((Bel.refl B0 w).drew).trans (Bel.new (w := w.drew) hr.size _)⟩
                    · simpa using new_world ha rfl
                    · have := grownCap_ge w m 0 e
                      simp only [Array.length_toList, size_zeroCells, hz2, hvl, ← Nat.add_mul]
                      exact Nat.mul_le_mul_right _ (by omega)
                  | some A =>
                    have hcs : ∀ (j : Nat) (v : Value), os[j]? = some v → w.cell? (A.add j) = some v := fun j v hj => by
                      rcases Nat.eq_zero_or_pos xs.length with h0 | h0
                      · rw [h0] at ho1; simp at ho1; subst ho1; simp at hj
                      · obtain ⟨B, o, e, h4⟩ := ho3 h0
                        cases e
                        exact h4 j v hj
                    have hrun := run_append_grow (P := P) w t ty e i' zv ht hi hzz A xs.length xs.length os ho1 hcs a m ca vs hvl hcells (by omega) (by omega) (growslice_fits (by omega) hbig.2)
                    have ha := hr.drew.alloc (ho2.append hvs) e (Builtin.zeroCells zv.cells (grownCap w (xs.length + m) xs.length e - (xs.length + m))).toList (zeroCells_one (rel_one (hzrel μ)) _)
                    have hw : os.toArray ++ vs.toArray = (os ++ vs).toArray := by apply Array.ext'; simp
                    rw [hw] at hrun
                    refine ⟨_, _, _, hrun, Mu.le_add _ _, new_world ha rfl, ⟨nofun, fun _ => ⟨⟨w.heap.size, 0, (os ++ vs).length + (Builtin.zeroCells zv.cells (grownCap w (xs.length + m) xs.length e - (xs.length + m))).toList.length⟩, grownCap w (xs.length + m) xs.length e, mu_last hr.len _, rfl, grownCap_ge _ _ _ _, ?_⟩⟩, ((Bel.refl B0 w).drew).trans (Bel.new (w := w.drew) hr.size _)⟩
                    have := grownCap_ge w (xs.length + m) xs.length e
                    simp only [Array.length_toList, size_zeroCells, hz2, List.length_append, hvl, ho1, ← Nat.add_mul]
                    exact Nat.mul_le_mul_right _ (by omega)
              · cases he
            · cases he
          · cases he
        · cases he
      · cases he
    · cases he
  · cases he
end Rv
