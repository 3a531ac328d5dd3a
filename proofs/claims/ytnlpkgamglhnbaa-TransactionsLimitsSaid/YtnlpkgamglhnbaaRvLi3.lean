/- slices.Insert: what it does to a slice that grows. -/
import Derived.Test.YtnlpkgamglhnbaaRvLi2
set_option linter.unusedVariables false
set_option linter.unusedSimpArgs false
namespace Rv
open Go Go.RowKit Go.Proofs
theorem FnOK.gfalse {P : Program} {f : FuncId} {b n k : Nat} {args : List AV} {h : Heap} {Q : AV → Heap → Prop} (hf : n = 0 → FnOK P f (.o (.c (.g b n k false)) :: args) h Q) : FnOK P f (.o (.c (.g b n k false)) :: args) h Q := by
  intro B0 μ w us hr hus
  obtain ⟨u, hu, hru⟩ := hus.get (i := 0) rfl
  exact hf (hru.1 rfl).1 B0 μ w us hr hus
theorem e_slLC {P : Program} {T : Nat → AV} {dst : Option Nat} {ty : TypeId} {pos : String} {af : Array Edge} {g : Option (Nat × Bool)} {h : Heap} {t : TypeId} {k bb : Nat} {z : List Cell} {x lo : Operand} (ht : SlT P t k z bb) (hx : aev T x = some (.o (.c (.LC k [])))) (hlo : aev T lo = some (VI 0)) : ∃ v, evOp P ⟨dst, .slice t x (some lo) none none, ty, pos, af, g⟩ T h = some (v, h) := by
  obtain ⟨e, i, he, hi, hk⟩ := sliceF ht
  have hs : sev T lo = some (.int .i64 0) := by unfold sev; rw [hlo]; rfl
  refine ⟨.o (.c (.L k [])), ?_⟩
  have : eSliceC P t (.LC k []) (some (.int .i64 0)) none none = some (.L k []) := by
    simp [eSliceC, he, hi, hk, bnd]
  simp only [evOp, hx, optA, hs, this]
/- slices.Insert[[]int,int] -/
theorem insI_nil (H : Heap) (x0 : Cell) (x1 : List Cell) (hxs : (x0 :: x1).length = 1) : FnOK Try.prog 92 [.o (.c (.LC 1 [])), VI 0, .o (.c (.LC 1 [x0 :: x1]))] H (fun v h' => v = .o (.c (.g H.length 1 1 true)) ∧ h' = H ++ [⟨x0 :: x1, true, true⟩]) := by
  refine FnOK.body (N := 95) Try.func92 rfl rfl rfl ?_
  rw [List.append_nil]
  refine CdOK.seq ?_
  refine CdOK.region ?_
  refine RgOK.s rfl rfl rfl (e_as rfl) ?_
  refine RgOK.nil ?_
  show CdOK _ _ _ _ _ _
  refine CdOK.seq ?_
  refine CdOK.region ?_
  refine RgOK.s rfl rfl rfl (e_mv (ev_t rfl)) ?_
  refine RgOK.s rfl rfl rfl (e_mv (ev_t rfl)) ?_
  refine (RgOK.sx rfl rfl rfl (e_slLC slt27 (ev_t rfl) (ev_t rfl)) ?_)
  intro v12
  refine RgOK.nil ?_
  show CdOK _ _ _ _ _ _
  refine CdOK.seq ?_
  refine CdOK.region ?_
  refine RgOK.s rfl rfl rfl (e_mv (ev_t rfl)) ?_
  refine RgOK.s rfl rfl rfl (by first | exact e_len (ev_t rfl) is27 | exact e_lenLC (ev_t rfl) is27 | exact e_lenMC (l := ([] : List (List Cell))) (f := fun c => c) (ev_t rfl) is27) ?_
  refine RgOK.s rfl rfl rfl (e_as (ev_t rfl)) ?_
  refine RgOK.nil ?_
  show CdOK _ _ _ _ _ _
  refine CdOK.seq ?_
  refine CdOK.seq ?_
  refine CdOK.region ?_
  refine RgOK.s rfl rfl rfl (e_mv (ev_t rfl)) ?_
  refine RgOK.sd rfl rfl rfl (e_eql (ev_t rfl) rfl) ?_ ?_
  · intro c16
    exact absurd c16 (by decide) -- done
  · intro c16
    refine RgOK.nil ?_
    show CdOK _ _ _ _ _ _
    refine CdOK.cond_false rfl ?_
    refine CdOK.skip ?_
    show CdOK _ _ _ _ _ _
    refine CdOK.seq ?_
    refine CdOK.region ?_
    refine RgOK.s rfl rfl rfl (e_mv (ev_t rfl)) ?_
    refine RgOK.s rfl rfl rfl (by first | exact e_len (ev_t rfl) is27 | exact e_lenLC (ev_t rfl) is27 | exact e_lenMC (l := ([] : List (List Cell))) (f := fun c => c) (ev_t rfl) is27) ?_
    refine RgOK.s rfl rfl rfl (e_as (ev_t rfl)) ?_
    refine RgOK.nil ?_
    show CdOK _ _ _ _ _ _
    refine CdOK.seq ?_
    refine CdOK.seq ?_
    refine CdOK.region ?_
    refine RgOK.s rfl rfl rfl (e_mv (ev_t rfl)) ?_
    refine RgOK.s rfl rfl rfl (e_mv (ev_t rfl)) ?_
    refine RgOK.sd rfl rfl rfl (e_eql (ev_t rfl) (ev_t rfl)) ?_ ?_
    · intro c22
      refine RgOK.nil ?_
      show CdOK _ _ _ _ _ _
      refine CdOK.cond_true rfl ?_
      refine CdOK.seq ?_
      refine CdOK.region ?_
      refine RgOK.s rfl rfl rfl (e_mv (ev_t rfl)) ?_
      refine RgOK.s rfl rfl rfl (e_mv (ev_t rfl)) ?_
      refine RgOK.s rfl rfl rfl (e_apC0 (k := 1) (q := 17592186044416) (m := 1) (ys := [x0 :: x1]) (f := fun c => c) (lv := true) slt27 (ev_t rfl) (ev_t rfl) (srcX.trans (by simp)) rfl (by decide) (by decide) rfl) ?_
      refine RgOK.s rfl rfl rfl (e_as (ev_t rfl)) ?_
      refine RgOK.nil ?_
      show CdOK _ _ _ _ _ _
      refine CdOK.ret ?_
      refine ⟨.inr rfl, _, rfl, ?_⟩
      exact ⟨rfl, by simp⟩
    · intro c22
      exact absurd rfl c22 -- done
/-- slices.Insert[[]int,int]: one element more. -/
theorem insI_ok {h : Heap} {A b : Nat} (hA : h.length = A) {l : List Int} {x : Int} {i : Int} {lv : Bool} (hb : h[b]? = some ⟨(l.map cI).flatten, true, lv⟩) (hi : 0 ≤ i ∧ i ≤ l.length) (hn : l.length ≤ 1000000) :
    FnOK Try.prog 92 [.o (.c (.g b l.length 1 lv)), VI i, .o (.c (.LC 1 ([x].map cI)))] h (fun v h' => v = .o (.c (.g A (insL l i.toNat x).length 1 true)) ∧ h' = kill h b ++ [⟨((insL l i.toNat x).map cI).flatten, true, true⟩]) := by
  subst hA
  have hlen : (insL l i.toNat x).length = l.length + 1 := insL_len (by omega) x
  have hfl : ((insL l i.toNat x).map cI).flatten = ((l.map cI).flatten).take (i.toNat * 1) ++ cI x ++ ((l.map cI).flatten).drop (i.toNat * 1) := by
    have h1 : (l.map cI).flatten = ((l.take i.toNat).map cI).flatten ++ ((l.drop i.toNat).map cI).flatten := by rw [← List.flatten_append, ← List.map_append, List.take_append_drop]
    have h2 : ((l.take i.toNat).map cI).flatten.length = i.toNat * 1 := by rw [lens_fl (k := 1) (fun x => rfl), List.length_take, Nat.min_eq_left (by omega)]
    rw [h1, ← h2, List.take_left, List.drop_left]
    simp [insL]
  obtain ⟨x0, x1, hx⟩ : ∃ x0 x1, cI x = x0 :: x1 := ⟨_, _, rfl⟩
  have hx' : ([x].map cI) = [x0 :: x1] := by rw [← hx]; rfl
  have hlx : (x0 :: x1).length = 1 := by rw [← hx]; rfl
  rw [hx', hfl, hx, hlen]
  have hbl := lt_of_get hb
  have hkl : ∀ (i : Nat) (o : AO), (kill h b)[i]? = some o → o.live = true → i ≠ b ∧ h[i]? = some o := fun i o h1 h2 => kill_get h1 h2
  cases lv with
  | false =>
    refine FnOK.gfalse fun h0 => ?_
    obtain rfl : l = [] := List.eq_nil_of_length_eq_zero h0
    have hi0 : i = 0 := by simp at hi; omega
    subst hi0
    refine FnOK.weak (R2.cons (.c (.gLC b 1)) (R2.wk _)) ?_
    refine FnOK.wk3 ((insI_nil h x0 x1 hlx).mono ?_)
    rintro v h' ⟨rfl, rfl⟩
    refine ⟨_, kill h b ++ [⟨x0 :: x1, true, true⟩], tellG (by simp [kill_len]) fun i o h1 h2 => ?_, rfl, by simp⟩
    rcases Nat.lt_or_ge i (kill h b).length with hlt | hge
    · rw [List.getElem?_append_left hlt] at h1
      rw [List.getElem?_append_left (by rwa [kill_len] at hlt)]
      exact (hkl i o h1 h2).2
    · rw [List.getElem?_append_right hge] at h1
      rw [List.getElem?_append_right (by rwa [kill_len] at hge), ← kill_len h b]; exact h1
  | true =>
    refine FnOK.weak (R2.cons (.c (.gsl b l.length 1)) (R2.wk _)) ?_
    have hcl : ((l.map cI).flatten).length = l.length * 1 := lens_fl fun x => rfl
    refine FnOK.cap hb hcl (Nat.le_refl _) fun c hc => ?_
    have hi' : i = ((i.toNat : Nat) : Int) := by omega
    rw [hi', Int.toNat_natCast]
    have hset : (h.set b ⟨(l.map cI).flatten ++ List.replicate ((c - l.length) * 1) .any, true, true⟩)[b]? = some ⟨(l.map cI).flatten ++ List.replicate ((c - l.length) * 1) .any, true, true⟩ := List.getElem?_set_self hbl
    refine FnOK.wk3 ((insI_core _ b l.length c i.toNat _ _ x0 x1 hset hcl (by simp) hc hlx (by omega) (by omega)).mono ?_)
    have hk2 : ∀ (X : AO) (i : Nat) (o : AO), (kill h b)[i]? = some o → o.live = true → i ≠ b ∧ (h.set b X)[i]? = some o := fun X i o h1 h2 => by
      obtain ⟨g1, g2⟩ := hkl i o h1 h2
      exact ⟨g1, by rw [List.getElem?_set_ne (fun e => g1 e.symm)]; exact g2⟩
    rintro v h' (⟨hr, rfl, ds', rfl⟩ | ⟨rfl, rfl⟩)
    · rw [List.set_set]
      refine ⟨_, _, tellIn (H0 := kill h b) (List.getElem?_set_self hbl) (by simp at hlx; simp [hcl, hlx]; omega) hr (by simp [kill_len]) (fun i o h1 h2 => hk2 _ i o h1 h2), by simp, rfl⟩
    · rw [List.length_set]
      exact ⟨_, _, by
        have := tellNew (H := h.set b ⟨(l.map cI).flatten ++ List.replicate ((c - l.length) * 1) .any, true, true⟩) (H0 := kill h b) (n := l.length + 1) (k := 1) (ex := false) (cs := ((l.map cI).flatten).take (i.toNat * 1) ++ x0 :: x1 ++ ((l.map cI).flatten).drop (i.toNat * 1)) (by simp [kill_len]) (fun i o h1 h2 => (hk2 _ i o h1 h2).2)
        rwa [List.length_set] at this, rfl, rfl⟩
/- slices.Insert[[]pagemend/api.Place,pagemend/api.Place] -/
theorem insP_nil (H : Heap) (x0 : Cell) (x1 : List Cell) (hxs : (x0 :: x1).length = 2) : FnOK Try.prog 95 [.o (.c (.LC 2 [])), VI 0, .o (.c (.LC 2 [x0 :: x1]))] H (fun v h' => v = .o (.c (.g H.length 1 2 true)) ∧ h' = H ++ [⟨x0 :: x1, true, true⟩]) := by
  refine FnOK.body (N := 95) Try.func95 rfl rfl rfl ?_
  rw [List.append_nil]
  refine CdOK.seq ?_
  refine CdOK.region ?_
  refine RgOK.s rfl rfl rfl (e_as rfl) ?_
  refine RgOK.nil ?_
  show CdOK _ _ _ _ _ _
  refine CdOK.seq ?_
  refine CdOK.region ?_
  refine RgOK.s rfl rfl rfl (e_mv (ev_t rfl)) ?_
  refine RgOK.s rfl rfl rfl (e_mv (ev_t rfl)) ?_
  refine (RgOK.sx rfl rfl rfl (e_slLC slt26 (ev_t rfl) (ev_t rfl)) ?_)
  intro v12
  refine RgOK.nil ?_
  show CdOK _ _ _ _ _ _
  refine CdOK.seq ?_
  refine CdOK.region ?_
  refine RgOK.s rfl rfl rfl (e_mv (ev_t rfl)) ?_
  refine RgOK.s rfl rfl rfl (by first | exact e_len (ev_t rfl) is26 | exact e_lenLC (ev_t rfl) is26 | exact e_lenMC (l := ([] : List (List Cell))) (f := fun c => c) (ev_t rfl) is26) ?_
  refine RgOK.s rfl rfl rfl (e_as (ev_t rfl)) ?_
  refine RgOK.nil ?_
  show CdOK _ _ _ _ _ _
  refine CdOK.seq ?_
  refine CdOK.seq ?_
  refine CdOK.region ?_
  refine RgOK.s rfl rfl rfl (e_mv (ev_t rfl)) ?_
  refine RgOK.sd rfl rfl rfl (e_eql (ev_t rfl) rfl) ?_ ?_
  · intro c16
    exact absurd c16 (by decide) -- done
  · intro c16
    refine RgOK.nil ?_
    show CdOK _ _ _ _ _ _
    refine CdOK.cond_false rfl ?_
    refine CdOK.skip ?_
    show CdOK _ _ _ _ _ _
    refine CdOK.seq ?_
    refine CdOK.region ?_
    refine RgOK.s rfl rfl rfl (e_mv (ev_t rfl)) ?_
    refine RgOK.s rfl rfl rfl (by first | exact e_len (ev_t rfl) is26 | exact e_lenLC (ev_t rfl) is26 | exact e_lenMC (l := ([] : List (List Cell))) (f := fun c => c) (ev_t rfl) is26) ?_
    refine RgOK.s rfl rfl rfl (e_as (ev_t rfl)) ?_
    refine RgOK.nil ?_
    show CdOK _ _ _ _ _ _
    refine CdOK.seq ?_
    refine CdOK.seq ?_
    refine CdOK.region ?_
    refine RgOK.s rfl rfl rfl (e_mv (ev_t rfl)) ?_
    refine RgOK.s rfl rfl rfl (e_mv (ev_t rfl)) ?_
    refine RgOK.sd rfl rfl rfl (e_eql (ev_t rfl) (ev_t rfl)) ?_ ?_
    · intro c22
      refine RgOK.nil ?_
      show CdOK _ _ _ _ _ _
      refine CdOK.cond_true rfl ?_
      refine CdOK.seq ?_
      refine CdOK.region ?_
      refine RgOK.s rfl rfl rfl (e_mv (ev_t rfl)) ?_
      refine RgOK.s rfl rfl rfl (e_mv (ev_t rfl)) ?_
      refine RgOK.s rfl rfl rfl (e_apC0 (k := 2) (q := 8796093022208) (m := 1) (ys := [x0 :: x1]) (f := fun c => c) (lv := true) slt26 (ev_t rfl) (ev_t rfl) (srcX.trans (by simp)) rfl (by decide) (by decide) rfl) ?_
      refine RgOK.s rfl rfl rfl (e_as (ev_t rfl)) ?_
      refine RgOK.nil ?_
      show CdOK _ _ _ _ _ _
      refine CdOK.ret ?_
      refine ⟨.inr rfl, _, rfl, ?_⟩
      exact ⟨rfl, by simp⟩
    · intro c22
      exact absurd rfl c22 -- done
/-- slices.Insert[[]pagemend/api.Place,pagemend/api.Place]: one element more. -/
theorem insP_ok {h : Heap} {A b : Nat} (hA : h.length = A) {l : List Place} {x : Place} {i : Int} {lv : Bool} (hb : h[b]? = some ⟨(l.map Place.cs).flatten, true, lv⟩) (hi : 0 ≤ i ∧ i ≤ l.length) (hn : l.length ≤ 1000000) :
    FnOK Try.prog 95 [.o (.c (.g b l.length 2 lv)), VI i, .o (.c (.LC 2 ([x].map Place.cs)))] h (fun v h' => v = .o (.c (.g A (insL l i.toNat x).length 2 true)) ∧ h' = kill h b ++ [⟨((insL l i.toNat x).map Place.cs).flatten, true, true⟩]) := by
  subst hA
  have hlen : (insL l i.toNat x).length = l.length + 1 := insL_len (by omega) x
  have hfl : ((insL l i.toNat x).map Place.cs).flatten = ((l.map Place.cs).flatten).take (i.toNat * 2) ++ Place.cs x ++ ((l.map Place.cs).flatten).drop (i.toNat * 2) := by
    have h1 : (l.map Place.cs).flatten = ((l.take i.toNat).map Place.cs).flatten ++ ((l.drop i.toNat).map Place.cs).flatten := by rw [← List.flatten_append, ← List.map_append, List.take_append_drop]
    have h2 : ((l.take i.toNat).map Place.cs).flatten.length = i.toNat * 2 := by rw [lens_fl (k := 2) (fun x => rfl), List.length_take, Nat.min_eq_left (by omega)]
    rw [h1, ← h2, List.take_left, List.drop_left]
    simp [insL]
  obtain ⟨x0, x1, hx⟩ : ∃ x0 x1, Place.cs x = x0 :: x1 := ⟨_, _, rfl⟩
  have hx' : ([x].map Place.cs) = [x0 :: x1] := by rw [← hx]; rfl
  have hlx : (x0 :: x1).length = 2 := by rw [← hx]; rfl
  rw [hx', hfl, hx, hlen]
  have hbl := lt_of_get hb
  have hkl : ∀ (i : Nat) (o : AO), (kill h b)[i]? = some o → o.live = true → i ≠ b ∧ h[i]? = some o := fun i o h1 h2 => kill_get h1 h2
  cases lv with
  | false =>
    refine FnOK.gfalse fun h0 => ?_
    obtain rfl : l = [] := List.eq_nil_of_length_eq_zero h0
    have hi0 : i = 0 := by simp at hi; omega
    subst hi0
    refine FnOK.weak (R2.cons (.c (.gLC b 2)) (R2.wk _)) ?_
    refine FnOK.wk3 ((insP_nil h x0 x1 hlx).mono ?_)
    rintro v h' ⟨rfl, rfl⟩
    refine ⟨_, kill h b ++ [⟨x0 :: x1, true, true⟩], tellG (by simp [kill_len]) fun i o h1 h2 => ?_, rfl, by simp⟩
    rcases Nat.lt_or_ge i (kill h b).length with hlt | hge
    · rw [List.getElem?_append_left hlt] at h1
      rw [List.getElem?_append_left (by rwa [kill_len] at hlt)]
      exact (hkl i o h1 h2).2
    · rw [List.getElem?_append_right hge] at h1
      rw [List.getElem?_append_right (by rwa [kill_len] at hge), ← kill_len h b]; exact h1
  | true =>
    refine FnOK.weak (R2.cons (.c (.gsl b l.length 2)) (R2.wk _)) ?_
    have hcl : ((l.map Place.cs).flatten).length = l.length * 2 := lens_fl fun x => rfl
    refine FnOK.cap hb hcl (Nat.le_refl _) fun c hc => ?_
    have hi' : i = ((i.toNat : Nat) : Int) := by omega
    rw [hi', Int.toNat_natCast]
    have hset : (h.set b ⟨(l.map Place.cs).flatten ++ List.replicate ((c - l.length) * 2) .any, true, true⟩)[b]? = some ⟨(l.map Place.cs).flatten ++ List.replicate ((c - l.length) * 2) .any, true, true⟩ := List.getElem?_set_self hbl
    refine FnOK.wk3 ((insP_core _ b l.length c i.toNat _ _ x0 x1 hset hcl (by simp) hc hlx (by omega) (by omega)).mono ?_)
    have hk2 : ∀ (X : AO) (i : Nat) (o : AO), (kill h b)[i]? = some o → o.live = true → i ≠ b ∧ (h.set b X)[i]? = some o := fun X i o h1 h2 => by
      obtain ⟨g1, g2⟩ := hkl i o h1 h2
      exact ⟨g1, by rw [List.getElem?_set_ne (fun e => g1 e.symm)]; exact g2⟩
    rintro v h' (⟨hr, rfl, ds', rfl⟩ | ⟨rfl, rfl⟩)
    · rw [List.set_set]
      refine ⟨_, _, tellIn (H0 := kill h b) (List.getElem?_set_self hbl) (by simp at hlx; simp [hcl, hlx]; omega) hr (by simp [kill_len]) (fun i o h1 h2 => hk2 _ i o h1 h2), by simp, rfl⟩
    · rw [List.length_set]
      exact ⟨_, _, by
        have := tellNew (H := h.set b ⟨(l.map Place.cs).flatten ++ List.replicate ((c - l.length) * 2) .any, true, true⟩) (H0 := kill h b) (n := l.length + 1) (k := 2) (ex := false) (cs := ((l.map Place.cs).flatten).take (i.toNat * 2) ++ x0 :: x1 ++ ((l.map Place.cs).flatten).drop (i.toNat * 2)) (by simp [kill_len]) (fun i o h1 h2 => (hk2 _ i o h1 h2).2)
        rwa [List.length_set] at this, rfl, rfl⟩
/- slices.Insert[[]pagemend/api.Grant,pagemend/api.Grant] -/
theorem insG_nil (H : Heap) (x0 : Cell) (x1 : List Cell) (hxs : (x0 :: x1).length = 4) : FnOK Try.prog 108 [.o (.c (.LC 4 [])), VI 0, .o (.c (.LC 4 [x0 :: x1]))] H (fun v h' => v = .o (.c (.g H.length 1 4 true)) ∧ h' = H ++ [⟨x0 :: x1, true, true⟩]) := by
  refine FnOK.body (N := 95) Try.func108 rfl rfl rfl ?_
  rw [List.append_nil]
  refine CdOK.seq ?_
  refine CdOK.region ?_
  refine RgOK.s rfl rfl rfl (e_as rfl) ?_
  refine RgOK.nil ?_
  show CdOK _ _ _ _ _ _
  refine CdOK.seq ?_
  refine CdOK.region ?_
  refine RgOK.s rfl rfl rfl (e_mv (ev_t rfl)) ?_
  refine RgOK.s rfl rfl rfl (e_mv (ev_t rfl)) ?_
  refine (RgOK.sx rfl rfl rfl (e_slLC slt67 (ev_t rfl) (ev_t rfl)) ?_)
  intro v12
  refine RgOK.nil ?_
  show CdOK _ _ _ _ _ _
  refine CdOK.seq ?_
  refine CdOK.region ?_
  refine RgOK.s rfl rfl rfl (e_mv (ev_t rfl)) ?_
  refine RgOK.s rfl rfl rfl (by first | exact e_len (ev_t rfl) is67 | exact e_lenLC (ev_t rfl) is67 | exact e_lenMC (l := ([] : List (List Cell))) (f := fun c => c) (ev_t rfl) is67) ?_
  refine RgOK.s rfl rfl rfl (e_as (ev_t rfl)) ?_
  refine RgOK.nil ?_
  show CdOK _ _ _ _ _ _
  refine CdOK.seq ?_
  refine CdOK.seq ?_
  refine CdOK.region ?_
  refine RgOK.s rfl rfl rfl (e_mv (ev_t rfl)) ?_
  refine RgOK.sd rfl rfl rfl (e_eql (ev_t rfl) rfl) ?_ ?_
  · intro c16
    exact absurd c16 (by decide) -- done
  · intro c16
    refine RgOK.nil ?_
    show CdOK _ _ _ _ _ _
    refine CdOK.cond_false rfl ?_
    refine CdOK.skip ?_
    show CdOK _ _ _ _ _ _
    refine CdOK.seq ?_
    refine CdOK.region ?_
    refine RgOK.s rfl rfl rfl (e_mv (ev_t rfl)) ?_
    refine RgOK.s rfl rfl rfl (by first | exact e_len (ev_t rfl) is67 | exact e_lenLC (ev_t rfl) is67 | exact e_lenMC (l := ([] : List (List Cell))) (f := fun c => c) (ev_t rfl) is67) ?_
    refine RgOK.s rfl rfl rfl (e_as (ev_t rfl)) ?_
    refine RgOK.nil ?_
    show CdOK _ _ _ _ _ _
    refine CdOK.seq ?_
    refine CdOK.seq ?_
    refine CdOK.region ?_
    refine RgOK.s rfl rfl rfl (e_mv (ev_t rfl)) ?_
    refine RgOK.s rfl rfl rfl (e_mv (ev_t rfl)) ?_
    refine RgOK.sd rfl rfl rfl (e_eql (ev_t rfl) (ev_t rfl)) ?_ ?_
    · intro c22
      refine RgOK.nil ?_
      show CdOK _ _ _ _ _ _
      refine CdOK.cond_true rfl ?_
      refine CdOK.seq ?_
      refine CdOK.region ?_
      refine RgOK.s rfl rfl rfl (e_mv (ev_t rfl)) ?_
      refine RgOK.s rfl rfl rfl (e_mv (ev_t rfl)) ?_
      refine RgOK.s rfl rfl rfl (e_apC0 (k := 4) (q := 4398046511104) (m := 1) (ys := [x0 :: x1]) (f := fun c => c) (lv := true) slt67 (ev_t rfl) (ev_t rfl) (srcX.trans (by simp)) rfl (by decide) (by decide) rfl) ?_
      refine RgOK.s rfl rfl rfl (e_as (ev_t rfl)) ?_
      refine RgOK.nil ?_
      show CdOK _ _ _ _ _ _
      refine CdOK.ret ?_
      refine ⟨.inr rfl, _, rfl, ?_⟩
      exact ⟨rfl, by simp⟩
    · intro c22
      exact absurd rfl c22 -- done
/-- slices.Insert[[]pagemend/api.Grant,pagemend/api.Grant]: one element more. -/
theorem insG_ok {h : Heap} {A b : Nat} (hA : h.length = A) {l : List Grant} {x : Grant} {i : Int} {lv : Bool} (hb : h[b]? = some ⟨(l.map Grant.cs).flatten, true, lv⟩) (hi : 0 ≤ i ∧ i ≤ l.length) (hn : l.length ≤ 1000000) :
    FnOK Try.prog 108 [.o (.c (.g b l.length 4 lv)), VI i, .o (.c (.LC 4 ([x].map Grant.cs)))] h (fun v h' => v = .o (.c (.g A (insL l i.toNat x).length 4 true)) ∧ h' = kill h b ++ [⟨((insL l i.toNat x).map Grant.cs).flatten, true, true⟩]) := by
  subst hA
  have hlen : (insL l i.toNat x).length = l.length + 1 := insL_len (by omega) x
  have hfl : ((insL l i.toNat x).map Grant.cs).flatten = ((l.map Grant.cs).flatten).take (i.toNat * 4) ++ Grant.cs x ++ ((l.map Grant.cs).flatten).drop (i.toNat * 4) := by
    have h1 : (l.map Grant.cs).flatten = ((l.take i.toNat).map Grant.cs).flatten ++ ((l.drop i.toNat).map Grant.cs).flatten := by rw [← List.flatten_append, ← List.map_append, List.take_append_drop]
    have h2 : ((l.take i.toNat).map Grant.cs).flatten.length = i.toNat * 4 := by rw [lens_fl (k := 4) (fun x => rfl), List.length_take, Nat.min_eq_left (by omega)]
    rw [h1, ← h2, List.take_left, List.drop_left]
    simp [insL]
  obtain ⟨x0, x1, hx⟩ : ∃ x0 x1, Grant.cs x = x0 :: x1 := ⟨_, _, rfl⟩
  have hx' : ([x].map Grant.cs) = [x0 :: x1] := by rw [← hx]; rfl
  have hlx : (x0 :: x1).length = 4 := by rw [← hx]; rfl
  rw [hx', hfl, hx, hlen]
  have hbl := lt_of_get hb
  have hkl : ∀ (i : Nat) (o : AO), (kill h b)[i]? = some o → o.live = true → i ≠ b ∧ h[i]? = some o := fun i o h1 h2 => kill_get h1 h2
  cases lv with
  | false =>
    refine FnOK.gfalse fun h0 => ?_
    obtain rfl : l = [] := List.eq_nil_of_length_eq_zero h0
    have hi0 : i = 0 := by simp at hi; omega
    subst hi0
    refine FnOK.weak (R2.cons (.c (.gLC b 4)) (R2.wk _)) ?_
    refine FnOK.wk3 ((insG_nil h x0 x1 hlx).mono ?_)
    rintro v h' ⟨rfl, rfl⟩
    refine ⟨_, kill h b ++ [⟨x0 :: x1, true, true⟩], tellG (by simp [kill_len]) fun i o h1 h2 => ?_, rfl, by simp⟩
    rcases Nat.lt_or_ge i (kill h b).length with hlt | hge
    · rw [List.getElem?_append_left hlt] at h1
      rw [List.getElem?_append_left (by rwa [kill_len] at hlt)]
      exact (hkl i o h1 h2).2
    · rw [List.getElem?_append_right hge] at h1
      rw [List.getElem?_append_right (by rwa [kill_len] at hge), ← kill_len h b]; exact h1
  | true =>
    refine FnOK.weak (R2.cons (.c (.gsl b l.length 4)) (R2.wk _)) ?_
    have hcl : ((l.map Grant.cs).flatten).length = l.length * 4 := lens_fl fun x => rfl
    refine FnOK.cap hb hcl (Nat.le_refl _) fun c hc => ?_
    have hi' : i = ((i.toNat : Nat) : Int) := by omega
    rw [hi', Int.toNat_natCast]
    have hset : (h.set b ⟨(l.map Grant.cs).flatten ++ List.replicate ((c - l.length) * 4) .any, true, true⟩)[b]? = some ⟨(l.map Grant.cs).flatten ++ List.replicate ((c - l.length) * 4) .any, true, true⟩ := List.getElem?_set_self hbl
    refine FnOK.wk3 ((insG_core _ b l.length c i.toNat _ _ x0 x1 hset hcl (by simp) hc hlx (by omega) (by omega)).mono ?_)
    have hk2 : ∀ (X : AO) (i : Nat) (o : AO), (kill h b)[i]? = some o → o.live = true → i ≠ b ∧ (h.set b X)[i]? = some o := fun X i o h1 h2 => by
      obtain ⟨g1, g2⟩ := hkl i o h1 h2
      exact ⟨g1, by rw [List.getElem?_set_ne (fun e => g1 e.symm)]; exact g2⟩
    rintro v h' (⟨hr, rfl, ds', rfl⟩ | ⟨rfl, rfl⟩)
    · rw [List.set_set]
      refine ⟨_, _, tellIn (H0 := kill h b) (List.getElem?_set_self hbl) (by simp at hlx; simp [hcl, hlx]; omega) hr (by simp [kill_len]) (fun i o h1 h2 => hk2 _ i o h1 h2), by simp, rfl⟩
    · rw [List.length_set]
      exact ⟨_, _, by
        have := tellNew (H := h.set b ⟨(l.map Grant.cs).flatten ++ List.replicate ((c - l.length) * 4) .any, true, true⟩) (H0 := kill h b) (n := l.length + 1) (k := 4) (ex := false) (cs := ((l.map Grant.cs).flatten).take (i.toNat * 4) ++ x0 :: x1 ++ ((l.map Grant.cs).flatten).drop (i.toNat * 4)) (by simp [kill_len]) (fun i o h1 h2 => (hk2 _ i o h1 h2).2)
        rwa [List.length_set] at this, rfl, rfl⟩
/- slices.Insert[[]pagemend/api.Tx,pagemend/api.Tx] -/
theorem insT_nil (H : Heap) (x0 : Cell) (x1 : List Cell) (hxs : (x0 :: x1).length = 6) : FnOK Try.prog 144 [.o (.c (.LC 6 [])), VI 0, .o (.c (.LC 6 [x0 :: x1]))] H (fun v h' => v = .o (.c (.g H.length 1 6 true)) ∧ h' = H ++ [⟨x0 :: x1, true, true⟩]) := by
  refine FnOK.body (N := 95) Try.func144 rfl rfl rfl ?_
  rw [List.append_nil]
  refine CdOK.seq ?_
  refine CdOK.region ?_
  refine RgOK.s rfl rfl rfl (e_as rfl) ?_
  refine RgOK.nil ?_
  show CdOK _ _ _ _ _ _
  refine CdOK.seq ?_
  refine CdOK.region ?_
  refine RgOK.s rfl rfl rfl (e_mv (ev_t rfl)) ?_
  refine RgOK.s rfl rfl rfl (e_mv (ev_t rfl)) ?_
  refine (RgOK.sx rfl rfl rfl (e_slLC slt92 (ev_t rfl) (ev_t rfl)) ?_)
  intro v12
  refine RgOK.nil ?_
  show CdOK _ _ _ _ _ _
  refine CdOK.seq ?_
  refine CdOK.region ?_
  refine RgOK.s rfl rfl rfl (e_mv (ev_t rfl)) ?_
  refine RgOK.s rfl rfl rfl (by first | exact e_len (ev_t rfl) is92 | exact e_lenLC (ev_t rfl) is92 | exact e_lenMC (l := ([] : List (List Cell))) (f := fun c => c) (ev_t rfl) is92) ?_
  refine RgOK.s rfl rfl rfl (e_as (ev_t rfl)) ?_
  refine RgOK.nil ?_
  show CdOK _ _ _ _ _ _
  refine CdOK.seq ?_
  refine CdOK.seq ?_
  refine CdOK.region ?_
  refine RgOK.s rfl rfl rfl (e_mv (ev_t rfl)) ?_
  refine RgOK.sd rfl rfl rfl (e_eql (ev_t rfl) rfl) ?_ ?_
  · intro c16
    exact absurd c16 (by decide) -- done
  · intro c16
    refine RgOK.nil ?_
    show CdOK _ _ _ _ _ _
    refine CdOK.cond_false rfl ?_
    refine CdOK.skip ?_
    show CdOK _ _ _ _ _ _
    refine CdOK.seq ?_
    refine CdOK.region ?_
    refine RgOK.s rfl rfl rfl (e_mv (ev_t rfl)) ?_
    refine RgOK.s rfl rfl rfl (by first | exact e_len (ev_t rfl) is92 | exact e_lenLC (ev_t rfl) is92 | exact e_lenMC (l := ([] : List (List Cell))) (f := fun c => c) (ev_t rfl) is92) ?_
    refine RgOK.s rfl rfl rfl (e_as (ev_t rfl)) ?_
    refine RgOK.nil ?_
    show CdOK _ _ _ _ _ _
    refine CdOK.seq ?_
    refine CdOK.seq ?_
    refine CdOK.region ?_
    refine RgOK.s rfl rfl rfl (e_mv (ev_t rfl)) ?_
    refine RgOK.s rfl rfl rfl (e_mv (ev_t rfl)) ?_
    refine RgOK.sd rfl rfl rfl (e_eql (ev_t rfl) (ev_t rfl)) ?_ ?_
    · intro c22
      refine RgOK.nil ?_
      show CdOK _ _ _ _ _ _
      refine CdOK.cond_true rfl ?_
      refine CdOK.seq ?_
      refine CdOK.region ?_
      refine RgOK.s rfl rfl rfl (e_mv (ev_t rfl)) ?_
      refine RgOK.s rfl rfl rfl (e_mv (ev_t rfl)) ?_
      refine RgOK.s rfl rfl rfl (e_apC0 (k := 6) (q := 1759218604441) (m := 1) (ys := [x0 :: x1]) (f := fun c => c) (lv := true) slt92 (ev_t rfl) (ev_t rfl) (srcX.trans (by simp)) rfl (by decide) (by decide) rfl) ?_
      refine RgOK.s rfl rfl rfl (e_as (ev_t rfl)) ?_
      refine RgOK.nil ?_
      show CdOK _ _ _ _ _ _
      refine CdOK.ret ?_
      refine ⟨.inr rfl, _, rfl, ?_⟩
      exact ⟨rfl, by simp⟩
    · intro c22
      exact absurd rfl c22 -- done
/-- slices.Insert[[]pagemend/api.Tx,pagemend/api.Tx]: one element more. -/
theorem insT_ok {h : Heap} {A b : Nat} (hA : h.length = A) {l : List Tx} {x : Tx} {i : Int} {lv : Bool} (hb : h[b]? = some ⟨(l.map Tx.cs).flatten, true, lv⟩) (hi : 0 ≤ i ∧ i ≤ l.length) (hn : l.length ≤ 1000000) :
    FnOK Try.prog 144 [.o (.c (.g b l.length 6 lv)), VI i, .o (.c (.LC 6 ([x].map Tx.cs)))] h (fun v h' => v = .o (.c (.g A (insL l i.toNat x).length 6 true)) ∧ h' = kill h b ++ [⟨((insL l i.toNat x).map Tx.cs).flatten, true, true⟩]) := by
  subst hA
  have hlen : (insL l i.toNat x).length = l.length + 1 := insL_len (by omega) x
  have hfl : ((insL l i.toNat x).map Tx.cs).flatten = ((l.map Tx.cs).flatten).take (i.toNat * 6) ++ Tx.cs x ++ ((l.map Tx.cs).flatten).drop (i.toNat * 6) := by
    have h1 : (l.map Tx.cs).flatten = ((l.take i.toNat).map Tx.cs).flatten ++ ((l.drop i.toNat).map Tx.cs).flatten := by rw [← List.flatten_append, ← List.map_append, List.take_append_drop]
    have h2 : ((l.take i.toNat).map Tx.cs).flatten.length = i.toNat * 6 := by rw [lens_fl (k := 6) (fun x => rfl), List.length_take, Nat.min_eq_left (by omega)]
    rw [h1, ← h2, List.take_left, List.drop_left]
    simp [insL]
  obtain ⟨x0, x1, hx⟩ : ∃ x0 x1, Tx.cs x = x0 :: x1 := ⟨_, _, rfl⟩
  have hx' : ([x].map Tx.cs) = [x0 :: x1] := by rw [← hx]; rfl
  have hlx : (x0 :: x1).length = 6 := by rw [← hx]; rfl
  rw [hx', hfl, hx, hlen]
  have hbl := lt_of_get hb
  have hkl : ∀ (i : Nat) (o : AO), (kill h b)[i]? = some o → o.live = true → i ≠ b ∧ h[i]? = some o := fun i o h1 h2 => kill_get h1 h2
  cases lv with
  | false =>
    refine FnOK.gfalse fun h0 => ?_
    obtain rfl : l = [] := List.eq_nil_of_length_eq_zero h0
    have hi0 : i = 0 := by simp at hi; omega
    subst hi0
    refine FnOK.weak (R2.cons (.c (.gLC b 6)) (R2.wk _)) ?_
    refine FnOK.wk3 ((insT_nil h x0 x1 hlx).mono ?_)
    rintro v h' ⟨rfl, rfl⟩
    refine ⟨_, kill h b ++ [⟨x0 :: x1, true, true⟩], tellG (by simp [kill_len]) fun i o h1 h2 => ?_, rfl, by simp⟩
    rcases Nat.lt_or_ge i (kill h b).length with hlt | hge
    · rw [List.getElem?_append_left hlt] at h1
      rw [List.getElem?_append_left (by rwa [kill_len] at hlt)]
      exact (hkl i o h1 h2).2
    · rw [List.getElem?_append_right hge] at h1
      rw [List.getElem?_append_right (by rwa [kill_len] at hge), ← kill_len h b]; exact h1
  | true =>
    refine FnOK.weak (R2.cons (.c (.gsl b l.length 6)) (R2.wk _)) ?_
    have hcl : ((l.map Tx.cs).flatten).length = l.length * 6 := lens_fl fun x => rfl
    refine FnOK.cap hb hcl (Nat.le_refl _) fun c hc => ?_
    have hi' : i = ((i.toNat : Nat) : Int) := by omega
    rw [hi', Int.toNat_natCast]
    have hset : (h.set b ⟨(l.map Tx.cs).flatten ++ List.replicate ((c - l.length) * 6) .any, true, true⟩)[b]? = some ⟨(l.map Tx.cs).flatten ++ List.replicate ((c - l.length) * 6) .any, true, true⟩ := List.getElem?_set_self hbl
    refine FnOK.wk3 ((insT_core _ b l.length c i.toNat _ _ x0 x1 hset hcl (by simp) hc hlx (by omega) (by omega)).mono ?_)
    have hk2 : ∀ (X : AO) (i : Nat) (o : AO), (kill h b)[i]? = some o → o.live = true → i ≠ b ∧ (h.set b X)[i]? = some o := fun X i o h1 h2 => by
      obtain ⟨g1, g2⟩ := hkl i o h1 h2
      exact ⟨g1, by rw [List.getElem?_set_ne (fun e => g1 e.symm)]; exact g2⟩
    rintro v h' (⟨hr, rfl, ds', rfl⟩ | ⟨rfl, rfl⟩)
    · rw [List.set_set]
      refine ⟨_, _, tellIn (H0 := kill h b) (List.getElem?_set_self hbl) (by simp at hlx; simp [hcl, hlx]; omega) hr (by simp [kill_len]) (fun i o h1 h2 => hk2 _ i o h1 h2), by simp, rfl⟩
    · rw [List.length_set]
      exact ⟨_, _, by
        have := tellNew (H := h.set b ⟨(l.map Tx.cs).flatten ++ List.replicate ((c - l.length) * 6) .any, true, true⟩) (H0 := kill h b) (n := l.length + 1) (k := 6) (ex := false) (cs := ((l.map Tx.cs).flatten).take (i.toNat * 6) ++ x0 :: x1 ++ ((l.map Tx.cs).flatten).drop (i.toNat * 6)) (by simp [kill_len]) (fun i o h1 h2 => (hk2 _ i o h1 h2).2)
        rwa [List.length_set] at this, rfl, rfl⟩
end Rv
