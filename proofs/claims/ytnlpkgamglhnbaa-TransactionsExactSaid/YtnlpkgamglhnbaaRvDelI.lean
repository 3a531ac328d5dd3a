import Derived.Test.YtnlpkgamglhnbaaRvLiI
import Derived.Test.YtnlpkgamglhnbaaRvDelS
set_option linter.unusedVariables false
set_option linter.unusedSimpArgs false
namespace Rv
open Go Go.RowKit Go.Proofs
theorem delI_mid (H : Heap) (b n c i : Nat) (cs ds : List Cell) (hb : H[b]? = some ⟨cs ++ ds, true, true⟩) (hl : cs.length = n * 1) (hnc : n ≤ c) (hfit : c * 1 ≤ (cs ++ ds).length) (hi : i + 1 < n) (hn : (n : Int) ≤ 1000000) : FnOK Try.prog 137 [.o (.c (.sl b 0 n c 1 true)), VI i, VI ((i : Int) + 1)] H (fun v h' => v = .o (.c (.sl b 0 (n - 1) c 1 true)) ∧ ∃ ds', h' = H.set b ⟨(cs.take (i * 1) ++ cs.drop ((i + 1) * 1)) ++ ds', true, true⟩) := by
  have hbl : b < H.length := lt_of_get hb
  have h1i : ((i : Nat) : Int).toNat = i := Int.toNat_natCast i
  have h2i : ((i : Int) + 1).toNat = i + 1 := by omega
  have hlen : (cs ++ ds).length = cs.length + ds.length := List.length_append
  have hsB : ((cs ++ ds).drop ((i + 1) * 1)).take ((n - (i + 1)) * 1) = cs.drop ((i + 1) * 1) := by rw [List.drop_append_of_le_length (by omega)]; exact List.take_left' (by simp; omega)
  refine FnOK.body (N := 33) Try.func137 rfl rfl rfl ?_
  rw [List.append_nil]
  refine CdOK.seq (CdOK.region ?_)
  refine RgOK.s rfl rfl rfl (e_as rfl) ?_
  refine RgOK.nil ?_
  show CdOK _ _ _ _ _ _
  refine CdOK.seq (CdOK.region ?_)
  refine RgOK.s rfl rfl rfl (e_mv (ev_t rfl)) ?_
  refine RgOK.s rfl rfl rfl (e_mv (ev_t rfl)) ?_
  refine RgOK.s rfl rfl rfl (e_mv (ev_t rfl)) ?_
  refine RgOK.s rfl rfl rfl (e_mv (ev_t rfl)) ?_
  refine RgOK.s rfl rfl rfl (by first | exact e_len (ev_t rfl) is27 | exact e_lenS (ev_t rfl) is27) ?_
  refine (RgOK.sx rfl rfl rfl (e_sly slt27 (ev_t rfl) (ev_t rfl) (ev_t rfl) (ev_t rfl) (by omega)) ?_)
  intro v13
  refine RgOK.nil ?_
  show CdOK _ _ _ _ _ _
  refine CdOK.seq (CdOK.seq (CdOK.region ?_))
  refine RgOK.s rfl rfl rfl (e_mv (ev_t rfl)) ?_
  refine RgOK.s rfl rfl rfl (e_mv (ev_t rfl)) ?_
  refine RgOK.sd rfl rfl rfl (e_eql (ev_t rfl) (ev_t rfl)) ?_ ?_
  · intro c16
    exact absurd c16 (by omega) -- done
  · intro c16
    refine RgOK.nil ?_
    show CdOK _ _ _ _ _ _
    refine CdOK.cond_false rfl ?_
    refine CdOK.skip ?_
    show CdOK _ _ _ _ _ _
    refine CdOK.seq (CdOK.region ?_)
    refine RgOK.s rfl rfl rfl (e_mv (ev_t rfl)) ?_
    refine RgOK.s rfl rfl rfl (by first | exact e_len (ev_t rfl) is27 | exact e_lenS (ev_t rfl) is27) ?_
    refine RgOK.s rfl rfl rfl (e_as (ev_t rfl)) ?_
    refine RgOK.nil ?_
    show CdOK _ _ _ _ _ _
    refine CdOK.seq ?_
    refine CdOK.draw2 (ord := [0, 1, 2, 3, 4, 5, 6, 7]) (chain := [6]) fol (by decide +kernel) (by decide +kernel) ?_
    refine Dr2.s rfl rfl rfl rfl rfl rfl (e_mv (ev_t rfl)) ?_
    refine Dr2.s rfl rfl rfl rfl rfl rfl (e_mv (ev_t rfl)) ?_
    refine Dr2.s rfl rfl rfl rfl rfl rfl (e_shi slt27 (ev_t rfl) (ev_t rfl) (by omega)) ?_
    refine Dr2.s rfl rfl rfl rfl rfl rfl (e_mv (ev_t rfl)) ?_
    refine Dr2.s rfl rfl rfl rfl rfl rfl (e_mv (ev_t rfl)) ?_
    refine Dr2.s rfl rfl rfl rfl rfl rfl (e_slo slt27 (ev_t rfl) (ev_t rfl) (by omega) hnc) ?_
    refine Dr2.c rfl rfl rfl rfl rfl (e_app1 slt27 (ev_t rfl) (ev_t rfl) (srcR (r := cs.drop ((i + 1) * 1)) hb (by rw [h2i, Nat.zero_add]; exact hsB) (by rw [h2i]; simp; omega)) hb (by omega) (by omega) (by omega) (by rw [h1i, h2i]; omega)) .nil ?_
    refine Dr2.s rfl rfl rfl rfl rfl rfl (e_as (ev_t rfl)) ?_
    refine Dr2.nil ?_
    show CdOK _ _ _ _ _ _
    refine CdOK.seq (CdOK.region ?_)
    refine RgOK.s rfl rfl rfl (e_mv (ev_t rfl)) ?_
    refine RgOK.s rfl rfl rfl (e_mv (ev_t rfl)) ?_
    refine RgOK.s rfl rfl rfl (by first | exact e_len (ev_t rfl) is27 | exact e_lenS (ev_t rfl) is27) ?_
    refine RgOK.s rfl rfl rfl (e_mv (ev_t rfl)) ?_
    refine RgOK.s rfl rfl rfl (e_slb slt27 (ev_t rfl) (ev_t rfl) (ev_t rfl) (by omega)) ?_
    refine RgOK.s0 rfl rfl (e_clr slt27 (ev_t rfl) (List.getElem?_set_self hbl) (by omega) (by rw [putCells_length]; omega)) ?_
    refine RgOK.nil ?_
    show CdOK _ _ _ _ _ _
    refine CdOK.seq (CdOK.region ?_)
    refine RgOK.s rfl rfl rfl (e_mv (ev_t rfl)) ?_
    refine RgOK.s rfl rfl rfl (e_as (ev_t rfl)) ?_
    refine RgOK.nil ?_
    show CdOK _ _ _ _ _ _
    refine CdOK.ret ?_
    refine ⟨.inr rfl, _, rfl, ?_⟩
    refine ⟨by rw [show ((i : Int).toNat + (n - ((i : Int) + 1).toNat)) = n - 1 by omega]; rfl, ?_⟩
    rw [List.set_set]
    simp only [h1i, h2i, Int.toNat_natCast, Nat.zero_add]
    generalize hzs : List.flatten (List.replicate _ _) = zs
    have hzl : zs.length = 1 := by
      rw [← hzs, flat_rep_length]
      show _ * 1 = 1
      omega
    obtain ⟨ds', e⟩ := delMid (cs := cs) (ds := ds) (zs := zs) (p := i * 1) (q := (i + 1) * 1) (n := n) (k := 1) (by omega) (by omega) (by omega)
    refine ⟨ds', ?_⟩
    rw [show (i + (n - (i + 1))) * 1 = i * 1 + (cs.length - (i + 1) * 1) by omega, e]
theorem delI_last (H : Heap) (b n c i : Nat) (cs ds : List Cell) (hb : H[b]? = some ⟨cs ++ ds, true, true⟩) (hl : cs.length = n * 1) (hnc : n ≤ c) (hfit : c * 1 ≤ (cs ++ ds).length) (hi : i + 1 = n) (hn : (n : Int) ≤ 1000000) : FnOK Try.prog 137 [.o (.c (.sl b 0 n c 1 true)), VI i, VI ((i : Int) + 1)] H (fun v h' => v = .o (.c (.sl b 0 (n - 1) c 1 true)) ∧ ∃ ds', h' = H.set b ⟨cs.take (i * 1) ++ ds', true, true⟩) := by
  have hbl : b < H.length := lt_of_get hb
  have h1i : ((i : Nat) : Int).toNat = i := Int.toNat_natCast i
  have hlen : (cs ++ ds).length = cs.length + ds.length := List.length_append
  refine FnOK.body (N := 33) Try.func137 rfl rfl rfl ?_
  rw [List.append_nil]
  refine CdOK.seq (CdOK.region ?_)
  refine RgOK.s rfl rfl rfl (e_as rfl) ?_
  refine RgOK.nil ?_
  show CdOK _ _ _ _ _ _
  refine CdOK.seq (CdOK.region ?_)
  refine RgOK.s rfl rfl rfl (e_mv (ev_t rfl)) ?_
  refine RgOK.s rfl rfl rfl (e_mv (ev_t rfl)) ?_
  refine RgOK.s rfl rfl rfl (e_mv (ev_t rfl)) ?_
  refine RgOK.s rfl rfl rfl (e_mv (ev_t rfl)) ?_
  refine RgOK.s rfl rfl rfl (by first | exact e_len (ev_t rfl) is27 | exact e_lenS (ev_t rfl) is27) ?_
  refine (RgOK.sx rfl rfl rfl (e_sly slt27 (ev_t rfl) (ev_t rfl) (ev_t rfl) (ev_t rfl) (by omega)) ?_)
  intro v13
  refine RgOK.nil ?_
  show CdOK _ _ _ _ _ _
  refine CdOK.seq (CdOK.seq (CdOK.region ?_))
  refine RgOK.s rfl rfl rfl (e_mv (ev_t rfl)) ?_
  refine RgOK.s rfl rfl rfl (e_mv (ev_t rfl)) ?_
  refine RgOK.sd rfl rfl rfl (e_eql (ev_t rfl) (ev_t rfl)) ?_ ?_
  · intro c16
    exact absurd c16 (by omega) -- done
  · intro c16
    refine RgOK.nil ?_
    show CdOK _ _ _ _ _ _
    refine CdOK.cond_false rfl ?_
    refine CdOK.skip ?_
    show CdOK _ _ _ _ _ _
    refine CdOK.seq (CdOK.region ?_)
    refine RgOK.s rfl rfl rfl (e_mv (ev_t rfl)) ?_
    refine RgOK.s rfl rfl rfl (by first | exact e_len (ev_t rfl) is27 | exact e_lenS (ev_t rfl) is27) ?_
    refine RgOK.s rfl rfl rfl (e_as (ev_t rfl)) ?_
    refine RgOK.nil ?_
    show CdOK _ _ _ _ _ _
    refine CdOK.seq ?_
    refine CdOK.draw2 (ord := [0, 1, 2, 3, 4, 5, 6, 7]) (chain := [6]) fol (by decide +kernel) (by decide +kernel) ?_
    refine Dr2.s rfl rfl rfl rfl rfl rfl (e_mv (ev_t rfl)) ?_
    refine Dr2.s rfl rfl rfl rfl rfl rfl (e_mv (ev_t rfl)) ?_
    refine Dr2.s rfl rfl rfl rfl rfl rfl (e_shi slt27 (ev_t rfl) (ev_t rfl) (by omega)) ?_
    refine Dr2.s rfl rfl rfl rfl rfl rfl (e_mv (ev_t rfl)) ?_
    refine Dr2.s rfl rfl rfl rfl rfl rfl (e_mv (ev_t rfl)) ?_
    refine Dr2.s rfl rfl rfl rfl rfl rfl (e_slE slt27 (ev_t rfl) (ev_t rfl) (by omega) hnc) ?_
    refine Dr2.c rfl rfl rfl rfl rfl (e_appE slt27 (ev_t rfl) (ev_t rfl) (by omega)) .nil ?_
    refine Dr2.s rfl rfl rfl rfl rfl rfl (e_as (ev_t rfl)) ?_
    refine Dr2.nil ?_
    show CdOK _ _ _ _ _ _
    refine CdOK.seq (CdOK.region ?_)
    refine RgOK.s rfl rfl rfl (e_mv (ev_t rfl)) ?_
    refine RgOK.s rfl rfl rfl (e_mv (ev_t rfl)) ?_
    refine RgOK.s rfl rfl rfl (by first | exact e_len (ev_t rfl) is27 | exact e_lenS (ev_t rfl) is27) ?_
    refine RgOK.s rfl rfl rfl (e_mv (ev_t rfl)) ?_
    refine RgOK.s rfl rfl rfl (e_slb slt27 (ev_t rfl) (ev_t rfl) (ev_t rfl) (by omega)) ?_
    refine RgOK.s0 rfl rfl (e_clr slt27 (ev_t rfl) hb (by omega) (by omega)) ?_
    refine RgOK.nil ?_
    show CdOK _ _ _ _ _ _
    refine CdOK.seq (CdOK.region ?_)
    refine RgOK.s rfl rfl rfl (e_mv (ev_t rfl)) ?_
    refine RgOK.s rfl rfl rfl (e_as (ev_t rfl)) ?_
    refine RgOK.nil ?_
    show CdOK _ _ _ _ _ _
    refine CdOK.ret ?_
    refine ⟨.inr rfl, _, rfl, ?_⟩
    refine ⟨by rw [show ((i : Int).toNat) = n - 1 by omega]; rfl, ?_⟩
    simp only [h1i, Int.toNat_natCast, Nat.zero_add]
    generalize hzs : List.flatten (List.replicate _ _) = zs
    have hzl : zs.length = 1 := by
      rw [← hzs, flat_rep_length]
      show _ * 1 = 1
      omega
    obtain ⟨ds', e⟩ := delLast (cs := cs) (ds := ds) (zs := zs) (p := i * 1) (by omega)
    refine ⟨ds', ?_⟩
    rw [e]
/-- slices.Delete of one element of a slice of one's own. -/
theorem delI_ok {h : Heap} {A b : Nat} (hA : h.length = A) {l : List Int} {i j : Int} {lv : Bool} (hb : h[b]? = some ⟨(l.map cI).flatten, true, lv⟩) (hi : 0 ≤ i ∧ j = i + 1 ∧ j ≤ l.length) (hn : l.length ≤ 1000000) :
    FnOK Try.prog 137 [.o (.c (.g b l.length 1 lv)), VI i, VI j] h (fun v h' => v = .o (.c (.g A (delL l i.toNat).length 1 true)) ∧ h' = kill h b ++ [⟨((delL l i.toNat).map cI).flatten, true, true⟩]) := by
  subst hA
  obtain ⟨hi0, rfl, hi2⟩ := hi
  have hlen : (delL l i.toNat).length = l.length - 1 := delL_len (by omega)
  have hcl : ((l.map cI).flatten).length = l.length * 1 := lens_fl fun x => rfl
  have hfl : ((delL l i.toNat).map cI).flatten = ((l.map cI).flatten).take (i.toNat * 1) ++ ((l.map cI).flatten).drop ((i.toNat + 1) * 1) := by
    have h1 : (l.map cI).flatten = ((l.take i.toNat).map cI).flatten ++ ((l.drop i.toNat).map cI).flatten := by rw [← List.flatten_append, ← List.map_append, List.take_append_drop]
    have h2 : ((l.take i.toNat).map cI).flatten.length = i.toNat * 1 := by rw [lens_fl (k := 1) (fun x => rfl), List.length_take, Nat.min_eq_left (by omega)]
    have h3 : (l.map cI).flatten = ((l.take (i.toNat + 1)).map cI).flatten ++ ((l.drop (i.toNat + 1)).map cI).flatten := by rw [← List.flatten_append, ← List.map_append, List.take_append_drop]
    have h4 : ((l.take (i.toNat + 1)).map cI).flatten.length = (i.toNat + 1) * 1 := by rw [lens_fl (k := 1) (fun x => rfl), List.length_take, Nat.min_eq_left (by omega)]
    have e1 : ((l.map cI).flatten).take (i.toNat * 1) = ((l.take i.toNat).map cI).flatten := by rw [h1, ← h2, List.take_left]
    have e2 : ((l.map cI).flatten).drop ((i.toNat + 1) * 1) = ((l.drop (i.toNat + 1)).map cI).flatten := by rw [h3, ← h4, List.drop_left]
    rw [e1, e2]
    simp [delL]
  rw [hfl, hlen]
  have hbl := lt_of_get hb
  have hkl : ∀ (i : Nat) (o : AO), (kill h b)[i]? = some o → o.live = true → i ≠ b ∧ h[i]? = some o := fun i o h1 h2 => kill_get h1 h2
  cases lv with
  | false => exact FnOK.gfalse fun h0 => absurd h0 (by omega)
  | true =>
    refine FnOK.weak (R2.cons (.c (.gsl b l.length 1)) (R2.wk _)) ?_
    refine FnOK.cap hb hcl (Nat.le_refl _) fun c hc => ?_
    have hi' : i = ((i.toNat : Nat) : Int) := by omega
    rw [hi', Int.toNat_natCast]
    have hset : (h.set b ⟨(l.map cI).flatten ++ List.replicate ((c - l.length) * 1) .any, true, true⟩)[b]? = some ⟨(l.map cI).flatten ++ List.replicate ((c - l.length) * 1) .any, true, true⟩ := List.getElem?_set_self hbl
    have hfit : c * 1 ≤ ((l.map cI).flatten ++ List.replicate ((c - l.length) * 1) Cell.any).length := by rw [List.length_append, hcl, List.length_replicate]; omega
    have hk2 : ∀ (X : AO) (i : Nat) (o : AO), (kill h b)[i]? = some o → o.live = true → i ≠ b ∧ (h.set b X)[i]? = some o := fun X i o h1 h2 => by
      obtain ⟨g1, g2⟩ := hkl i o h1 h2
      exact ⟨g1, by rw [List.getElem?_set_ne (fun e => g1 e.symm)]; exact g2⟩
    by_cases hlast : i.toNat + 1 = l.length
    · refine FnOK.wk3 ((delI_last _ b l.length c i.toNat _ _ hset hcl hc hfit hlast (by omega)).mono ?_)
      rintro v h' ⟨rfl, ds', rfl⟩
      rw [List.set_set]
      have hd0 : ((l.map cI).flatten).drop ((i.toNat + 1) * 1) = [] := List.drop_eq_nil_of_le (by omega)
      rw [hd0, List.append_nil]
      refine ⟨_, _, tellIn (H0 := kill h b) (List.getElem?_set_self hbl) (by simp only [List.length_take, hcl]; omega) (by omega) (by simp [kill_len]) (fun i o h1 h2 => hk2 _ i o h1 h2), by simp, rfl⟩
    · refine FnOK.wk3 ((delI_mid _ b l.length c i.toNat _ _ hset hcl hc hfit (by omega) (by omega)).mono ?_)
      rintro v h' ⟨rfl, ds', rfl⟩
      rw [List.set_set]
      refine ⟨_, _, tellIn (H0 := kill h b) (List.getElem?_set_self hbl) (by simp only [List.length_append, List.length_take, List.length_drop, hcl]; omega) (by omega) (by simp [kill_len]) (fun i o h1 h2 => hk2 _ i o h1 h2), by simp, rfl⟩
end Rv
