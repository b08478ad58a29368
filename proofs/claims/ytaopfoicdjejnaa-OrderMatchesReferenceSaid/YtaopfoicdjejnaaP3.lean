/- Plain: what Fit answers is possible, and it answers if there is anything. -/
import Derived.Test.YtaopfoicdjejnaaP2
set_option linter.unusedVariables false
set_option linter.unusedSimpArgs false
namespace Go.Proofs.Ytaopfoicdjejnaa
open Go.RowKit

def Uv.uk : Uv → UK
  | .one i e => .one i
  | .leg g a b => .leg g.lg
theorem evF_evAt {es : List Evt} {i : Nat} (h : i < es.length) : evF es i = (evAt es i).ev := by
  rw [evF_at (List.getElem?_eq_getElem h), evAt_at (List.getElem?_eq_getElem h)]
theorem un_uk {d : List (List Int)} {es : List Evt} {ls : List Lgr} (hW : WellP d es ls) {u : Uv} (hu : u ∈ unitsL es ls) : u.un = u.uk.un (evF es) := by
  unfold unitsL at hu
  rcases List.mem_append.1 hu with h | h
  · obtain ⟨g, hg, rfl⟩ := List.mem_map.1 h
    obtain ⟨a1, a2, a3, a4, a5, a6⟩ := hW.leg g hg
    have e1 := evF_evAt (es := es) (i := g.src.toNat) (by omega)
    have e2 := evF_evAt (es := es) (i := g.dst.toNat) (by omega)
    show _ = (UK.leg g.lg).un (evF es)
    unfold UK.un Lgr.lg
    simp only
    rw [e1, e2]
    rfl
  · unfold onesL at h
    obtain ⟨i, hi, rfl⟩ := List.mem_map.1 h
    have hi' : i < es.length := by simpa using (List.mem_filter.1 hi).1
    show _ = (UK.one i).un (evF es)
    unfold UK.un
    simp only
    rw [evF_evAt hi']
    rfl
theorem nodup_apart {α : Type} {f : α → List Nat} : ∀ (L : List α), (L.flatMap f).Nodup → ∀ (i j : Nat) (u v : α), L[i]? = some u → L[j]? = some v → i ≠ j → ∀ x ∈ f u, x ∉ f v
  | [], _, i, j, u, v, hu, _, _ => by simp at hu
  | a :: t, h, i, j, u, v, hu, hv, hij => by
    rw [List.flatMap_cons, List.nodup_append] at h
    obtain ⟨h1, h2, h3⟩ := h
    intro x hx hx2
    cases i with
    | zero =>
      simp at hu; subst hu
      cases j with
      | zero => exact hij rfl
      | succ j =>
        have hv' : t[j]? = some v := by simpa using hv
        exact h3 x hx x (List.mem_flatMap.2 ⟨v, List.mem_of_getElem? hv', hx2⟩) rfl
    | succ i =>
      have hu' : t[i]? = some u := by simpa using hu
      cases j with
      | zero =>
        simp at hv; subst hv
        exact h3 x hx2 x (List.mem_flatMap.2 ⟨u, List.mem_of_getElem? hu', hx⟩) rfl
      | succ j => exact nodup_apart t h2 i j u v hu' (by simpa using hv) (by omega) x hx hx2
theorem fl_nat {d : List (List Int)} {es : List Evt} {ls : List Lgr} (hW : WellP d es ls) : (ls.flatMap fun g => [g.src.toNat, g.dst.toNat]).Nodup := by
  have e : (ls.flatMap fun g => [g.src.toNat, g.dst.toNat]) = (ls.flatMap fun g => [g.src, g.dst]).map Int.toNat := by rw [List.map_flatMap]; rfl
  rw [e]
  unfold List.Nodup
  rw [List.pairwise_map]
  refine List.Pairwise.imp_of_mem (fun {a b} ha hb hne e => hne ?_) hW.once
  have ok : ∀ x ∈ (ls.flatMap fun g => [g.src, g.dst]), 0 ≤ x := fun x hx => by
    obtain ⟨g, hg, hx⟩ := List.mem_flatMap.1 hx
    obtain ⟨a1, a2, a3, a4, a5, a6⟩ := hW.leg g hg
    simp at hx
    rcases hx with rfl | rfl <;> omega
  have := ok a ha; have := ok b hb
  omega
theorem units_apart {d : List (List Int)} {es : List Evt} {ls : List Lgr} (hW : WellP d es ls) : ((unitsL es ls).flatMap fun u => u.uk.evs).Nodup := by
  unfold unitsL
  rw [List.flatMap_append, List.nodup_append]
  refine ⟨?_, ?_, ?_⟩
  · rw [List.flatMap_map]
    exact fl_nat hW
  · unfold onesL
    rw [List.flatMap_map]
    have e : (fun i => (Uv.one i (evAt es i)).uk.evs) = fun i => [i] := rfl
    have e2 : ∀ L : List Nat, (L.flatMap fun i => [i]) = L := fun L => by induction L with | nil => rfl | cons a t ih => rw [List.flatMap_cons, ih]; rfl
    show (((List.range es.length).filter fun i => !inL ls i).flatMap fun i => [i]).Nodup
    rw [e2]
    exact List.Pairwise.filter _ List.nodup_range
  · intro a ha b hb e
    subst e
    obtain ⟨u, hu, hau⟩ := List.mem_flatMap.1 ha
    obtain ⟨v, hv, hav⟩ := List.mem_flatMap.1 hb
    obtain ⟨g, hg, rfl⟩ := List.mem_map.1 hu
    unfold onesL at hv
    obtain ⟨i, hi, rfl⟩ := List.mem_map.1 hv
    have h2 := (List.mem_filter.1 hi).2
    obtain ⟨a1, a2, a3, a4, a5, a6⟩ := hW.leg g hg
    have e1 : a = i := by simpa [Uv.uk, UK.evs] using hav
    have e2 : a = g.src.toNat ∨ a = g.dst.toNat := by simpa [legUv, Uv.uk, UK.evs, Lgr.lg] using hau
    have h3 : inL ls i = true := by
      unfold inL
      rw [List.any_eq_true]
      refine ⟨g, hg, ?_⟩
      simp
      omega
    rw [h3] at h2; cases h2
theorem unit_evs {d : List (List Int)} {es : List Evt} {ls : List Lgr} (hW : WellP d es ls) {u : Uv} (hu : u ∈ unitsL es ls) : (∀ x ∈ u.uk.evs, x < es.length) ∧ ∀ g, u.uk = .leg g → g ∈ ls.map Lgr.lg := by
  unfold unitsL at hu
  rcases List.mem_append.1 hu with h | h
  · obtain ⟨g, hg, rfl⟩ := List.mem_map.1 h
    obtain ⟨a1, a2, a3, a4, a5, a6⟩ := hW.leg g hg
    refine ⟨fun x hx => ?_, fun g' e => ?_⟩
    · have e2 : x = g.src.toNat ∨ x = g.dst.toNat := by simpa [legUv, Uv.uk, UK.evs, Lgr.lg] using hx
      omega
    · have e' : UK.leg g.lg = UK.leg g' := e
      injection e' with e'
      rw [← e']; exact List.mem_map.2 ⟨g, hg, rfl⟩
  · unfold onesL at h
    obtain ⟨i, hi, rfl⟩ := List.mem_map.1 h
    have hi' : i < es.length := by simpa using (List.mem_filter.1 hi).1
    refine ⟨fun x hx => ?_, fun g' e => by have e' : UK.one i = UK.leg g' := e; cases e'⟩
    have e1 : x = i := by simpa [Uv.uk, UK.evs] using hx
    omega
section
variable {d : List (List Int)} {es : List Evt} {ls : List Lgr} {M : List Nat}
theorem sorted_perm (h : M.Perm (List.range (unitsL es ls).length)) : (M.map (uvF (unitsL es ls))).Perm (unitsL es ls) := by
  have := h.map (uvF (unitsL es ls))
  rwa [range_map] at this
theorem sorted_units (hW : WellP d es ls) (h : M.Perm (List.range (unitsL es ls).length)) : Units es.length (ls.map Lgr.lg) ((M.map (uvF (unitsL es ls))).map Uv.uk) := by
  refine ⟨fun u hu => ?_, ?_⟩
  · obtain ⟨v, hv, rfl⟩ := List.mem_map.1 hu
    exact unit_evs hW (sorted_mem h v hv)
  · have h1 : (((M.map (uvF (unitsL es ls))).map Uv.uk).flatMap UK.evs).Nodup := by
      rw [List.flatMap_map]
      exact ((sorted_perm h).flatMap_right _).nodup_iff.2 (units_apart hW)
    exact nodup_apart _ h1
theorem sorted_cover (hW : WellP d es ls) (hL : ∀ g ∈ ls, legOk d es g) (h : M.Perm (List.range (unitsL es ls).length)) : Cover (dst d) (evF es) es.length (ls.map Lgr.lg) ((M.map (uvF (unitsL es ls))).map Uv.uk) := by
  have hin : ∀ u ∈ unitsL es ls, ∃ i : Nat, ((M.map (uvF (unitsL es ls))).map Uv.uk)[i]? = some u.uk := fun u hu => by
    have h1 := (sorted_perm h).mem_iff.2 hu
    exact List.getElem?_of_mem (List.mem_map.2 ⟨u, h1, rfl⟩)
  refine ⟨fun x hx => ?_, fun g hg => ?_, fun g hg => ?_, fun x hx => ?_⟩
  · cases hl : inL ls x with
    | false =>
      obtain ⟨i, hi⟩ := hin (.one x (evAt es x)) (List.mem_append.2 (.inr (List.mem_map.2 ⟨x, List.mem_filter.2 ⟨by simpa using hx, by rw [hl]; rfl⟩, rfl⟩)))
      exact ⟨i, _, hi, by simp [Uv.uk, UK.evs]⟩
    | true =>
      unfold inL at hl
      obtain ⟨g, hg, hgx⟩ := List.any_eq_true.1 hl
      obtain ⟨i, hi⟩ := hin (legUv es g) (List.mem_append.2 (.inl (List.mem_map.2 ⟨g, hg, rfl⟩)))
      obtain ⟨a1, a2, a3, a4, a5, a6⟩ := hW.leg g hg
      refine ⟨i, _, hi, ?_⟩
      simp at hgx
      simp [legUv, Uv.uk, UK.evs, Lgr.lg]
      omega
  · obtain ⟨g', hg', rfl⟩ := List.mem_map.1 hg
    exact hin (legUv es g') (List.mem_append.2 (.inl (List.mem_map.2 ⟨g', hg', rfl⟩)))
  · obtain ⟨g', hg', rfl⟩ := List.mem_map.1 hg
    obtain ⟨a1, a2, a3, a4, a5, a6⟩ := hW.leg g' hg'
    have h1 := hL g' hg'
    unfold legOk at h1
    have h2 := hW.dist.rng (evAt es g'.src.toNat).office.toNat (evAt es g'.dst.toNat).office.toNat
    have e1 := evF_evAt (es := es) (i := g'.src.toNat) (by omega)
    have e2 := evF_evAt (es := es) (i := g'.dst.toNat) (by omega)
    show 0 ≤ dst d (evF es g'.src.toNat).office (evF es g'.dst.toNat).office ∧ dst d (evF es g'.src.toNat).office (evF es g'.dst.toNat).office ≤ g'.gap
    rw [e1, e2]
    show 0 ≤ dst d (evAt es g'.src.toNat).office.toNat (evAt es g'.dst.toNat).office.toNat ∧ dst d (evAt es g'.src.toNat).office.toNat (evAt es g'.dst.toNat).office.toNat ≤ g'.gap
    omega
  · rw [evF_evAt hx]
    have h1 := evAt_office hW hx
    exact hW.dist.zero _ (by show (evAt es x).office.toNat < _; omega)
theorem sorted_un (hW : WellP d es ls) (h : M.Perm (List.range (unitsL es ls).length)) : ∀ i < (M.map (uvF (unitsL es ls))).length, unF (M.map (uvF (unitsL es ls))) i = unsF (evF es) ((M.map (uvF (unitsL es ls))).map Uv.uk) i := by
  intro i hi
  have hx : (M.map (uvF (unitsL es ls)))[i]? = some (M.map (uvF (unitsL es ls)))[i] := List.getElem?_eq_getElem hi
  rw [unF_at hx, un_uk hW (sorted_mem h _ (List.getElem_mem hi))]
  unfold unsF
  rw [List.getElem?_map, hx]
  rfl
end
theorem posB_congr {D : Nat → Nat → Int} {us us' : Nat → Un} {b : Nat → Int} {left : List Nat} (h : ∀ u ∈ left, us u = us' u) (hp : PosB D us b left) : PosB D us' b left := by
  refine ⟨fun u hu => by rw [← h u hu]; exact hp.1 u hu, fun u hu v hv hne => ?_⟩
  have := hp.2 u hu v hv hne
  unfold bef at *
  rw [← h u hu, ← h v hv]
  exact this
theorem good_congr {D : Nat → Nat → Int} {us us' : Nat → Un} {t : Int} {left : List Nat} (h : ∀ u ∈ left, us u = us' u) (hg : Good D us none t left) : Good D us' none t left := by
  obtain ⟨b, h1, h2⟩ := hg
  refine ⟨b, posB_congr h h1, fun v hv => ?_⟩
  have := h2 v hv
  exact this
theorem fitR_complete {d : List (List Int)} {es : List Evt} {ls : List Lgr} {t : Nat → Int} (hW : WellP d es ls) (h : HoldsP (dst d) (evF es) es.length (ls.map Lgr.lg) t)
    (hM : ∃ M : List Nat, M.Perm (List.range (unitsL es ls).length) ∧ Srt (keyF (unitsL es ls)) id M) : (fitR d es ls).isSome = true := by
  obtain ⟨M, pM, sM⟩ := hM
  have hU := sorted_units hW pM
  have hsus : susL es ls = M.map (uvF (unitsL es ls)) := by unfold susL; rw [sortM_eq pM sM]
  have hun := sorted_un hW pM
  have hlen : ((M.map (uvF (unitsL es ls))).map Uv.uk).length = (M.map (uvF (unitsL es ls))).length := List.length_map _
  have hL : ∀ g ∈ ls, legOk d es g := fun g hg => by
    have h1 := leg_of_holds h g.lg (List.mem_map.2 ⟨g, hg, rfl⟩)
    obtain ⟨a1, a2, a3, a4, a5, a6⟩ := hW.leg g hg
    have e1 := evF_evAt (es := es) (i := g.src.toNat) (by omega)
    have e2 := evF_evAt (es := es) (i := g.dst.toNat) (by omega)
    have h1' : 0 ≤ dst d (evF es g.src.toNat).office (evF es g.dst.toNat).office ∧ dst d (evF es g.src.toNat).office (evF es g.dst.toNat).office ≤ g.gap := h1
    rw [e1, e2] at h1'
    have h2 : 0 ≤ dst d (evAt es g.src.toNat).office.toNat (evAt es g.dst.toNat).office.toNat ∧ dst d (evAt es g.src.toNat).office.toNat (evAt es g.dst.toNat).office.toNat ≤ g.gap := h1'
    unfold legOk
    omega
  have hwin : ∀ u ∈ unitsL es ls, winOk u := fun u hu => by
    have hm := (sorted_perm pM).mem_iff.2 hu
    obtain ⟨i, hi⟩ := List.getElem?_of_mem hm
    have hil := (List.getElem?_eq_some_iff.1 hi).1
    have h1 := win_of_holds hU h i (by rw [hlen]; exact hil)
    rw [← hun i hil, unF_at hi] at h1
    exact h1
  have hgood := holds_good hU h
  rw [hlen] at hgood
  have hg2 := good_congr (us' := unF (M.map (uvF (unitsL es ls)))) (fun u hu => (hun u (by simpa using hu)).symm) hgood
  have hUn := sorted_unOk hW hL pM
  have hpre : precP d (M.map (uvF (unitsL es ls))) := fun i j h1 h2 => by
    obtain ⟨b, hb⟩ := good_pos hg2
    exact fits_of_pos hUn hb (by omega) h2 (by omega)
  rw [fitR_yes ⟨hW, hL, hwin, by rw [hsus]; exact hpre⟩, Option.isSome_map, hsus]
  exact fitSeq_complete hW.dist.Tri hUn hg2
end Go.Proofs.Ytaopfoicdjejnaa
