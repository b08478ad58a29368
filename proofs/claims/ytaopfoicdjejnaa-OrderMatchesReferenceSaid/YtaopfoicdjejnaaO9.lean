/- Plain: where the code says no before it looks for a sequence, no times are possible. -/
import Derived.Test.YtaopfoicdjejnaaO8
set_option linter.unusedVariables false
set_option linter.unusedSimpArgs false
namespace Go.Proofs.Ytaopfoicdjejnaa

/-- Of two units that are possible together one can be before the other. -/
theorem fits_of_pos {D : Nat → Nat → Int} {us : Nat → Un} {b : Nat → Int} {n i j : Nat} (hU : ∀ u < n, UnOk D us u) (hP : PosB D us b (List.range n)) (hi : i < n) (hj : j < n) (hij : i ≠ j) : fitsF D us i j = true ∨ fitsF D us j i = true := by
  have key : ∀ u v, u < n → v < n → bef D us b u v → fitsF D us u v = true := fun u v hu hv h => by
    unfold fitsF
    rw [decide_eq_true_eq]
    have h1 := hP.1 u (by simpa using hu)
    have h2 := hP.1 v (by simpa using hv)
    obtain ⟨l1, l2⟩ := h
    exact (begin_le (off := some (us u).exit) (hU v hv) l1 (by show _ + D _ _ ≤ b v; omega) h2.1 h2.2).1
  rcases hP.2 i (by simpa using hi) j (by simpa using hj) hij with h | h
  · exact .inl (key i j hi hj h)
  · exact .inr (key j i hj hi h)
/-- A leg that is possible can be gone in its time. -/
theorem leg_of_holds {D : Nat → Nat → Int} {ev : Nat → Ev} {n : Nat} {legs : List Lg} {t : Nat → Int} (h : HoldsP D ev n legs t) : ∀ g ∈ legs, 0 ≤ D (ev g.src).office (ev g.dst).office ∧ D (ev g.src).office (ev g.dst).office ≤ g.gap := fun g hg => by
  obtain ⟨h1, h2, h3⟩ := h.leg g hg
  exact ⟨h2, by omega⟩
/-- A unit that is possible has a minute in its window. -/
theorem win_of_holds {D : Nat → Nat → Int} {ev : Nat → Ev} {n : Nat} {legs : List Lg} {us : List UK} {t : Nat → Int} (hU : Units n legs us) (h : HoldsP D ev n legs t) : ∀ i < us.length, (unsF ev us i).low ≤ (unsF ev us i).high := fun i hi => by
  obtain ⟨b, hP, _⟩ := holds_good hU h
  have := hP.1 i (by simpa using hi)
  omega
theorem good_pos {D : Nat → Nat → Int} {us : Nat → Un} {n : Nat} (h : Good D us none 0 (List.range n)) : ∃ b, PosB D us b (List.range n) := by
  obtain ⟨b, h1, _⟩ := h
  exact ⟨b, h1⟩
/-- The units are as they have to be for the search. -/
theorem unOk_of {D : Nat → Nat → Int} {ev : Nat → Ev} {n : Nat} {legs : List Lg} {us : List UK} (hU : Units n legs us) (hC : Cover D ev n legs us) : ∀ i < us.length, UnOk D (unsF ev us) i := fun i hi => by
  obtain ⟨u, hu⟩ : ∃ u, us[i]? = some u := ⟨us[i], List.getElem?_eq_getElem hi⟩
  obtain ⟨m1, m2⟩ := hU.mem u (List.mem_of_getElem? hu)
  unfold UnOk unsF
  simp only [hu, Option.getD_some]
  cases u with
  | one k =>
    have hz := hC.zero k (m1 k (by simp [UK.evs]))
    simp only [UK.un]
    unfold clampLo
    omega
  | leg g =>
    obtain ⟨o1, o2⟩ := hC.ok g (m2 g rfl)
    simp only [UK.un]
    unfold clampLo
    omega
/-- Times are possible exactly if a sequence is found. -/
theorem fit_iff {D : Nat → Nat → Int} {ev : Nat → Ev} {n : Nat} {legs : List Lg} {us : List UK} (hT : Tri D) (hU : Units n legs us) (hC : Cover D ev n legs us) (hw : ∀ i < us.length, (unsF ev us i).low ≤ (unsF ev us i).high)
    (hsay : ∀ b : Nat → Int, ∃ t : Nat → Int, ∀ (i : Nat) (u : UK), us[i]? = some u → u.says t (b i)) : (∃ t, HoldsP D ev n legs t) ↔ (fitSeq D (unsF ev us) us.length).isSome = true := by
  constructor
  · rintro ⟨t, h⟩
    exact fitSeq_complete hT (unOk_of hU hC) (holds_good hU h)
  · intro h
    obtain ⟨l, hl⟩ := Option.isSome_iff_exists.1 h
    obtain ⟨h1, h2, h3, h4⟩ := fitSeq_sound hT (unOk_of hU hC) hl
    obtain ⟨r, hr⟩ := Option.isSome_iff_exists.1 h4
    have hP := run_pos hT (fun u hu => ⟨unOk_of hU hC u hu, hw u hu⟩) h2 h1 h3 hr
    obtain ⟨t, ht⟩ := hsay (beginsF r)
    exact ⟨t, pos_holds hT hU hC hP ht⟩
end Go.Proofs.Ytaopfoicdjejnaa
