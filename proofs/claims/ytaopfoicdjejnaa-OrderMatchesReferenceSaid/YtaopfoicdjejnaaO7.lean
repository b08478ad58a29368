/- Plain: begins of the units that are possible give possible times of the events. -/
import Derived.Test.YtaopfoicdjejnaaO6
set_option linter.unusedVariables false
set_option linter.unusedSimpArgs false
namespace Go.Proofs.Ytaopfoicdjejnaa

/-- What a unit writes if it begins at a time. -/
def UK.says (t : Nat → Int) (b : Int) : UK → Prop
  | .one i => t i = b
  | .leg g => t g.src = b ∧ t g.dst = b + g.gap
/-- Each leg is a unit, and each event is in one; each leg can be gone in its time. -/
structure Cover (D : Nat → Nat → Int) (ev : Nat → Ev) (n : Nat) (legs : List Lg) (us : List UK) : Prop where
  evs : ∀ x < n, ∃ (i : Nat) (u : UK), us[i]? = some u ∧ x ∈ u.evs
  each : ∀ g ∈ legs, ∃ i : Nat, us[i]? = some (.leg g)
  ok : ∀ g ∈ legs, 0 ≤ D (ev g.src).office (ev g.dst).office ∧ D (ev g.src).office (ev g.dst).office ≤ g.gap
  zero : ∀ x < n, D (ev x).office (ev x).office = 0
theorem clamp_win {e : Ev} {t : Int} (h : clampLo e ≤ t ∧ t ≤ clampHi e) : max e.low 0 ≤ t ∧ t ≤ min e.high 1000000 := by
  unfold clampLo clampHi at h; omega
/-- From the end of one unit to the begin of another, and so from any event of the one to any of the other. -/
theorem bef_events {D : Nat → Nat → Int} {ev : Nat → Ev} {n : Nat} {legs : List Lg} {us : List UK} {t b : Nat → Int} (hT : Tri D) (hU : Units n legs us) (hC : Cover D ev n legs us) {i j : Nat} {u v : UK} (hu : us[i]? = some u) (hv : us[j]? = some v)
    (su : u.says t (b i)) (sv : v.says t (b j)) (h : bef D (unsF ev us) b i j) {x y : Nat} (hx : x ∈ u.evs) (hy : y ∈ v.evs) : befE D ev t x y := by
  unfold bef unsF at h
  simp only [hu, hv, Option.getD_some] at h
  obtain ⟨m1, m2⟩ := hU.mem u (List.mem_of_getElem? hu)
  obtain ⟨k1, k2⟩ := hU.mem v (List.mem_of_getElem? hv)
  -- from x to the end of u
  have hA : 0 ≤ D (ev x).office (u.un ev).exit ∧ t x + D (ev x).office (u.un ev).exit ≤ b i + (u.un ev).span := by
    cases u with
    | one k =>
      simp only [UK.evs, List.mem_singleton] at hx
      subst hx
      have hz := hC.zero x (m1 x (by simp [UK.evs]))
      simp only [UK.un, UK.says] at *
      omega
    | leg g =>
      obtain ⟨o1, o2⟩ := hC.ok g (m2 g rfl)
      simp only [UK.evs, List.mem_cons, List.not_mem_nil, or_false] at hx
      simp only [UK.un, UK.says] at *
      rcases hx with rfl | rfl
      · omega
      · have hz := hC.zero g.dst (m1 _ (by simp [UK.evs]))
        omega
  have hB : 0 ≤ D (v.un ev).entry (ev y).office ∧ b j + D (v.un ev).entry (ev y).office ≤ t y := by
    cases v with
    | one k =>
      simp only [UK.evs, List.mem_singleton] at hy
      subst hy
      have hz := hC.zero y (k1 y (by simp [UK.evs]))
      simp only [UK.un, UK.says] at *
      omega
    | leg g =>
      obtain ⟨o1, o2⟩ := hC.ok g (k2 g rfl)
      simp only [UK.evs, List.mem_cons, List.not_mem_nil, or_false] at hy
      simp only [UK.un, UK.says] at *
      rcases hy with rfl | rfl
      · have hz := hC.zero g.src (k1 _ (by simp [UK.evs]))
        omega
      · omega
  obtain ⟨t1, t2⟩ := hT (ev x).office (v.un ev).entry (u.un ev).exit hA.1 h.1
  obtain ⟨s1, s2⟩ := hT (ev x).office (ev y).office (v.un ev).entry t1 hB.1
  exact ⟨s1, by omega⟩
theorem pos_holds {D : Nat → Nat → Int} {ev : Nat → Ev} {n : Nat} {legs : List Lg} {us : List UK} {t b : Nat → Int} (hT : Tri D) (hU : Units n legs us) (hC : Cover D ev n legs us)
    (hP : PosB D (unsF ev us) b (List.range us.length)) (hs : ∀ (i : Nat) (u : UK), us[i]? = some u → u.says t (b i)) : HoldsP D ev n legs t := by
  have hlt : ∀ {i : Nat} {u : UK}, us[i]? = some u → i ∈ List.range us.length := fun h => by simpa using (List.getElem?_eq_some_iff.1 h).1
  have hpair : ∀ (i j : Nat) (u v : UK), us[i]? = some u → us[j]? = some v → i ≠ j → (∀ x ∈ u.evs, ∀ y ∈ v.evs, befE D ev t x y) ∨ (∀ x ∈ u.evs, ∀ y ∈ v.evs, befE D ev t y x) := fun i j u v hu hv hij => by
    rcases hP.2 i (hlt hu) j (hlt hv) hij with h | h
    · exact .inl fun x hx y hy => bef_events hT hU hC hu hv (hs i u hu) (hs j v hv) h hx hy
    · exact .inr fun x hx y hy => bef_events hT hU hC hv hu (hs j v hv) (hs i u hu) h hy hx
  have hself : ∀ (g : Lg) (i : Nat), us[i]? = some (.leg g) → t g.dst - t g.src = g.gap ∧ befE D ev t g.src g.dst := fun g i hi => by
    have h1 := hs i _ hi
    obtain ⟨o1, o2⟩ := hC.ok g ((hU.mem _ (List.mem_of_getElem? hi)).2 g rfl)
    simp only [UK.says] at h1
    exact ⟨by omega, o1, by omega⟩
  refine ⟨fun x hx => ?_, fun x hx y hy hne => ?_, fun g hg => ?_, fun g hg k hk h1 h2 => ?_, fun a ha c hc hne => ?_⟩
  · obtain ⟨i, u, hu, hxu⟩ := hC.evs x hx
    have hw := hP.1 i (hlt hu)
    have h1 := hs i u hu
    unfold unsF at hw
    simp only [hu, Option.getD_some] at hw
    apply clamp_win
    cases u with
    | one k =>
      simp only [UK.evs, List.mem_singleton] at hxu
      subst hxu
      simp only [UK.un, UK.says] at *
      omega
    | leg g =>
      simp only [UK.evs, List.mem_cons, List.not_mem_nil, or_false] at hxu
      simp only [UK.un, UK.says] at *
      rcases hxu with rfl | rfl <;> omega
  · obtain ⟨i, u, hu, hxu⟩ := hC.evs x hx
    obtain ⟨j, v, hv, hyv⟩ := hC.evs y hy
    by_cases hij : i = j
    · subst hij
      rw [hu] at hv
      injection hv with hv
      subst hv
      cases u with
      | one k =>
        simp only [UK.evs, List.mem_singleton] at hxu hyv
        exact absurd (hxu.trans hyv.symm) hne
      | leg g =>
        have h1 := (hself g i hu).2
        simp only [UK.evs, List.mem_cons, List.not_mem_nil, or_false] at hxu hyv
        rcases hxu with rfl | rfl <;> rcases hyv with rfl | rfl
        · exact absurd rfl hne
        · exact .inl h1
        · exact .inr h1
        · exact absurd rfl hne
    · rcases hpair i j u v hu hv hij with h | h
      · exact .inl (h x hxu y hyv)
      · exact .inr (h x hxu y hyv)
  · obtain ⟨i, hi⟩ := hC.each g hg
    exact hself g i hi
  · obtain ⟨i, hi⟩ := hC.each g hg
    obtain ⟨j, v, hv, hkv⟩ := hC.evs k hk
    have hij : j ≠ i := by
      rintro rfl
      rw [hi] at hv
      injection hv with hv
      subst hv
      simp only [UK.evs, List.mem_cons, List.not_mem_nil, or_false] at hkv
      rcases hkv with h | h
      · exact h1 h
      · exact h2 h
    rcases hpair j i v _ hv hi hij with h | h
    · exact .inl (h k hkv g.src (by simp [UK.evs]))
    · exact .inr (h k hkv g.dst (by simp [UK.evs]))
  · obtain ⟨i, hi⟩ := hC.each a ha
    obtain ⟨j, hj⟩ := hC.each c hc
    have hij : i ≠ j := by
      rintro rfl
      rw [hi] at hj
      injection hj with hj
      injection hj with hj
      exact hne (by rw [hj])
    rcases hpair i j _ _ hi hj hij with h | h
    · exact .inl (h a.dst (by simp [UK.evs]) c.src (by simp [UK.evs]))
    · exact .inr (h a.src (by simp [UK.evs]) c.dst (by simp [UK.evs]))
/-- The begins along a run. -/
def beginsF (r : List (Nat × Int)) (i : Nat) : Int := ((r.find? (fun p => p.1 == i)).map (·.2)).getD 0
theorem begins_mem {r : List (Nat × Int)} (hn : (r.map (·.1)).Nodup) {p : Nat × Int} (hp : p ∈ r) : beginsF r p.1 = p.2 := by
  induction r with
  | nil => simp at hp
  | cons q t ih =>
    rw [List.map_cons] at hn
    have h2 := List.nodup_cons.1 hn
    unfold beginsF
    rw [List.find?_cons]
    rcases List.mem_cons.1 hp with rfl | hp
    · simp
    · have hne : (q.1 == p.1) = false := by
        rw [beq_eq_false_iff_ne]; intro e
        exact h2.1 (by rw [e]; exact List.mem_map.2 ⟨p, hp, rfl⟩)
      rw [hne]
      exact ih h2.2 hp
end Go.Proofs.Ytaopfoicdjejnaa
