/- Plain: events and legs as units; possible times make a good start. -/
import Derived.Test.YtaopfoicdjejnaaO5
set_option linter.unusedVariables false
set_option linter.unusedSimpArgs false
namespace Go.Proofs.Ytaopfoicdjejnaa

structure Ev where
  office : Nat
  low : Int
  high : Int
structure Lg where
  src : Nat
  dst : Nat
  gap : Int
/-- A single event, or a leg. -/
inductive UK where
  | one (i : Nat)
  | leg (g : Lg)
def clampLo (e : Ev) : Int := min (max e.low 0) 1000001
def clampHi (e : Ev) : Int := max (min e.high 1000000) (-1)
def UK.un (ev : Nat → Ev) : UK → Un
  | .one i => ⟨clampLo (ev i), clampHi (ev i), (ev i).office, (ev i).office, 0⟩
  | .leg g => ⟨max (clampLo (ev g.src)) (clampLo (ev g.dst) - g.gap), min (clampHi (ev g.src)) (clampHi (ev g.dst) - g.gap), (ev g.src).office, (ev g.dst).office, g.gap⟩
def UK.first : UK → Nat
  | .one i => i
  | .leg g => g.src
def UK.evs : UK → List Nat
  | .one i => [i]
  | .leg g => [g.src, g.dst]
/-- One event is before another one, with time for the way. -/
def befE (D : Nat → Nat → Int) (ev : Nat → Ev) (t : Nat → Int) (i j : Nat) : Prop := 0 ≤ D (ev i).office (ev j).office ∧ D (ev i).office (ev j).office ≤ t j - t i
/-- Times of events that are possible. -/
structure HoldsP (D : Nat → Nat → Int) (ev : Nat → Ev) (n : Nat) (legs : List Lg) (t : Nat → Int) : Prop where
  win : ∀ i < n, max (ev i).low 0 ≤ t i ∧ t i ≤ min (ev i).high 1000000
  two : ∀ i < n, ∀ j < n, i ≠ j → befE D ev t i j ∨ befE D ev t j i
  leg : ∀ g ∈ legs, t g.dst - t g.src = g.gap ∧ befE D ev t g.src g.dst
  out : ∀ g ∈ legs, ∀ k < n, k ≠ g.src → k ≠ g.dst → befE D ev t k g.src ∨ befE D ev t g.dst k
  legs : ∀ a ∈ legs, ∀ b ∈ legs, a.src ≠ b.src → befE D ev t a.dst b.src ∨ befE D ev t b.dst a.src
/-- The units of some events and legs, in whatever order. -/
structure Units (n : Nat) (legs : List Lg) (us : List UK) : Prop where
  mem : ∀ u ∈ us, (∀ x ∈ u.evs, x < n) ∧ ∀ g, u = .leg g → g ∈ legs
  apart : ∀ (i j : Nat) (u v : UK), us[i]? = some u → us[j]? = some v → i ≠ j → ∀ x ∈ u.evs, x ∉ v.evs
def unsF (ev : Nat → Ev) (us : List UK) (i : Nat) : Un := ((us[i]?).getD (.one 0)).un ev
theorem win_clamp {e : Ev} {t : Int} (h : max e.low 0 ≤ t ∧ t ≤ min e.high 1000000) : clampLo e ≤ t ∧ t ≤ clampHi e := by
  unfold clampLo clampHi; omega
theorem holds_good {D : Nat → Nat → Int} {ev : Nat → Ev} {n : Nat} {legs : List Lg} {us : List UK} {t : Nat → Int} (hU : Units n legs us) (h : HoldsP D ev n legs t) : Good D (unsF ev us) none 0 (List.range us.length) := by
  refine ⟨fun i => t ((us[i]?).getD (.one 0)).first, ⟨fun i hi => ?_, fun i hi j hj hij => ?_⟩, fun i hi => ?_⟩
  · have hil : i < us.length := by simpa using hi
    obtain ⟨u, hu⟩ : ∃ u, us[i]? = some u := ⟨us[i], List.getElem?_eq_getElem hil⟩
    obtain ⟨m1, m2⟩ := hU.mem u (List.mem_of_getElem? hu)
    unfold unsF
    simp only [hu, Option.getD_some]
    cases u with
    | one k => exact win_clamp (h.win k (m1 k (by simp [UK.evs])))
    | leg g =>
      have a1 := win_clamp (h.win g.src (m1 _ (by simp [UK.evs])))
      have a2 := win_clamp (h.win g.dst (m1 _ (by simp [UK.evs])))
      have a3 := (h.leg g (m2 g rfl)).1
      simp only [UK.un, UK.first]
      omega
  · have hil : i < us.length := by simpa using hi
    have hjl : j < us.length := by simpa using hj
    obtain ⟨u, hu⟩ : ∃ u, us[i]? = some u := ⟨us[i], List.getElem?_eq_getElem hil⟩
    obtain ⟨v, hv⟩ : ∃ v, us[j]? = some v := ⟨us[j], List.getElem?_eq_getElem hjl⟩
    obtain ⟨m1, m2⟩ := hU.mem u (List.mem_of_getElem? hu)
    obtain ⟨k1, k2⟩ := hU.mem v (List.mem_of_getElem? hv)
    have hap := hU.apart i j u v hu hv hij
    unfold bef unsF
    simp only [hu, hv, Option.getD_some]
    cases u with
    | one x =>
      cases v with
      | one y =>
        have hne : x ≠ y := fun e => hap x (by simp [UK.evs]) (by simp [UK.evs, e])
        rcases h.two x (m1 x (by simp [UK.evs])) y (k1 y (by simp [UK.evs])) hne with ⟨b1, b2⟩ | ⟨b1, b2⟩
        · exact .inl ⟨b1, by simp only [UK.un, UK.first]; omega⟩
        · exact .inr ⟨b1, by simp only [UK.un, UK.first]; omega⟩
      | leg g =>
        have hn1 : x ≠ g.src := fun e => hap x (by simp [UK.evs]) (by simp [UK.evs, e])
        have hn2 : x ≠ g.dst := fun e => hap x (by simp [UK.evs]) (by simp [UK.evs, e])
        have hg := (h.leg g (k2 g rfl)).1
        rcases h.out g (k2 g rfl) x (m1 x (by simp [UK.evs])) hn1 hn2 with ⟨b1, b2⟩ | ⟨b1, b2⟩
        · exact .inl ⟨b1, by simp only [UK.un, UK.first]; omega⟩
        · exact .inr ⟨b1, by simp only [UK.un, UK.first]; omega⟩
    | leg g =>
      have hg := (h.leg g (m2 g rfl)).1
      cases v with
      | one y =>
        have hn1 : y ≠ g.src := fun e => hap g.src (by simp [UK.evs]) (by simp [UK.evs, e])
        have hn2 : y ≠ g.dst := fun e => hap g.dst (by simp [UK.evs]) (by simp [UK.evs, e])
        rcases h.out g (m2 g rfl) y (k1 y (by simp [UK.evs])) hn1 hn2 with ⟨b1, b2⟩ | ⟨b1, b2⟩
        · exact .inr ⟨b1, by simp only [UK.un, UK.first]; omega⟩
        · exact .inl ⟨b1, by simp only [UK.un, UK.first]; omega⟩
      | leg g' =>
        have hg' := (h.leg g' (k2 g' rfl)).1
        have hne : g.src ≠ g'.src := fun e => hap g.src (by simp [UK.evs]) (by simp [UK.evs, e])
        rcases h.legs g (m2 g rfl) g' (k2 g' rfl) hne with ⟨b1, b2⟩ | ⟨b1, b2⟩
        · exact .inl ⟨b1, by simp only [UK.un, UK.first]; omega⟩
        · exact .inr ⟨b1, by simp only [UK.un, UK.first]; omega⟩
  · have hil : i < us.length := by simpa using hi
    obtain ⟨u, hu⟩ : ∃ u, us[i]? = some u := ⟨us[i], List.getElem?_eq_getElem hil⟩
    obtain ⟨m1, m2⟩ := hU.mem u (List.mem_of_getElem? hu)
    simp only [hu, Option.getD_some]
    have hw : u.first < n := by
      cases u with
      | one x => exact m1 x (by simp [UK.evs])
      | leg g => exact m1 g.src (by simp [UK.evs])
    have := h.win _ hw
    refine ⟨Int.le_refl _, ?_⟩
    show (0 : Int) + 0 ≤ _
    omega
end Go.Proofs.Ytaopfoicdjejnaa
