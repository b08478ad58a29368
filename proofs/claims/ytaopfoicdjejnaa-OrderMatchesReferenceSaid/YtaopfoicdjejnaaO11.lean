/- Plain: events at one office; two events. -/
import Derived.Test.YtaopfoicdjejnaaO10
set_option linter.unusedVariables false
set_option linter.unusedSimpArgs false
namespace Go.Proofs.Ytaopfoicdjejnaa

def hasMin (e : Ev) : Prop := e.low ≤ e.high ∧ e.low ≤ 1000000 ∧ 0 ≤ e.high
theorem hasMin_of {e : Ev} {t : Int} (h : max e.low 0 ≤ t ∧ t ≤ min e.high 1000000) : hasMin e := by unfold hasMin; omega
theorem one_office {D : Nat → Nat → Int} {ev : Nat → Ev} {n o : Nat} (ho : ∀ i < n, (ev i).office = o) (h0 : D o o = 0) : (∃ t, HoldsP D ev n [] t) ↔ ∀ i < n, hasMin (ev i) := by
  constructor
  · rintro ⟨t, h⟩ i hi
    exact hasMin_of (h.win i hi)
  · intro h
    refine ⟨fun i => max (ev i).low 0, ⟨fun i hi => ?_, fun i hi j hj _ => ?_, fun g hg => by simp at hg, fun g hg => by simp at hg, fun g hg => by simp at hg⟩⟩
    · have := h i hi
      unfold hasMin at this
      show max (ev i).low 0 ≤ max (ev i).low 0 ∧ max (ev i).low 0 ≤ min (ev i).high 1000000
      omega
    · unfold befE
      rw [ho i hi, ho j hj, h0]
      show (0 ≤ (0 : Int) ∧ (0 : Int) ≤ max (ev j).low 0 - max (ev i).low 0) ∨ (0 ≤ (0 : Int) ∧ (0 : Int) ≤ max (ev i).low 0 - max (ev j).low 0)
      omega
/-- There is time from the first minute of one to the last of the other. -/
def enoughP (D : Nat → Nat → Int) (a b : Ev) : Prop := 0 ≤ D a.office b.office ∧ D a.office b.office ≤ min b.high 1000000 - max a.low 0
theorem two_events {D : Nat → Nat → Int} {ev : Nat → Ev} : (∃ t, HoldsP D ev 2 [] t) ↔ hasMin (ev 0) ∧ hasMin (ev 1) ∧ (enoughP D (ev 0) (ev 1) ∨ enoughP D (ev 1) (ev 0)) := by
  constructor
  · rintro ⟨t, h⟩
    have w0 := h.win 0 (by omega)
    have w1 := h.win 1 (by omega)
    refine ⟨hasMin_of w0, hasMin_of w1, ?_⟩
    rcases h.two 0 (by omega) 1 (by omega) (by omega) with ⟨b1, b2⟩ | ⟨b1, b2⟩
    · exact .inl ⟨b1, by omega⟩
    · exact .inr ⟨b1, by omega⟩
  · rintro ⟨m0, m1, h⟩
    have key : ∀ (x y : Nat) (t : Nat → Int), x < 2 → y < 2 → x ≠ y → (max (ev x).low 0 ≤ t x ∧ t x ≤ min (ev x).high 1000000) → (max (ev y).low 0 ≤ t y ∧ t y ≤ min (ev y).high 1000000) → befE D ev t x y → HoldsP D ev 2 [] t := by
      intro x y t hx hy hne w1 w2 hb
      refine ⟨fun i hi => ?_, fun i hi j hj hij => ?_, fun g hg => by simp at hg, fun g hg => by simp at hg, fun g hg => by simp at hg⟩
      · rcases (by omega : i = x ∨ i = y) with rfl | rfl
        · exact w1
        · exact w2
      · rcases (by omega : (i = x ∧ j = y) ∨ (i = y ∧ j = x)) with ⟨rfl, rfl⟩ | ⟨rfl, rfl⟩
        · exact .inl hb
        · exact .inr hb
    unfold hasMin at m0 m1
    rcases h with ⟨e1, e2⟩ | ⟨e1, e2⟩
    · refine ⟨fun i => if i = 0 then max (ev 0).low 0 else max (max (ev 1).low 0) (max (ev 0).low 0 + D (ev 0).office (ev 1).office), key 0 1 _ (by omega) (by omega) (by omega) ?_ ?_ ⟨e1, ?_⟩⟩
      · simp only [if_true]; omega
      · simp only [show ¬ (1 = 0) by omega, if_false]; omega
      · simp only [if_true, show ¬ (1 = 0) by omega, if_false]; omega
    · refine ⟨fun i => if i = 1 then max (ev 1).low 0 else max (max (ev 0).low 0) (max (ev 1).low 0 + D (ev 1).office (ev 0).office), key 1 0 _ (by omega) (by omega) (by omega) ?_ ?_ ⟨e1, ?_⟩⟩
      · simp only [if_true]; omega
      · simp only [show ¬ (0 = 1) by omega, if_false]; omega
      · simp only [if_true, show ¬ (0 = 1) by omega, if_false]; omega
end Go.Proofs.Ytaopfoicdjejnaa
