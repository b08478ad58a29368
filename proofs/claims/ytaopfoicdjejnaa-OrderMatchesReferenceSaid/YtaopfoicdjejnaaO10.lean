/- Plain: times moved, and turned around. -/
import Derived.Test.YtaopfoicdjejnaaO9
set_option linter.unusedVariables false
set_option linter.unusedSimpArgs false
namespace Go.Proofs.Ytaopfoicdjejnaa

def moveE (k : Int) (e : Ev) : Ev := ⟨e.office, e.low + k, e.high + k⟩
def turnE (e : Ev) : Ev := ⟨e.office, 1000000 - e.high, 1000000 - e.low⟩
def turnL (g : Lg) : Lg := ⟨g.dst, g.src, g.gap⟩
theorem befE_move {D : Nat → Nat → Int} {ev : Nat → Ev} {t : Nat → Int} {k : Int} {i j : Nat} (h : befE D ev t i j) : befE D (fun i => moveE k (ev i)) (fun i => t i + k) i j := by
  obtain ⟨h1, h2⟩ := h
  exact ⟨h1, by show D (ev i).office (ev j).office ≤ (t j + k) - (t i + k); omega⟩
theorem holds_move {D : Nat → Nat → Int} {ev : Nat → Ev} {n : Nat} {legs : List Lg} {t : Nat → Int} {k : Int} (h : HoldsP D ev n legs t) (hk : ∀ i < n, 0 ≤ t i + k ∧ t i + k ≤ 1000000) : HoldsP D (fun i => moveE k (ev i)) n legs (fun i => t i + k) := by
  refine ⟨fun i hi => ?_, fun i hi j hj hne => (h.two i hi j hj hne).imp befE_move befE_move, fun g hg => ⟨by have := (h.leg g hg).1; omega, befE_move (h.leg g hg).2⟩, fun g hg k' hk' h1 h2 => (h.out g hg k' hk' h1 h2).imp befE_move befE_move, fun a ha b hb hne => (h.legs a ha b hb hne).imp befE_move befE_move⟩
  have h1 := h.win i hi
  have h2 := hk i hi
  simp only [moveE]
  omega
/-- Moving later by at most 500000, where all is from 0 to 500000. -/
theorem move_iff {D : Nat → Nat → Int} {ev : Nat → Ev} {n : Nat} {legs : List Lg} {k : Int} (hw : ∀ i < n, 0 ≤ (ev i).low ∧ (ev i).high ≤ 500000) (h0 : 0 ≤ k) (h5 : k ≤ 500000) : (∃ t, HoldsP D ev n legs t) ↔ ∃ t, HoldsP D (fun i => moveE k (ev i)) n legs t := by
  constructor
  · rintro ⟨t, h⟩
    exact ⟨_, holds_move h (fun i hi => by have := h.win i hi; have := hw i hi; omega)⟩
  · rintro ⟨t, h⟩
    have h2 := holds_move (k := -k) h (fun i hi => by
      have h1 := h.win i hi
      simp only [moveE] at h1
      have := hw i hi
      omega)
    refine ⟨fun i => t i + -k, ?_⟩
    · have e : (fun i => moveE (-k) (moveE k (ev i))) = ev := by
        funext i
        simp only [moveE]
        have a : (ev i).low + k + -k = (ev i).low := by omega
        have b : (ev i).high + k + -k = (ev i).high := by omega
        rw [a, b]
      rw [e] at h2
      exact h2
theorem befE_turn {D : Nat → Nat → Int} {ev : Nat → Ev} {t : Nat → Int} {i j : Nat} (h : befE D ev t i j) : befE (fun a b => D b a) (fun i => turnE (ev i)) (fun i => 1000000 - t i) j i := by
  obtain ⟨h1, h2⟩ := h
  exact ⟨h1, by show D (ev i).office (ev j).office ≤ (1000000 - t i) - (1000000 - t j); omega⟩
theorem holds_turn {D : Nat → Nat → Int} {ev : Nat → Ev} {n : Nat} {legs : List Lg} {t : Nat → Int} (h : HoldsP D ev n legs t) (hd : ∀ g ∈ legs, ∀ g' ∈ legs, g.src ≠ g'.src ↔ g.dst ≠ g'.dst) : HoldsP (fun a b => D b a) (fun i => turnE (ev i)) n (legs.map turnL) (fun i => 1000000 - t i) := by
  refine ⟨fun i hi => ?_, fun i hi j hj hne => ?_, fun g hg => ?_, fun g hg k hk h1 h2 => ?_, fun a ha b hb hne => ?_⟩
  · have h1 := h.win i hi
    simp only [turnE]
    omega
  · rcases h.two i hi j hj hne with h | h
    · exact .inr (befE_turn h)
    · exact .inl (befE_turn h)
  · obtain ⟨g', hg', rfl⟩ := List.mem_map.1 hg
    obtain ⟨l1, l2⟩ := h.leg g' hg'
    exact ⟨by simp only [turnL]; omega, befE_turn l2⟩
  · obtain ⟨g', hg', rfl⟩ := List.mem_map.1 hg
    rcases h.out g' hg' k hk h2 h1 with h | h
    · exact .inr (befE_turn h)
    · exact .inl (befE_turn h)
  · obtain ⟨a', ha', rfl⟩ := List.mem_map.1 ha
    obtain ⟨b', hb', rfl⟩ := List.mem_map.1 hb
    have hne' : a'.src ≠ b'.src := (hd a' ha' b' hb').2 hne
    rcases h.legs a' ha' b' hb' hne' with h | h
    · exact .inr (befE_turn h)
    · exact .inl (befE_turn h)
end Go.Proofs.Ytaopfoicdjejnaa
