/- Plain: a sequence that runs gives possible times. -/
import Derived.Test.YtaopfoicdjejnaaO7
set_option linter.unusedVariables false
set_option linter.unusedSimpArgs false
namespace Go.Proofs.Ytaopfoicdjejnaa

theorem filter_ne_len {l : List Nat} (hn : l.Nodup) (x : Nat) : l.length ≤ (l.filter (· ≠ x)).length + 1 := by
  induction l with
  | nil => simp
  | cons y t ih =>
    have h2 := List.nodup_cons.1 hn
    by_cases e : y = x
    · subst e
      have : t.filter (· ≠ y) = t := by
        rw [List.filter_eq_self]
        intro z hz
        have : z ≠ y := fun e => h2.1 (e ▸ hz)
        simpa using this
      rw [List.filter_cons, if_neg (by simp), this, List.length_cons]
      exact Nat.le_refl _
    · rw [List.filter_cons, if_pos (by simpa using e), List.length_cons, List.length_cons]
      have := ih h2.2
      omega
theorem nodup_len : ∀ (n : Nat) (l : List Nat), l.Nodup → (∀ x ∈ l, x < n) → l.length ≤ n
  | 0, [], _, _ => Nat.le_refl _
  | 0, x :: _, _, h => absurd (h x (by simp)) (by omega)
  | n + 1, l, hn, h => by
    have h1 := filter_ne_len hn n
    have h2 := nodup_len n (l.filter (· ≠ n)) (List.Pairwise.filter _ hn) (fun x hx => by
      obtain ⟨h3, h4⟩ := List.mem_filter.1 hx
      have := h x h3
      have h5 : x ≠ n := by simpa using h4
      omega)
    omega
theorem nodup_all {n : Nat} {l : List Nat} (hn : l.Nodup) (h : ∀ x ∈ l, x < n) (hl : l.length = n) {i : Nat} (hi : i < n) : i ∈ l := by
  by_cases hm : i ∈ l
  · exact hm
  · have := nodup_len n (i :: l) (List.nodup_cons.2 ⟨hm, hn⟩) (fun x hx => by
      rcases List.mem_cons.1 hx with rfl | hx
      · exact hi
      · exact h x hx)
    rw [List.length_cons] at this
    omega
theorem run_pos {D : Nat → Nat → Int} {us : Nat → Un} {n : Nat} (hT : Tri D) (hU : ∀ u < n, UnOk D us u ∧ (us u).low ≤ (us u).high) {l : List Nat} {r : List (Nat × Int)} (hn : l.Nodup) (hl : l.length = n) (hm : ∀ u ∈ l, u < n) (hr : runF D us none 0 l = some r) :
    PosB D us (beginsF r) (List.range n) := by
  obtain ⟨h1, h2, h3⟩ := run_sound hT l none 0 r (fun u hu => hU u (hm u hu)) hr
  have hnr : (r.map (·.1)).Nodup := by rw [h1]; exact hn
  have hin : ∀ i < n, ∃ x, (i, x) ∈ r := fun i hi => by
    have : i ∈ r.map (·.1) := by rw [h1]; exact nodup_all hn hm hl hi
    obtain ⟨p, hp, e⟩ := List.mem_map.1 this
    exact ⟨p.2, by rw [← e]; exact hp⟩
  refine ⟨fun i hi => ?_, fun i hi j hj hij => ?_⟩
  · obtain ⟨x, hx⟩ := hin i (by simpa using hi)
    have := begins_mem hnr hx
    simp only at this
    rw [this]
    exact ⟨(h2 _ hx).1, (h2 _ hx).2.1⟩
  · obtain ⟨x, hx⟩ := hin i (by simpa using hi)
    obtain ⟨y, hy⟩ := hin j (by simpa using hj)
    have ex := begins_mem hnr hx
    have ey := begins_mem hnr hy
    simp only at ex ey
    unfold bef
    rw [ex, ey]
    obtain ⟨a, ha, hai⟩ := List.getElem_of_mem hx
    obtain ⟨b, hb, hbj⟩ := List.getElem_of_mem hy
    rcases Nat.lt_trichotomy a b with h | h | h
    · have := List.pairwise_iff_getElem.1 h3 a b ha hb h
      rw [hai, hbj] at this
      exact .inl this
    · subst h
      rw [hai] at hbj
      injection hbj with e _
      exact absurd e hij
    · have := List.pairwise_iff_getElem.1 h3 b a hb ha h
      rw [hai, hbj] at this
      exact .inr this
end Go.Proofs.Ytaopfoicdjejnaa
