/- Plain lists: blocks of a stable sort. -/
import Derived.Test.YtaopfoicdjejnaaSrt
set_option linter.unusedVariables false
set_option linter.unusedSimpArgs false
namespace Go.Proofs.Ytaopfoicdjejnaa

section
variable {α : Type} {key : α → Int} {tag : α → Nat}

/-- Sorted blocks, whose elements' places are in the blocks' order. -/
structure Bk (key : α → Int) (tag : α → Nat) (bs : List (List α)) : Prop where
  srt : ∀ u ∈ bs, Srt key tag u
  tl : bs.Pairwise (fun u v => ∀ x ∈ u, ∀ y ∈ v, tag x < tag y)
/-- Blocks of length s; the last one may be shorter, but not empty. -/
def Rest (s : Nat) : List (List α) → Prop
  | [] => True
  | [u] => 0 < u.length ∧ u.length ≤ s
  | u :: v :: t => u.length = s ∧ Rest s (v :: t)

theorem rest_full {s : Nat} (hs : 0 < s) : ∀ (Ds : List (List α)), (∀ u ∈ Ds, u.length = s) → Rest s Ds
  | [], _ => trivial
  | [u], h => by have := h u (by simp); exact ⟨by omega, by omega⟩
  | u :: v :: t, h => ⟨h u (by simp), rest_full hs (v :: t) (fun w hw => h w (List.mem_cons_of_mem _ hw))⟩
theorem rest_snoc {s : Nat} (u : List α) (h1 : 0 < u.length) (h2 : u.length ≤ s) : ∀ (Ds : List (List α)), (∀ u ∈ Ds, u.length = s) → Rest s (Ds ++ [u])
  | [], _ => ⟨h1, h2⟩
  | [v], h => ⟨h v (by simp), h1, h2⟩
  | v :: x :: t, h => ⟨h v (by simp), rest_snoc u h1 h2 (x :: t) (fun w hw => h w (List.mem_cons_of_mem _ hw))⟩
theorem rest_tail {s : Nat} {u : List α} {t : List (List α)} (h : Rest s (u :: t)) : Rest s t ∧ u.length ≤ s ∧ (t ≠ [] → u.length = s) := by
  cases t with
  | nil => exact ⟨trivial, h.2, fun h => absurd rfl h⟩
  | cons v t => exact ⟨h.2, by rw [h.1]; exact Nat.le_refl _, fun _ => h.1⟩
theorem rest_pos {s : Nat} (hs : 0 < s) {u : List α} {t : List (List α)} (h : Rest s (u :: t)) : 0 < u.length := by
  cases t with
  | nil => exact h.1
  | cons v t => rw [h.1]; exact hs
theorem rest_two {s : Nat} (hs : 0 < s) {Bs : List (List α)} (h : Rest s Bs) (hl : 2 * s ≤ Bs.flatten.length) : ∃ u v t, Bs = u :: v :: t ∧ u.length = s ∧ v.length = s ∧ Rest s t := by
  match Bs, h with
  | [], h => simp at hl; omega
  | [u], h => have := h.2; simp at hl; omega
  | [u, v], h =>
    have h1 := h.1; have h2 := h.2.2
    simp at hl
    exact ⟨u, v, [], rfl, h1, by omega, trivial⟩
  | u :: v :: w :: t, h => exact ⟨u, v, w :: t, rfl, h.1, h.2.1, h.2.2⟩
theorem rest_end {s : Nat} (hs : 0 < s) {Bs : List (List α)} (h : Rest s Bs) (hl : Bs.flatten.length < 2 * s) : (Bs = [] ∧ ¬ s < Bs.flatten.length) ∨ (∃ u, Bs = [u] ∧ 0 < u.length ∧ u.length ≤ s ∧ ¬ s < Bs.flatten.length) ∨ (∃ u v, Bs = [u, v] ∧ u.length = s ∧ 0 < v.length ∧ v.length ≤ s ∧ s < Bs.flatten.length) := by
  match Bs, h with
  | [], h => exact .inl ⟨rfl, by simp⟩
  | [u], h => exact .inr (.inl ⟨u, rfl, h.1, h.2, by simp; exact h.2⟩)
  | [u, v], h =>
    have h1 := h.1; have h2 := h.2
    exact .inr (.inr ⟨u, v, rfl, h1, h2.1, h2.2, by have := h2.1; simp; omega⟩)
  | u :: v :: w :: t, h =>
    have h1 := h.1; have h2 := h.2.1; have h3 := rest_pos hs h.2.2
    simp at hl
    omega
theorem bk_merge {Ds t : List (List α)} {u v M : List α} (h : Bk key tag (Ds ++ u :: v :: t)) (hp : M.Perm (u ++ v)) (hs : Srt key tag M) : Bk key tag (Ds ++ M :: t) := by
  obtain ⟨h1, h2⟩ := h
  have hm : ∀ x ∈ M, x ∈ u ∨ x ∈ v := fun x hx => List.mem_append.1 (hp.mem_iff.1 hx)
  rw [List.pairwise_append, List.pairwise_cons, List.pairwise_cons] at h2
  obtain ⟨a1, ⟨a2, a3, a4⟩, a5⟩ := h2
  refine ⟨fun w hw => ?_, ?_⟩
  · rcases List.mem_append.1 hw with hw | hw
    · exact h1 w (by simp [hw])
    · rcases List.mem_cons.1 hw with rfl | hw
      · exact hs
      · exact h1 w (by simp [hw])
  · rw [List.pairwise_append, List.pairwise_cons]
    refine ⟨a1, ⟨fun w hw x hx y hy => ?_, a4⟩, fun d hd w hw x hx y hy => ?_⟩
    · rcases hm x hx with hx | hx
      · exact a2 w (by simp [hw]) x hx y hy
      · exact a3 w hw x hx y hy
    · rcases List.mem_cons.1 hw with rfl | hw
      · rcases hm y hy with hy | hy
        · exact a5 d hd u (by simp) x hx y hy
        · exact a5 d hd v (by simp) x hx y hy
      · exact a5 d hd w (by simp [hw]) x hx y hy
theorem bk_two {Ds t : List (List α)} {u v : List α} (h : Bk key tag (Ds ++ u :: v :: t)) : Srt key tag u ∧ Srt key tag v ∧ ∀ x ∈ u, ∀ y ∈ v, tag x < tag y := by
  obtain ⟨h1, h2⟩ := h
  rw [List.pairwise_append, List.pairwise_cons] at h2
  exact ⟨h1 u (by simp), h1 v (by simp), h2.2.1.1 v (by simp)⟩
theorem bk_snoc {Ds : List (List α)} {u : List α} (h : Bk key tag Ds) (hs : Srt key tag u) (ht : ∀ x ∈ Ds.flatten, ∀ y ∈ u, tag x < tag y) : Bk key tag (Ds ++ [u]) := by
  refine ⟨fun w hw => ?_, ?_⟩
  · rcases List.mem_append.1 hw with hw | hw
    · exact h.srt w hw
    · rw [List.mem_singleton.1 hw]; exact hs
  · rw [List.pairwise_append]
    refine ⟨h.tl, by simp, fun d hd w hw x hx y hy => ?_⟩
    rw [List.mem_singleton.1 hw] at hy
    exact ht x (List.mem_flatten.2 ⟨d, hd, hx⟩) y hy
theorem bk_last {s : Nat} (hs : 0 < s) {bs : List (List α)} (h : Bk key tag bs) (hr : Rest s bs) (hl : bs.flatten.length ≤ s) : Srt key tag bs.flatten := by
  match bs, hr with
  | [], _ => exact List.Pairwise.nil
  | [u], _ => simpa using h.srt u (by simp)
  | u :: v :: t, hr =>
    have h1 := hr.1; have h2 := rest_pos hs hr.2
    simp at hl
    omega
end
end Go.Proofs.Ytaopfoicdjejnaa
