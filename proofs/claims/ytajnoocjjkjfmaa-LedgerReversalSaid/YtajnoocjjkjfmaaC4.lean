import Derived.Test.YtajnoocjjkjfmaaC1
import Derived.OwnWalk
import Derived.Maps.OwnOps
import Derived.Maps.Views
set_option linter.unusedVariables false
set_option linter.unusedSimpArgs false
namespace Go.Proofs.Ytajnoocjjkjfmaa
open Go.RowKit Go.Maps

/-- An entry. -/
structure Ent where
  fr : Int
  to_ : Int
  am : Int
  ref : ByteArray
def entCells (e : Ent) : List Value := [.int .i64 e.fr, .int .i64 e.to_, .int .i64 e.am, .string e.ref]
def entAgg (e : Ent) : Value := .agg #[.int .i64 e.fr, .int .i64 e.to_, .int .i64 e.am, .string e.ref]
def validE (n : Int) (e : Ent) : Bool := inB n 1 100 && inB e.fr 0 (n - 1) && inB e.to_ 0 (n - 1) && (e.fr != e.to_) && inB e.am 1 1000000000 && decide (e.ref.size ≤ 60)
theorem validE_true {n : Int} {e : Ent} (h : validE n e = true) : inB n 1 100 = true ∧ inB e.fr 0 (n - 1) = true ∧ inB e.to_ 0 (n - 1) = true ∧ e.fr ≠ e.to_ ∧ inB e.am 1 1000000000 = true ∧ e.ref.size ≤ 60 := by
  unfold validE at h
  simp only [Bool.and_eq_true, decide_eq_true_eq, bne_iff_ne] at h
  obtain ⟨⟨⟨⟨⟨h1, h2⟩, h3⟩, h4⟩, h5⟩, h6⟩ := h
  exact ⟨h1, h2, h3, h4, h5, h6⟩
theorem validE_false {n : Int} {e : Ent} (h : validE n e = false) : inB n 1 100 = false ∨ (inB n 1 100 = true ∧ (inB e.fr 0 (n - 1) = false ∨ (inB e.fr 0 (n - 1) = true ∧ (inB e.to_ 0 (n - 1) = false ∨ (inB e.to_ 0 (n - 1) = true ∧ (e.fr = e.to_ ∨ (e.fr ≠ e.to_ ∧
    (inB e.am 1 1000000000 = false ∨ (inB e.am 1 1000000000 = true ∧ ¬ e.ref.size ≤ 60))))))))) := by
  unfold validE at h
  cases h1 : inB n 1 100
  · exact .inl rfl
  · refine .inr ⟨rfl, ?_⟩
    cases h2 : inB e.fr 0 (n - 1)
    · exact .inl rfl
    · refine .inr ⟨rfl, ?_⟩
      cases h3 : inB e.to_ 0 (n - 1)
      · exact .inl rfl
      · refine .inr ⟨rfl, ?_⟩
        by_cases h4 : e.fr = e.to_
        · exact .inl h4
        · refine .inr ⟨h4, ?_⟩
          cases h5 : inB e.am 1 1000000000
          · exact .inl rfl
          · refine .inr ⟨rfl, ?_⟩
            rw [h1, h2, h3, h5] at h
            simpa [h4] using h

set_option maxHeartbeats 1000000 in
theorem valid_c (n : Int) (e : Ent) (he : e.ref.size ≤ maxLen) (w : World) (R) (hR : R (.returned (.bool (validE n e))) (w.alloc (.cells #[.int .i64 e.fr, .int .i64 e.to_, .int .i64 e.am, .string e.ref] 34))) :
    Calls Try.prog 19 #[.int .i64 n, .agg #[.int .i64 e.fr, .int .i64 e.to_, .int .i64 e.am, .string e.ref]] w R := by
  unfold maxLen at he
  cases hv : validE n e with
  | true =>
    rw [hv] at hR
    obtain ⟨h1, h2, h3, h4, h5, h6⟩ := validE_true hv
    obtain ⟨hn0, hn1⟩ := inB_true h1
    have H1 := hide h1; have H2 := hide h2; have H3 := hide h3; have H5 := hide h5
    obtain ⟨fr, to_, am, ref⟩ := e
    simp only at *
    have b4 : (fr != to_) = true := by simp [h4]
    have b6 : decide ((ref.size : Int) ≤ 60) = true := by simp; omega
    clear h1 h2 h3 h5 hv h4 h6
    go_enter Try.func19, Try.ntmps19
    go_wp2_with (go_at_call 24; refine within_c _ _ _ _ _ ?_; first | rw [H1.out] | rw [H2.out] | rw [H3.out] | rw [H5.out])
    exact hR
  | false =>
    rw [hv] at hR
    have hf := validE_false hv
    obtain ⟨fr, to_, am, ref⟩ := e
    simp only at *
    clear hv
    rcases hf with h1 | ⟨h1, h2 | ⟨h2, h3 | ⟨h3, h4 | ⟨h4, h5 | ⟨h5, h6⟩⟩⟩⟩⟩
    · have H1 := hide h1; clear h1
      go_enter Try.func19, Try.ntmps19
      go_wp2_with (go_at_call 24; refine within_c _ _ _ _ _ ?_; first | rw [H1.out])
      exact hR
    · obtain ⟨hn0, hn1⟩ := inB_true h1
      have H1 := hide h1; have H2 := hide h2; clear h1 h2
      go_enter Try.func19, Try.ntmps19
      go_wp2_with (go_at_call 24; refine within_c _ _ _ _ _ ?_; first | rw [H1.out] | rw [H2.out])
      exact hR
    · obtain ⟨hn0, hn1⟩ := inB_true h1
      have H1 := hide h1; have H2 := hide h2; have H3 := hide h3; clear h1 h2 h3
      go_enter Try.func19, Try.ntmps19
      go_wp2_with (go_at_call 24; refine within_c _ _ _ _ _ ?_; first | rw [H1.out] | rw [H2.out] | rw [H3.out])
      exact hR
    · obtain ⟨hn0, hn1⟩ := inB_true h1
      have H1 := hide h1; have H2 := hide h2; have H3 := hide h3; clear h1 h2 h3
      subst h4
      go_enter Try.func19, Try.ntmps19
      go_wp2_with (go_at_call 24; refine within_c _ _ _ _ _ ?_; first | rw [H1.out] | rw [H2.out] | rw [H3.out])
      exact hR
    · obtain ⟨hn0, hn1⟩ := inB_true h1
      have H1 := hide h1; have H2 := hide h2; have H3 := hide h3; have H5 := hide h5; clear h1 h2 h3 h5
      go_enter Try.func19, Try.ntmps19
      go_wp2_with (go_at_call 24; refine within_c _ _ _ _ _ ?_; first | rw [H1.out] | rw [H2.out] | rw [H3.out] | rw [H5.out])
      exact hR
    · obtain ⟨hn0, hn1⟩ := inB_true h1
      have H1 := hide h1; have H2 := hide h2; have H3 := hide h3; have H5 := hide h5; clear h1 h2 h3 h5
      have b4 : (fr != to_) = true := by simp [h4]
      have b6 : decide ((ref.size : Int) ≤ 60) = false := by simp; omega
      clear h4 h6
      go_enter Try.func19, Try.ntmps19
      go_wp2_with (go_at_call 24; refine within_c _ _ _ _ _ ?_; first | rw [H1.out] | rw [H2.out] | rw [H3.out] | rw [H5.out])
      exact hR
set_option maxHeartbeats 1000000 in
theorem refValid_c (n : Int) (e : Ent) (he : e.ref.size ≤ maxLen) (w : World) (R) (hR : ∀ w', Below w.heap.size w w' → R (.returned (.bool (validE n e))) w') :
    Calls Try.prog 20 #[.int .i64 n, .agg #[.int .i64 e.fr, .int .i64 e.to_, .int .i64 e.am, .string e.ref]] w R := by
  unfold maxLen at he
  cases hv : validE n e with
  | true =>
    rw [hv] at hR
    have HR := hide hR; clear hR
    obtain ⟨h1, h2, h3, h4, h5, h6⟩ := validE_true hv
    obtain ⟨hn0, hn1⟩ := inB_true h1
    have H1 := hide h1; have H2 := hide h2; have H3 := hide h3; have H5 := hide h5
    obtain ⟨fr, to_, am, ref⟩ := e
    simp only at *
    have b4 : (fr != to_) = true := by simp [h4]
    have b6 : decide ((ref.size : Int) ≤ 60) = true := by simp; omega
    clear h1 h2 h3 h5 hv h4 h6
    go_enter Try.func20, Try.ntmps20
    go_wp2_with fail
    go_quiet ((first | (go_at_call 29; refine most_c _ _ ?_; exact ⟨rfl, _, rfl⟩) | (go_at_call 25; refine between_c _ _ _ _ _ ?_; (first | rw [H1.out] | rw [H2.out] | rw [H3.out] | rw [H5.out]); exact ⟨rfl, _, rfl⟩)))
    go_wp2_with fail
    exact HR.out _ (below_drewN' (balloc (Below.refl _ _) _) _)
  | false =>
    rw [hv] at hR
    have HR := hide hR; clear hR
    have hf := validE_false hv
    obtain ⟨fr, to_, am, ref⟩ := e
    simp only at *
    clear hv
    rcases hf with h1 | ⟨h1, h2 | ⟨h2, h3 | ⟨h3, h4 | ⟨h4, h5 | ⟨h5, h6⟩⟩⟩⟩⟩
    · have H1 := hide h1; clear h1
      go_enter Try.func20, Try.ntmps20
      go_wp2_with fail
      go_quiet ((first | (go_at_call 29; refine most_c _ _ ?_; exact ⟨rfl, _, rfl⟩) | (go_at_call 25; refine between_c _ _ _ _ _ ?_; (first | rw [H1.out]); exact ⟨rfl, _, rfl⟩)))
      go_wp2_with fail
      exact HR.out _ (below_drewN' (balloc (Below.refl _ _) _) _)
    · obtain ⟨hn0, hn1⟩ := inB_true h1
      have H1 := hide h1; have H2 := hide h2; clear h1 h2
      go_enter Try.func20, Try.ntmps20
      go_wp2_with fail
      go_quiet ((first | (go_at_call 29; refine most_c _ _ ?_; exact ⟨rfl, _, rfl⟩) | (go_at_call 25; refine between_c _ _ _ _ _ ?_; (first | rw [H1.out] | rw [H2.out]); exact ⟨rfl, _, rfl⟩)))
      go_wp2_with fail
      exact HR.out _ (below_drewN' (balloc (Below.refl _ _) _) _)
    · obtain ⟨hn0, hn1⟩ := inB_true h1
      have H1 := hide h1; have H2 := hide h2; have H3 := hide h3; clear h1 h2 h3
      go_enter Try.func20, Try.ntmps20
      go_wp2_with fail
      go_quiet ((first | (go_at_call 29; refine most_c _ _ ?_; exact ⟨rfl, _, rfl⟩) | (go_at_call 25; refine between_c _ _ _ _ _ ?_; (first | rw [H1.out] | rw [H2.out] | rw [H3.out]); exact ⟨rfl, _, rfl⟩)))
      go_wp2_with fail
      exact HR.out _ (below_drewN' (balloc (Below.refl _ _) _) _)
    · obtain ⟨hn0, hn1⟩ := inB_true h1
      have H1 := hide h1; have H2 := hide h2; have H3 := hide h3; clear h1 h2 h3
      subst h4
      go_enter Try.func20, Try.ntmps20
      go_wp2_with fail
      go_quiet ((first | (go_at_call 29; refine most_c _ _ ?_; exact ⟨rfl, _, rfl⟩) | (go_at_call 25; refine between_c _ _ _ _ _ ?_; (first | rw [H1.out] | rw [H2.out] | rw [H3.out]); exact ⟨rfl, _, rfl⟩)))
      go_wp2_with fail
      exact HR.out _ (below_drewN' (balloc (Below.refl _ _) _) _)
    · obtain ⟨hn0, hn1⟩ := inB_true h1
      have H1 := hide h1; have H2 := hide h2; have H3 := hide h3; have H5 := hide h5; clear h1 h2 h3 h5
      have b4 : (fr != to_) = true := by simp [h4]
      clear h4
      go_enter Try.func20, Try.ntmps20
      go_wp2_with fail
      go_quiet ((first | (go_at_call 29; refine most_c _ _ ?_; exact ⟨rfl, _, rfl⟩) | (go_at_call 25; refine between_c _ _ _ _ _ ?_; (first | rw [H1.out] | rw [H2.out] | rw [H3.out] | rw [H5.out]); exact ⟨rfl, _, rfl⟩)))
      go_wp2_with fail
      exact HR.out _ (below_drewN' (balloc (Below.refl _ _) _) _)
    · obtain ⟨hn0, hn1⟩ := inB_true h1
      have H1 := hide h1; have H2 := hide h2; have H3 := hide h3; have H5 := hide h5; clear h1 h2 h3 h5
      have b4 : (fr != to_) = true := by simp [h4]
      have b6 : decide ((ref.size : Int) ≤ 60) = false := by simp; omega
      clear h4 h6
      go_enter Try.func20, Try.ntmps20
      go_wp2_with fail
      go_quiet ((first | (go_at_call 29; refine most_c _ _ ?_; exact ⟨rfl, _, rfl⟩) | (go_at_call 25; refine between_c _ _ _ _ _ ?_; (first | rw [H1.out] | rw [H2.out] | rw [H3.out] | rw [H5.out]); exact ⟨rfl, _, rfl⟩)))
      go_wp2_with fail
      exact HR.out _ (below_drewN' (balloc (Below.refl _ _) _) _)
end Go.Proofs.Ytajnoocjjkjfmaa
