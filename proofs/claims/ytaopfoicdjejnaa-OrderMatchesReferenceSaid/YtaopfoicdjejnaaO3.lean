/- Plain: the full way, level by level. -/
import Derived.Test.YtaopfoicdjejnaaO2
set_option linter.unusedVariables false
set_option linter.unusedSimpArgs false
namespace Go.Proofs.Ytaopfoicdjejnaa

instance : DecidableEq Stt := fun x y => match x, y with
  | ⟨a, b⟩, ⟨a', b'⟩ => if h : a = a' ∧ b = b' then isTrue (by obtain ⟨rfl, rfl⟩ := h; rfl) else isFalse (by intro h'; injection h' with h1 h2; exact h ⟨h1, h2⟩)
/-- How a state is reached. -/
structure Stp where
  time : Int
  unit : Nat
  off : Option Nat
abbrev Bst : Type := Stt → Option Stp
def putF (best : Bst) (k : Stt) (v : Stp) : Bst := fun k' => if k' = k then some v else best k'
/-- One unit after one state. -/
def oneF (D : Nat → Nat → Int) (us : Nat → Un) (now : Stt) (t : Int) (s : Bst × List Stt) (u : Nat) : Bst × List Stt :=
  match s.1 (afterF us now u) with
  | none => (putF s.1 (afterF us now u) ⟨beginF D us now.off t u + (us u).span, u, now.off⟩, s.2 ++ [afterF us now u])
  | some old => if beginF D us now.off t u + (us u).span < old.time then (putF s.1 (afterF us now u) ⟨beginF D us now.off t u + (us u).span, u, now.off⟩, s.2) else s
def timeF (best : Bst) (now : Stt) : Int := ((best now).map (·.time)).getD 0
def nowF (D : Nat → Nat → Int) (us : Nat → Un) (n : Nat) (s : Bst × List Stt) (now : Stt) : Bst × List Stt := (choicesF D us n now (timeF s.1 now)).foldl (oneF D us now (timeF s.1 now)) s
def levelF (D : Nat → Nat → Int) (us : Nat → Un) (n : Nat) (best : Bst) (level : List Stt) : Bst × List Stt := level.foldl (nowF D us n) (best, [])
def fullF (D : Nat → Nat → Int) (us : Nat → Un) (n : Nat) : Nat → Bst × List Stt
  | 0 => (putF (fun _ => none) ⟨0, none⟩ ⟨0, 0, some 0⟩, [⟨0, none⟩])
  | r + 1 => levelF D us n (fullF D us n r).1 (fullF D us n r).2
/-- How many are left. -/
def cntF (n : Nat) (st : Stt) : Nat := (leftF n st.done).length
theorem cnt_after {D : Nat → Nat → Int} {us : Nat → Un} {n : Nat} {st : Stt} {t : Int} {u : Nat} (h : u ∈ leftF n st.done) : cntF n (afterF us st u) + 1 = cntF n st := by
  unfold cntF afterF
  rw [leftF_after]
  have hn := leftF_nodup n st.done
  generalize leftF n st.done = l at *
  induction l with
  | nil => simp at h
  | cons x t ih =>
    have h2 := List.nodup_cons.1 hn
    by_cases e : x = u
    · subst e
      have : t.filter (· ≠ x) = t := by
        rw [List.filter_eq_self]
        intro y hy
        have : y ≠ x := fun e => h2.1 (e ▸ hy)
        simpa using this
      rw [List.filter_cons, if_neg (by simp), this, List.length_cons]
    · rcases List.mem_cons.1 h with rfl | h
      · exact absurd rfl e
      · have := ih h h2.2
        simp only [List.filter_cons, List.length_cons]
        rw [if_pos (by simpa using e), List.length_cons]
        omega
/-- While a level of m left is gone through, from best0 on. -/
structure Lv (D : Nat → Nat → Int) (us : Nat → Un) (n m : Nat) (best0 : Bst) (level : List Stt) (s : Bst × List Stt) : Prop where
  old : ∀ k, cntF n k + 1 ≠ m → s.1 k = best0 k
  size : ∀ k ∈ s.2, cntF n k + 1 = m
  some_ : ∀ k ∈ s.2, (s.1 k).isSome = true
  new : ∀ k p, cntF n k + 1 = m → s.1 k = some p → k ∈ s.2 ∧ ∃ now ∈ level, k = afterF us now p.unit ∧ p.off = now.off ∧ p.unit ∈ choicesF D us n now (timeF best0 now) ∧ p.time = beginF D us now.off (timeF best0 now) p.unit + (us p.unit).span
theorem Lv.one {D : Nat → Nat → Int} {us : Nat → Un} {n m : Nat} {best0 : Bst} {level : List Stt} {s : Bst × List Stt} {now : Stt} {u : Nat} (h : Lv D us n m best0 level s) (hn : now ∈ level) (hm : cntF n now = m) (hu : u ∈ choicesF D us n now (timeF best0 now)) :
    Lv D us n m best0 level (oneF D us now (timeF best0 now) s u) ∧ (∀ k p, s.1 k = some p → ∃ q, (oneF D us now (timeF best0 now) s u).1 k = some q ∧ q.time ≤ p.time) ∧
      ∃ q, (oneF D us now (timeF best0 now) s u).1 (afterF us now u) = some q ∧ q.time ≤ beginF D us now.off (timeF best0 now) u + (us u).span := by
  have hc : cntF n (afterF us now u) + 1 = m := by rw [cnt_after (D := D) (t := timeF best0 now) (choices_mem hu).1, hm]
  have hput : ∀ (nx : List Stt), (∀ k ∈ s.2, k ∈ nx) → (∀ k ∈ nx, k ∈ s.2 ∨ k = afterF us now u) → afterF us now u ∈ nx → Lv D us n m best0 level (putF s.1 (afterF us now u) ⟨beginF D us now.off (timeF best0 now) u + (us u).span, u, now.off⟩, nx) := by
    intro nx h1 h2 h3
    refine ⟨fun k hk => ?_, fun k hk => ?_, fun k hk => ?_, fun k p hk hp => ?_⟩
    · show putF _ _ _ k = _
      unfold putF
      rw [if_neg (fun e => hk (by rw [e]; exact hc))]
      exact h.old k hk
    · rcases h2 k hk with h4 | h4
      · exact h.size k h4
      · rw [h4]; exact hc
    · show (putF _ _ _ k).isSome = true
      unfold putF
      split
      · rfl
      · rename_i hne
        rcases h2 k hk with h4 | h4
        · exact h.some_ k h4
        · exact absurd h4 hne
    · have hp' : putF s.1 (afterF us now u) ⟨beginF D us now.off (timeF best0 now) u + (us u).span, u, now.off⟩ k = some p := hp
      unfold putF at hp'
      split at hp'
      · rename_i e
        injection hp' with hp'
        subst hp'
        exact ⟨by rw [e]; exact h3, now, hn, e, rfl, hu, rfl⟩
      · obtain ⟨i1, i2⟩ := h.new k p hk hp'
        exact ⟨h1 k i1, i2⟩
  have hmono : ∀ (v : Int), (∀ old, s.1 (afterF us now u) = some old → v ≤ old.time) → ∀ k p, s.1 k = some p → ∃ q, putF s.1 (afterF us now u) ⟨v, u, now.off⟩ k = some q ∧ q.time ≤ p.time := by
    intro v hv k p hp
    unfold putF
    split
    · rename_i e
      subst e
      exact ⟨_, rfl, hv p hp⟩
    · exact ⟨p, hp, Int.le_refl _⟩
  unfold oneF
  cases ho : s.1 (afterF us now u) with
  | none =>
    simp only
    refine ⟨hput _ (fun k hk => by simp [hk]) (fun k hk => by simpa using hk) (by simp), hmono _ (fun old h' => by rw [ho] at h'; cases h'), ⟨_, if_pos rfl, Int.le_refl _⟩⟩
  | some old =>
    simp only
    by_cases hlt : beginF D us now.off (timeF best0 now) u + (us u).span < old.time
    · rw [if_pos hlt]
      refine ⟨hput _ (fun k hk => hk) (fun k hk => .inl hk) (h.new _ _ hc ho).1, hmono _ (fun old' h' => by rw [ho] at h'; injection h' with h'; rw [← h']; omega), ⟨_, if_pos rfl, Int.le_refl _⟩⟩
    · rw [if_neg hlt]
      exact ⟨h, fun k p hp => ⟨p, hp, Int.le_refl _⟩, old, ho, by omega⟩
end Go.Proofs.Ytaopfoicdjejnaa
