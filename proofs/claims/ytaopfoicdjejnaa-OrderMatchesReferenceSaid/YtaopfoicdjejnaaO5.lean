/- Plain: the sequence that is found, and that one is found if there is any. -/
import Derived.Test.YtaopfoicdjejnaaO4
set_option linter.unusedVariables false
set_option linter.unusedSimpArgs false
namespace Go.Proofs.Ytaopfoicdjejnaa

def clearF (done u : Nat) : Nat := (done ||| 2 ^ u) ^^^ 2 ^ u
def backF (best : Bst) : Nat → Stt → List Nat → List Nat
  | 0, _, acc => acc
  | k + 1, now, acc => match best now with
    | some how => backF best k ⟨clearF now.done how.unit, how.off⟩ (how.unit :: acc)
    | none => acc
/-- A sequence leads from the start to a state and a time. -/
inductive To (D : Nat → Nat → Int) (us : Nat → Un) (n : Nat) : List Nat → Stt → Int → Prop
  | nil : To D us n [] ⟨0, none⟩ 0
  | snoc {l st t u} : To D us n l st t → u ∈ leftF n st.done → 0 ≤ beginF D us st.off t u → To D us n (l ++ [u]) (afterF us st u) (beginF D us st.off t u + (us u).span)
theorem To.run {D : Nat → Nat → Int} {us : Nat → Un} {n : Nat} {l : List Nat} {st : Stt} {t : Int} (h : To D us n l st t) : ∀ l', (runF D us none 0 (l ++ l')).isSome = (runF D us st.off t l').isSome := by
  induction h with
  | nil => intro l'; rfl
  | @snoc l st t u _ _ hb ih =>
    intro l'
    rw [List.append_assoc, ih ([u] ++ l'), List.singleton_append, runF, if_neg (by omega), Option.isSome_map]
    rfl
theorem To.bits {D : Nat → Nat → Int} {us : Nat → Un} {n : Nat} {l : List Nat} {st : Stt} {t : Int} (h : To D us n l st t) : l.Nodup ∧ ∀ u, u ∈ l ↔ u < n ∧ st.done.testBit u = true := by
  induction h with
  | nil => exact ⟨List.nodup_nil, fun u => by simp⟩
  | @snoc l st t u _ hu _ ih =>
    have hu' := mem_leftF.1 hu
    have hnu : u ∉ l := fun h => by have := (ih.2 u).1 h; rw [hu'.2] at this; cases this.2
    refine ⟨?_, fun w => ?_⟩
    · rw [List.nodup_append]
      exact ⟨ih.1, by simp, fun x hx y hy => by
        obtain rfl := List.mem_singleton.1 hy
        rintro rfl; exact hnu hx⟩
    · unfold afterF
      rw [List.mem_append, ih.2 w, List.mem_singleton, Nat.testBit_or, Nat.testBit_two_pow]
      by_cases e : u = w
      · subst e; simp [hu'.1]
      · have e' : ¬ w = u := fun h => e h.symm
        simp [e, e']
theorem clear_after {n done u : Nat} (h : u ∈ leftF n done) : clearF (done ||| 2 ^ u) u = done := by
  have hu := (mem_leftF.1 h).2
  apply Nat.eq_of_testBit_eq
  intro w
  unfold clearF
  rw [Nat.testBit_xor, Nat.testBit_or, Nat.testBit_or, Nat.testBit_two_pow]
  by_cases e : u = w
  · subst e; simp [hu]
  · simp [e]
theorem Full.back {D : Nat → Nat → Int} {us : Nat → Un} {n r : Nat} {s : Bst × List Stt} (h : Full D us n r s) : ∀ (j : Nat) (k : Stt) (p : Stp), s.1 k = some p → cntF n k + j = n → ∃ l, To D us n l k p.time ∧ l.length = j ∧ ∀ acc, backF s.1 j k acc = l ++ acc
  | 0, k, p, hk, hc => by
    rcases h.path k p hk with ⟨h1, h2⟩ | ⟨prev, h1, h2, h3, h4, h5⟩
    · rw [h1, h2]; exact ⟨[], .nil, rfl, fun acc => rfl⟩
    · have hl := (choices_mem h4).1
      have := cnt_after (D := D) (us := us) (t := 0) hl
      have hle : cntF n prev ≤ n := by
        unfold cntF leftF
        exact Nat.le_trans (List.length_filter_le _ _) (Nat.le_of_eq List.length_range)
      rw [← h2] at this; omega
  | j + 1, k, p, hk, hc => by
    rcases h.path k p hk with ⟨h1, h2⟩ | ⟨prev, h1, h2, h3, h4, h5⟩
    · have h0 : cntF n ⟨0, none⟩ = n := by unfold cntF; rw [leftF_zero, List.length_range]
      rw [h1, h0] at hc; omega
    · obtain ⟨hl, hb⟩ := choices_mem h4
      have hcc := cnt_after (D := D) (us := us) (t := 0) hl
      rw [← h2] at hcc
      obtain ⟨q, hq⟩ := Option.isSome_iff_exists.1 h1
      have ht : timeF s.1 prev = q.time := by unfold timeF; rw [hq]; rfl
      obtain ⟨l, i1, i2, i3⟩ := Full.back h j prev q hq (by omega)
      rw [ht] at hb h5
      refine ⟨l ++ [p.unit], ?_, by simp [i2], fun acc => ?_⟩
      · have := To.snoc i1 hl hb
        rw [h2, h5]; exact this
      · rw [backF, hk]
        have e : (⟨clearF k.done p.unit, p.off⟩ : Stt) = prev := by
          rw [h2, h3]
          show (⟨clearF (prev.done ||| 2 ^ p.unit) p.unit, prev.off⟩ : Stt) = prev
          rw [clear_after hl]
        show backF s.1 j ⟨clearF k.done p.unit, p.off⟩ (p.unit :: acc) = _
        rw [e, i3]; simp
/-- The sequence: the quick way's, else the full way's. -/
def fitSeq (D : Nat → Nat → Int) (us : Nat → Un) (n : Nat) : Option (List Nat) := match quickF D us n n ⟨0, none⟩ 0 with
  | some l => some l
  | none => match (fullF D us n n).2 with
    | [] => none
    | k :: _ => some (backF (fullF D us n n).1 n k [])
theorem fitSeq_sound {D : Nat → Nat → Int} {us : Nat → Un} {n : Nat} (hT : Tri D) (hU : ∀ u < n, UnOk D us u) {l : List Nat} (h : fitSeq D us n = some l) : l.length = n ∧ l.Nodup ∧ (∀ u ∈ l, u < n) ∧ (runF D us none 0 l).isSome = true := by
  unfold fitSeq at h
  split at h
  · rename_i l' hq
    injection h with h
    subst h
    obtain ⟨h1, h2, h3, h4⟩ := quick_run n _ _ _ hq
    exact ⟨h1, h2, fun u hu => (mem_leftF.1 (h3 u hu)).1, h4⟩
  · split at h
    · cases h
    · rename_i k rest hl
      injection h with h
      have F := full_inv hT hU n (Nat.le_refl _)
      have hk : k ∈ (fullF D us n n).2 := by rw [hl]; simp
      obtain ⟨p, hp⟩ := Option.isSome_iff_exists.1 (F.some_ k hk)
      obtain ⟨l', t1, t2, t3⟩ := F.back n k p hp (by have := F.size k hk; omega)
      rw [t3, List.append_nil] at h
      subst h
      refine ⟨t2, t1.bits.1, fun u hu => ((t1.bits.2 u).1 hu).1, ?_⟩
      have := t1.run []
      rw [List.append_nil] at this
      rw [this]; rfl
theorem fitSeq_complete {D : Nat → Nat → Int} {us : Nat → Un} {n : Nat} (hT : Tri D) (hU : ∀ u < n, UnOk D us u) (hg : Good D us none 0 (List.range n)) : (fitSeq D us n).isSome = true := by
  unfold fitSeq
  split
  · rfl
  · obtain ⟨k, hk, _⟩ := (full_inv hT hU n (Nat.le_refl _)).good hg
    split
    · rename_i hl
      rw [hl] at hk; simp at hk
    · rfl
end Go.Proofs.Ytaopfoicdjejnaa
