/- Plain: the choices at a state, and the quick way. -/
import Derived.Test.YtaopfoicdjejnaaO1
set_option linter.unusedVariables false
set_option linter.unusedSimpArgs false
namespace Go.Proofs.Ytaopfoicdjejnaa

/-- What has happened: a set of units (bits), and where the last one ended. -/
structure Stt where
  done : Nat
  off : Option Nat
/-- The units that are left. -/
def leftF (n : Nat) (done : Nat) : List Nat := (List.range n).filter fun u => !done.testBit u
def readyF (D : Nat → Nat → Int) (us : Nat → Un) (n : Nat) (done : Nat) (u : Nat) : Bool := (List.range n).all fun w => w == u || fitsF D us u w || done.testBit w
def freeF (D : Nat → Nat → Int) (us : Nat → Un) (st : Stt) (time : Int) (u : Nat) : Bool := match st.off with
  | none => false
  | some o => (us u).entry == o && (us u).exit == o && (us u).span == 0 && beginF D us (some o) time u == time
def choicesF (D : Nat → Nat → Int) (us : Nat → Un) (n : Nat) (st : Stt) (time : Int) : List Nat :=
  if (leftF n st.done).any (fun u => decide (beginF D us st.off time u < 0)) then [] else
    match ((leftF n st.done).filter (readyF D us n st.done)).find? (freeF D us st time) with
    | some u => [u]
    | none => (leftF n st.done).filter (readyF D us n st.done)
def afterF (us : Nat → Un) (st : Stt) (u : Nat) : Stt := ⟨st.done ||| 2 ^ u, some (us u).exit⟩
theorem leftF_nodup (n done : Nat) : (leftF n done).Nodup := List.Pairwise.filter _ List.nodup_range
theorem mem_leftF {n done u : Nat} : u ∈ leftF n done ↔ u < n ∧ done.testBit u = false := by
  unfold leftF
  rw [List.mem_filter, List.mem_range]
  simp
theorem leftF_after (n done u : Nat) : leftF n (done ||| 2 ^ u) = (leftF n done).filter (· ≠ u) := by
  unfold leftF
  rw [List.filter_filter]
  apply List.filter_congr
  intro w _
  rw [Nat.testBit_or, Nat.testBit_two_pow]
  by_cases h : u = w
  · subst h; simp
  · have h' : ¬ w = u := fun e => h e.symm
    simp [h, h']
theorem choices_mem {D : Nat → Nat → Int} {us : Nat → Un} {n : Nat} {st : Stt} {time : Int} {u : Nat} (h : u ∈ choicesF D us n st time) : u ∈ leftF n st.done ∧ 0 ≤ beginF D us st.off time u := by
  unfold choicesF at h
  split at h
  · simp at h
  · rename_i hb
    have hall : ∀ v ∈ leftF n st.done, 0 ≤ beginF D us st.off time v := fun v hv => by
      have : ¬ decide (beginF D us st.off time v < 0) = true := fun hd => hb (List.any_eq_true.2 ⟨v, hv, hd⟩)
      rw [decide_eq_true_eq] at this; omega
    split at h
    · rename_i v hv
      obtain rfl := List.mem_singleton.1 h
      have := (List.mem_filter.1 (List.mem_of_find?_eq_some hv)).1
      exact ⟨this, hall _ this⟩
    · have := (List.mem_filter.1 h).1
      exact ⟨this, hall _ this⟩
/-- Of the choices, one leaves what is left possible. -/
theorem choices_good {D : Nat → Nat → Int} {us : Nat → Un} {n : Nat} {st : Stt} {time : Int} (hT : Tri D) (hU : ∀ u < n, UnOk D us u) (h : Good D us st.off time (leftF n st.done)) (h0 : leftF n st.done ≠ []) :
    ∃ u ∈ choicesF D us n st time, Good D us (some (us u).exit) (beginF D us st.off time u + (us u).span) (leftF n (afterF us st u).done) := by
  have hU' : ∀ u ∈ leftF n st.done, UnOk D us u := fun u hu => hU u (mem_leftF.1 hu).1
  have hb : (leftF n st.done).any (fun u => decide (beginF D us st.off time u < 0)) = false := by
    rw [List.any_eq_false]
    intro u hu
    have := h.begin hU' u hu
    simp; omega
  unfold choicesF afterF
  rw [hb]
  simp only [Bool.false_eq_true, if_false]
  cases hf : ((leftF n st.done).filter (readyF D us n st.done)).find? (freeF D us st time) with
  | some u =>
    refine ⟨u, by simp, ?_⟩
    have hfree := List.find?_some hf
    rw [leftF_after]
    cases ho : st.off with
    | none => unfold freeF at hfree; rw [ho] at hfree; cases hfree
    | some o =>
      unfold freeF at hfree
      rw [ho] at hfree
      simp only [Bool.and_eq_true, beq_iff_eq] at hfree
      rw [ho] at h
      exact h.free hfree.1.1.1 hfree.1.1.2 hfree.1.2 hfree.2
  | none =>
    obtain ⟨u, hu, hfit, hg⟩ := h.next hT (leftF_nodup n st.done) h0 hU'
    refine ⟨u, List.mem_filter.2 ⟨hu, ?_⟩, by rw [leftF_after]; exact hg⟩
    unfold readyF
    rw [List.all_eq_true]
    intro w hw
    by_cases hwu : w = u
    · simp [hwu]
    · by_cases hd : st.done.testBit w = true
      · simp [hd]
      · have hwl : w ∈ leftF n st.done := mem_leftF.2 ⟨by simpa using hw, by simpa using hd⟩
        simp [hfit w hwl hwu]
/-- The quick way: always the first choice. -/
def quickF (D : Nat → Nat → Int) (us : Nat → Un) (n : Nat) : Nat → Stt → Int → Option (List Nat)
  | 0, _, _ => some []
  | k + 1, st, time => match choicesF D us n st time with
    | [] => none
    | u :: _ => (quickF D us n k (afterF us st u) (beginF D us st.off time u + (us u).span)).map (u :: ·)
/-- A sequence that the choices allow runs, and takes each of what is left once. -/
theorem quick_run {D : Nat → Nat → Int} {us : Nat → Un} {n : Nat} : ∀ (k : Nat) (st : Stt) (time : Int) (l : List Nat), quickF D us n k st time = some l → l.length = k ∧ l.Nodup ∧ (∀ u ∈ l, u ∈ leftF n st.done) ∧ (runF D us st.off time l).isSome = true
  | 0, st, time, l, h => by
    injection h with h
    subst h
    exact ⟨rfl, List.nodup_nil, fun u hu => by simp at hu, rfl⟩
  | k + 1, st, time, l, h => by
    rw [quickF] at h
    split at h
    · cases h
    · rename_i u r hc
      obtain ⟨l', hl, rfl⟩ := Option.map_eq_some_iff.1 h
      obtain ⟨h1, h2, h3, h4⟩ := quick_run k _ _ l' hl
      obtain ⟨m1, m2⟩ := choices_mem (D := D) (us := us) (n := n) (st := st) (time := time) (u := u) (by rw [hc]; simp)
      have h3' : ∀ v ∈ l', v ∈ leftF n st.done ∧ v ≠ u := fun v hv => by
        have := h3 v hv
        unfold afterF at this
        rw [leftF_after, List.mem_filter] at this
        exact ⟨this.1, by simpa using this.2⟩
      refine ⟨by simp [h1], List.nodup_cons.2 ⟨fun hu => (h3' u hu).2 rfl, h2⟩, fun v hv => ?_, ?_⟩
      · rcases List.mem_cons.1 hv with rfl | hv
        · exact m1
        · exact (h3' v hv).1
      · rw [runF, if_neg (by omega)]
        have h4' : (runF D us (some (us u).exit) (beginF D us st.off time u + (us u).span) l').isSome = true := h4
        rw [Option.isSome_map]; exact h4'
end Go.Proofs.Ytaopfoicdjejnaa
