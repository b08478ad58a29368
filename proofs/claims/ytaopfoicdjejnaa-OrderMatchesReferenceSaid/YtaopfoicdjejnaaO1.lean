/- Plain: units that have to follow each other in time: what can be reached from a state. -/
import Derived.RowKit
set_option linter.unusedVariables false
set_option linter.unusedSimpArgs false
namespace Go.Proofs.Ytaopfoicdjejnaa

/-- What happens without anything between: when it can begin, where it begins and ends, how long it lasts. -/
structure Un where
  low : Int
  high : Int
  entry : Nat
  exit : Nat
  span : Int
/-- Distances: -1 (below 0) where there is no way. -/
def Tri (D : Nat → Nat → Int) : Prop := ∀ i j k, 0 ≤ D i k → 0 ≤ D k j → 0 ≤ D i j ∧ D i j ≤ D i k + D k j
/-- Units as the code makes them. -/
def UnOk (D : Nat → Nat → Int) (us : Nat → Un) (u : Nat) : Prop := 0 ≤ (us u).low ∧ 0 ≤ D (us u).entry (us u).exit ∧ D (us u).entry (us u).exit ≤ (us u).span
/-- One is over, and there is time for the way, before the other begins. -/
def bef (D : Nat → Nat → Int) (us : Nat → Un) (b : Nat → Int) (u v : Nat) : Prop := 0 ≤ D (us u).exit (us v).entry ∧ b u + (us u).span + D (us u).exit (us v).entry ≤ b v
theorem bef_trans {D : Nat → Nat → Int} {us : Nat → Un} {b : Nat → Int} {u v w : Nat} (hT : Tri D) (hv : UnOk D us v) (h : bef D us b u v) (k : bef D us b v w) : bef D us b u w := by
  obtain ⟨h1, h2⟩ := h
  obtain ⟨k1, k2⟩ := k
  obtain ⟨_, v1, v2⟩ := hv
  obtain ⟨t1, t2⟩ := hT (us u).exit (us v).exit (us v).entry h1 v1
  obtain ⟨s1, s2⟩ := hT (us u).exit (us w).entry (us v).exit t1 k1
  exact ⟨s1, by omega⟩
/-- Begins of some units that are possible together. -/
def PosB (D : Nat → Nat → Int) (us : Nat → Un) (b : Nat → Int) (left : List Nat) : Prop :=
  (∀ u ∈ left, (us u).low ≤ b u ∧ b u ≤ (us u).high) ∧ ∀ u ∈ left, ∀ v ∈ left, u ≠ v → bef D us b u v ∨ bef D us b v u
/-- The way from where one is: none at the beginning. -/
def far (D : Nat → Nat → Int) (off : Option Nat) (e : Nat) : Int := match off with | none => 0 | some o => D o e
/-- The first minute at which a unit can begin; -1 if it cannot any more. -/
def beginF (D : Nat → Nat → Int) (us : Nat → Un) (off : Option Nat) (time : Int) (u : Nat) : Int :=
  if far D off (us u).entry < 0 ∨ (us u).high < time + far D off (us u).entry then -1 else max (us u).low (time + far D off (us u).entry)
/-- What is left is still possible from an office and a time on. -/
def Good (D : Nat → Nat → Int) (us : Nat → Un) (off : Option Nat) (time : Int) (left : List Nat) : Prop :=
  ∃ b : Nat → Int, PosB D us b left ∧ ∀ v ∈ left, 0 ≤ far D off (us v).entry ∧ time + far D off (us v).entry ≤ b v
theorem Good.mono {D : Nat → Nat → Int} {us : Nat → Un} {off : Option Nat} {t t' : Int} {left : List Nat} (h : Good D us off t left) (k : t' ≤ t) : Good D us off t' left := by
  obtain ⟨b, h1, h2⟩ := h
  exact ⟨b, h1, fun v hv => ⟨(h2 v hv).1, by have := (h2 v hv).2; omega⟩⟩
theorem begin_le {D : Nat → Nat → Int} {us : Nat → Un} {off : Option Nat} {time : Int} {u : Nat} {x : Int} (hu : UnOk D us u) (h0 : 0 ≤ far D off (us u).entry) (h1 : time + far D off (us u).entry ≤ x) (hl : (us u).low ≤ x) (hh : x ≤ (us u).high) :
    0 ≤ beginF D us off time u ∧ beginF D us off time u ≤ x := by
  obtain ⟨hu0, _⟩ := hu
  unfold beginF
  rw [if_neg (by omega)]
  omega
/-- No begin fails. -/
theorem Good.begin {D : Nat → Nat → Int} {us : Nat → Un} {off : Option Nat} {time : Int} {left : List Nat} (h : Good D us off time left) (hU : ∀ u ∈ left, UnOk D us u) : ∀ u ∈ left, 0 ≤ beginF D us off time u := by
  obtain ⟨b, h1, h2⟩ := h
  intro u hu
  exact (begin_le (hU u hu) (h2 u hu).1 (h2 u hu).2 (h1.1 u hu).1 (h1.1 u hu).2).1
theorem least_of {D : Nat → Nat → Int} {us : Nat → Un} {b : Nat → Int} (hT : Tri D) : ∀ (left : List Nat), left.Nodup → left ≠ [] → (∀ u ∈ left, UnOk D us u) → (∀ u ∈ left, ∀ v ∈ left, u ≠ v → bef D us b u v ∨ bef D us b v u) → ∃ u ∈ left, ∀ v ∈ left, v ≠ u → bef D us b u v
  | [], _, h, _, _ => absurd rfl h
  | [x], _, _, _, _ => ⟨x, by simp, fun v hv hne => by simp at hv; exact absurd hv hne⟩
  | x :: y :: t, hn, _, hU, hp => by
    have hn2 := List.nodup_cons.1 hn
    obtain ⟨m, hm, hl⟩ := least_of hT (y :: t) hn2.2 (by simp) (fun u hu => hU u (List.mem_cons_of_mem _ hu)) (fun u hu v hv => hp u (List.mem_cons_of_mem _ hu) v (List.mem_cons_of_mem _ hv))
    have hxm : x ≠ m := fun e => hn2.1 (e ▸ hm)
    rcases hp x (by simp) m (List.mem_cons_of_mem _ hm) hxm with h | h
    · refine ⟨x, by simp, fun v hv hne => ?_⟩
      rcases List.mem_cons.1 hv with rfl | hv
      · exact absurd rfl hne
      · by_cases e : v = m
        · rw [e]; exact h
        · exact bef_trans hT (hU m (List.mem_cons_of_mem _ hm)) h (hl v hv e)
    · refine ⟨m, List.mem_cons_of_mem _ hm, fun v hv hne => ?_⟩
      rcases List.mem_cons.1 hv with rfl | hv
      · exact h
      · exact hl v hv hne
/-- Can a unit be before another one? -/
def fitsF (D : Nat → Nat → Int) (us : Nat → Un) (i j : Nat) : Bool := decide (0 ≤ beginF D us (some (us i).exit) ((us i).low + (us i).span) j)
/-- Some unit can be next: it need not wait for any that is left, and what is then left is possible. -/
theorem Good.next {D : Nat → Nat → Int} {us : Nat → Un} {off : Option Nat} {time : Int} {left : List Nat} (hT : Tri D) (h : Good D us off time left) (hn : left.Nodup) (h0 : left ≠ []) (hU : ∀ u ∈ left, UnOk D us u) :
    ∃ u ∈ left, (∀ v ∈ left, v ≠ u → fitsF D us u v = true) ∧ Good D us (some (us u).exit) (beginF D us off time u + (us u).span) (left.filter (· ≠ u)) := by
  obtain ⟨b, h1, h2⟩ := h
  obtain ⟨u, hu, hl⟩ := least_of hT left hn h0 hU h1.2
  have hb := (begin_le (hU u hu) (h2 u hu).1 (h2 u hu).2 (h1.1 u hu).1 (h1.1 u hu).2).2
  refine ⟨u, hu, fun v hv hne => ?_, b, ⟨fun v hv => h1.1 v (List.mem_filter.1 hv).1, fun v hv w hw => h1.2 v (List.mem_filter.1 hv).1 w (List.mem_filter.1 hw).1⟩, fun v hv => ?_⟩
  · unfold fitsF
    rw [decide_eq_true_eq]
    obtain ⟨l1, l2⟩ := hl v hv hne
    have := (h1.1 u hu).1
    exact (begin_le (off := some (us u).exit) (hU v hv) l1 (by show _ + D _ _ ≤ b v; omega) (h1.1 v hv).1 (h1.1 v hv).2).1
  · have hv' := List.mem_filter.1 hv
    obtain ⟨l1, l2⟩ := hl v hv'.1 (by simpa using hv'.2)
    exact ⟨l1, by show _ + D _ _ ≤ b v; omega⟩
/-- A unit that happens at once where one is may always be next. -/
theorem Good.free {D : Nat → Nat → Int} {us : Nat → Un} {o : Nat} {time : Int} {left : List Nat} {u : Nat} (h : Good D us (some o) time left) (he : (us u).entry = o) (hx : (us u).exit = o) (hs : (us u).span = 0) (hb : beginF D us (some o) time u = time) :
    Good D us (some (us u).exit) (beginF D us (some o) time u + (us u).span) (left.filter (· ≠ u)) := by
  obtain ⟨b, h1, h2⟩ := h
  rw [hx, hs, hb, Int.add_zero]
  exact ⟨b, ⟨fun v hv => h1.1 v (List.mem_filter.1 hv).1, fun v hv w hw => h1.2 v (List.mem_filter.1 hv).1 w (List.mem_filter.1 hw).1⟩, fun v hv => h2 v (List.mem_filter.1 hv).1⟩
/-- Times along a sequence of units, from a state on; none if a begin fails. -/
def runF (D : Nat → Nat → Int) (us : Nat → Un) : Option Nat → Int → List Nat → Option (List (Nat × Int))
  | _, _, [] => some []
  | off, time, u :: t =>
    if beginF D us off time u < 0 then none else (runF D us (some (us u).exit) (beginF D us off time u + (us u).span) t).map fun r => (u, beginF D us off time u) :: r
theorem begin_parts {D : Nat → Nat → Int} {us : Nat → Un} {off : Option Nat} {time : Int} {u : Nat} (h : ¬ beginF D us off time u < 0) : 0 ≤ far D off (us u).entry ∧ time + far D off (us u).entry ≤ beginF D us off time u ∧ (us u).low ≤ beginF D us off time u ∧ beginF D us off time u ≤ max (us u).low (us u).high := by
  unfold beginF at *
  split at h
  · omega
  · rename_i hc
    rw [if_neg hc]
    omega
/-- What a sequence finds is possible. -/
theorem run_sound {D : Nat → Nat → Int} {us : Nat → Un} (hT : Tri D) : ∀ (l : List Nat) (off : Option Nat) (time : Int) (r : List (Nat × Int)), (∀ u ∈ l, UnOk D us u ∧ (us u).low ≤ (us u).high) → runF D us off time l = some r →
    r.map (·.1) = l ∧ (∀ p ∈ r, (us p.1).low ≤ p.2 ∧ p.2 ≤ (us p.1).high ∧ 0 ≤ far D off (us p.1).entry ∧ time + far D off (us p.1).entry ≤ p.2) ∧ r.Pairwise (fun p q => 0 ≤ D (us p.1).exit (us q.1).entry ∧ p.2 + (us p.1).span + D (us p.1).exit (us q.1).entry ≤ q.2)
  | [], off, time, r, _, h => by
    injection h with h
    subst h
    exact ⟨rfl, fun p hp => by simp at hp, List.Pairwise.nil⟩
  | u :: t, off, time, r, hU, h => by
    rw [runF] at h
    split at h
    · cases h
    · rename_i hb
      obtain ⟨r', hr, rfl⟩ := Option.map_eq_some_iff.1 h
      obtain ⟨p1, p2, p3, p4⟩ := begin_parts hb
      obtain ⟨i1, i2, i3⟩ := run_sound hT t _ _ r' (fun v hv => hU v (List.mem_cons_of_mem _ hv)) hr
      have hu := hU u (by simp)
      refine ⟨by simp [i1], fun p hp => ?_, List.pairwise_cons.2 ⟨fun q hq => ?_, i3⟩⟩
      · rcases List.mem_cons.1 hp with rfl | hp
        · exact ⟨p3, by have := hu.2; show beginF D us off time u ≤ (us u).high; omega, p1, p2⟩
        · obtain ⟨j1, j2, j3, j4⟩ := i2 p hp
          refine ⟨j1, j2, ?_⟩
          have j3' : 0 ≤ D (us u).exit (us p.1).entry := j3
          have j4' : beginF D us off time u + (us u).span + D (us u).exit (us p.1).entry ≤ p.2 := j4
          obtain ⟨_, v1, v2⟩ := hu.1
          cases off with
          | none =>
            have p2' : time + 0 ≤ beginF D us none time u := p2
            exact ⟨Int.le_refl _, by show time + 0 ≤ p.2; omega⟩
          | some o =>
            have p1' : 0 ≤ D o (us u).entry := p1
            have p2' : time + D o (us u).entry ≤ beginF D us (some o) time u := p2
            obtain ⟨t1, t2⟩ := hT o (us u).exit (us u).entry p1' v1
            obtain ⟨s1, s2⟩ := hT o (us p.1).entry (us u).exit t1 j3'
            exact ⟨s1, by show time + D o (us p.1).entry ≤ p.2; omega⟩
      · exact ⟨(i2 q hq).2.2.1, (i2 q hq).2.2.2⟩
end Go.Proofs.Ytaopfoicdjejnaa
