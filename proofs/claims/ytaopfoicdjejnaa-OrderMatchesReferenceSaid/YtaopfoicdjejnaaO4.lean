/- Plain: what the full way keeps from level to level. -/
import Derived.Test.YtaopfoicdjejnaaO3
set_option linter.unusedVariables false
set_option linter.unusedSimpArgs false
namespace Go.Proofs.Ytaopfoicdjejnaa

/-- Later in a level, a state's time is at most what it was. -/
def Mono (s s' : Bst × List Stt) : Prop := ∀ k p, s.1 k = some p → ∃ q, s'.1 k = some q ∧ q.time ≤ p.time
theorem Mono.refl (s : Bst × List Stt) : Mono s s := fun k p h => ⟨p, h, Int.le_refl _⟩
theorem Mono.trans {a b c : Bst × List Stt} (h : Mono a b) (k : Mono b c) : Mono a c := fun x p hp => by
  obtain ⟨q, h1, h2⟩ := h x p hp
  obtain ⟨r, k1, k2⟩ := k x q h1
  exact ⟨r, k1, by omega⟩
theorem Lv.units {D : Nat → Nat → Int} {us : Nat → Un} {n m : Nat} {best0 : Bst} {level : List Stt} {now : Stt} (hn : now ∈ level) (hm : cntF n now = m) : ∀ (l : List Nat) (s : Bst × List Stt), Lv D us n m best0 level s → (∀ u ∈ l, u ∈ choicesF D us n now (timeF best0 now)) →
    Lv D us n m best0 level (l.foldl (oneF D us now (timeF best0 now)) s) ∧ Mono s (l.foldl (oneF D us now (timeF best0 now)) s) ∧ ∀ u ∈ l, ∃ q, (l.foldl (oneF D us now (timeF best0 now)) s).1 (afterF us now u) = some q ∧ q.time ≤ beginF D us now.off (timeF best0 now) u + (us u).span
  | [], s, h, _ => ⟨h, Mono.refl s, fun u hu => by simp at hu⟩
  | u :: t, s, h, hl => by
    obtain ⟨h1, h2, q, h3, h4⟩ := h.one hn hm (hl u (by simp))
    obtain ⟨k1, k2, k3⟩ := Lv.units hn hm t _ h1 (fun v hv => hl v (List.mem_cons_of_mem _ hv))
    rw [List.foldl_cons]
    refine ⟨k1, Mono.trans h2 k2, fun v hv => ?_⟩
    rcases List.mem_cons.1 hv with rfl | hv
    · obtain ⟨r, r1, r2⟩ := k2 _ _ h3
      exact ⟨r, r1, by omega⟩
    · exact k3 v hv
theorem Lv.level {D : Nat → Nat → Int} {us : Nat → Un} {n m : Nat} {best0 : Bst} {level : List Stt} (hm : ∀ k ∈ level, cntF n k = m) : ∀ (l : List Stt) (s : Bst × List Stt), Lv D us n m best0 level s → (∀ k ∈ l, k ∈ level) →
    Lv D us n m best0 level (l.foldl (nowF D us n) s) ∧ Mono s (l.foldl (nowF D us n) s) ∧ ∀ now ∈ l, ∀ u ∈ choicesF D us n now (timeF best0 now), ∃ q, (l.foldl (nowF D us n) s).1 (afterF us now u) = some q ∧ q.time ≤ beginF D us now.off (timeF best0 now) u + (us u).span
  | [], s, h, _ => ⟨h, Mono.refl s, fun u hu => by simp at hu⟩
  | now :: t, s, h, hl => by
    have hn := hl now (by simp)
    have hnm := hm now hn
    have ht : timeF s.1 now = timeF best0 now := by unfold timeF; rw [h.old now (by omega)]
    obtain ⟨h1, h2, h3⟩ := Lv.units hn hnm (choicesF D us n now (timeF best0 now)) s h (fun u hu => hu)
    have e : nowF D us n s now = (choicesF D us n now (timeF best0 now)).foldl (oneF D us now (timeF best0 now)) s := by unfold nowF; rw [ht]
    rw [← e] at h1 h2 h3
    obtain ⟨k1, k2, k3⟩ := Lv.level hm t _ h1 (fun v hv => hl v (List.mem_cons_of_mem _ hv))
    rw [List.foldl_cons]
    refine ⟨k1, Mono.trans h2 k2, fun v hv u hu => ?_⟩
    rcases List.mem_cons.1 hv with rfl | hv
    · obtain ⟨q, q1, q2⟩ := h3 u hu
      obtain ⟨r, r1, r2⟩ := k2 _ _ q1
      exact ⟨r, r1, by omega⟩
    · exact k3 v hv u hu
/-- The rounds. -/
structure Full (D : Nat → Nat → Int) (us : Nat → Un) (n r : Nat) (s : Bst × List Stt) : Prop where
  size : ∀ k ∈ s.2, cntF n k + r = n
  fresh : ∀ k, cntF n k + r < n → s.1 k = none
  some_ : ∀ k ∈ s.2, (s.1 k).isSome = true
  path : ∀ k p, s.1 k = some p → (k = ⟨0, none⟩ ∧ p.time = 0) ∨ ∃ prev, (s.1 prev).isSome = true ∧ k = afterF us prev p.unit ∧ p.off = prev.off ∧ p.unit ∈ choicesF D us n prev (timeF s.1 prev) ∧ p.time = beginF D us prev.off (timeF s.1 prev) p.unit + (us p.unit).span
  good : Good D us none 0 (List.range n) → ∃ k ∈ s.2, Good D us k.off (timeF s.1 k) (leftF n k.done)
theorem leftF_zero (n : Nat) : leftF n 0 = List.range n := by
  unfold leftF
  rw [List.filter_eq_self]
  intro u _; simp
theorem full_inv {D : Nat → Nat → Int} {us : Nat → Un} {n : Nat} (hT : Tri D) (hU : ∀ u < n, UnOk D us u) : ∀ r, r ≤ n → Full D us n r (fullF D us n r)
  | 0, _ => by
    have h0 : cntF n ⟨0, none⟩ = n := by unfold cntF; rw [leftF_zero, List.length_range]
    refine ⟨fun k hk => ?_, fun k hk => ?_, fun k hk => ?_, fun k p hp => ?_, fun hg => ⟨⟨0, none⟩, by simp [fullF], ?_⟩⟩
    · have hk' : k ∈ ([⟨0, none⟩] : List Stt) := hk
      obtain rfl := List.mem_singleton.1 hk'
      omega
    · show putF (fun _ => none) ⟨0, none⟩ ⟨0, 0, some 0⟩ k = none
      unfold putF
      rw [if_neg (fun e => by rw [e, h0] at hk; omega)]
    · have hk' : k ∈ ([⟨0, none⟩] : List Stt) := hk
      obtain rfl := List.mem_singleton.1 hk'
      rfl
    · have hp' : putF (fun _ => none) ⟨0, none⟩ ⟨0, 0, some 0⟩ k = some p := hp
      unfold putF at hp'
      split at hp'
      · rename_i e
        injection hp' with hp'
        subst hp'
        exact .inl ⟨e, rfl⟩
      · cases hp'
    · show Good D us none _ (leftF n 0)
      rw [leftF_zero]; exact hg
  | r + 1, hr => by
    have ih := full_inv hT hU r (by omega)
    have hs : fullF D us n (r + 1) = levelF D us n (fullF D us n r).1 (fullF D us n r).2 := rfl
    rw [hs]
    generalize fullF D us n r = s0 at *
    obtain ⟨best0, level⟩ := s0
    have hm : ∀ k ∈ level, cntF n k = n - r := fun k hk => by have := ih.size k hk; omega
    have hst : Lv D us n (n - r) best0 level (best0, []) := ⟨fun k _ => rfl, fun k hk => by simp at hk, fun k hk => by simp at hk, fun k p hk hp => by
      have : best0 k = none := ih.fresh k (by omega)
      have hp' : best0 k = some p := hp
      rw [this] at hp'; cases hp'⟩
    obtain ⟨L, _, hq⟩ := Lv.level hm level (best0, []) hst (fun k hk => hk)
    have he : levelF D us n best0 level = level.foldl (nowF D us n) (best0, []) := rfl
    show Full D us n (r + 1) (levelF D us n best0 level)
    rw [he]
    generalize level.foldl (nowF D us n) (best0, []) = s1 at *
    have hold : ∀ k, (best0 k).isSome = true → s1.1 k = best0 k := fun k hk => L.old k (fun e => by
      have := ih.fresh k (by omega)
      rw [show best0 k = none from this] at hk; cases hk)
    have htime : ∀ k, (best0 k).isSome = true → timeF s1.1 k = timeF best0 k := fun k hk => by unfold timeF; rw [hold k hk]
    refine ⟨fun k hk => by have := L.size k hk; omega, fun k hk => ?_, L.some_, fun k p hp => ?_, fun hg => ?_⟩
    · rw [L.old k (by omega)]
      exact ih.fresh k (by omega)
    · by_cases hk : cntF n k + 1 = n - r
      · obtain ⟨_, now, hn, e1, e2, e3, e4⟩ := L.new k p hk hp
        have hns := ih.some_ now hn
        right
        exact ⟨now, by rw [hold now hns]; exact hns, e1, e2, by rw [htime now hns]; exact e3, by rw [htime now hns]; exact e4⟩
      · rw [L.old k hk] at hp
        rcases ih.path k p hp with h | ⟨prev, h1, h2, h3, h4, h5⟩
        · exact .inl h
        · exact .inr ⟨prev, by rw [hold prev h1]; exact h1, h2, h3, by rw [htime prev h1]; exact h4, by rw [htime prev h1]; exact h5⟩
    · obtain ⟨k, hk, hgk⟩ := ih.good hg
      have hkm := hm k hk
      obtain ⟨u, hu, hgu⟩ := choices_good (st := k) hT hU hgk (by
        intro e
        unfold cntF at hkm
        rw [e] at hkm
        simp at hkm; omega)
      obtain ⟨q, q1, q2⟩ := hq k hk u hu
      have hcu : cntF n (afterF us k u) + 1 = n - r := by rw [cnt_after (D := D) (t := timeF best0 k) (choices_mem hu).1, hkm]
      refine ⟨afterF us k u, (L.new _ _ hcu q1).1, ?_⟩
      refine Good.mono hgu ?_
      unfold timeF
      rw [q1]
      exact q2
end Go.Proofs.Ytaopfoicdjejnaa
