/- Plain: what the statements on lists, time, two events, one office and fewer events say of possible times. Lists of events and legs that a law makes. -/
import Derived.Test.YtaopfoicdjejnaaP4
import Derived.Test.YtaopfoicdjejnaaH2
import Derived.Test.YtaopfoicdjejnaaF2
import Derived.Test.YtaopfoicdjejnaaC19
set_option linter.unusedVariables false
set_option linter.unusedSimpArgs false
namespace Go.Proofs.Ytaopfoicdjejnaa
open Go.RowKit

/-- Possible times of other events, each of which is one of the first ones. -/
theorem holds_map {D D' : Nat → Nat → Int} {ev ev' : Nat → Ev} {n n' : Nat} {legs legs' : List Lg} {t t' : Nat → Int} (φ : Nat → Nat) (h : HoldsP D ev n legs t) (hD : D' = D)
    (h1 : ∀ i < n', φ i < n ∧ ev' i = ev (φ i) ∧ t' i = t (φ i)) (h2 : ∀ i < n', ∀ j < n', φ i = φ j → i = j)
    (h3 : ∀ g' ∈ legs', g'.src < n' ∧ g'.dst < n' ∧ ∃ g ∈ legs, g.src = φ g'.src ∧ g.dst = φ g'.dst ∧ g.gap = g'.gap) : HoldsP D' ev' n' legs' t' := by
  subst hD
  have hb : ∀ i < n', ∀ j < n', befE D' ev t (φ i) (φ j) → befE D' ev' t' i j := fun i hi j hj hb => by
    obtain ⟨_, a2, a3⟩ := h1 i hi
    obtain ⟨_, b2, b3⟩ := h1 j hj
    unfold befE
    rw [a2, a3, b2, b3]
    exact hb
  refine ⟨fun i hi => ?_, fun i hi j hj hne => ?_, fun g' hg' => ?_, fun g' hg' k hk hs hd => ?_, fun a ha b hbm hne => ?_⟩
  · obtain ⟨a1, a2, a3⟩ := h1 i hi
    rw [a2, a3]
    exact h.win _ a1
  · exact (h.two _ (h1 i hi).1 _ (h1 j hj).1 (fun e => hne (h2 i hi j hj e))).imp (hb i hi j hj) (hb j hj i hi)
  · obtain ⟨s1, s2, g, hg, e1, e2, e3⟩ := h3 g' hg'
    obtain ⟨l1, l2⟩ := h.leg g hg
    rw [(h1 _ s1).2.2, (h1 _ s2).2.2, ← e1, ← e2, ← e3]
    exact ⟨l1, hb _ s1 _ s2 (by rw [← e1, ← e2]; exact l2)⟩
  · obtain ⟨s1, s2, g, hg, e1, e2, e3⟩ := h3 g' hg'
    exact (h.out g hg (φ k) (h1 k hk).1 (fun e => hs (h2 k hk _ s1 (by rw [e, e1]))) (fun e => hd (h2 k hk _ s2 (by rw [e, e2])))).imp
      (fun x => hb k hk _ s1 (by rw [← e1]; exact x)) (fun x => hb _ s2 k hk (by rw [← e2]; exact x))
  · obtain ⟨s1, s2, g, hg, e1, e2, e3⟩ := h3 a ha
    obtain ⟨r1, r2, g', hg', f1, f2, f3⟩ := h3 b hbm
    exact (h.legs g hg g' hg' (fun e => hne (h2 _ s1 _ r1 (by rw [← e1, ← f1, e])))).imp
      (fun x => hb _ s2 _ r1 (by rw [← e2, ← f1]; exact x)) (fun x => hb _ r2 _ s1 (by rw [← f2, ← e1]; exact x))
/-- Possible times stay possible where windows grow. -/
theorem holds_wide {D : Nat → Nat → Int} {ev ev' : Nat → Ev} {n : Nat} {legs : List Lg} {t : Nat → Int} (h : HoldsP D ev n legs t) (he : ∀ i, (ev' i).office = (ev i).office) (hw : ∀ i < n, (ev' i).low ≤ (ev i).low ∧ (ev i).high ≤ (ev' i).high) : HoldsP D ev' n legs t := by
  have hb : ∀ i j, befE D ev t i j → befE D ev' t i j := fun i j hb => by unfold befE; rw [he i, he j]; exact hb
  refine ⟨fun i hi => ?_, fun i hi j hj hne => (h.two i hi j hj hne).imp (hb _ _) (hb _ _), fun g hg => ⟨(h.leg g hg).1, hb _ _ (h.leg g hg).2⟩, fun g hg k hk a b => (h.out g hg k hk a b).imp (hb _ _) (hb _ _), fun a ha b hbm hne => (h.legs a ha b hbm hne).imp (hb _ _) (hb _ _)⟩
  have := h.win i hi
  have := hw i hi
  omega
theorem WellP.nat {d : List (List Int)} {es : List Evt} {ls : List Lgr} (hW : WellP d es ls) : ∀ g ∈ ls, g.src.toNat < es.length ∧ g.dst.toNat < es.length ∧ ((g.src.toNat : Nat) : Int) = g.src ∧ ((g.dst.toNat : Nat) : Int) = g.dst := fun g hg => by
  obtain ⟨a1, a2, a3, a4, _⟩ := hW.leg g hg
  omega
theorem once_eq : ∀ {ls : List Lgr}, (ls.flatMap fun g => [g.src, g.dst]).Nodup → ∀ g ∈ ls, ∀ g' ∈ ls, (g.src = g'.src ∨ g.dst = g'.dst) → g = g'
  | [], _, g, hg, _, _, _ => by simp at hg
  | a :: t, h, g, hg, g', hg', he => by
    rw [List.flatMap_cons, List.nodup_append] at h
    obtain ⟨_, h2, h3⟩ := h
    have key : ∀ x ∈ t, ¬ (a.src = x.src ∨ a.dst = x.dst) := fun x hx he => by
      rcases he with he | he
      · exact h3 a.src (by simp) x.src (List.mem_flatMap.2 ⟨x, hx, by simp⟩) he
      · exact h3 a.dst (by simp) x.dst (List.mem_flatMap.2 ⟨x, hx, by simp⟩) he
    rcases List.mem_cons.1 hg with e1 | q1
    · rcases List.mem_cons.1 hg' with e2 | q2
      · rw [e1, e2]
      · rw [e1] at he; exact absurd he (key _ q2)
    · rcases List.mem_cons.1 hg' with e2 | q2
      · rw [e2] at he; exact absurd (he.imp Eq.symm Eq.symm) (key _ q1)
      · exact once_eq h2 g q1 g' q2 he

/-! One office, and two events. -/
def minB (e : Evt) : Bool := decide (e.low ≤ e.high) && decide (e.low ≤ 1000000) && decide (0 ≤ e.high)
theorem minB_iff {e : Evt} : minB e = true ↔ hasMin e.ev := by unfold minB hasMin Evt.ev; simp [and_assoc]
theorem well_nolegs {d : List (List Int)} {es : List Evt} (hd : DistP d) (hn : es.length ≤ 16) (ho : ∀ e ∈ es, 0 ≤ e.office ∧ e.office < d.length) : WellP d es [] := ⟨hd, hn, ho, (fun g hg => by simp at hg), by simp⟩
theorem one_law {d : List (List Int)} {es : List Evt} {o : Nat} (hd : DistP d) (ho : o < d.length) (hn : es.length ≤ 16) (hes : ∀ e ∈ es, e.office = o) : (fitR d es []).isSome = es.all minB := by
  have hW : WellP d es [] := well_nolegs hd hn (fun e he => by rw [hes e he]; omega)
  have hev : ∀ i < es.length, ∃ e ∈ es, evF es i = e.ev := fun i hi => ⟨es[i], List.getElem_mem hi, evF_at (List.getElem?_eq_getElem hi)⟩
  rw [Bool.eq_iff_iff, fitR_iff, List.all_eq_true]
  have h1 := one_office (D := dst d) (ev := evF es) (n := es.length) (o := o) (fun i hi => by
    obtain ⟨e, he, h⟩ := hev i hi
    rw [h]; show e.office.toNat = o; rw [hes e he]; omega) (hd.zero o ho)
  rw [List.map_nil, h1]
  constructor
  · rintro ⟨_, h⟩ e he
    obtain ⟨i, hi⟩ := List.getElem?_of_mem he
    have := h i (List.getElem?_eq_some_iff.1 hi).1
    rw [evF_at hi] at this
    exact minB_iff.2 this
  · intro h
    refine ⟨hW, fun i hi => ?_⟩
    obtain ⟨e, he, h2⟩ := hev i hi
    rw [h2]
    exact minB_iff.1 (h e he)
theorem two_law {d : List (List Int)} {a b : Evt} (hW : WellP d [a, b] []) : (fitR d [a, b] []).isSome = true ↔ hasMin a.ev ∧ hasMin b.ev ∧ (enoughP (dst d) a.ev b.ev ∨ enoughP (dst d) b.ev a.ev) := by
  rw [fitR_iff, List.map_nil]
  have h1 := two_events (D := dst d) (ev := evF [a, b])
  have e0 : evF [a, b] 0 = a.ev := rfl
  have e1 : evF [a, b] 1 = b.ev := rfl
  rw [e0, e1] at h1
  rw [← h1]
  exact ⟨fun h => h.2, fun h => ⟨hW, h⟩⟩

/-! The list turned around. -/
def flipL (n : Nat) (g : Lgr) : Lgr := ⟨(n : Int) - 1 - g.src, (n : Int) - 1 - g.dst, g.gap⟩
def flipLs (n : Nat) (ls : List Lgr) : List Lgr := (ls.map (flipL n)).reverse
theorem flip_flip (n : Nat) (ls : List Lgr) : flipLs n (flipLs n ls) = ls := by
  unfold flipLs
  rw [List.map_reverse, List.reverse_reverse, List.map_map]
  conv => rhs; rw [← List.map_id ls]
  apply List.map_congr_left
  intro g _
  obtain ⟨s, t, u⟩ := g
  simp only [Function.comp, flipL, id]
  congr 1 <;> omega
theorem well_flip {d : List (List Int)} {es : List Evt} {ls : List Lgr} (h : WellP d es ls) : WellP d es.reverse (flipLs es.length ls) := by
  refine ⟨h.dist, by rw [List.length_reverse]; exact h.few, fun e he => h.office e (List.mem_reverse.1 he), fun g hg => ?_, ?_⟩
  · unfold flipLs at hg
    obtain ⟨g', hg', rfl⟩ := List.mem_map.1 (List.mem_reverse.1 hg)
    have := h.leg g' hg'
    rw [List.length_reverse]
    simp only [flipL]
    omega
  · have e : ((flipLs es.length ls).flatMap fun g => [g.src, g.dst]).Perm (ls.flatMap fun g => [(es.length : Int) - 1 - g.src, (es.length : Int) - 1 - g.dst]) := by
      unfold flipLs
      refine (List.Perm.flatMap_right _ (List.reverse_perm _)).trans ?_
      rw [List.flatMap_map]
      exact List.Perm.refl _
    rw [e.nodup_iff]
    have e2 : (ls.flatMap fun g => [(es.length : Int) - 1 - g.src, (es.length : Int) - 1 - g.dst]) = (ls.flatMap fun g => [g.src, g.dst]).map (fun x => (es.length : Int) - 1 - x) := by
      rw [List.map_flatMap]; rfl
    rw [e2]
    unfold List.Nodup
    rw [List.pairwise_map]
    refine List.Pairwise.imp ?_ h.once
    intro a b hne e
    omega
theorem evF_rev {es : List Evt} {i : Nat} (hi : i < es.length) : evF es.reverse i = evF es (es.length - 1 - i) := by
  unfold evF
  rw [List.getElem?_reverse hi]
theorem tmF_rev {ts : List Int} {i : Nat} (hi : i < ts.length) : tmF ts.reverse i = tmF ts (ts.length - 1 - i) := by
  unfold tmF
  rw [List.getElem?_reverse hi]
theorem holds_flip {d : List (List Int)} {es : List Evt} {ls : List Lgr} {t : Nat → Int} (hW : WellP d es ls) (h : HoldsP (dst d) (evF es) es.length (ls.map Lgr.lg) t) : HoldsP (dst d) (evF es.reverse) es.reverse.length ((flipLs es.length ls).map Lgr.lg) (fun i => t (es.length - 1 - i)) := by
  refine holds_map (fun i => es.length - 1 - i) h rfl (fun i hi => ?_) (fun i hi j hj e => ?_) (fun g' hg' => ?_)
  · rw [List.length_reverse] at hi
    exact ⟨by show es.length - 1 - i < _; omega, evF_rev hi, rfl⟩
  · rw [List.length_reverse] at hi hj
    have e' : es.length - 1 - i = es.length - 1 - j := e
    omega
  · obtain ⟨g, hg, rfl⟩ := List.mem_map.1 hg'
    unfold flipLs at hg
    obtain ⟨g0, hg0, rfl⟩ := List.mem_map.1 (List.mem_reverse.1 hg)
    have := hW.leg g0 hg0
    rw [List.length_reverse]
    refine ⟨by simp only [Lgr.lg, flipL]; omega, by simp only [Lgr.lg, flipL]; omega, g0.lg, List.mem_map.2 ⟨g0, hg0, rfl⟩, ?_, ?_, rfl⟩
    · simp only [Lgr.lg, flipL]; omega
    · simp only [Lgr.lg, flipL]; omega
theorem fit_flip1 {d : List (List Int)} {es : List Evt} {ls : List Lgr} (h : (fitR d es ls).isSome = true) : (fitR d es.reverse (flipLs es.length ls)).isSome = true := by
  obtain ⟨hW, t, ht⟩ := fitR_iff.1 h
  exact fitR_iff.2 ⟨well_flip hW, _, holds_flip hW ht⟩
theorem fit_flip {d : List (List Int)} {es : List Evt} {ls : List Lgr} : (fitR d es.reverse (flipLs es.length ls)).isSome = (fitR d es ls).isSome := by
  rw [Bool.eq_iff_iff]
  constructor
  · intro h
    have := fit_flip1 h
    rwa [List.length_reverse, flip_flip, List.reverse_reverse] at this
  · exact fit_flip1
theorem holds_congr {D : Nat → Nat → Int} {ev : Nat → Ev} {n : Nat} {legs : List Lg} {t t' : Nat → Int} (hl : ∀ g ∈ legs, g.src < n ∧ g.dst < n) (h : HoldsP D ev n legs t) (ht : ∀ i < n, t' i = t i) : HoldsP D ev n legs t' :=
  holds_map id h rfl (fun i hi => ⟨hi, rfl, ht i hi⟩) (fun i _ j _ e => e) (fun g hg => ⟨(hl g hg).1, (hl g hg).2, g, hg, rfl, rfl, rfl⟩)
theorem lg_lt {d : List (List Int)} {es : List Evt} {ls : List Lgr} (hW : WellP d es ls) : ∀ g ∈ ls.map Lgr.lg, g.src < es.length ∧ g.dst < es.length := fun g hg => by
  obtain ⟨g', hg', rfl⟩ := List.mem_map.1 hg
  have := hW.nat g' hg'
  exact ⟨this.1, this.2.1⟩
theorem holdP_flip1 {d : List (List Int)} {es : List Evt} {ls : List Lgr} {ts : List Int} (h : HoldP d es ls ts) : HoldP d es.reverse (flipLs es.length ls) ts.reverse := by
  obtain ⟨hW, hl, hH⟩ := h
  have hW' := well_flip hW
  refine ⟨hW', by rw [List.length_reverse, List.length_reverse]; exact hl, holds_congr (lg_lt hW') (holds_flip hW hH) (fun i hi => ?_)⟩
  rw [List.length_reverse] at hi
  rw [tmF_rev (by omega), hl]
theorem holdB_flip {d : List (List Int)} {es : List Evt} {ls : List Lgr} {ts : List Int} : holdB d es.reverse (flipLs es.length ls) ts.reverse = holdB d es ls ts := by
  rw [Bool.eq_iff_iff, holdB_true, holdB_true]
  constructor
  · intro h
    have := holdP_flip1 h
    rwa [List.length_reverse, flip_flip, List.reverse_reverse, List.reverse_reverse] at this
  · exact holdP_flip1

/-! Time moved and turned around. -/
def moveT (k : Int) (e : Evt) : Evt := ⟨e.office, e.low + k, e.high + k, none, 0, 0⟩
def turnT (e : Evt) : Evt := ⟨e.office, 1000000 - e.high, 1000000 - e.low, none, 0, 0⟩
def turnG (g : Lgr) : Lgr := ⟨g.dst, g.src, g.gap⟩
theorem well_map {d : List (List Int)} {es : List Evt} {ls : List Lgr} (f : Evt → Evt) (hf : ∀ e, (f e).office = e.office) (h : WellP d es ls) : WellP d (es.map f) ls := by
  refine ⟨h.dist, by rw [List.length_map]; exact h.few, fun e he => ?_, by rw [List.length_map]; exact h.leg, h.once⟩
  obtain ⟨e', he', rfl⟩ := List.mem_map.1 he
  rw [hf]; exact h.office e' he'
theorem evF_map {es : List Evt} {f : Evt → Evt} {i : Nat} (hi : i < es.length) : ∃ e ∈ es, evF (es.map f) i = (f e).ev ∧ evF es i = e.ev :=
  ⟨es[i], List.getElem_mem hi, evF_at (by rw [List.getElem?_map, List.getElem?_eq_getElem hi]; rfl), evF_at (List.getElem?_eq_getElem hi)⟩
theorem holds_ev {D : Nat → Nat → Int} {ev ev' : Nat → Ev} {n : Nat} {legs : List Lg} {t : Nat → Int} (hl : ∀ g ∈ legs, g.src < n ∧ g.dst < n) (h : HoldsP D ev n legs t) (he : ∀ i < n, ev' i = ev i) : HoldsP D ev' n legs t :=
  holds_map id h rfl (fun i hi => ⟨hi, he i hi, rfl⟩) (fun i _ j _ e => e) (fun g hg => ⟨(hl g hg).1, (hl g hg).2, g, hg, rfl, rfl, rfl⟩)
theorem fit_move {d : List (List Int)} {es : List Evt} {ls : List Lgr} {k : Int} (hW : WellP d es ls) (hw : ∀ e ∈ es, 0 ≤ e.low ∧ e.high ≤ 500000) (h0 : 0 ≤ k) (h5 : k ≤ 500000) : (fitR d (es.map (moveT k)) ls).isSome = (fitR d es ls).isSome := by
  have hW' : WellP d (es.map (moveT k)) ls := well_map _ (fun _ => rfl) hW
  have hev : ∀ i < es.length, evF (es.map (moveT k)) i = moveE k (evF es i) := fun i hi => by
    obtain ⟨e, he, h1, h2⟩ := evF_map (f := moveT k) hi
    rw [h1, h2]; rfl
  have hm := move_iff (D := dst d) (ev := evF es) (n := es.length) (legs := ls.map Lgr.lg) (k := k) (fun i hi => by
    have : evF es i = (es[i]).ev := evF_at (List.getElem?_eq_getElem hi)
    rw [this]; exact hw _ (List.getElem_mem hi)) h0 h5
  rw [Bool.eq_iff_iff, fitR_iff, fitR_iff]
  constructor
  · rintro ⟨_, t, h⟩
    rw [List.length_map] at h
    exact ⟨hW, hm.2 ⟨t, holds_ev (lg_lt hW) h (fun i hi => (hev i hi).symm)⟩⟩
  · rintro ⟨_, h⟩
    obtain ⟨t, h⟩ := hm.1 h
    refine ⟨hW', t, ?_⟩
    rw [List.length_map]
    exact holds_ev (lg_lt hW) h hev
def backD (d : List (List Int)) : List (List Int) := (List.range d.length).map fun i => (List.range d.length).map fun k => dst d k i
theorem back_len (d : List (List Int)) : (backD d).length = d.length := by simp [backD]
theorem dst_back {d : List (List Int)} (hd : DistP d) (i j : Nat) : dst (backD d) i j = dst d j i := by
  by_cases hi : i < d.length
  · have h1 : (backD d)[i]? = some ((List.range d.length).map fun k => dst d k i) := by unfold backD; rw [List.getElem?_map, List.getElem?_range hi]; rfl
    by_cases hj : j < d.length
    · exact dst_at h1 (by rw [List.getElem?_map, List.getElem?_range hj]; rfl)
    · unfold dst
      rw [h1, List.getElem?_eq_none (l := d) (i := j) (by omega)]
      simp only [Option.getD_some, Option.getD_none]
      rw [List.getElem?_eq_none (by simp; omega)]
      simp
  · have h1 : (backD d)[i]? = none := List.getElem?_eq_none (by rw [back_len]; omega)
    have h2 : ¬ 0 ≤ dst d j i := fun h => hi (hd.lt h).2
    have h3 := (hd.rng j i).1
    have h4 : dst (backD d) i j = -1 := by unfold dst; rw [h1]; simp
    omega
theorem back_dist {d : List (List Int)} (hd : DistP d) : DistP (backD d) := by
  refine ⟨by rw [back_len]; exact hd.few, fun r hr => ?_, fun i hi => ?_, fun i k j hi hk hj h1 h2 h3 => ?_⟩
  · unfold backD at hr
    obtain ⟨i, hi, rfl⟩ := List.mem_map.1 hr
    refine ⟨by rw [back_len]; simp, fun x hx => ?_⟩
    obtain ⟨k, hk, rfl⟩ := List.mem_map.1 hx
    exact hd.rng k i
  · rw [back_len] at hi
    rw [dst_back hd]
    exact hd.zero i hi
  · rw [back_len] at hi hk hj
    rw [dst_back hd] at h1 h3
    rw [dst_back hd, dst_back hd, dst_back hd]
    by_cases hkj : j = k
    · subst hkj
      have := hd.zero j hj
      omega
    · have := hd.tri j k i hj hk hi h3 hkj h1
      omega
theorem perm_fm {α β : Type} {f g : α → List β} (h : ∀ a, (f a).Perm (g a)) : ∀ l : List α, (l.flatMap f).Perm (l.flatMap g)
  | [] => List.Perm.refl _
  | a :: t => by rw [List.flatMap_cons, List.flatMap_cons]; exact (h a).append (perm_fm h t)
theorem well_turn {d : List (List Int)} {es : List Evt} {ls : List Lgr} (h : WellP d es ls) : WellP (backD d) (es.map turnT) (ls.map turnG) := by
  refine ⟨back_dist h.dist, by rw [List.length_map]; exact h.few, fun e he => ?_, fun g hg => ?_, ?_⟩
  · obtain ⟨e', he', rfl⟩ := List.mem_map.1 he
    rw [back_len]; exact h.office e' he'
  · obtain ⟨g', hg', rfl⟩ := List.mem_map.1 hg
    have := h.leg g' hg'
    rw [List.length_map]
    simp only [turnG]
    omega
  · rw [List.flatMap_map]
    refine List.Perm.nodup_iff ?_ |>.2 h.once
    exact perm_fm (fun g => List.Perm.swap _ _ _) ls
theorem turn_hd {d : List (List Int)} {es : List Evt} {ls : List Lgr} (hW : WellP d es ls) : ∀ g ∈ ls.map Lgr.lg, ∀ g' ∈ ls.map Lgr.lg, g.src ≠ g'.src ↔ g.dst ≠ g'.dst := fun g hg g' hg' => by
  obtain ⟨a, ha, rfl⟩ := List.mem_map.1 hg
  obtain ⟨b, hb, rfl⟩ := List.mem_map.1 hg'
  have h1 := hW.nat a ha
  have h2 := hW.nat b hb
  refine not_congr ⟨fun e => ?_, fun e => ?_⟩
  · have e' : a.src = b.src := by simp only [Lgr.lg] at e; omega
    rw [once_eq hW.once a ha b hb (.inl e')]
  · have e' : a.dst = b.dst := by simp only [Lgr.lg] at e; omega
    rw [once_eq hW.once a ha b hb (.inr e')]
theorem turnE_turnE (e : Ev) : turnE (turnE e) = e := by
  obtain ⟨o, l, h⟩ := e
  simp only [turnE]
  congr 1 <;> omega
theorem turnL_turnL (l : List Lg) : (l.map turnL).map turnL = l := by
  rw [List.map_map]
  conv => rhs; rw [← List.map_id l]
  exact List.map_congr_left (fun g _ => rfl)
theorem fit_turn {d : List (List Int)} {es : List Evt} {ls : List Lgr} (hW : WellP d es ls) : (fitR (backD d) (es.map turnT) (ls.map turnG)).isSome = (fitR d es ls).isSome := by
  have hW' := well_turn hW
  have hD : dst (backD d) = fun a b => dst d b a := by funext i j; exact dst_back hW.dist i j
  have hev : ∀ i < es.length, evF (es.map turnT) i = turnE (evF es i) := fun i hi => by
    obtain ⟨e, he, h1, h2⟩ := evF_map (f := turnT) hi
    rw [h1, h2]; rfl
  have hlg : (ls.map turnG).map Lgr.lg = (ls.map Lgr.lg).map turnL := by rw [List.map_map, List.map_map]; rfl
  have hlt : ∀ g ∈ (ls.map Lgr.lg).map turnL, g.src < es.length ∧ g.dst < es.length := fun g hg => by
    obtain ⟨g', hg', rfl⟩ := List.mem_map.1 hg
    have := lg_lt hW g' hg'
    exact ⟨this.2, this.1⟩
  rw [Bool.eq_iff_iff, fitR_iff, fitR_iff]
  constructor
  · rintro ⟨_, t, h⟩
    rw [List.length_map, hlg, hD] at h
    have h1 := holds_ev hlt h (fun i hi => (hev i hi).symm)
    have h2 := holds_turn h1 (fun g hg g' hg' => by
      obtain ⟨a, ha, rfl⟩ := List.mem_map.1 hg
      obtain ⟨b, hb, rfl⟩ := List.mem_map.1 hg'
      exact (turn_hd hW a ha b hb).symm)
    rw [turnL_turnL] at h2
    exact ⟨hW, _, holds_ev (lg_lt hW) h2 (fun i hi => (turnE_turnE _).symm)⟩
  · rintro ⟨_, t, h⟩
    have h1 := holds_turn h (turn_hd hW)
    refine ⟨hW', fun i => 1000000 - t i, ?_⟩
    rw [List.length_map, hlg, hD]
    exact holds_ev hlt h1 hev

/-! Fewer events, and more minutes. -/
theorem well_set {d : List (List Int)} {es : List Evt} {ls : List Lgr} {k : Nat} {e e' : Evt} (h : WellP d es ls) (he : es[k]? = some e) (ho : e'.office = e.office) : WellP d (es.set k e') ls := by
  refine ⟨h.dist, by rw [List.length_set]; exact h.few, fun x hx => ?_, by rw [List.length_set]; exact h.leg, h.once⟩
  rcases List.mem_or_eq_of_mem_set hx with hx | rfl
  · exact h.office x hx
  · rw [ho]; exact h.office e (List.mem_of_getElem? he)
theorem hold_set {d : List (List Int)} {es : List Evt} {ls : List Lgr} {ts : List Int} {k : Nat} {e e' : Evt} (h : HoldP d es ls ts) (he : es[k]? = some e) (ho : e'.office = e.office) (hl : e'.low ≤ e.low) (hh : e.high ≤ e'.high) : HoldP d (es.set k e') ls ts := by
  obtain ⟨hW, hn, hH⟩ := h
  have hk := (List.getElem?_eq_some_iff.1 he).1
  have hev : ∀ i, evF (es.set k e') i = if i = k then e'.ev else evF es i := fun i => by
    by_cases hik : i = k
    · subst hik
      rw [if_pos rfl]
      exact evF_at (by rw [List.getElem?_set]; simp [hk])
    · rw [if_neg hik]
      unfold evF
      rw [List.getElem?_set, if_neg (fun x => hik x.symm)]
  have hke : evF es k = e.ev := evF_at he
  refine ⟨well_set hW he ho, by rw [List.length_set]; exact hn, ?_⟩
  rw [List.length_set]
  refine holds_wide hH (fun i => ?_) (fun i _ => ?_)
  · rw [hev]
    split
    · rename_i hik; subst hik; rw [hke]; show e'.office.toNat = e.office.toNat; rw [ho]
    · rfl
  · rw [hev]
    split
    · rename_i hik; subst hik; rw [hke]; exact ⟨hl, hh⟩
    · omega
def lowI (k : Nat) (x : Int) : Int := if (k : Int) < x then x - 1 else x
def lowG (k : Nat) (g : Lgr) : Lgr := ⟨lowI k g.src, lowI k g.dst, g.gap⟩
def skipI (k i : Nat) : Nat := if i < k then i else i + 1
theorem get_skip {α : Type} (l : List α) (k i : Nat) (hk : k < l.length) : (l.take k ++ l.drop (k + 1))[i]? = l[skipI k i]? := by
  unfold skipI
  rcases Nat.lt_or_ge i k with h | h
  · rw [if_pos h, List.getElem?_append_left (by rw [List.length_take]; omega), List.getElem?_take, if_pos h]
  · rw [if_neg (by omega), List.getElem?_append_right (by rw [List.length_take]; omega), List.getElem?_drop, List.length_take]
    congr 1; omega
theorem len_skip {α : Type} (l : List α) (k : Nat) (hk : k < l.length) : (l.take k ++ l.drop (k + 1)).length = l.length - 1 := by
  rw [List.length_append, List.length_take, List.length_drop]; omega
theorem hold_less {d : List (List Int)} {es : List Evt} {ls : List Lgr} {ts : List Int} {k : Nat} (h : HoldP d es ls ts) (hk : k < es.length) (hin : inL ls k = false) : HoldP d (es.take k ++ es.drop (k + 1)) (ls.map (lowG k)) (ts.take k ++ ts.drop (k + 1)) := by
  obtain ⟨hW, hn, hH⟩ := h
  have hne : ∀ g ∈ ls, g.src ≠ (k : Int) ∧ g.dst ≠ (k : Int) := fun g hg => by
    unfold inL at hin
    rw [List.any_eq_false] at hin
    have := hin g hg
    simpa using this
  have hlen := len_skip es k hk
  have hskip : ∀ i < es.length - 1, skipI k i < es.length := fun i hi => by unfold skipI; split <;> omega
  have hW' : WellP d (es.take k ++ es.drop (k + 1)) (ls.map (lowG k)) := by
    refine ⟨hW.dist, by rw [hlen]; have := hW.few; omega, fun e he => ?_, fun g hg => ?_, ?_⟩
    · rcases List.mem_append.1 he with he | he
      · exact hW.office e (List.mem_of_mem_take he)
      · exact hW.office e (List.mem_of_mem_drop he)
    · obtain ⟨g', hg', rfl⟩ := List.mem_map.1 hg
      have h1 := hW.leg g' hg'
      have h2 := hne g' hg'
      rw [hlen]
      simp only [lowG, lowI]
      split <;> split <;> omega
    · have e2 : ((ls.map (lowG k)).flatMap fun g => [g.src, g.dst]) = (ls.flatMap fun g => [g.src, g.dst]).map (lowI k) := by
        rw [List.map_flatMap, List.flatMap_map]; rfl
      rw [e2]
      unfold List.Nodup
      rw [List.pairwise_map]
      refine List.Pairwise.imp_of_mem (fun {a b} ha hb hne' e => ?_) hW.once
      have hmem : ∀ x ∈ (ls.flatMap fun g => [g.src, g.dst]), x ≠ (k : Int) := fun x hx => by
        obtain ⟨g, hg, hx⟩ := List.mem_flatMap.1 hx
        have := hne g hg
        simp at hx
        rcases hx with rfl | rfl
        · exact this.1
        · exact this.2
      have ha' := hmem a ha
      have hb' := hmem b hb
      unfold lowI at e
      split at e <;> split at e <;> omega
  refine ⟨hW', by rw [hlen, len_skip ts k (by omega), hn], ?_⟩
  refine holds_map (skipI k) hH rfl (fun i hi => ?_) (fun i hi j hj e => ?_) (fun g' hg' => ?_)
  · rw [hlen] at hi
    refine ⟨hskip i hi, ?_, ?_⟩
    · unfold evF; rw [get_skip _ _ _ hk]
    · unfold tmF; rw [get_skip _ _ _ (by omega)]
  · unfold skipI at e
    split at e <;> split at e <;> omega
  · have hlt := lg_lt hW' g' hg'
    refine ⟨hlt.1, hlt.2, ?_⟩
    obtain ⟨g1, hg1, rfl⟩ := List.mem_map.1 hg'
    obtain ⟨g, hg, rfl⟩ := List.mem_map.1 hg1
    have h1 := hW.leg g hg
    have h2 := hne g hg
    have key : ∀ x : Int, 0 ≤ x → x ≠ (k : Int) → x.toNat = skipI k (lowI k x).toNat := fun x h0 hx => by
      unfold skipI lowI
      split <;> split <;> omega
    exact ⟨g.lg, List.mem_map.2 ⟨g, hg, rfl⟩, key _ h1.1 h2.1, key _ h1.2.2.1 h2.2, rfl⟩
end Go.Proofs.Ytaopfoicdjejnaa

namespace Go.Proofs.Ytaopfoicdjejnaa
open Go.ChangeShapes Go.WideShapes Go.ChangeAt Go.RowKit Go.Deep

theorem fewB_le {d : List (List Int)} {m k t : Nat} (h : fewB d m k t = true) : d.length ≤ 5 ∧ m ≤ 7 ∧ k ≤ 4 ∧ t ≤ 7 := by
  unfold fewB fewR at h
  simp only [Bool.and_eq_true, decide_eq_true_eq] at h
  omega
theorem Try.info39 : (Try.prog.info? 39).map (fun i => (i.zero, i.size, i.bytes)) = some (some (.agg #[.int .i64 0, .int .i64 0, .int .i64 0]), 3, 24) := by kernel_rfl
theorem ev_len (x : Evt) : x.cells.length = 4 := rfl
theorem lg_len (x : Lgr) : x.cells.length = 3 := rfl
theorem ev_one (x : Evt) : ∀ u ∈ x.cells, u.oneCell' = true := by
  intro u hu
  simp [Evt.cells] at hu
  rcases hu with rfl | rfl | rfl | rfl <;> rfl
theorem lg_one (x : Lgr) : ∀ u ∈ x.cells, u.oneCell' = true := by
  intro u hu
  simp [Lgr.cells] at hu
  rcases hu with rfl | rfl | rfl <;> rfl
/-- One event, or leg, in a block of its own. -/
theorem Src.blk {w : World} {g : Nat} {cs : Array Value} {t : TypeId} {n k : Nat} {l : List Value} (h : Blk w g cs t) (hc : cs = l.toArray) (hl : l.length = n * k) : Src w (some ⟨g, 0, none⟩) n k l :=
  ⟨hl, fun _ => ⟨_, rfl, fun j u hu => by rw [Addr.add_lit, Nat.zero_add]; exact h.cell (by rw [hc]; simpa using hu)⟩⟩
/-- Rows of events and of legs that the law has made. -/
def OwnE (W : World) (base : Nat) (v : Value) (l : List Evt) : Prop := W.ownsRow base 32 4 v l.length (l.flatMap Evt.cells)
def OwnL (W : World) (base : Nat) (v : Value) (l : List Lgr) : Prop := W.ownsRow base 39 3 v l.length (l.flatMap Lgr.cells)
def OwnT (W : World) (base : Nat) (v : Value) (l : List Int) : Prop := W.ownsRow base 3 1 v l.length (l.map (Value.int .i64))
theorem OwnE.next {W W' : World} {base : Nat} {v : Value} {l : List Evt} (h : OwnE W base v l) (hb : Below W.heap.size W W') : OwnE W' base v l := own_below h hb
theorem OwnL.next {W W' : World} {base : Nat} {v : Value} {l : List Lgr} (h : OwnL W base v l) (hb : Below W.heap.size W W') : OwnL W' base v l := own_below h hb
theorem OwnT.next {W W' : World} {base : Nat} {v : Value} {l : List Int} (h : OwnT W base v l) (hb : Below W.heap.size W W') : OwnT W' base v l := own_below h hb
theorem OwnE.nil {W : World} {base : Nat} : OwnE W base (.slice none 0 0) [] := World.ownsRow_nil ..
theorem OwnL.nil {W : World} {base : Nat} : OwnL W base (.slice none 0 0) [] := World.ownsRow_nil ..
theorem OwnT.nil {W : World} {base : Nat} : OwnT W base (.slice none 0 0) [] := World.ownsRow_nil ..
theorem OwnE.evs {W : World} {base : Nat} {v : Value} {l : List Evt} (h : OwnE W base v l) : ∃ p c, v = .slice p l.length c ∧ EvsAt W p l := by
  obtain ⟨p, c, hv, _⟩ := own_val h
  subst hv
  exact ⟨p, c, rfl, EncAt.of_own ev_len (by omega) h⟩
theorem own_cap {w : World} {base e size n : Nat} {v : Value} {xs : List Value} (h : w.ownsRow base e size v n xs) : ∃ p cap, v = .slice p n cap ∧ n ≤ cap := by
  rcases h.2 with ⟨hv, hn⟩ | ⟨g, cap, cur, hv, hb, hh, hc, _⟩
  · exact ⟨none, 0, by rw [hv, hn], by omega⟩
  · exact ⟨_, cap, hv, hc⟩
theorem OwnL.lgs {W : World} {base : Nat} {v : Value} {l : List Lgr} (h : OwnL W base v l) : ∃ p c, v = .slice p l.length c ∧ LgsAt W p l ∧ l.length ≤ c := by
  obtain ⟨p, c, hv, hc⟩ := own_cap h
  subst hv
  exact ⟨p, c, rfl, EncAt.of_own lg_len (by omega) h, hc⟩
theorem OwnT.ints {W : World} {base : Nat} {v : Value} {l : List Int} (h : OwnT W base v l) : ∃ p c, v = .slice p l.length c ∧ IntsAt .i64 W p l := by
  obtain ⟨p, c, hv, _⟩ := own_val h
  subst hv
  exact ⟨p, c, rfl, IntsAt.of_own h⟩
theorem OwnE.app {W : World} {base : Nat} {v : Value} {l : List Evt} {x : Evt} (h : W.ownsRow base 32 4 v (l.length + 1) (l.flatMap Evt.cells ++ x.cells)) : OwnE W base v (l ++ [x]) := by
  unfold OwnE
  rw [List.flatMap_append, List.length_append]
  simpa using h
theorem OwnL.app {W : World} {base : Nat} {v : Value} {l : List Lgr} {x : Lgr} (h : W.ownsRow base 39 3 v (l.length + 1) (l.flatMap Lgr.cells ++ x.cells)) : OwnL W base v (l ++ [x]) := by
  unfold OwnL
  rw [List.flatMap_append, List.length_append]
  simpa using h
theorem OwnT.app {W : World} {base : Nat} {v : Value} {l : List Int} {x : Int} (h : W.ownsRow base 3 1 v (l.length + 1) (l.map (Value.int .i64) ++ [.int .i64 x])) : OwnT W base v (l ++ [x]) := by
  unfold OwnT
  rw [List.map_append, List.length_append]
  exact h
theorem map_take_succ {α β : Type} (f : α → β) {l : List α} {k : Nat} {x : α} (h : l[k]? = some x) : (l.take (k + 1)).map f = (l.take k).map f ++ [f x] := by
  rw [List.take_add_one, h, List.map_append]; rfl
theorem all_map_min {es : List Evt} {f : Evt → Evt} (hf : ∀ e, minB (f e) = minB e) : (es.map f).all minB = es.all minB := by
  rw [List.all_map]; congr 1; funext e; exact hf e
end Go.Proofs.Ytaopfoicdjejnaa
