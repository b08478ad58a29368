/- Plain: what the statements on lists, time, two events, one office and fewer events say of possible times. Lists of events and legs that a law makes. Plain: the reference's search: a list of sets of units, each with its last unit and its earliest time. The reference's small functions: a node's bit, the number of nodes of a set, an event's window. Plain: the reference's nodes, and what it answers: times are possible exactly if its search finds a full set. The reference's nodes. -/
import Derived.Test.YtaopfoicdjejnaaP4
import Derived.Test.YtaopfoicdjejnaaH2
import Derived.Test.YtaopfoicdjejnaaF2
import Derived.Test.YtaopfoicdjejnaaC19
import Derived.Test.YtaopfoicdjejnaaB1
set_option linter.unusedVariables false
set_option linter.unusedSimpArgs false
namespace Go.Proofs.Ytaopfoicdjejnaa
open Go.RowKit

/-- Possible times of other events, each of which is one of the first ones. -/
theorem holds_map {D D' : Nat → Nat → Int} {ev ev' : Nat → Ev} {n n' : Nat} {legs legs' : List Lg} {t t' : Nat → Int} (φ : Nat → Nat) (h : HoldsP D ev n legs t) (hD : D' = D)
    (h1 : ∀ i < n', φ i < n ∧ ev' i = ev (φ i) ∧ t' i = t (φ i)) (h2 : ∀ i < n', ∀ j < n', φ i = φ j → i = j)
    (h3 : ∀ g' ∈ legs', g'.src < n' ∧ g'.dst < n' ∧ ∃ g ∈ legs, g.src = φ g'.src ∧ g.dst = φ g'.dst ∧ g.gap = g'.gap) : HoldsP D' ev' n' legs' t' := by
  subst hD
  have hb : ∀ i < n', ∀ j < n', befE D' ev t (φ i) (φ j) → befE D' ev' t' i j := fun i hi j hj hb => by
    obtain ⟨_, a2, a3⟩ := h1 i hi
    obtain ⟨_, b2, b3⟩ := h1 j hj
    unfold befE
    rw [a2, a3, b2, b3]
    exact hb
  refine ⟨fun i hi => ?_, fun i hi j hj hne => ?_, fun g' hg' => ?_, fun g' hg' k hk hs hd => ?_, fun a ha b hbm hne => ?_⟩
  · obtain ⟨a1, a2, a3⟩ := h1 i hi
    rw [a2, a3]
    exact h.win _ a1
  · exact (h.two _ (h1 i hi).1 _ (h1 j hj).1 (fun e => hne (h2 i hi j hj e))).imp (hb i hi j hj) (hb j hj i hi)
  · obtain ⟨s1, s2, g, hg, e1, e2, e3⟩ := h3 g' hg'
    obtain ⟨l1, l2⟩ := h.leg g hg
    rw [(h1 _ s1).2.2, (h1 _ s2).2.2, ← e1, ← e2, ← e3]
    exact ⟨l1, hb _ s1 _ s2 (by rw [← e1, ← e2]; exact l2)⟩
  · obtain ⟨s1, s2, g, hg, e1, e2, e3⟩ := h3 g' hg'
    exact (h.out g hg (φ k) (h1 k hk).1 (fun e => hs (h2 k hk _ s1 (by rw [e, e1]))) (fun e => hd (h2 k hk _ s2 (by rw [e, e2])))).imp
      (fun x => hb k hk _ s1 (by rw [← e1]; exact x)) (fun x => hb _ s2 k hk (by rw [← e2]; exact x))
  · obtain ⟨s1, s2, g, hg, e1, e2, e3⟩ := h3 a ha
    obtain ⟨r1, r2, g', hg', f1, f2, f3⟩ := h3 b hbm
    exact (h.legs g hg g' hg' (fun e => hne (h2 _ s1 _ r1 (by rw [← e1, ← f1, e])))).imp
      (fun x => hb _ s2 _ r1 (by rw [← e2, ← f1]; exact x)) (fun x => hb _ r2 _ s1 (by rw [← f2, ← e1]; exact x))
/-- Possible times stay possible where windows grow. -/
theorem holds_wide {D : Nat → Nat → Int} {ev ev' : Nat → Ev} {n : Nat} {legs : List Lg} {t : Nat → Int} (h : HoldsP D ev n legs t) (he : ∀ i, (ev' i).office = (ev i).office) (hw : ∀ i < n, (ev' i).low ≤ (ev i).low ∧ (ev i).high ≤ (ev' i).high) : HoldsP D ev' n legs t := by
  have hb : ∀ i j, befE D ev t i j → befE D ev' t i j := fun i j hb => by unfold befE; rw [he i, he j]; exact hb
  refine ⟨fun i hi => ?_, fun i hi j hj hne => (h.two i hi j hj hne).imp (hb _ _) (hb _ _), fun g hg => ⟨(h.leg g hg).1, hb _ _ (h.leg g hg).2⟩, fun g hg k hk a b => (h.out g hg k hk a b).imp (hb _ _) (hb _ _), fun a ha b hbm hne => (h.legs a ha b hbm hne).imp (hb _ _) (hb _ _)⟩
  have := h.win i hi
  have := hw i hi
  omega
theorem WellP.nat {d : List (List Int)} {es : List Evt} {ls : List Lgr} (hW : WellP d es ls) : ∀ g ∈ ls, g.src.toNat < es.length ∧ g.dst.toNat < es.length ∧ ((g.src.toNat : Nat) : Int) = g.src ∧ ((g.dst.toNat : Nat) : Int) = g.dst := fun g hg => by
  obtain ⟨a1, a2, a3, a4, _⟩ := hW.leg g hg
  omega
theorem once_eq : ∀ {ls : List Lgr}, (ls.flatMap fun g => [g.src, g.dst]).Nodup → ∀ g ∈ ls, ∀ g' ∈ ls, (g.src = g'.src ∨ g.dst = g'.dst) → g = g'
  | [], _, g, hg, _, _, _ => by simp at hg
  | a :: t, h, g, hg, g', hg', he => by
    rw [List.flatMap_cons, List.nodup_append] at h
    obtain ⟨_, h2, h3⟩ := h
    have key : ∀ x ∈ t, ¬ (a.src = x.src ∨ a.dst = x.dst) := fun x hx he => by
      rcases he with he | he
      · exact h3 a.src (by simp) x.src (List.mem_flatMap.2 ⟨x, hx, by simp⟩) he
      · exact h3 a.dst (by simp) x.dst (List.mem_flatMap.2 ⟨x, hx, by simp⟩) he
    rcases List.mem_cons.1 hg with e1 | q1
    · rcases List.mem_cons.1 hg' with e2 | q2
      · rw [e1, e2]
      · rw [e1] at he; exact absurd he (key _ q2)
    · rcases List.mem_cons.1 hg' with e2 | q2
      · rw [e2] at he; exact absurd (he.imp Eq.symm Eq.symm) (key _ q1)
      · exact once_eq h2 g q1 g' q2 he

/-! One office, and two events. -/
def minB (e : Evt) : Bool := decide (e.low ≤ e.high) && decide (e.low ≤ 1000000) && decide (0 ≤ e.high)
theorem minB_iff {e : Evt} : minB e = true ↔ hasMin e.ev := by unfold minB hasMin Evt.ev; simp [and_assoc]
theorem well_nolegs {d : List (List Int)} {es : List Evt} (hd : DistP d) (hn : es.length ≤ 16) (ho : ∀ e ∈ es, 0 ≤ e.office ∧ e.office < d.length) : WellP d es [] := ⟨hd, hn, ho, (fun g hg => by simp at hg), by simp⟩
theorem one_law {d : List (List Int)} {es : List Evt} {o : Nat} (hd : DistP d) (ho : o < d.length) (hn : es.length ≤ 16) (hes : ∀ e ∈ es, e.office = o) : (fitR d es []).isSome = es.all minB := by
  have hW : WellP d es [] := well_nolegs hd hn (fun e he => by rw [hes e he]; omega)
  have hev : ∀ i < es.length, ∃ e ∈ es, evF es i = e.ev := fun i hi => ⟨es[i], List.getElem_mem hi, evF_at (List.getElem?_eq_getElem hi)⟩
  rw [Bool.eq_iff_iff, fitR_iff, List.all_eq_true]
  have h1 := one_office (D := dst d) (ev := evF es) (n := es.length) (o := o) (fun i hi => by
    obtain ⟨e, he, h⟩ := hev i hi
    rw [h]; show e.office.toNat = o; rw [hes e he]; omega) (hd.zero o ho)
  rw [List.map_nil, h1]
  constructor
  · rintro ⟨_, h⟩ e he
    obtain ⟨i, hi⟩ := List.getElem?_of_mem he
    have := h i (List.getElem?_eq_some_iff.1 hi).1
    rw [evF_at hi] at this
    exact minB_iff.2 this
  · intro h
    refine ⟨hW, fun i hi => ?_⟩
    obtain ⟨e, he, h2⟩ := hev i hi
    rw [h2]
    exact minB_iff.1 (h e he)
theorem two_law {d : List (List Int)} {a b : Evt} (hW : WellP d [a, b] []) : (fitR d [a, b] []).isSome = true ↔ hasMin a.ev ∧ hasMin b.ev ∧ (enoughP (dst d) a.ev b.ev ∨ enoughP (dst d) b.ev a.ev) := by
  rw [fitR_iff, List.map_nil]
  have h1 := two_events (D := dst d) (ev := evF [a, b])
  have e0 : evF [a, b] 0 = a.ev := rfl
  have e1 : evF [a, b] 1 = b.ev := rfl
  rw [e0, e1] at h1
  rw [← h1]
  exact ⟨fun h => h.2, fun h => ⟨hW, h⟩⟩

/-! The list turned around. -/
def flipL (n : Nat) (g : Lgr) : Lgr := ⟨(n : Int) - 1 - g.src, (n : Int) - 1 - g.dst, g.gap⟩
def flipLs (n : Nat) (ls : List Lgr) : List Lgr := (ls.map (flipL n)).reverse
theorem flip_flip (n : Nat) (ls : List Lgr) : flipLs n (flipLs n ls) = ls := by
  unfold flipLs
  rw [List.map_reverse, List.reverse_reverse, List.map_map]
  conv => rhs; rw [← List.map_id ls]
  apply List.map_congr_left
  intro g _
  obtain ⟨s, t, u⟩ := g
  simp only [Function.comp, flipL, id]
  congr 1 <;> omega
theorem well_flip {d : List (List Int)} {es : List Evt} {ls : List Lgr} (h : WellP d es ls) : WellP d es.reverse (flipLs es.length ls) := by
  refine ⟨h.dist, by rw [List.length_reverse]; exact h.few, fun e he => h.office e (List.mem_reverse.1 he), fun g hg => ?_, ?_⟩
  · unfold flipLs at hg
    obtain ⟨g', hg', rfl⟩ := List.mem_map.1 (List.mem_reverse.1 hg)
    have := h.leg g' hg'
    rw [List.length_reverse]
    simp only [flipL]
    omega
  · have e : ((flipLs es.length ls).flatMap fun g => [g.src, g.dst]).Perm (ls.flatMap fun g => [(es.length : Int) - 1 - g.src, (es.length : Int) - 1 - g.dst]) := by
      unfold flipLs
      refine (List.Perm.flatMap_right _ (List.reverse_perm _)).trans ?_
      rw [List.flatMap_map]
      exact List.Perm.refl _
    rw [e.nodup_iff]
    have e2 : (ls.flatMap fun g => [(es.length : Int) - 1 - g.src, (es.length : Int) - 1 - g.dst]) = (ls.flatMap fun g => [g.src, g.dst]).map (fun x => (es.length : Int) - 1 - x) := by
      rw [List.map_flatMap]; rfl
    rw [e2]
    unfold List.Nodup
    rw [List.pairwise_map]
    refine List.Pairwise.imp ?_ h.once
    intro a b hne e
    omega
theorem evF_rev {es : List Evt} {i : Nat} (hi : i < es.length) : evF es.reverse i = evF es (es.length - 1 - i) := by
  unfold evF
  rw [List.getElem?_reverse hi]
theorem tmF_rev {ts : List Int} {i : Nat} (hi : i < ts.length) : tmF ts.reverse i = tmF ts (ts.length - 1 - i) := by
  unfold tmF
  rw [List.getElem?_reverse hi]
theorem holds_flip {d : List (List Int)} {es : List Evt} {ls : List Lgr} {t : Nat → Int} (hW : WellP d es ls) (h : HoldsP (dst d) (evF es) es.length (ls.map Lgr.lg) t) : HoldsP (dst d) (evF es.reverse) es.reverse.length ((flipLs es.length ls).map Lgr.lg) (fun i => t (es.length - 1 - i)) := by
  refine holds_map (fun i => es.length - 1 - i) h rfl (fun i hi => ?_) (fun i hi j hj e => ?_) (fun g' hg' => ?_)
  · rw [List.length_reverse] at hi
    exact ⟨by show es.length - 1 - i < _; omega, evF_rev hi, rfl⟩
  · rw [List.length_reverse] at hi hj
    have e' : es.length - 1 - i = es.length - 1 - j := e
    omega
  · obtain ⟨g, hg, rfl⟩ := List.mem_map.1 hg'
    unfold flipLs at hg
    obtain ⟨g0, hg0, rfl⟩ := List.mem_map.1 (List.mem_reverse.1 hg)
    have := hW.leg g0 hg0
    rw [List.length_reverse]
    refine ⟨by simp only [Lgr.lg, flipL]; omega, by simp only [Lgr.lg, flipL]; omega, g0.lg, List.mem_map.2 ⟨g0, hg0, rfl⟩, ?_, ?_, rfl⟩
    · simp only [Lgr.lg, flipL]; omega
    · simp only [Lgr.lg, flipL]; omega
theorem fit_flip1 {d : List (List Int)} {es : List Evt} {ls : List Lgr} (h : (fitR d es ls).isSome = true) : (fitR d es.reverse (flipLs es.length ls)).isSome = true := by
  obtain ⟨hW, t, ht⟩ := fitR_iff.1 h
  exact fitR_iff.2 ⟨well_flip hW, _, holds_flip hW ht⟩
theorem fit_flip {d : List (List Int)} {es : List Evt} {ls : List Lgr} : (fitR d es.reverse (flipLs es.length ls)).isSome = (fitR d es ls).isSome := by
  rw [Bool.eq_iff_iff]
  constructor
  · intro h
    have := fit_flip1 h
    rwa [List.length_reverse, flip_flip, List.reverse_reverse] at this
  · exact fit_flip1
theorem holds_congr {D : Nat → Nat → Int} {ev : Nat → Ev} {n : Nat} {legs : List Lg} {t t' : Nat → Int} (hl : ∀ g ∈ legs, g.src < n ∧ g.dst < n) (h : HoldsP D ev n legs t) (ht : ∀ i < n, t' i = t i) : HoldsP D ev n legs t' :=
  holds_map id h rfl (fun i hi => ⟨hi, rfl, ht i hi⟩) (fun i _ j _ e => e) (fun g hg => ⟨(hl g hg).1, (hl g hg).2, g, hg, rfl, rfl, rfl⟩)
theorem lg_lt {d : List (List Int)} {es : List Evt} {ls : List Lgr} (hW : WellP d es ls) : ∀ g ∈ ls.map Lgr.lg, g.src < es.length ∧ g.dst < es.length := fun g hg => by
  obtain ⟨g', hg', rfl⟩ := List.mem_map.1 hg
  have := hW.nat g' hg'
  exact ⟨this.1, this.2.1⟩
theorem holdP_flip1 {d : List (List Int)} {es : List Evt} {ls : List Lgr} {ts : List Int} (h : HoldP d es ls ts) : HoldP d es.reverse (flipLs es.length ls) ts.reverse := by
  obtain ⟨hW, hl, hH⟩ := h
  have hW' := well_flip hW
  refine ⟨hW', by rw [List.length_reverse, List.length_reverse]; exact hl, holds_congr (lg_lt hW') (holds_flip hW hH) (fun i hi => ?_)⟩
  rw [List.length_reverse] at hi
  rw [tmF_rev (by omega), hl]
theorem holdB_flip {d : List (List Int)} {es : List Evt} {ls : List Lgr} {ts : List Int} : holdB d es.reverse (flipLs es.length ls) ts.reverse = holdB d es ls ts := by
  rw [Bool.eq_iff_iff, holdB_true, holdB_true]
  constructor
  · intro h
    have := holdP_flip1 h
    rwa [List.length_reverse, flip_flip, List.reverse_reverse, List.reverse_reverse] at this
  · exact holdP_flip1

/-! Time moved and turned around. -/
def moveT (k : Int) (e : Evt) : Evt := ⟨e.office, e.low + k, e.high + k, none, 0, 0⟩
def turnT (e : Evt) : Evt := ⟨e.office, 1000000 - e.high, 1000000 - e.low, none, 0, 0⟩
def turnG (g : Lgr) : Lgr := ⟨g.dst, g.src, g.gap⟩
theorem well_map {d : List (List Int)} {es : List Evt} {ls : List Lgr} (f : Evt → Evt) (hf : ∀ e, (f e).office = e.office) (h : WellP d es ls) : WellP d (es.map f) ls := by
  refine ⟨h.dist, by rw [List.length_map]; exact h.few, fun e he => ?_, by rw [List.length_map]; exact h.leg, h.once⟩
  obtain ⟨e', he', rfl⟩ := List.mem_map.1 he
  rw [hf]; exact h.office e' he'
theorem evF_map {es : List Evt} {f : Evt → Evt} {i : Nat} (hi : i < es.length) : ∃ e ∈ es, evF (es.map f) i = (f e).ev ∧ evF es i = e.ev :=
  ⟨es[i], List.getElem_mem hi, evF_at (by rw [List.getElem?_map, List.getElem?_eq_getElem hi]; rfl), evF_at (List.getElem?_eq_getElem hi)⟩
theorem holds_ev {D : Nat → Nat → Int} {ev ev' : Nat → Ev} {n : Nat} {legs : List Lg} {t : Nat → Int} (hl : ∀ g ∈ legs, g.src < n ∧ g.dst < n) (h : HoldsP D ev n legs t) (he : ∀ i < n, ev' i = ev i) : HoldsP D ev' n legs t :=
  holds_map id h rfl (fun i hi => ⟨hi, he i hi, rfl⟩) (fun i _ j _ e => e) (fun g hg => ⟨(hl g hg).1, (hl g hg).2, g, hg, rfl, rfl, rfl⟩)
theorem fit_move {d : List (List Int)} {es : List Evt} {ls : List Lgr} {k : Int} (hW : WellP d es ls) (hw : ∀ e ∈ es, 0 ≤ e.low ∧ e.high ≤ 500000) (h0 : 0 ≤ k) (h5 : k ≤ 500000) : (fitR d (es.map (moveT k)) ls).isSome = (fitR d es ls).isSome := by
  have hW' : WellP d (es.map (moveT k)) ls := well_map _ (fun _ => rfl) hW
  have hev : ∀ i < es.length, evF (es.map (moveT k)) i = moveE k (evF es i) := fun i hi => by
    obtain ⟨e, he, h1, h2⟩ := evF_map (f := moveT k) hi
    rw [h1, h2]; rfl
  have hm := move_iff (D := dst d) (ev := evF es) (n := es.length) (legs := ls.map Lgr.lg) (k := k) (fun i hi => by
    have : evF es i = (es[i]).ev := evF_at (List.getElem?_eq_getElem hi)
    rw [this]; exact hw _ (List.getElem_mem hi)) h0 h5
  rw [Bool.eq_iff_iff, fitR_iff, fitR_iff]
  constructor
  · rintro ⟨_, t, h⟩
    rw [List.length_map] at h
    exact ⟨hW, hm.2 ⟨t, holds_ev (lg_lt hW) h (fun i hi => (hev i hi).symm)⟩⟩
  · rintro ⟨_, h⟩
    obtain ⟨t, h⟩ := hm.1 h
    refine ⟨hW', t, ?_⟩
    rw [List.length_map]
    exact holds_ev (lg_lt hW) h hev
def backD (d : List (List Int)) : List (List Int) := (List.range d.length).map fun i => (List.range d.length).map fun k => dst d k i
theorem back_len (d : List (List Int)) : (backD d).length = d.length := by simp [backD]
theorem dst_back {d : List (List Int)} (hd : DistP d) (i j : Nat) : dst (backD d) i j = dst d j i := by
  by_cases hi : i < d.length
  · have h1 : (backD d)[i]? = some ((List.range d.length).map fun k => dst d k i) := by unfold backD; rw [List.getElem?_map, List.getElem?_range hi]; rfl
    by_cases hj : j < d.length
    · exact dst_at h1 (by rw [List.getElem?_map, List.getElem?_range hj]; rfl)
    · unfold dst
      rw [h1, List.getElem?_eq_none (l := d) (i := j) (by omega)]
      simp only [Option.getD_some, Option.getD_none]
      rw [List.getElem?_eq_none (by simp; omega)]
      simp
  · have h1 : (backD d)[i]? = none := List.getElem?_eq_none (by rw [back_len]; omega)
    have h2 : ¬ 0 ≤ dst d j i := fun h => hi (hd.lt h).2
    have h3 := (hd.rng j i).1
    have h4 : dst (backD d) i j = -1 := by unfold dst; rw [h1]; simp
    omega
theorem back_dist {d : List (List Int)} (hd : DistP d) : DistP (backD d) := by
  refine ⟨by rw [back_len]; exact hd.few, fun r hr => ?_, fun i hi => ?_, fun i k j hi hk hj h1 h2 h3 => ?_⟩
  · unfold backD at hr
    obtain ⟨i, hi, rfl⟩ := List.mem_map.1 hr
    refine ⟨by rw [back_len]; simp, fun x hx => ?_⟩
    obtain ⟨k, hk, rfl⟩ := List.mem_map.1 hx
    exact hd.rng k i
  · rw [back_len] at hi
    rw [dst_back hd]
    exact hd.zero i hi
  · rw [back_len] at hi hk hj
    rw [dst_back hd] at h1 h3
    rw [dst_back hd, dst_back hd, dst_back hd]
    by_cases hkj : j = k
    · subst hkj
      have := hd.zero j hj
      omega
    · have := hd.tri j k i hj hk hi h3 hkj h1
      omega
theorem perm_fm {α β : Type} {f g : α → List β} (h : ∀ a, (f a).Perm (g a)) : ∀ l : List α, (l.flatMap f).Perm (l.flatMap g)
  | [] => List.Perm.refl _
  | a :: t => by rw [List.flatMap_cons, List.flatMap_cons]; exact (h a).append (perm_fm h t)
theorem well_turn {d : List (List Int)} {es : List Evt} {ls : List Lgr} (h : WellP d es ls) : WellP (backD d) (es.map turnT) (ls.map turnG) := by
  refine ⟨back_dist h.dist, by rw [List.length_map]; exact h.few, fun e he => ?_, fun g hg => ?_, ?_⟩
  · obtain ⟨e', he', rfl⟩ := List.mem_map.1 he
    rw [back_len]; exact h.office e' he'
  · obtain ⟨g', hg', rfl⟩ := List.mem_map.1 hg
    have := h.leg g' hg'
    rw [List.length_map]
    simp only [turnG]
    omega
  · rw [List.flatMap_map]
    refine List.Perm.nodup_iff ?_ |>.2 h.once
    exact perm_fm (fun g => List.Perm.swap _ _ _) ls
theorem turn_hd {d : List (List Int)} {es : List Evt} {ls : List Lgr} (hW : WellP d es ls) : ∀ g ∈ ls.map Lgr.lg, ∀ g' ∈ ls.map Lgr.lg, g.src ≠ g'.src ↔ g.dst ≠ g'.dst := fun g hg g' hg' => by
  obtain ⟨a, ha, rfl⟩ := List.mem_map.1 hg
  obtain ⟨b, hb, rfl⟩ := List.mem_map.1 hg'
  have h1 := hW.nat a ha
  have h2 := hW.nat b hb
  refine not_congr ⟨fun e => ?_, fun e => ?_⟩
  · have e' : a.src = b.src := by simp only [Lgr.lg] at e; omega
    rw [once_eq hW.once a ha b hb (.inl e')]
  · have e' : a.dst = b.dst := by simp only [Lgr.lg] at e; omega
    rw [once_eq hW.once a ha b hb (.inr e')]
theorem turnE_turnE (e : Ev) : turnE (turnE e) = e := by
  obtain ⟨o, l, h⟩ := e
  simp only [turnE]
  congr 1 <;> omega
theorem turnL_turnL (l : List Lg) : (l.map turnL).map turnL = l := by
  rw [List.map_map]
  conv => rhs; rw [← List.map_id l]
  exact List.map_congr_left (fun g _ => rfl)
theorem fit_turn {d : List (List Int)} {es : List Evt} {ls : List Lgr} (hW : WellP d es ls) : (fitR (backD d) (es.map turnT) (ls.map turnG)).isSome = (fitR d es ls).isSome := by
  have hW' := well_turn hW
  have hD : dst (backD d) = fun a b => dst d b a := by funext i j; exact dst_back hW.dist i j
  have hev : ∀ i < es.length, evF (es.map turnT) i = turnE (evF es i) := fun i hi => by
    obtain ⟨e, he, h1, h2⟩ := evF_map (f := turnT) hi
    rw [h1, h2]; rfl
  have hlg : (ls.map turnG).map Lgr.lg = (ls.map Lgr.lg).map turnL := by rw [List.map_map, List.map_map]; rfl
  have hlt : ∀ g ∈ (ls.map Lgr.lg).map turnL, g.src < es.length ∧ g.dst < es.length := fun g hg => by
    obtain ⟨g', hg', rfl⟩ := List.mem_map.1 hg
    have := lg_lt hW g' hg'
    exact ⟨this.2, this.1⟩
  rw [Bool.eq_iff_iff, fitR_iff, fitR_iff]
  constructor
  · rintro ⟨_, t, h⟩
    rw [List.length_map, hlg, hD] at h
    have h1 := holds_ev hlt h (fun i hi => (hev i hi).symm)
    have h2 := holds_turn h1 (fun g hg g' hg' => by
      obtain ⟨a, ha, rfl⟩ := List.mem_map.1 hg
      obtain ⟨b, hb, rfl⟩ := List.mem_map.1 hg'
      exact (turn_hd hW a ha b hb).symm)
    rw [turnL_turnL] at h2
    exact ⟨hW, _, holds_ev (lg_lt hW) h2 (fun i hi => (turnE_turnE _).symm)⟩
  · rintro ⟨_, t, h⟩
    have h1 := holds_turn h (turn_hd hW)
    refine ⟨hW', fun i => 1000000 - t i, ?_⟩
    rw [List.length_map, hlg, hD]
    exact holds_ev hlt h1 hev

/-! Fewer events, and more minutes. -/
theorem well_set {d : List (List Int)} {es : List Evt} {ls : List Lgr} {k : Nat} {e e' : Evt} (h : WellP d es ls) (he : es[k]? = some e) (ho : e'.office = e.office) : WellP d (es.set k e') ls := by
  refine ⟨h.dist, by rw [List.length_set]; exact h.few, fun x hx => ?_, by rw [List.length_set]; exact h.leg, h.once⟩
  rcases List.mem_or_eq_of_mem_set hx with hx | rfl
  · exact h.office x hx
  · rw [ho]; exact h.office e (List.mem_of_getElem? he)
theorem hold_set {d : List (List Int)} {es : List Evt} {ls : List Lgr} {ts : List Int} {k : Nat} {e e' : Evt} (h : HoldP d es ls ts) (he : es[k]? = some e) (ho : e'.office = e.office) (hl : e'.low ≤ e.low) (hh : e.high ≤ e'.high) : HoldP d (es.set k e') ls ts := by
  obtain ⟨hW, hn, hH⟩ := h
  have hk := (List.getElem?_eq_some_iff.1 he).1
  have hev : ∀ i, evF (es.set k e') i = if i = k then e'.ev else evF es i := fun i => by
    by_cases hik : i = k
    · subst hik
      rw [if_pos rfl]
      exact evF_at (by rw [List.getElem?_set]; simp [hk])
    · rw [if_neg hik]
      unfold evF
      rw [List.getElem?_set, if_neg (fun x => hik x.symm)]
  have hke : evF es k = e.ev := evF_at he
  refine ⟨well_set hW he ho, by rw [List.length_set]; exact hn, ?_⟩
  rw [List.length_set]
  refine holds_wide hH (fun i => ?_) (fun i _ => ?_)
  · rw [hev]
    split
    · rename_i hik; subst hik; rw [hke]; show e'.office.toNat = e.office.toNat; rw [ho]
    · rfl
  · rw [hev]
    split
    · rename_i hik; subst hik; rw [hke]; exact ⟨hl, hh⟩
    · omega
def lowI (k : Nat) (x : Int) : Int := if (k : Int) < x then x - 1 else x
def lowG (k : Nat) (g : Lgr) : Lgr := ⟨lowI k g.src, lowI k g.dst, g.gap⟩
def skipI (k i : Nat) : Nat := if i < k then i else i + 1
theorem get_skip {α : Type} (l : List α) (k i : Nat) (hk : k < l.length) : (l.take k ++ l.drop (k + 1))[i]? = l[skipI k i]? := by
  unfold skipI
  rcases Nat.lt_or_ge i k with h | h
  · rw [if_pos h, List.getElem?_append_left (by rw [List.length_take]; omega), List.getElem?_take, if_pos h]
  · rw [if_neg (by omega), List.getElem?_append_right (by rw [List.length_take]; omega), List.getElem?_drop, List.length_take]
    congr 1; omega
theorem len_skip {α : Type} (l : List α) (k : Nat) (hk : k < l.length) : (l.take k ++ l.drop (k + 1)).length = l.length - 1 := by
  rw [List.length_append, List.length_take, List.length_drop]; omega
theorem hold_less {d : List (List Int)} {es : List Evt} {ls : List Lgr} {ts : List Int} {k : Nat} (h : HoldP d es ls ts) (hk : k < es.length) (hin : inL ls k = false) : HoldP d (es.take k ++ es.drop (k + 1)) (ls.map (lowG k)) (ts.take k ++ ts.drop (k + 1)) := by
  obtain ⟨hW, hn, hH⟩ := h
  have hne : ∀ g ∈ ls, g.src ≠ (k : Int) ∧ g.dst ≠ (k : Int) := fun g hg => by
    unfold inL at hin
    rw [List.any_eq_false] at hin
    have := hin g hg
    simpa using this
  have hlen := len_skip es k hk
  have hskip : ∀ i < es.length - 1, skipI k i < es.length := fun i hi => by unfold skipI; split <;> omega
  have hW' : WellP d (es.take k ++ es.drop (k + 1)) (ls.map (lowG k)) := by
    refine ⟨hW.dist, by rw [hlen]; have := hW.few; omega, fun e he => ?_, fun g hg => ?_, ?_⟩
    · rcases List.mem_append.1 he with he | he
      · exact hW.office e (List.mem_of_mem_take he)
      · exact hW.office e (List.mem_of_mem_drop he)
    · obtain ⟨g', hg', rfl⟩ := List.mem_map.1 hg
      have h1 := hW.leg g' hg'
      have h2 := hne g' hg'
      rw [hlen]
      simp only [lowG, lowI]
      split <;> split <;> omega
    · have e2 : ((ls.map (lowG k)).flatMap fun g => [g.src, g.dst]) = (ls.flatMap fun g => [g.src, g.dst]).map (lowI k) := by
        rw [List.map_flatMap, List.flatMap_map]; rfl
      rw [e2]
      unfold List.Nodup
      rw [List.pairwise_map]
      refine List.Pairwise.imp_of_mem (fun {a b} ha hb hne' e => ?_) hW.once
      have hmem : ∀ x ∈ (ls.flatMap fun g => [g.src, g.dst]), x ≠ (k : Int) := fun x hx => by
        obtain ⟨g, hg, hx⟩ := List.mem_flatMap.1 hx
        have := hne g hg
        simp at hx
        rcases hx with rfl | rfl
        · exact this.1
        · exact this.2
      have ha' := hmem a ha
      have hb' := hmem b hb
      unfold lowI at e
      split at e <;> split at e <;> omega
  refine ⟨hW', by rw [hlen, len_skip ts k (by omega), hn], ?_⟩
  refine holds_map (skipI k) hH rfl (fun i hi => ?_) (fun i hi j hj e => ?_) (fun g' hg' => ?_)
  · rw [hlen] at hi
    refine ⟨hskip i hi, ?_, ?_⟩
    · unfold evF; rw [get_skip _ _ _ hk]
    · unfold tmF; rw [get_skip _ _ _ (by omega)]
  · unfold skipI at e
    split at e <;> split at e <;> omega
  · have hlt := lg_lt hW' g' hg'
    refine ⟨hlt.1, hlt.2, ?_⟩
    obtain ⟨g1, hg1, rfl⟩ := List.mem_map.1 hg'
    obtain ⟨g, hg, rfl⟩ := List.mem_map.1 hg1
    have h1 := hW.leg g hg
    have h2 := hne g hg
    have key : ∀ x : Int, 0 ≤ x → x ≠ (k : Int) → x.toNat = skipI k (lowI k x).toNat := fun x h0 hx => by
      unfold skipI lowI
      split <;> split <;> omega
    exact ⟨g.lg, List.mem_map.2 ⟨g, hg, rfl⟩, key _ h1.1 h2.1, key _ h1.2.2.1 h2.2, rfl⟩
end Go.Proofs.Ytaopfoicdjejnaa

namespace Go.Proofs.Ytaopfoicdjejnaa
open Go.ChangeShapes Go.WideShapes Go.ChangeAt Go.RowKit Go.Deep

theorem fewB_le {d : List (List Int)} {m k t : Nat} (h : fewB d m k t = true) : d.length ≤ 5 ∧ m ≤ 7 ∧ k ≤ 4 ∧ t ≤ 7 := by
  unfold fewB fewR at h
  simp only [Bool.and_eq_true, decide_eq_true_eq] at h
  omega
theorem Try.info39 : (Try.prog.info? 39).map (fun i => (i.zero, i.size, i.bytes)) = some (some (.agg #[.int .i64 0, .int .i64 0, .int .i64 0]), 3, 24) := by kernel_rfl
theorem ev_len (x : Evt) : x.cells.length = 4 := rfl
theorem lg_len (x : Lgr) : x.cells.length = 3 := rfl
theorem ev_one (x : Evt) : ∀ u ∈ x.cells, u.oneCell' = true := by
  intro u hu
  simp [Evt.cells] at hu
  rcases hu with rfl | rfl | rfl | rfl <;> rfl
theorem lg_one (x : Lgr) : ∀ u ∈ x.cells, u.oneCell' = true := by
  intro u hu
  simp [Lgr.cells] at hu
  rcases hu with rfl | rfl | rfl <;> rfl
/-- One event, or leg, in a block of its own. -/
theorem Src.blk {w : World} {g : Nat} {cs : Array Value} {t : TypeId} {n k : Nat} {l : List Value} (h : Blk w g cs t) (hc : cs = l.toArray) (hl : l.length = n * k) : Src w (some ⟨g, 0, none⟩) n k l :=
  ⟨hl, fun _ => ⟨_, rfl, fun j u hu => by rw [Addr.add_lit, Nat.zero_add]; exact h.cell (by rw [hc]; simpa using hu)⟩⟩
/-- Rows of events and of legs that the law has made. -/
def OwnE (W : World) (base : Nat) (v : Value) (l : List Evt) : Prop := W.ownsRow base 32 4 v l.length (l.flatMap Evt.cells)
def OwnL (W : World) (base : Nat) (v : Value) (l : List Lgr) : Prop := W.ownsRow base 39 3 v l.length (l.flatMap Lgr.cells)
def OwnT (W : World) (base : Nat) (v : Value) (l : List Int) : Prop := W.ownsRow base 3 1 v l.length (l.map (Value.int .i64))
theorem OwnE.next {W W' : World} {base : Nat} {v : Value} {l : List Evt} (h : OwnE W base v l) (hb : Below W.heap.size W W') : OwnE W' base v l := own_below h hb
theorem OwnL.next {W W' : World} {base : Nat} {v : Value} {l : List Lgr} (h : OwnL W base v l) (hb : Below W.heap.size W W') : OwnL W' base v l := own_below h hb
theorem OwnT.next {W W' : World} {base : Nat} {v : Value} {l : List Int} (h : OwnT W base v l) (hb : Below W.heap.size W W') : OwnT W' base v l := own_below h hb
theorem OwnE.nil {W : World} {base : Nat} : OwnE W base (.slice none 0 0) [] := World.ownsRow_nil ..
theorem OwnL.nil {W : World} {base : Nat} : OwnL W base (.slice none 0 0) [] := World.ownsRow_nil ..
theorem OwnT.nil {W : World} {base : Nat} : OwnT W base (.slice none 0 0) [] := World.ownsRow_nil ..
theorem OwnE.evs {W : World} {base : Nat} {v : Value} {l : List Evt} (h : OwnE W base v l) : ∃ p c, v = .slice p l.length c ∧ EvsAt W p l := by
  obtain ⟨p, c, hv, _⟩ := own_val h
  subst hv
  exact ⟨p, c, rfl, EncAt.of_own ev_len (by omega) h⟩
theorem own_cap {w : World} {base e size n : Nat} {v : Value} {xs : List Value} (h : w.ownsRow base e size v n xs) : ∃ p cap, v = .slice p n cap ∧ n ≤ cap := by
  rcases h.2 with ⟨hv, hn⟩ | ⟨g, cap, cur, hv, hb, hh, hc, _⟩
  · exact ⟨none, 0, by rw [hv, hn], by omega⟩
  · exact ⟨_, cap, hv, hc⟩
theorem OwnL.lgs {W : World} {base : Nat} {v : Value} {l : List Lgr} (h : OwnL W base v l) : ∃ p c, v = .slice p l.length c ∧ LgsAt W p l ∧ l.length ≤ c := by
  obtain ⟨p, c, hv, hc⟩ := own_cap h
  subst hv
  exact ⟨p, c, rfl, EncAt.of_own lg_len (by omega) h, hc⟩
theorem OwnT.ints {W : World} {base : Nat} {v : Value} {l : List Int} (h : OwnT W base v l) : ∃ p c, v = .slice p l.length c ∧ IntsAt .i64 W p l := by
  obtain ⟨p, c, hv, _⟩ := own_val h
  subst hv
  exact ⟨p, c, rfl, IntsAt.of_own h⟩
theorem OwnE.app {W : World} {base : Nat} {v : Value} {l : List Evt} {x : Evt} (h : W.ownsRow base 32 4 v (l.length + 1) (l.flatMap Evt.cells ++ x.cells)) : OwnE W base v (l ++ [x]) := by
  unfold OwnE
  rw [List.flatMap_append, List.length_append]
  simpa using h
theorem OwnL.app {W : World} {base : Nat} {v : Value} {l : List Lgr} {x : Lgr} (h : W.ownsRow base 39 3 v (l.length + 1) (l.flatMap Lgr.cells ++ x.cells)) : OwnL W base v (l ++ [x]) := by
  unfold OwnL
  rw [List.flatMap_append, List.length_append]
  simpa using h
theorem OwnT.app {W : World} {base : Nat} {v : Value} {l : List Int} {x : Int} (h : W.ownsRow base 3 1 v (l.length + 1) (l.map (Value.int .i64) ++ [.int .i64 x])) : OwnT W base v (l ++ [x]) := by
  unfold OwnT
  rw [List.map_append, List.length_append]
  exact h
theorem map_take_succ {α β : Type} (f : α → β) {l : List α} {k : Nat} {x : α} (h : l[k]? = some x) : (l.take (k + 1)).map f = (l.take k).map f ++ [f x] := by
  rw [List.take_add_one, h, List.map_append]; rfl
theorem all_map_min {es : List Evt} {f : Evt → Evt} (hf : ∀ e, minB (f e) = minB e) : (es.map f).all minB = es.all minB := by
  rw [List.all_map]; congr 1; funext e; exact hf e
end Go.Proofs.Ytaopfoicdjejnaa

namespace Go.Proofs.Ytaopfoicdjejnaa

structure Rs where
  time : Int
  last : Nat
  set : Nat
  frm : Int
def openR (D : Nat → Nat → Int) (us : Nat → Un) (n set last : Nat) (time : Int) : Bool :=
  (List.range n).all fun i => set.testBit i || (decide (0 ≤ D (us last).exit (us i).entry) && decide (time + (us last).span + D (us last).exit (us i).entry ≤ (us i).high))
def sameR (set last : Nat) (x : Rs) : Bool := x.set == set && x.last == last
theorem sameR_iff {set last : Nat} {x : Rs} : sameR set last x = true ↔ x.set = set ∧ x.last = last := by unfold sameR; simp
def atR (lst : List Rs) (frm set last : Nat) : Nat := frm + (lst.drop frm).findIdx (sameR set last)
def putR (lst : List Rs) (frm : Nat) (nx : Rs) : List Rs := match lst[atR lst frm nx.set nx.last]? with
  | none => lst ++ [nx]
  | some y => if nx.time < y.time then lst.set (atR lst frm nx.set nx.last) nx else lst
def tR (D : Nat → Nat → Int) (us : Nat → Un) (s : Rs) (i : Nat) : Int := max (s.time + (us s.last).span + D (us s.last).exit (us i).entry) (us i).low
def oneR (D : Nat → Nat → Int) (us : Nat → Un) (n k frm : Nat) (s : Rs) (lst : List Rs) (i : Nat) : List Rs :=
  if s.set.testBit i = true ∨ D (us s.last).exit (us i).entry < 0 ∨ (us i).high < tR D us s i ∨ openR D us n (s.set + 2 ^ i) i (tR D us s i) = false then lst
  else putR lst frm ⟨tR D us s i, i, s.set + 2 ^ i, k⟩
def pcF : Nat → Nat → Nat
  | 0, _ => 0
  | f + 1, s => s % 2 + pcF f (s / 2)
def pc (s : Nat) : Nat := pcF s s
def extR (D : Nat → Nat → Int) (us : Nat → Un) (n k size frm : Nat) (lst : List Rs) : List Rs := match lst[k]? with
  | none => lst
  | some s => if pc s.set = size then (List.range n).foldl (oneR D us n k frm s) lst else lst
def roundR (D : Nat → Nat → Int) (us : Nat → Un) (n size : Nat) (lst : List Rs) : List Rs := (List.range lst.length).foldl (fun l k => extR D us n k size lst.length l) lst
def initR (us : Nat → Un) (n : Nat) : List Rs := (List.range n).map fun i => ⟨(us i).low, i, 2 ^ i, -1⟩
def allR (D : Nat → Nat → Int) (us : Nat → Un) (n : Nat) : Nat → List Rs
  | 0 => initR us n
  | r + 1 => roundR D us n (r + 1) (allR D us n r)
def doneR (D : Nat → Nat → Int) (us : Nat → Un) (n : Nat) : Bool := (allR D us n (n - 1)).any fun x => x.set == 2 ^ n - 1

/-! Bits. -/
theorem half_eq {a b : Nat} (h1 : a / 2 = b / 2) (h2 : a % 2 = b % 2) : a = b := by omega
theorem add_or : ∀ (i a : Nat), a.testBit i = false → a + 2 ^ i = a ||| 2 ^ i
  | 0, a, h => by
    rw [Nat.testBit_zero, decide_eq_false_iff_not] at h
    apply half_eq
    · rw [Nat.or_div_two]; simp; omega
    · have h1 := (Nat.or_mod_two_eq_one (a := a) (b := 2 ^ 0)).2 (.inr rfl)
      rw [h1]
      show (a + 1) % 2 = 1
      omega
  | i + 1, a, h => by
    rw [Nat.testBit_succ] at h
    have ih := add_or i (a / 2) h
    have e : 2 ^ (i + 1) = 2 * 2 ^ i := by rw [Nat.pow_succ]; omega
    apply half_eq
    · rw [Nat.or_div_two, show 2 ^ (i + 1) / 2 = 2 ^ i by omega, ← ih]
      omega
    · have h1 : (a ||| 2 ^ (i + 1)) % 2 = 1 ↔ a % 2 = 1 ∨ 2 ^ (i + 1) % 2 = 1 := Nat.or_mod_two_eq_one
      have h2 : 2 ^ (i + 1) % 2 = 0 := by omega
      rw [h2] at h1
      have h3 : (a ||| 2 ^ (i + 1)) % 2 = 1 ↔ a % 2 = 1 := by rw [h1]; simp
      omega
theorem pcF_add : ∀ (f g s : Nat), s < 2 ^ f → s < 2 ^ g → pcF f s = pcF g s
  | 0, g, s, h, _ => by
    obtain rfl : s = 0 := by simpa using h
    have : ∀ g, pcF g 0 = 0 := fun g => by induction g with
      | zero => rfl
      | succ g ih => rw [pcF, ih]
    rw [this, this]
  | f + 1, 0, s, _, h => by
    obtain rfl : s = 0 := by simpa using h
    have : ∀ g, pcF g 0 = 0 := fun g => by induction g with
      | zero => rfl
      | succ g ih => rw [pcF, ih]
    rw [this, this]
  | f + 1, g + 1, s, h1, h2 => by
    rw [Nat.pow_succ] at h1 h2
    rw [pcF, pcF, pcF_add f g (s / 2) (by omega) (by omega)]
theorem lt_two_pow' (s : Nat) : s < 2 ^ s := Nat.lt_two_pow_self
theorem pc_step (s : Nat) : pc s = s % 2 + pc (s / 2) := by
  unfold pc
  rw [pcF_add s (s + 1) s (lt_two_pow' s) (Nat.lt_of_lt_of_le (lt_two_pow' s) (Nat.pow_le_pow_right (by omega) (by omega))), pcF]
  rw [pcF_add s (s / 2) (s / 2) (Nat.lt_of_le_of_lt (Nat.div_le_self s 2) (lt_two_pow' s)) (lt_two_pow' _)]
theorem pc_zero : pc 0 = 0 := rfl
theorem pc_add : ∀ (i s : Nat), s.testBit i = false → pc (s + 2 ^ i) = pc s + 1
  | 0, s, h => by
    rw [Nat.testBit_zero, decide_eq_false_iff_not] at h
    rw [pc_step, pc_step s, show (s + 2 ^ 0) / 2 = s / 2 by omega]
    omega
  | i + 1, s, h => by
    rw [Nat.testBit_succ] at h
    have ih := pc_add i (s / 2) h
    have e : 2 ^ (i + 1) = 2 * 2 ^ i := by rw [Nat.pow_succ]; omega
    rw [pc_step, pc_step s, show (s + 2 ^ (i + 1)) / 2 = s / 2 + 2 ^ i by omega, ih]
    omega
theorem pc_pow (i : Nat) : pc (2 ^ i) = 1 := by
  have := pc_add i 0 (Nat.zero_testBit i)
  rw [Nat.zero_add] at this
  rw [this]; rfl

/-! What a list of states keeps. -/
theorem To.lt {D : Nat → Nat → Int} {us : Nat → Un} {n : Nat} {l : List Nat} {st : Stt} {t : Int} (h : To D us n l st t) : st.done < 2 ^ n := by
  induction h with
  | nil => exact Nat.two_pow_pos n
  | @snoc l st t u _ hu _ ih => exact Nat.or_lt_two_pow ih (Nat.pow_lt_pow_right (by omega) (mem_leftF.1 hu).1)
theorem To.len {D : Nat → Nat → Int} {us : Nat → Un} {n : Nat} {l : List Nat} {st : Stt} {t : Int} (h : To D us n l st t) : l.length + cntF n st = n := by
  induction h with
  | nil => unfold cntF; rw [leftF_zero, List.length_range]; simp
  | @snoc l st t u _ hu _ ih =>
    have := cnt_after (D := D) (us := us) (t := 0) hu
    rw [List.length_append, List.length_singleton]; omega
def RsOk (D : Nat → Nat → Int) (us : Nat → Un) (n : Nat) (x : Rs) : Prop := x.last < n ∧ (us x.last).low ≤ x.time ∧ x.time ≤ (us x.last).high ∧ ∃ l, To D us n l ⟨x.set, some (us x.last).exit⟩ (x.time + (us x.last).span)
structure RInv (D : Nat → Nat → Int) (us : Nat → Un) (n : Nat) (lst : List Rs) : Prop where
  ok : ∀ x ∈ lst, RsOk D us n x
  frm : ∀ (i : Nat) (x : Rs), lst[i]? = some x → -1 ≤ x.frm ∧ x.frm < (i : Int)
section
variable {D : Nat → Nat → Int} {us : Nat → Un} {n : Nat} {lst : List Rs}
theorem RsOk.set_lt {x : Rs} (h : RsOk D us n x) : x.set < 2 ^ n := by obtain ⟨_, _, _, l, hl⟩ := h; exact hl.lt
theorem RInv.init (hU : ∀ u < n, UnOk D us u ∧ (us u).low ≤ (us u).high) : RInv D us n (initR us n) := by
  refine ⟨fun x hx => ?_, fun i x hx => ?_⟩
  · unfold initR at hx
    obtain ⟨i, hi, rfl⟩ := List.mem_map.1 hx
    have hi' : i < n := by simpa using hi
    obtain ⟨hu, hlh⟩ := hU i hi'
    have hl0 := hu.1
    refine ⟨hi', Int.le_refl _, hlh, [i], ?_⟩
    have hb : beginF D us none 0 i = (us i).low := by
      unfold beginF far
      simp only
      rw [if_neg (by omega)]
      omega
    have := To.snoc (D := D) (us := us) (n := n) To.nil (u := i) (mem_leftF.2 ⟨hi', Nat.zero_testBit i⟩) (by show 0 ≤ beginF D us none 0 i; rw [hb]; exact hl0)
    rw [List.nil_append] at this
    have e : beginF D us (⟨0, none⟩ : Stt).off 0 i = (us i).low := hb
    rw [e] at this
    unfold afterF at this
    simp only [Nat.zero_or] at this
    exact this
  · unfold initR at hx
    rw [List.getElem?_map] at hx
    obtain ⟨j, hj, rfl⟩ := Option.map_eq_some_iff.1 hx
    exact ⟨Int.le_refl _, by show (-1 : Int) < (i : Int); omega⟩
theorem at_le (lst : List Rs) (frm set last : Nat) (h : frm ≤ lst.length) : frm ≤ atR lst frm set last ∧ atR lst frm set last ≤ lst.length := by
  unfold atR
  have := List.findIdx_le_length (p := sameR set last) (xs := lst.drop frm)
  rw [List.length_drop] at this
  omega
theorem at_same {frm set last : Nat} (h : frm ≤ lst.length) {y : Rs} (hy : lst[atR lst frm set last]? = some y) : y.set = set ∧ y.last = last := by
  unfold atR at hy
  rw [← List.getElem?_drop] at hy
  obtain ⟨hlt, rfl⟩ := List.getElem?_eq_some_iff.1 hy
  have := List.findIdx_getElem (p := sameR set last) (xs := lst.drop frm) (w := hlt)
  exact sameR_iff.1 this
theorem put_len {frm : Nat} {nx : Rs} : lst.length ≤ (putR lst frm nx).length := by
  unfold putR
  split
  · simp
  · split <;> simp
theorem put_keep {frm : Nat} {nx : Rs} (h : frm ≤ lst.length) {i : Nat} (hi : i < frm) : (putR lst frm nx)[i]? = lst[i]? := by
  have ha := at_le lst frm nx.set nx.last h
  unfold putR
  split
  · rw [List.getElem?_append_left (by omega)]
  · split
    · rw [List.getElem?_set, if_neg (by omega)]
    · rfl
theorem put_mem {frm : Nat} {nx x : Rs} (hx : x ∈ putR lst frm nx) : x ∈ lst ∨ x = nx := by
  unfold putR at hx
  split at hx
  · rcases List.mem_append.1 hx with h | h
    · exact .inl h
    · exact .inr (List.mem_singleton.1 h)
  · split at hx
    · exact List.mem_or_eq_of_mem_set hx
    · exact .inl hx
theorem RInv.put (h : RInv D us n lst) {frm : Nat} (hf : frm ≤ lst.length) {nx : Rs} (hn : RsOk D us n nx) (h1 : -1 ≤ nx.frm) (h2 : nx.frm < (frm : Int)) : RInv D us n (putR lst frm nx) := by
  refine ⟨fun x hx => ?_, fun i x hx => ?_⟩
  · rcases put_mem hx with hx | rfl
    · exact h.ok x hx
    · exact hn
  · have ha := at_le lst frm nx.set nx.last hf
    unfold putR at hx
    split at hx
    · rcases Nat.lt_or_ge i lst.length with hi | hi
      · rw [List.getElem?_append_left hi] at hx; exact h.frm i x hx
      · rw [List.getElem?_append_right hi] at hx
        obtain ⟨_, hx⟩ := List.getElem?_eq_some_iff.1 hx
        simp at hx
        subst hx
        exact ⟨h1, by omega⟩
    · split at hx
      · rw [List.getElem?_set] at hx
        split at hx
        · rename_i e
          split at hx
          · injection hx with hx; subst hx; exact ⟨h1, by omega⟩
          · cases hx
        · exact h.frm i x hx
      · exact h.frm i x hx
/-- A state, or one with the same set and the same last unit that is not later. -/
def Cov (lst : List Rs) (set last : Nat) (t : Int) : Prop := ∃ y ∈ lst, y.set = set ∧ y.last = last ∧ y.time ≤ t
theorem Cov.put {frm : Nat} {nx : Rs} (hf : frm ≤ lst.length) {set last : Nat} {t : Int} (h : Cov lst set last t) : Cov (putR lst frm nx) set last t := by
  obtain ⟨y, hy, e1, e2, e3⟩ := h
  unfold putR
  split
  · exact ⟨y, List.mem_append.2 (.inl hy), e1, e2, e3⟩
  · rename_i z hz
    split
    · rename_i hlt
      obtain ⟨i, hi⟩ := List.getElem?_of_mem hy
      by_cases e : i = atR lst frm nx.set nx.last
      · subst e
        rw [hz] at hi
        injection hi with hi; subst hi
        obtain ⟨s1, s2⟩ := at_same hf hz
        have hil := (List.getElem?_eq_some_iff.1 hz).1
        exact ⟨nx, List.mem_iff_getElem?.2 ⟨_, by rw [List.getElem?_set, if_pos rfl, if_pos hil]⟩, by rw [← e1, s1], by rw [← e2, s2], by omega⟩
      · exact ⟨y, List.mem_iff_getElem?.2 ⟨i, by rw [List.getElem?_set, if_neg (fun x => e x.symm)]; exact hi⟩, e1, e2, e3⟩
    · exact ⟨y, hy, e1, e2, e3⟩
theorem cov_put {frm : Nat} {nx : Rs} (hf : frm ≤ lst.length) : Cov (putR lst frm nx) nx.set nx.last nx.time := by
  unfold putR
  split
  · exact ⟨nx, by simp, rfl, rfl, Int.le_refl _⟩
  · rename_i z hz
    have hil := (List.getElem?_eq_some_iff.1 hz).1
    split
    · exact ⟨nx, List.mem_iff_getElem?.2 ⟨_, by rw [List.getElem?_set, if_pos rfl, if_pos hil]⟩, rfl, rfl, Int.le_refl _⟩
    · obtain ⟨s1, s2⟩ := at_same hf hz
      exact ⟨z, List.mem_of_getElem? hz, s1, s2, by omega⟩
theorem next_ok (hU : ∀ u < n, UnOk D us u) {s : Rs} (hs : RsOk D us n s) {i k : Nat} (hi : i < n) (h1 : s.set.testBit i = false) (h2 : 0 ≤ D (us s.last).exit (us i).entry) (h3 : tR D us s i ≤ (us i).high) : RsOk D us n ⟨tR D us s i, i, s.set + 2 ^ i, k⟩ := by
  obtain ⟨s1, s2, s3, l, hl⟩ := hs
  have hl0 := (hU i hi).1
  have hb : beginF D us (some (us s.last).exit) (s.time + (us s.last).span) i = tR D us s i := by
    unfold beginF far tR
    simp only
    unfold tR at h3
    rw [if_neg (by omega)]
    omega
  refine ⟨hi, by show (us i).low ≤ tR D us s i; unfold tR; omega, h3, l ++ [i], ?_⟩
  have := To.snoc hl (u := i) (mem_leftF.2 ⟨hi, h1⟩) (by show 0 ≤ beginF D us (some (us s.last).exit) _ i; rw [hb]; unfold tR; omega)
  have e : beginF D us (⟨s.set, some (us s.last).exit⟩ : Stt).off (s.time + (us s.last).span) i = tR D us s i := hb
  rw [e] at this
  unfold afterF at this
  simp only at this
  rw [← add_or i s.set h1] at this
  exact this
/-- What a part of a round keeps. -/
structure RStep (D : Nat → Nat → Int) (us : Nat → Un) (n frm : Nat) (lst lst' : List Rs) : Prop where
  inv : RInv D us n lst'
  len : lst.length ≤ lst'.length
  keep : ∀ i < frm, lst'[i]? = lst[i]?
  cov : ∀ s l t, Cov lst s l t → Cov lst' s l t
theorem RStep.refl (h : RInv D us n lst) (frm : Nat) : RStep D us n frm lst lst := ⟨h, Nat.le_refl _, fun _ _ => rfl, fun _ _ _ h => h⟩
theorem RStep.trans {frm : Nat} {a b c : List Rs} (h : RStep D us n frm a b) (k : RStep D us n frm b c) : RStep D us n frm a c :=
  ⟨k.inv, Nat.le_trans h.len k.len, fun i hi => (k.keep i hi).trans (h.keep i hi), fun s l t x => k.cov _ _ _ (h.cov _ _ _ x)⟩
theorem RStep.one (hU : ∀ u < n, UnOk D us u) (h : RInv D us n lst) {frm : Nat} (hf : frm ≤ lst.length) {s : Rs} (hs : RsOk D us n s) {k i : Nat} (hk : k < frm) (hi : i < n) : RStep D us n frm lst (oneR D us n k frm s lst i) := by
  unfold oneR
  split
  · exact RStep.refl h frm
  · rename_i hc
    have h1 : s.set.testBit i = false := by cases hb : s.set.testBit i with | false => rfl | true => exact absurd (.inl hb) hc
    have h2 : 0 ≤ D (us s.last).exit (us i).entry := by
      by_cases hx : D (us s.last).exit (us i).entry < 0
      · exact absurd (.inr (.inl hx)) hc
      · omega
    have h3 : tR D us s i ≤ (us i).high := by
      by_cases hx : (us i).high < tR D us s i
      · exact absurd (.inr (.inr (.inl hx))) hc
      · omega
    exact ⟨h.put hf (next_ok hU hs hi h1 h2 h3) (by show (-1 : Int) ≤ (k : Int); omega) (by show (k : Int) < frm; omega), put_len, fun j hj => put_keep hf hj, fun _ _ _ c => c.put hf⟩
theorem RStep.units (hU : ∀ u < n, UnOk D us u) {frm : Nat} {s : Rs} (hs : RsOk D us n s) {k : Nat} (hk : k < frm) : ∀ (l : List Nat) (lst : List Rs), (∀ i ∈ l, i < n) → RInv D us n lst → frm ≤ lst.length → RStep D us n frm lst (l.foldl (oneR D us n k frm s) lst)
  | [], lst, _, h, _ => RStep.refl h frm
  | i :: l, lst, hl, h, hf => by
    have h1 := RStep.one hU h hf hs hk (hl i (by simp))
    exact h1.trans (RStep.units hU hs hk l _ (fun j hj => hl j (List.mem_cons_of_mem _ hj)) h1.inv (Nat.le_trans hf h1.len))
theorem RStep.ext (hU : ∀ u < n, UnOk D us u) (h : RInv D us n lst) {frm : Nat} (hf : frm ≤ lst.length) {k size : Nat} (hk : k < frm) : RStep D us n frm lst (extR D us n k size frm lst) := by
  unfold extR
  split
  · exact RStep.refl h frm
  · rename_i s hs
    split
    · exact RStep.units hU (h.ok s (List.mem_of_getElem? hs)) hk _ _ (fun i hi => by simpa using hi) h hf
    · exact RStep.refl h frm
theorem RStep.steps (hU : ∀ u < n, UnOk D us u) {frm size : Nat} : ∀ (l : List Nat) (lst : List Rs), (∀ k ∈ l, k < frm) → RInv D us n lst → frm ≤ lst.length → RStep D us n frm lst (l.foldl (fun a k => extR D us n k size frm a) lst)
  | [], lst, _, h, _ => RStep.refl h frm
  | k :: l, lst, hl, h, hf => by
    have h1 := RStep.ext hU h hf (size := size) (hl k (by simp))
    exact h1.trans (RStep.steps hU l _ (fun j hj => hl j (List.mem_cons_of_mem _ hj)) h1.inv (Nat.le_trans hf h1.len))
theorem RStep.round (hU : ∀ u < n, UnOk D us u) (h : RInv D us n lst) (size : Nat) : RStep D us n lst.length lst (roundR D us n size lst) :=
  RStep.steps hU _ _ (fun k hk => by simpa using hk) h (Nat.le_refl _)
theorem allR_inv (hU : ∀ u < n, UnOk D us u ∧ (us u).low ≤ (us u).high) : ∀ r, RInv D us n (allR D us n r)
  | 0 => RInv.init hU
  | r + 1 => (RStep.round (fun u hu => (hU u hu).1) (allR_inv hU r) (r + 1)).inv
/-- A state behind which all that is left is possible. -/
def GoodR (D : Nat → Nat → Int) (us : Nat → Un) (n : Nat) (x : Rs) : Prop := Good D us (some (us x.last).exit) (x.time + (us x.last).span) (leftF n x.set)
theorem cov_one (hU : ∀ u < n, UnOk D us u) (h : RInv D us n lst) {frm : Nat} (hf : frm ≤ lst.length) {s : Rs} (hs : RsOk D us n s) (hg : GoodR D us n s) (h0 : leftF n s.set ≠ []) (hT : Tri D) :
    ∃ u < n, s.set.testBit u = false ∧ Good D us (some (us u).exit) (tR D us s u + (us u).span) (leftF n (s.set + 2 ^ u)) ∧ ∀ (k : Nat) (lst : List Rs), frm ≤ lst.length → Cov (oneR D us n k frm s lst u) (s.set + 2 ^ u) u (tR D us s u) := by
  obtain ⟨u, hu, _, hgu⟩ := Good.next hT hg (leftF_nodup _ _) h0 (fun u hu => hU u (mem_leftF.1 hu).1)
  obtain ⟨hun, hbit⟩ := mem_leftF.1 hu
  have hb0 := hg.begin (fun u hu => hU u (mem_leftF.1 hu).1) u hu
  obtain ⟨b1, b2, b3, b4⟩ := begin_parts (show ¬ beginF D us (some (us s.last).exit) (s.time + (us s.last).span) u < 0 by omega)
  have b1' : 0 ≤ D (us s.last).exit (us u).entry := b1
  have hl0 := (hU u hun).1
  obtain ⟨bb, hp, hq⟩ := hg
  have hwin := hp.1 u hu
  have hqu := hq u hu
  have hqu' : s.time + (us s.last).span + D (us s.last).exit (us u).entry ≤ bb u := hqu.2
  have hbt : beginF D us (some (us s.last).exit) (s.time + (us s.last).span) u = tR D us s u := by
    unfold beginF far tR
    simp only
    rw [if_neg (by omega)]
    omega
  rw [hbt, ← leftF_after, ← add_or u s.set hbit] at hgu
  have ht : tR D us s u ≤ (us u).high := by unfold tR; omega
  refine ⟨u, hun, hbit, hgu, fun k lst hf => ?_⟩
  have hopen : openR D us n (s.set + 2 ^ u) u (tR D us s u) = true := by
    unfold openR
    rw [List.all_eq_true]
    intro i hi
    have hi' : i < n := by simpa using hi
    cases hbi : (s.set + 2 ^ u).testBit i with
    | true => rfl
    | false =>
      obtain ⟨b', hp', hq'⟩ := hgu
      have hm := mem_leftF.2 ⟨hi', hbi⟩
      have h5 := hq' i hm
      have h6 := hp'.1 i hm
      have h7 : 0 ≤ D (us u).exit (us i).entry := h5.1
      have h8 : tR D us s u + (us u).span + D (us u).exit (us i).entry ≤ b' i := h5.2
      rw [decide_eq_true h7, decide_eq_true (by omega)]; rfl
  unfold oneR
  rw [if_neg (by rw [hbit, hopen]; simp; omega)]
  exact cov_put hf
theorem cov_units (hU : ∀ u < n, UnOk D us u) {frm : Nat} {s : Rs} (hs : RsOk D us n s) {k : Nat} (hk : k < frm) {u : Nat} {set last : Nat} {t : Int} (hc : ∀ (k : Nat) (lst : List Rs), frm ≤ lst.length → Cov (oneR D us n k frm s lst u) set last t) : ∀ (l : List Nat) (lst : List Rs), u ∈ l → (∀ i ∈ l, i < n) → RInv D us n lst → frm ≤ lst.length → Cov (l.foldl (oneR D us n k frm s) lst) set last t
  | [], lst, hu, _, _, _ => by simp at hu
  | i :: l, lst, hu, hl, h, hf => by
    have h1 := RStep.one hU h hf hs hk (hl i (by simp))
    have hf1 := Nat.le_trans hf h1.len
    have hl' : ∀ j ∈ l, j < n := fun j hj => hl j (List.mem_cons_of_mem _ hj)
    rw [List.foldl_cons]
    rcases List.mem_cons.1 hu with rfl | hu
    · exact (RStep.units hU hs hk l _ hl' h1.inv hf1).cov _ _ _ (hc k lst hf)
    · exact cov_units hU hs hk hc l _ hu hl' h1.inv hf1
theorem cov_steps (hU : ∀ u < n, UnOk D us u) {frm size k : Nat} {s : Rs} (hs : RsOk D us n s) (hpc : pc s.set = size) {u : Nat} (hun : u < n) {set last : Nat} {t : Int} (hc : ∀ (k : Nat) (lst : List Rs), frm ≤ lst.length → Cov (oneR D us n k frm s lst u) set last t) : ∀ (l : List Nat) (lst : List Rs), k ∈ l → (∀ j ∈ l, j < frm) → RInv D us n lst → frm ≤ lst.length → lst[k]? = some s → Cov (l.foldl (fun a k => extR D us n k size frm a) lst) set last t
  | [], lst, hk, _, _, _, _ => by simp at hk
  | j :: l, lst, hk, hl, h, hf, hks => by
    have h1 := RStep.ext hU h hf (size := size) (hl j (by simp))
    have hf1 := Nat.le_trans hf h1.len
    have hl' : ∀ x ∈ l, x < frm := fun x hx => hl x (List.mem_cons_of_mem _ hx)
    rw [List.foldl_cons]
    by_cases e : k = j
    · subst e
      refine (RStep.steps hU l _ hl' h1.inv hf1).cov _ _ _ ?_
      unfold extR
      rw [hks]
      simp only
      rw [if_pos hpc]
      exact cov_units hU hs (hl k (by simp)) hc _ _ (by simpa using hun) (fun i hi => by simpa using hi) h hf
    · rcases List.mem_cons.1 hk with hk | hk
      · exact absurd hk e
      · exact cov_steps hU hs hpc hun hc l _ hk hl' h1.inv hf1 ((h1.keep k (hl' k hk)).trans hks)
theorem allR_good (hT : Tri D) (hU : ∀ u < n, UnOk D us u ∧ (us u).low ≤ (us u).high) (hg : Good D us none 0 (List.range n)) : ∀ r, r < n → ∃ x ∈ allR D us n r, pc x.set = r + 1 ∧ (leftF n x.set).length + r + 1 = n ∧ GoodR D us n x
  | 0, hr => by
    obtain ⟨u, hu, _, hgu⟩ := Good.next hT hg List.nodup_range (by intro e; have := congrArg List.length e; simp at this; omega) (fun u hu => (hU u (by simpa using hu)).1)
    have hun : u < n := by simpa using hu
    have hl0 := (hU u hun).1.1
    have hlh := (hU u hun).2
    have hb : beginF D us none 0 u = (us u).low := by
      unfold beginF far
      simp only
      rw [if_neg (by omega)]
      omega
    have hlf : leftF n (2 ^ u) = (List.range n).filter (· ≠ u) := by
      have := leftF_after n 0 u
      rw [Nat.zero_or] at this
      rw [this, leftF_zero]
    refine ⟨⟨(us u).low, u, 2 ^ u, -1⟩, List.mem_map.2 ⟨u, hu, rfl⟩, pc_pow u, ?_, ?_⟩
    · show (leftF n (2 ^ u)).length + 0 + 1 = n
      have h1 := cnt_after (D := D) (us := us) (t := 0) (st := ⟨0, none⟩) (n := n) (u := u) (mem_leftF.2 ⟨hun, Nat.zero_testBit u⟩)
      unfold cntF afterF at h1
      simp only [Nat.zero_or] at h1
      rw [leftF_zero, List.length_range] at h1
      omega
    · unfold GoodR
      show Good D us (some (us u).exit) ((us u).low + (us u).span) (leftF n (2 ^ u))
      rw [hlf, ← hb]
      exact hgu
  | r + 1, hr => by
    obtain ⟨s, hs, hpc, hlen, hgs⟩ := allR_good hT hU hg r (by omega)
    have hinv := allR_inv hU r
    have hU' : ∀ u < n, UnOk D us u := fun u hu => (hU u hu).1
    have hsok := hinv.ok s hs
    obtain ⟨u, hun, hbit, hgu, hc⟩ := cov_one hU' hinv (Nat.le_refl _) hsok hgs (by intro e; rw [e] at hlen; simp at hlen; omega) hT
    obtain ⟨k, hk⟩ := List.getElem?_of_mem hs
    have hkl := (List.getElem?_eq_some_iff.1 hk).1
    obtain ⟨y, hy, e1, e2, e3⟩ := cov_steps hU' hsok hpc hun hc (List.range (allR D us n r).length) (allR D us n r) (by simpa using hkl) (fun j hj => by simpa using hj) hinv (Nat.le_refl _) hk
    refine ⟨y, hy, by rw [e1, pc_add u s.set hbit, hpc], ?_, ?_⟩
    · rw [e1, add_or u s.set hbit]
      have h1 := cnt_after (D := D) (us := us) (t := 0) (st := ⟨s.set, none⟩) (n := n) (u := u) (mem_leftF.2 ⟨hun, hbit⟩)
      unfold cntF afterF at h1
      simp only at h1
      omega
    · unfold GoodR
      rw [e1, e2]
      exact hgu.mono (by omega)
theorem left_none {n set : Nat} (hset : set < 2 ^ n) (h : (leftF n set).length = 0) : set = 2 ^ n - 1 := by
  apply Nat.eq_of_testBit_eq
  intro i
  rw [Nat.testBit_two_pow_sub_one]
  by_cases hi : i < n
  · rw [decide_eq_true hi]
    cases hb : set.testBit i with
    | true => rfl
    | false =>
      have hm := mem_leftF.2 ⟨hi, hb⟩
      rw [List.length_eq_zero_iff.1 h] at hm
      simp at hm
  · rw [decide_eq_false hi]
    exact Nat.testBit_lt_two_pow (Nat.lt_of_lt_of_le hset (Nat.pow_le_pow_right (by omega) (by omega)))
/-- The reference finds a full set exactly if begins are possible. -/
theorem doneR_iff (hT : Tri D) (hU : ∀ u < n, UnOk D us u ∧ (us u).low ≤ (us u).high) (hn : 0 < n) : doneR D us n = true ↔ ∃ b, PosB D us b (List.range n) := by
  have hinv := allR_inv hU (n - 1)
  constructor
  · intro h
    unfold doneR at h
    obtain ⟨x, hx, hset⟩ := List.any_eq_true.1 h
    obtain ⟨_, _, _, l, hl⟩ := hinv.ok x hx
    have hset' : x.set = 2 ^ n - 1 := by simpa using hset
    have hb := hl.bits
    have hmem : ∀ u, u ∈ l ↔ u < n := fun u => by
      rw [hb.2 u]
      show u < n ∧ x.set.testBit u = true ↔ u < n
      rw [hset', Nat.testBit_two_pow_sub_one]
      simp
    have hlen : l.length = n := by
      have h1 := hl.len
      have h2 : leftF n x.set = [] := by
        rw [List.eq_nil_iff_forall_not_mem]
        intro u hu
        obtain ⟨a, c⟩ := mem_leftF.1 hu
        have := (hb.2 u).1 ((hmem u).2 a)
        rw [show x.set.testBit u = true from this.2] at c
        cases c
      unfold cntF at h1
      rw [show (leftF n (⟨x.set, some (us x.last).exit⟩ : Stt).done) = [] from h2] at h1
      simpa using h1
    have hrun := hl.run []
    rw [List.append_nil] at hrun
    obtain ⟨r, hr⟩ := Option.isSome_iff_exists.1 (show (runF D us none 0 l).isSome = true by rw [hrun]; rfl)
    exact ⟨_, run_pos hT hU hb.1 hlen (fun u hu => (hmem u).1 hu) hr⟩
  · rintro ⟨b, hb⟩
    have hg : Good D us none 0 (List.range n) := ⟨b, hb, fun v hv => ⟨Int.le_refl _, by
      have h1 := (hb.1 v hv).1
      have h2 := (hU v (by simpa using hv)).1.1
      show (0 : Int) + 0 ≤ b v
      omega⟩⟩
    obtain ⟨x, hx, _, hlen, _⟩ := allR_good hT hU hg (n - 1) (by omega)
    unfold doneR
    rw [List.any_eq_true]
    refine ⟨x, hx, ?_⟩
    have := left_none (hinv.ok x hx).set_lt (by omega)
    simpa using this
end
end Go.Proofs.Ytaopfoicdjejnaa

namespace Go.Proofs.Ytaopfoicdjejnaa
open Go.RowKit

set_option maxHeartbeats 1000000 in
theorem bit_c (i : Nat) (w : World) (R) (hi : i ≤ 7) (hR : R (.returned (.int .i64 ((2 ^ i : Nat) : Int))) w) : Calls Try.prog 31 #[.int .i64 (i : Int)] w R := by
  have HR := hide hR
  clear hR
  rcases (by omega : i = 0 ∨ i = 1 ∨ i = 2 ∨ i = 3 ∨ i = 4 ∨ i = 5 ∨ i = 6 ∨ i = 7) with rfl | rfl | rfl | rfl | rfl | rfl | rfl | rfl
  all_goals
    go_enter Try.func31, Try.ntmps31
    go_wp2
    exact HR.out
set_option maxHeartbeats 1000000 in
theorem count_c (s : Nat) (w : World) (R) (hs : s < 256) (hR : R (.returned (.int .i64 (pc s : Int))) w) : Calls Try.prog 45 #[.int .i64 (s : Int)] w R := by
  have HR := hide hR
  clear hR
  go_enter Try.func45, Try.ntmps45
  go_wp2
  go_loop [0, 3] (fun sv nv => ∃ a k : Nat, a ≤ s ∧ k ≤ 256 ∧ k + a ≤ s ∧ sv = .int .i64 a ∧ nv = .int .i64 k ∧ Hid (k + pc a = pc s)) (fun sv _ => (intOf sv).toNat)
  case atStart => exact ⟨s, 0, Nat.le_refl _, by omega, by omega, rfl, rfl, hide (by omega)⟩
  case round =>
    obtain ⟨a, k, ha, hk, hka, rfl, rfl, HP⟩ := hrel
    by_cases h0 : 0 < a
    · have HP2 := hide (show k + a % 2 + pc (a / 2) = pc s by have := HP.out; have := pc_step a; omega)
      have h1 : (0 : Int) < (a : Int) := by omega
      go_wp2
      go_round
      case rel => exact ⟨a / 2, k + a % 2, by omega, by omega, by omega, by go_num, by go_num, HP2⟩
      case measure => simp [intOf]; omega
    · obtain rfl : a = 0 := by omega
      have HP2 := hide (show pc s = k by have := HP.out; rw [pc_zero] at this; omega)
      have HR1 := hide HR.out
      rw [HP2.out] at HR1
      go_wp2
      exact HR1.out
/-- An event with its window from 0 to the greatest minute; without a minute, if it has none there. -/
def clipT (e : Evt) : Evt := if e.high < e.low ∨ 1000000 < e.low ∨ e.high < 0 then ⟨e.office, 1, 0, e.np, e.nn, e.nc⟩ else ⟨e.office, max e.low 0, min e.high 1000000, e.np, e.nn, e.nc⟩
set_option maxHeartbeats 1000000 in
theorem clipped_c (e : Evt) (w : World) (R) (hR : ∀ w', Below w.heap.size w w' → R (.returned (.agg #[.int .i64 (clipT e).office, .int .i64 (clipT e).low, .int .i64 (clipT e).high, .slice (clipT e).np (clipT e).nn (clipT e).nc])) w') :
    Calls Try.prog 44 #[.agg #[.int .i64 e.office, .int .i64 e.low, .int .i64 e.high, .slice e.np e.nn e.nc]] w R := by
  obtain ⟨o, l, h, np, nn, nc⟩ := e
  simp only at hR ⊢
  by_cases h1 : h < l ∨ 1000000 < l ∨ h < 0
  · rw [show clipT ⟨o, l, h, np, nn, nc⟩ = ⟨o, 1, 0, np, nn, nc⟩ by unfold clipT; rw [if_pos h1]] at hR
    have HR := hide hR
    clear hR
    by_cases a1 : h < l
    · clear h1
      go_enter Try.func44, Try.ntmps44
      go_wp2
      exact bodyPost_ret (v := .agg #[.int .i64 o, .int .i64 1, .int .i64 0, .slice np nn nc]) (by simp [results, Try.results44, go_sem]) rfl (HR.out _ (balloc (balloc (Below.refl _ _) _) _))
    by_cases a2 : 1000000 < l
    · clear h1
      go_enter Try.func44, Try.ntmps44
      go_wp2
      exact bodyPost_ret (v := .agg #[.int .i64 o, .int .i64 1, .int .i64 0, .slice np nn nc]) (by simp [results, Try.results44, go_sem]) rfl (HR.out _ (balloc (balloc (Below.refl _ _) _) _))
    have a3 : h < 0 := by omega
    clear h1
    go_enter Try.func44, Try.ntmps44
    go_wp2
    exact bodyPost_ret (v := .agg #[.int .i64 o, .int .i64 1, .int .i64 0, .slice np nn nc]) (by simp [results, Try.results44, go_sem]) rfl (HR.out _ (balloc (balloc (Below.refl _ _) _) _))
  · rw [show clipT ⟨o, l, h, np, nn, nc⟩ = ⟨o, max l 0, min h 1000000, np, nn, nc⟩ by unfold clipT; rw [if_neg h1]] at hR
    have HR := hide hR
    clear hR
    have a1 : ¬ h < l := by omega
    have a2 : ¬ 1000000 < l := by omega
    have a3 : ¬ h < 0 := by omega
    clear h1
    go_enter Try.func44, Try.ntmps44
    go_wp2
    exact bodyPost_ret (v := .agg #[.int .i64 o, .int .i64 (max l 0), .int .i64 (min h 1000000), .slice np nn nc]) (by simp [results, Try.results44, go_sem]) rfl (HR.out _ (balloc (balloc (Below.refl _ _) _) _))
end Go.Proofs.Ytaopfoicdjejnaa

namespace Go.Proofs.Ytaopfoicdjejnaa
open Go.RowKit

structure Nd where
  first : Int
  second : Int
  office : Int
  low : Int
  high : Int
  gap : Int
  stop : Int
def Nd.cells (x : Nd) : List Value := [.int .i64 x.first, .int .i64 x.second, .int .i64 x.office, .int .i64 x.low, .int .i64 x.high, .int .i64 x.gap, .int .i64 x.stop]
def Nd.un (x : Nd) : Un := ⟨x.low, x.high, x.office.toNat, x.stop.toNat, x.gap⟩
def unN (nds : List Nd) (i : Nat) : Un := ((nds[i]?).map Nd.un).getD ⟨0, 0, 0, 0, 0⟩
theorem unN_at {nds : List Nd} {i : Nat} {x : Nd} (h : nds[i]? = some x) : unN nds i = x.un := by unfold unN; rw [h]; rfl
def ndU : Uv → Nd
  | .one i e => ⟨(i : Int), -1, e.office, (clipT e).low, (clipT e).high, 0, e.office⟩
  | .leg g a b => ⟨g.src, g.dst, a.office, max (clipT a).low ((clipT b).low - g.gap), min (clipT a).high ((clipT b).high - g.gap), g.gap, b.office⟩
def nodesL (es : List Evt) (ls : List Lgr) : List Nd := (unitsL es ls).map ndU
def clipOk (e : Evt) : Prop := (clipT e).low ≤ (clipT e).high
structure OkN (d : List (List Int)) (es : List Evt) (ls : List Lgr) : Prop where
  leg : ∀ g ∈ ls, legOk d es g ∧ clipOk (evAt es g.src.toNat) ∧ clipOk (evAt es g.dst.toNat)
  win : ∀ x ∈ nodesL es ls, x.low ≤ x.high
theorem clip_bd (e : Evt) : 0 ≤ (clipT e).low ∧ (clipT e).low ≤ 1000000 ∨ clipOk e ∨ (clipT e).low = 1 := by
  unfold clipOk clipT
  split
  · exact .inl ⟨by show (0 : Int) ≤ 1; omega, by show (1 : Int) ≤ 1000000; omega⟩
  · exact .inl ⟨by show (0 : Int) ≤ max e.low 0; omega, by show max e.low 0 ≤ 1000000; omega⟩
theorem clip_rng (e : Evt) : 0 ≤ (clipT e).low ∧ (clipT e).low ≤ 1000000 ∧ 0 ≤ (clipT e).high ∧ (clipT e).high ≤ 1000000 := by
  unfold clipT
  split
  · exact ⟨by show (0 : Int) ≤ 1; omega, by show (1 : Int) ≤ 1000000; omega, Int.le_refl _, by show (0 : Int) ≤ 1000000; omega⟩
  · exact ⟨by show (0 : Int) ≤ max e.low 0; omega, by show max e.low 0 ≤ 1000000; omega, by show (0 : Int) ≤ min e.high 1000000; omega, by show min e.high 1000000 ≤ 1000000; omega⟩
theorem clip_clamp {e : Evt} (h : clipOk e) : (clipT e).low = clampLo e.ev ∧ (clipT e).high = clampHi e.ev := by
  unfold clipOk clipT at h
  unfold clipT clampLo clampHi Evt.ev
  split at h
  · have h' : (1 : Int) ≤ 0 := h; omega
  · rename_i hc
    rw [if_neg hc]
    exact ⟨by show max e.low 0 = min (max e.low 0) 1000001; omega, by show min e.high 1000000 = max (min e.high 1000000) (-1); omega⟩
theorem clip_of_win {e : Evt} {t : Int} (h : max e.low 0 ≤ t ∧ t ≤ min e.high 1000000) : (clipT e).low = max e.low 0 ∧ (clipT e).high = min e.high 1000000 ∧ clipOk e := by
  unfold clipOk clipT
  rw [if_neg (by omega)]
  exact ⟨rfl, rfl, by show max e.low 0 ≤ min e.high 1000000; omega⟩
section
variable {d : List (List Int)} {es : List Evt} {ls : List Lgr}
theorem nd_un (hN : OkN d es ls) {u : Uv} (hu : u ∈ unitsL es ls) : (ndU u).un = u.un := by
  have hw := hN.win (ndU u) (List.mem_map.2 ⟨u, hu, rfl⟩)
  cases u with
  | one i e =>
    obtain ⟨h1, h2⟩ := clip_clamp (show clipOk e from hw)
    unfold ndU Nd.un Uv.un
    simp only
    rw [h1, h2]
  | leg g a b =>
    unfold unitsL at hu
    rcases List.mem_append.1 hu with h | h
    · obtain ⟨g', hg', e⟩ := List.mem_map.1 h
      unfold legUv at e
      injection e with e1 e2 e3
      subst e1; subst e2; subst e3
      obtain ⟨_, ca, cb⟩ := hN.leg g' hg'
      obtain ⟨h1, h2⟩ := clip_clamp ca
      obtain ⟨h3, h4⟩ := clip_clamp cb
      unfold ndU Nd.un Uv.un
      simp only
      rw [h1, h2, h3, h4]
    · unfold onesL at h
      obtain ⟨i, _, e⟩ := List.mem_map.1 h
      cases e
theorem nodes_len : (nodesL es ls).length = (unitsL es ls).length := List.length_map _
theorem unN_eq (hN : OkN d es ls) : ∀ i < (unitsL es ls).length, unN (nodesL es ls) i = unF (unitsL es ls) i := fun i hi => by
  have hx : (unitsL es ls)[i]? = some (unitsL es ls)[i] := List.getElem?_eq_getElem hi
  rw [unF_at hx, unN_at (show (nodesL es ls)[i]? = some (ndU (unitsL es ls)[i]) by unfold nodesL; rw [List.getElem?_map, hx]; rfl)]
  exact nd_un hN (List.getElem_mem hi)
theorem says_exists {n : Nat} {legs : List Lg} {us : List UK} (hU : Units n legs us) (hne : ∀ g, UK.leg g ∈ us → g.src ≠ g.dst) (b : Nat → Int) : ∃ t : Nat → Int, ∀ (i : Nat) (u : UK), us[i]? = some u → u.says t (b i) := by
  have h1 : ∀ x : Nat, ∃ v : Int, ∀ (i : Nat) (u : UK), us[i]? = some u → (u = .one x → v = b i) ∧ ∀ g, u = .leg g → (x = g.src → v = b i) ∧ (x = g.dst → v = b i + g.gap) := fun x => by
    by_cases h : ∃ (i : Nat) (u : UK), us[i]? = some u ∧ x ∈ u.evs
    · obtain ⟨i, u, hi, hx⟩ := h
      have huniq : ∀ (j : Nat) (w : UK), us[j]? = some w → x ∈ w.evs → j = i ∧ w = u := fun j w hj hw => by
        by_cases e : j = i
        · subst e; rw [hi] at hj; injection hj with hj; exact ⟨rfl, hj.symm⟩
        · exact absurd hx (hU.apart j i w u hj hi e x hw)
      cases hu : u with
      | one y =>
        refine ⟨b i, fun j w hj => ⟨fun e => ?_, fun g e => ⟨fun e2 => ?_, fun e2 => ?_⟩⟩⟩
        · have := huniq j w hj (by rw [e]; simp [UK.evs]); rw [this.1]
        · have := huniq j w hj (by rw [e, e2]; simp [UK.evs]); rw [this.1]
        · have := (huniq j w hj (by rw [e, e2]; simp [UK.evs])).2; rw [e, hu] at this; cases this
      | leg g0 =>
        have hg0 := hne g0 (by rw [← hu]; exact List.mem_of_getElem? hi)
        by_cases hs : x = g0.src
        · refine ⟨b i, fun j w hj => ⟨fun e => ?_, fun g e => ⟨fun e2 => ?_, fun e2 => ?_⟩⟩⟩
          · have := (huniq j w hj (by rw [e]; simp [UK.evs])).2; rw [e, hu] at this; cases this
          · have := huniq j w hj (by rw [e, e2]; simp [UK.evs]); rw [this.1]
          · have := (huniq j w hj (by rw [e, e2]; simp [UK.evs])).2
            rw [e, hu] at this; injection this with this; subst this
            exact absurd (hs.symm.trans e2) hg0
        · refine ⟨b i + g0.gap, fun j w hj => ⟨fun e => ?_, fun g e => ⟨fun e2 => ?_, fun e2 => ?_⟩⟩⟩
          · have := (huniq j w hj (by rw [e]; simp [UK.evs])).2; rw [e, hu] at this; cases this
          · have := (huniq j w hj (by rw [e, e2]; simp [UK.evs])).2
            rw [e, hu] at this; injection this with this; subst this
            exact absurd e2 hs
          · have := huniq j w hj (by rw [e, e2]; simp [UK.evs])
            have h3 := this.2
            rw [e, hu] at h3; injection h3 with h3; subst h3
            rw [this.1]
    · refine ⟨0, fun j w hj => ⟨fun e => ?_, fun g e => ⟨fun e2 => ?_, fun e2 => ?_⟩⟩⟩
      · exact absurd ⟨j, w, hj, by rw [e]; simp [UK.evs]⟩ h
      · exact absurd ⟨j, w, hj, by rw [e, e2]; simp [UK.evs]⟩ h
      · exact absurd ⟨j, w, hj, by rw [e, e2]; simp [UK.evs]⟩ h
  refine ⟨fun x => (h1 x).choose, fun i u hu => ?_⟩
  cases u with
  | one x => exact ((h1 x).choose_spec i _ hu).1 rfl
  | leg g => exact ⟨(((h1 g.src).choose_spec i _ hu).2 g rfl).1 rfl, (((h1 g.dst).choose_spec i _ hu).2 g rfl).2 rfl⟩
theorem okN_of (hW : WellP d es ls) {t : Nat → Int} (h : HoldsP (dst d) (evF es) es.length (ls.map Lgr.lg) t) : OkN d es ls := by
  have hwin : ∀ i < es.length, max (evAt es i).low 0 ≤ t i ∧ t i ≤ min (evAt es i).high 1000000 := fun i hi => by
    have := h.win i hi
    rw [evF_evAt hi] at this
    exact this
  refine ⟨fun g hg => ?_, fun x hx => ?_⟩
  · have hn := hW.nat g hg
    have h1 := leg_of_holds h g.lg (List.mem_map.2 ⟨g, hg, rfl⟩)
    have e1 := evF_evAt (es := es) (i := g.src.toNat) hn.1
    have e2 := evF_evAt (es := es) (i := g.dst.toNat) hn.2.1
    have h1' : 0 ≤ dst d (evF es g.src.toNat).office (evF es g.dst.toNat).office ∧ dst d (evF es g.src.toNat).office (evF es g.dst.toNat).office ≤ g.gap := h1
    rw [e1, e2] at h1'
    have h2 : 0 ≤ dst d (evAt es g.src.toNat).office.toNat (evAt es g.dst.toNat).office.toNat ∧ dst d (evAt es g.src.toNat).office.toNat (evAt es g.dst.toNat).office.toNat ≤ g.gap := h1'
    exact ⟨by unfold legOk; omega, (clip_of_win (hwin _ hn.1)).2.2, (clip_of_win (hwin _ hn.2.1)).2.2⟩
  · unfold nodesL at hx
    obtain ⟨u, hu, rfl⟩ := List.mem_map.1 hx
    unfold unitsL at hu
    rcases List.mem_append.1 hu with hu | hu
    · obtain ⟨g, hg, rfl⟩ := List.mem_map.1 hu
      have hn := hW.nat g hg
      have w1 := hwin _ hn.1
      have w2 := hwin _ hn.2.1
      obtain ⟨a1, a2, _⟩ := clip_of_win w1
      obtain ⟨b1, b2, _⟩ := clip_of_win w2
      have hg2 : t g.dst.toNat - t g.src.toNat = g.gap := (h.leg g.lg (List.mem_map.2 ⟨g, hg, rfl⟩)).1
      show max (clipT (evAt es g.src.toNat)).low ((clipT (evAt es g.dst.toNat)).low - g.gap) ≤ min (clipT (evAt es g.src.toNat)).high ((clipT (evAt es g.dst.toNat)).high - g.gap)
      rw [a1, a2, b1, b2]
      omega
    · unfold onesL at hu
      obtain ⟨i, hi, rfl⟩ := List.mem_map.1 hu
      exact (clip_of_win (hwin i (by simpa using (List.mem_filter.1 hi).1))).2.2
/-- The units that the reference searches. -/
structure RefU (d : List (List Int)) (es : List Evt) (ls : List Lgr) : Prop where
  ok : ∀ u < (nodesL es ls).length, UnOk (dst d) (unN (nodesL es ls)) u ∧ (unN (nodesL es ls) u).low ≤ (unN (nodesL es ls) u).high
  pos : (∃ b, PosB (dst d) (unN (nodesL es ls)) b (List.range (nodesL es ls).length)) ↔ ∃ t, HoldsP (dst d) (evF es) es.length (ls.map Lgr.lg) t
theorem refU_of (hW : WellP d es ls) (hN : OkN d es ls) : RefU d es ls := by
  have hL : ∀ g ∈ ls, legOk d es g := fun g hg => (hN.leg g hg).1
  have pM := List.Perm.refl (List.range (unitsL es ls).length)
  have hU := sorted_units hW pM
  have hC := sorted_cover hW hL pM
  have hk := sorted_unOk hW hL pM
  have hun := sorted_un hW pM
  rw [range_map] at hU hC hk hun
  have heq := unN_eq hN
  have hlen : ((unitsL es ls).map Uv.uk).length = (unitsL es ls).length := List.length_map _
  refine ⟨fun u hu => ?_, ?_⟩
  · rw [nodes_len] at hu
    constructor
    · have := hk u hu
      unfold UnOk at *
      rw [heq u hu]
      exact this
    · have hu2 : u < (nodesL es ls).length := by rw [nodes_len]; exact hu
      have hx : (nodesL es ls)[u]? = some (nodesL es ls)[u] := List.getElem?_eq_getElem hu2
      rw [unN_at hx]
      exact hN.win _ (List.getElem_mem _)
  · rw [nodes_len]
    constructor
    · rintro ⟨b, hb⟩
      have hb1 : PosB (dst d) (unsF (evF es) ((unitsL es ls).map Uv.uk)) b (List.range ((unitsL es ls).map Uv.uk).length) := by
        rw [hlen]
        exact posB_congr (fun u hu => by
          have hu' : u < (unitsL es ls).length := by simpa using hu
          rw [heq u hu', hun u hu']) hb
      obtain ⟨t, ht⟩ := says_exists hU (fun g hg => by
        obtain ⟨u, hu, e⟩ := List.mem_map.1 hg
        rcases unit_in2 hW hu with ⟨i, e', h1, _⟩ | ⟨s, t, gp, a', b', h1, _, _, h2, _⟩
        · rw [h1] at e; cases e
        · rw [h1] at e
          injection e with e
          rw [← e]
          simpa [Lgr.lg] using h2) b
      exact ⟨t, pos_holds hW.dist.Tri hU hC hb1 ht⟩
    · rintro ⟨t, ht⟩
      obtain ⟨b, hb⟩ := good_pos (holds_good hU ht)
      rw [hlen] at hb
      exact ⟨b, posB_congr (fun u hu => by
        have hu' : u < (unitsL es ls).length := by simpa using hu
        rw [heq u hu', hun u hu']) hb⟩
/-- What the reference's search says of a list of nodes. -/
def foundB (d : List (List Int)) (nds : List Nd) : Bool := decide (nds.length = 0) || doneR (dst d) (unN nds) nds.length
theorem ref_iff (hW : WellP d es ls) : (fitR d es ls).isSome = true ↔ OkN d es ls ∧ foundB d (nodesL es ls) = true := by
  have key : OkN d es ls → (foundB d (nodesL es ls) = true ↔ ∃ t, HoldsP (dst d) (evF es) es.length (ls.map Lgr.lg) t) := fun hN => by
    have hr := refU_of hW hN
    rw [← hr.pos]
    unfold foundB
    by_cases h0 : (nodesL es ls).length = 0
    · rw [decide_eq_true h0]
      simp only [Bool.true_or, true_iff]
      exact ⟨fun _ => 0, by rw [h0]; exact ⟨fun u hu => by simp at hu, fun u hu => by simp at hu⟩⟩
    · rw [decide_eq_false h0, Bool.false_or]
      exact doneR_iff hW.dist.Tri hr.ok (by omega)
  rw [fitR_iff]
  constructor
  · rintro ⟨_, t, ht⟩
    have hN := okN_of hW ht
    exact ⟨hN, (key hN).2 ⟨t, ht⟩⟩
  · rintro ⟨hN, h⟩
    exact ⟨hW, (key hN).1 h⟩
end
end Go.Proofs.Ytaopfoicdjejnaa

namespace Go.Proofs.Ytaopfoicdjejnaa
open Go.RowKit

theorem take_succ_of {α : Type} {l : List α} {k : Nat} {x : α} (h : l[k]? = some x) : l.take (k + 1) = l.take k ++ [x] := by rw [List.take_add_one, h]; rfl
abbrev NdsAt := EncAt 7 Nd.cells
theorem nd_len (x : Nd) : x.cells.length = 7 := rfl
theorem nd_one (x : Nd) : ∀ u ∈ x.cells, u.oneCell' = true := by
  intro u hu
  simp [Nd.cells] at hu
  rcases hu with rfl | rfl | rfl | rfl | rfl | rfl | rfl <;> rfl
theorem Try.info66 : (Try.prog.info? 66).map (fun i => (i.zero, i.size, i.bytes)) = some (some (.agg #[.int .i64 0, .int .i64 0, .int .i64 0, .int .i64 0, .int .i64 0, .int .i64 0, .int .i64 0]), 7, 56) := by kernel_rfl
theorem EncAt.nd {w : World} {p : Option Addr} {l : List Nd} (h : NdsAt w p l) {i : Nat} (hi : i < l.length) : ∃ b o x, p = some ⟨b, o, none⟩ ∧ l[i]? = some x ∧
    w.cell? ⟨b, o + i * 7, none⟩ = some (.int .i64 x.first) ∧ w.cell? ⟨b, o + i * 7 + 1, none⟩ = some (.int .i64 x.second) ∧ w.cell? ⟨b, o + i * 7 + 2, none⟩ = some (.int .i64 x.office) ∧ w.cell? ⟨b, o + i * 7 + 3, none⟩ = some (.int .i64 x.low) ∧ w.cell? ⟨b, o + i * 7 + 4, none⟩ = some (.int .i64 x.high) ∧ w.cell? ⟨b, o + i * 7 + 5, none⟩ = some (.int .i64 x.gap) ∧ w.cell? ⟨b, o + i * 7 + 6, none⟩ = some (.int .i64 x.stop) := by
  obtain ⟨b, o, x, hp, hx, hc⟩ := h.at_ hi
  exact ⟨b, o, x, hp, hx, hc 0 _ rfl, hc 1 _ rfl, hc 2 _ rfl, hc 3 _ rfl, hc 4 _ rfl, hc 5 _ rfl, hc 6 _ rfl⟩
def OwnN (W : World) (base : Nat) (v : Value) (l : List Nd) : Prop := W.ownsRow base 66 7 v l.length (l.flatMap Nd.cells)
theorem OwnN.next {W W' : World} {base : Nat} {v : Value} {l : List Nd} (h : OwnN W base v l) (hb : Below W.heap.size W W') : OwnN W' base v l := own_below h hb
theorem OwnN.nil {W : World} {base : Nat} : OwnN W base (.slice none 0 0) [] := World.ownsRow_nil ..
theorem OwnN.nds {W : World} {base : Nat} {v : Value} {l : List Nd} (h : OwnN W base v l) : ∃ p c, v = .slice p l.length c ∧ NdsAt W p l := by
  obtain ⟨p, c, hv, _⟩ := own_val h
  subst hv
  exact ⟨p, c, rfl, EncAt.of_own nd_len (by omega) h⟩
theorem OwnN.app {W : World} {base : Nat} {v : Value} {l : List Nd} {x : Nd} (h : W.ownsRow base 66 7 v (l.length + 1) (l.flatMap Nd.cells ++ x.cells)) : OwnN W base v (l ++ [x]) := by
  unfold OwnN
  rw [List.flatMap_append, List.length_append]
  simpa using h
theorem own_otherN {w w' : World} {base base' e e' size size' n n' : Nat} {v v' : Value} {xs xs' : List Value} (h : w.ownsRow base e size v n xs) (h' : w.ownsRow base' e' size' v' n' xs') (hne : e ≠ e') (hg : w.grownBy w' v'.ownBlock) : w'.ownsRow base e size v n xs :=
  h.kept hg (by
    cases hv : v.ownBlock with
    | none => exact .inl rfl
    | some k => exact .inr (fun e2 => own_ne h h' hne hv e2.symm))
/-- While the nodes are made. -/
structure NP (w : World) (ib n : Nat) (xs : List Bool) (v : Value) (l : List Nd) (wr : World) : Prop where
  below : Below w.heap.size w wr
  inl : wr.ownsRow w.heap.size 4 1 (.slice (some ⟨ib, 0, none⟩) n n) n (xs.map Value.bool)
  own : OwnN wr w.heap.size v l
section
variable {w : World} {ib n : Nat} {xs : List Bool} {v v' : Value} {l : List Nd} {wr w' : World}
theorem NP.next (h : NP w ib n xs v l wr) (hb : Below wr.heap.size wr w') : NP w ib n xs v l w' := ⟨bseq h.below hb, own_below h.inl hb, h.own.next hb⟩
theorem NP.ne (h : NP w ib n xs v l wr) : v.ownBlock ≠ some ib := by
  cases hv : v.ownBlock with
  | none => intro e; cases e
  | some k =>
    have := own_ne h.own h.inl (by decide) hv
    intro e
    exact this (by injection e with e; rw [e]; rfl)
theorem NP.put (h : NP w ib n xs v l wr) (i : Nat) (b : Bool) : NP w ib n (xs.set i b) v l (wr.setCell ⟨ib, i, none⟩ (.bool b)) :=
  ⟨h.below.setCell (p := ⟨ib, i, none⟩) (h.inl.lt ib rfl).1 _, by rw [List.map_set]; exact (h.inl.stored i (.bool b)).1, ownsRow_setCell_other h.own (a := ⟨ib, i, none⟩) h.ne _⟩
theorem NP.cell (h : NP w ib n xs v l wr) {i : Nat} {b : Bool} (hi : xs[i]? = some b) : wr.cell? ⟨ib, i, none⟩ = some (.bool b) := by
  have hl : xs.length = n := by have := h.inl.1; simpa using this
  have := (List.getElem?_eq_some_iff.1 hi).1
  rw [h.inl.cellAt i (by omega), List.getElem?_map, hi]; rfl
theorem NP.app {x : Nd} (h : NP w ib n xs v l wr) (hg : wr.grownBy w' v.ownBlock) (ho : w'.ownsRow w.heap.size 66 7 v' (l.length + 1) (l.flatMap Nd.cells ++ x.cells)) : NP w ib n xs v' (l ++ [x]) w' :=
  ⟨h.below.grown hg h.below.size (fun k hk => (h.own.lt k hk).1), own_otherN h.inl h.own (by decide) hg, OwnN.app ho⟩
end
theorem clip_same (e : Evt) : (clipT e).office = e.office ∧ (clipT e).np = e.np ∧ (clipT e).nn = e.nn ∧ (clipT e).nc = e.nc := by
  unfold clipT; split <;> exact ⟨rfl, rfl, rfl, rfl⟩
theorem clip2_c (e : Evt) (al ah : Int) (w : World) (R) (h1 : (clipT e).low = al) (h2 : (clipT e).high = ah) (hR : ∀ w', Below w.heap.size w w' → R (.returned (.agg #[.int .i64 e.office, .int .i64 al, .int .i64 ah, .slice e.np e.nn e.nc])) w') :
    Calls Try.prog 44 #[.agg #[.int .i64 e.office, .int .i64 e.low, .int .i64 e.high, .slice e.np e.nn e.nc]] w R := by
  obtain ⟨e1, e2, e3, e4⟩ := clip_same e
  refine clipped_c e w R ?_
  rw [e1, e2, e3, e4, h1, h2]
  exact hR

set_option maxRecDepth 100000 in
set_option maxHeartbeats 4000000 in
theorem nodes_c (dp ep lp : Option Addr) (dc ec lc : Nat) (d : List (List Int)) (es : List Evt) (ls : List Lgr) (w : World) (R) (hel : es.length ≤ 7) (hd : RowsAt w dp d) (he : EvsAt w ep es) (hl : LgsAt w lp ls) (hW : WellP d es ls)
    (hR0 : ¬ OkN d es ls → ∀ w', Below w.heap.size w w' → R (.returned (.tuple #[.slice none 0 0, .bool false])) w')
    (hR1 : OkN d es ls → ∀ q c w', Below w.heap.size w w' → NdsAt w' q (nodesL es ls) → R (.returned (.tuple #[.slice q (nodesL es ls).length c, .bool true])) w') :
    Calls Try.prog 30 #[.slice dp d.length dc, .slice ep es.length ec, .slice lp ls.length lc] w R := by
  have HR0 := hide hR0; have HR1 := hide hR1; have Hd := hide hd; have He := hide he; have Hl := hide hl; have HW := hide hW
  have hl8 := legs_few hW
  have hfew := hW.dist.few
  clear hR0 hR1 hd he hl hW
  obtain ⟨i0, hi0, hz0, hz1, hz2⟩ := info_parts Try.info66
  obtain ⟨w1, hm, how, hb1⟩ := mk75 w es.length (by omega)
  have HU := hide (show NP w w.heap.size es.length (List.replicate es.length false) (.slice none 0 0) [] w1 from ⟨hb1, how, OwnN.nil⟩)
  obtain ⟨ib, hibe⟩ : ∃ ib, w.heap.size = ib := ⟨_, rfl⟩
  have HU2 : Hid (NP w ib es.length (List.replicate es.length false) (.slice none 0 0) [] w1) := by rw [← hibe]; exact HU
  clear how hb1 HU
  go_enter Try.func30, Try.ntmps30
  go_wp2
  clear hm hibe
  go_loopw [8, 10] (fun v sk wr => ∃ (k : Nat) (xs : List Bool), k ≤ ls.length ∧ sk = .int .i64 k ∧ Hid (NP w ib es.length xs v ((ls.take k).map fun g => ndU (legUv es g)) wr) ∧ Hid (xs.length = es.length ∧ (∀ (i : Nat) (b : Bool), xs[i]? = some b → b = inL (ls.take k) i) ∧ ∀ g ∈ ls.take k, legOk d es g ∧ clipOk (evAt es g.src.toNat) ∧ clipOk (evAt es g.dst.toNat))) (fun _ sk _ => ls.length - (intOf sk).toNat)
  case atStart => exact ⟨0, _, Nat.zero_le _, rfl, HU2, hide ⟨by simp, fun i b hb => by
    have := List.mem_of_getElem? hb
    rw [List.mem_replicate] at this
    rw [this.2]; rfl, fun g hg => by simp at hg⟩⟩
  case round =>
    clear HU2
    obtain ⟨k, xs, hk, rfl, HU, HX⟩ := hrel
    by_cases hltk : k < ls.length
    · obtain ⟨lb, lo, g, rfl, hg, l0, l1, l2⟩ := (Hl.out.keep (Keeps.of_below HU.out.below)).lg hltk
      have Hg := hide hg
      have hgm := List.mem_of_getElem? hg
      have hwl := HW.out.leg g hgm
      have HS := hide (map_take_succ (fun g => ndU (legUv es g)) hg)
      have hne0 : g.src ≠ g.dst := (fl_once hg HW.out.once).2.2
      have HF3 := hide (fun (h : ¬ (legOk d es g ∧ clipOk (evAt es g.src.toNat) ∧ clipOk (evAt es g.dst.toNat))) => HR0.out (fun hN => h (hN.leg g hgm)))
      have HX2 := hide (fun (h : legOk d es g ∧ clipOk (evAt es g.src.toNat) ∧ clipOk (evAt es g.dst.toNat)) => (show ∀ g' ∈ ls.take (k + 1), legOk d es g' ∧ clipOk (evAt es g'.src.toNat) ∧ clipOk (evAt es g'.dst.toNat) from fun g' hg' => by
        rw [List.take_add_one, Hg.out] at hg'
        rcases List.mem_append.1 hg' with h2 | h2
        · exact HX.out.2.2 g' h2
        · simp at h2; rw [h2]; exact h))
      clear hg hgm
      rcases g with ⟨gs, gd, gg⟩
      simp only at hwl l0 l1 l2 HF3 HX2 HS hne0
      obtain ⟨a, rfl⟩ : ∃ a : Nat, gs = a := ⟨gs.toNat, by omega⟩
      obtain ⟨b, rfl⟩ : ∃ b : Nat, gd = b := ⟨gd.toNat, by omega⟩
      obtain ⟨q1, q2, q3, q4, q5, q6⟩ := hwl
      have ha : a < es.length := by omega
      have hb : b < es.length := by omega
      have hal := balloc (Below.refl wr.heap.size wr) (.cells #[.int .i64 (a : Int), .int .i64 (b : Int), .int .i64 gg] 39)
      have HU1 := hide (HU.out.next hal)
      have KG := Blk.new wr #[.int .i64 (a : Int), .int .i64 (b : Int), .int .i64 gg] 39
      have hbl := (HU.out.inl.lt ib rfl).2
      obtain ⟨eb, eo, ea, rfl, hea, a0, a1, a2, a3⟩ := (He.out.keep (Keeps.of_below HU1.out.below)).ev ha
      obtain ⟨eb2, eo2, ebv, h5, hebv, b0, b1, b2, b3⟩ := (He.out.keep (Keeps.of_below HU1.out.below)).ev hb
      injection h5 with h5; injection h5 with z1 z2
      subst z1; subst z2
      have e1 : evAt es a = ea := evAt_at hea
      have e2 : evAt es b = ebv := evAt_at hebv
      have hoa := HW.out.office ea (List.mem_of_getElem? hea)
      have hob := HW.out.office ebv (List.mem_of_getElem? hebv)
      obtain ⟨al, hal1⟩ : ∃ al, (clipT ea).low = al := ⟨_, rfl⟩
      obtain ⟨ah, hah1⟩ : ∃ ah, (clipT ea).high = ah := ⟨_, rfl⟩
      obtain ⟨bl, hbl1⟩ : ∃ bl, (clipT ebv).low = bl := ⟨_, rfl⟩
      obtain ⟨bh, hbh1⟩ : ∃ bh, (clipT ebv).high = bh := ⟨_, rfl⟩
      have ra := clip_rng ea
      have rb := clip_rng ebv
      have Hnd := hide (show ndU (legUv es ⟨a, b, gg⟩) = ⟨a, b, ea.office, max al (bl - gg), min ah (bh - gg), gg, ebv.office⟩ by
        unfold legUv ndU
        simp only [Int.toNat_natCast]
        rw [e1, e2, hal1, hah1, hbl1, hbh1])
      have Hcond := hide (show (legOk d es ⟨a, b, gg⟩ ∧ clipOk (evAt es a) ∧ clipOk (evAt es b)) ↔ ((dst d ea.office.toNat ebv.office.toNat ≠ -1 ∧ dst d ea.office.toNat ebv.office.toNat ≤ gg) ∧ al ≤ ah ∧ bl ≤ bh) by
        unfold legOk clipOk
        simp only [Int.toNat_natCast]
        rw [e1, e2, hal1, hah1, hbl1, hbh1])
      rw [hal1, hah1] at ra
      rw [hbl1, hbh1] at rb
      have Hal := hide hal1; have Hah := hide hah1; have Hbl := hide hbl1; have Hbh := hide hbh1
      have hrng := HW.out.dist.rng ea.office.toNat ebv.office.toNat
      have k0 := KG.cell (k := 0) (v := .int .i64 (a : Int)) rfl
      have k1 := KG.cell (k := 1) (v := .int .i64 (b : Int)) rfl
      have hai : (a : Int) < (es.length : Int) := by omega
      have hbi : (b : Int) < (es.length : Int) := by omega
      have HKG := hide KG
      clear hal hea hebv e1 e2 hal1 hah1 hbl1 hbh1 KG HU
      simp only [Int.toNat_natCast] at HF3 HX2
      go_wp2_with (go_at_call 44; refine Stop.out ?_)
      refine Stop.go (clip2_c ea al ah _ _ Hal.out Hah.out ?_)
      intro w3 hb3
      have hal3 := balloc (Below.refl w3.heap.size w3) (.cells #[.int .i64 ea.office, .int .i64 al, .int .i64 ah, .slice ea.np ea.nn ea.nc] 32)
      have KA := Blk.new w3 #[.int .i64 ea.office, .int .i64 al, .int .i64 ah, .slice ea.np ea.nn ea.nc] 32
      have HU4 := hide ((HU1.out.next hb3).next hal3)
      have KG4 := (HKG.out.next hb3).next hal3
      have b0' := cell_later hal3 (cell_later hb3 b0); have b1' := cell_later hal3 (cell_later hb3 b1); have b2' := cell_later hal3 (cell_later hb3 b2); have b3' := cell_later hal3 (cell_later hb3 b3)
      have hs3 : wr.heap.size + 1 ≤ w3.heap.size := by have := hb3.size; simpa using this
      have k1' := KG4.cell (k := 1) (v := .int .i64 (b : Int)) rfl
      have HKG4 := hide KG4; have HKA4 := hide KA
      clear k0 k1 a0 a1 a2 a3 b0 b1 b2 b3 KG4 KA hb3 hal3 HU1 HKG
      go_wp2_with (go_at_call 44; refine Stop.out ?_)
      refine Stop.go (clip2_c ebv bl bh _ _ Hbl.out Hbh.out ?_)
      intro w5 hb5
      have HU5 := hide (HU4.out.next hb5)
      have KG5 := hide (HKG4.out.next hb5); have KA5 := hide (HKA4.out.next hb5)
      have hs5 : w3.heap.size + 1 ≤ w5.heap.size := by have := hb5.size; simpa using this
      have k0 := KG5.out.cell (k := 0) (v := .int .i64 (a : Int)) rfl
      have k1 := KG5.out.cell (k := 1) (v := .int .i64 (b : Int)) rfl
      have fa := HU5.out.inl.frozenAt a
      have fb := HU5.out.inl.frozenAt b
      obtain ⟨xa, hxa⟩ : ∃ xa, xs[a]? = some xa := ⟨_, List.getElem?_eq_getElem (by rw [HX.out.1]; exact ha)⟩
      obtain ⟨xb, hxb⟩ : ∃ xb, xs[b]? = some xb := ⟨_, List.getElem?_eq_getElem (by rw [HX.out.1]; exact hb)⟩
      have ca := HU5.out.cell hxa
      have cb := HU5.out.cell hxb
      have hlG : wr.heap.size < w5.heap.size := by omega
      have hlA : w3.heap.size < w5.heap.size := by omega
      have hlI : ib < w5.heap.size := by omega
      have hab : ¬ a = b := by intro e; exact hne0 (by rw [e])
      have hba : ¬ b = a := fun e => hab e.symm
      have hne1 : ¬ ib = wr.heap.size := by omega
      have hne2 : ¬ ib = w3.heap.size := by omega
      have HU7 := hide (((HU5.out.put a true).put b true).next (balloc (Below.refl _ _) (.cells #[.int .i64 ebv.office, .int .i64 bl, .int .i64 bh, .slice ebv.np ebv.nn ebv.nc] 32)))
      have KG7 := hide (((KG5.out.set_other (a := ⟨ib, a, none⟩) (by show ib ≠ _; omega) (.bool true)).set_other (a := ⟨ib, b, none⟩) (by show ib ≠ _; omega) (.bool true)).alloc (.cells #[.int .i64 ebv.office, .int .i64 bl, .int .i64 bh, .slice ebv.np ebv.nn ebv.nc] 32))
      have KA7 := hide (((KA5.out.set_other (a := ⟨ib, a, none⟩) (by show ib ≠ _; omega) (.bool true)).set_other (a := ⟨ib, b, none⟩) (by show ib ≠ _; omega) (.bool true)).alloc (.cells #[.int .i64 ebv.office, .int .i64 bl, .int .i64 bh, .slice ebv.np ebv.nn ebv.nc] 32))
      have KB7 := hide (Blk.new_at (w := (w5.setCell ⟨ib, a, none⟩ (.bool true)).setCell ⟨ib, b, none⟩ (.bool true)) (cs := #[.int .i64 ebv.office, .int .i64 bl, .int .i64 bh, .slice ebv.np ebv.nn ebv.nc]) (t := 32) (n := w5.heap.size) (by simp [World.setCell]))
      have HX3 := hide (show ((xs.set a true).set b true).length = es.length ∧ (∀ (i : Nat) (bb : Bool), ((xs.set a true).set b true)[i]? = some bb → bb = inL (ls.take (k + 1)) i) by
        refine ⟨by simp [HX.out.1], fun i bb hbb => ?_⟩
        rw [inL_succ Hg.out]
        rw [List.getElem?_set] at hbb
        split at hbb
        · rename_i e; subst e
          simp at hbb
          obtain ⟨_, rfl⟩ := hbb
          simp
        · rename_i e
          rw [List.getElem?_set] at hbb
          split at hbb
          · rename_i e2; subst e2
            simp at hbb
            obtain ⟨_, rfl⟩ := hbb
            simp
          · rename_i e2
            rw [HX.out.2.1 i bb hbb]
            have q1 : ((a : Int) == (i : Int)) = false := by simp; omega
            have q2 : ((b : Int) == (i : Int)) = false := by simp; omega
            rw [q1, q2]; simp)
      clear b0' b1' b2' b3' k1' HU4 HKG4 HKA4 hb5 hxa hxb
      go_wp2
      clear HU5 KG5 KA5 k0 k1 fa fb ca cb hlG hlA hlI hne1 hne2 hs3 hs5 hbl xa xb
      generalize ((w5.setCell ⟨ib, a, none⟩ (.bool true)).setCell ⟨ib, b, none⟩ (.bool true)).alloc (.cells #[.int .i64 ebv.office, .int .i64 bl, .int .i64 bh, .slice ebv.np ebv.nn ebv.nc] 32) = W at *
      obtain ⟨gG, hgG⟩ : ∃ gG, wr.heap.size = gG := ⟨_, rfl⟩
      obtain ⟨gA, hgA⟩ : ∃ gA, w3.heap.size = gA := ⟨_, rfl⟩
      obtain ⟨gB, hgB⟩ : ∃ gB, w5.heap.size = gB := ⟨_, rfl⟩
      rw [hgG] at KG7 ⊢; rw [hgA] at KA7 ⊢; rw [hgB] at KB7 ⊢
      clear hgG hgA hgB
      obtain ⟨rb0, ro, r, rq, rc, rfl, hr, cr, hin, _⟩ := (Hd.out.keep (Keeps.of_below HU7.out.below)).at_ (i := ea.office.toNat) (by omega)
      have hrl := (HW.out.dist.row r (List.mem_of_getElem? hr)).1
      obtain ⟨qb, qo, x, rfl, hx, cx⟩ := hin.at_ (i := ebv.office.toNat) (by omega)
      have hdx := dst_at hr hx
      have Hc := Hcond.out
      rw [hdx] at Hc hrng
      have HC := hide Hc
      have hoar : ea.office < (d.length : Int) := hoa.2
      have hoa0 := hoa.1
      have hob0 := hob.1
      have hobr : ebv.office < (r.length : Int) := by omega
      have g0 := KG7.out.cell (k := 0) (v := .int .i64 (a : Int)) rfl; have g1 := KG7.out.cell (k := 1) (v := .int .i64 (b : Int)) rfl; have g2 := KG7.out.cell (k := 2) (v := .int .i64 gg) rfl
      have a0 := KA7.out.cell (k := 0) (v := .int .i64 ea.office) rfl; have a1 := KA7.out.cell (k := 1) (v := .int .i64 al) rfl; have a2 := KA7.out.cell (k := 2) (v := .int .i64 ah) rfl
      have b0 := KB7.out.cell (k := 0) (v := .int .i64 ebv.office) rfl; have b1 := KB7.out.cell (k := 1) (v := .int .i64 bl) rfl; have b2 := KB7.out.cell (k := 2) (v := .int .i64 bh) rfl
      clear hr hin hx hdx Hc Hcond hrl
      by_cases t1 : x < 0
      · have HF1 := hide (HF3.out (fun h => by have := (HC.out.1 h).1; omega))
        have d1 : decide (x < 0) = true := by simpa using t1
        go_quiet (fail)
        go_wp2
        exact HF1.out _ (below_drewN' HU7.out.below _)
      have d1 : decide (x < 0) = false := by simpa using t1
      by_cases t2 : gg < x
      · have HF1 := hide (HF3.out (fun h => by have := (HC.out.1 h).1; omega))
        have d2 : decide (gg < x) = true := by simpa using t2
        go_quiet (fail)
        go_wp2
        exact HF1.out _ (below_drewN' HU7.out.below _)
      have d2 : decide (gg < x) = false := by simpa using t2
      by_cases t3 : ah < al
      · have HF1 := hide (HF3.out (fun h => by have := (HC.out.1 h).2; omega))
        go_quiet (fail)
        go_wp2
        exact HF1.out _ (below_drewN' HU7.out.below _)
      by_cases t4 : bh < bl
      · have HF1 := hide (HF3.out (fun h => by have := (HC.out.1 h).2; omega))
        go_quiet (fail)
        go_wp2
        exact HF1.out _ (below_drewN' HU7.out.below _)
      have HX4 := hide (HX2.out (HC.out.2 ⟨⟨by omega, by omega⟩, by omega, by omega⟩))
      have hlk : ((ls.take k).map fun g => ndU (legUv es g)).length ≤ 8 := by rw [List.length_map, List.length_take]; omega
      clear HX2 HF3 HC HX
      go_quiet (fail)
      go_upto_region 15 with (fail)
      have HU8 := hide (HU7.out.next (below_drewN' (Below.refl _ _) nq)); have KG8 := hide (KG7.out.drewN nq); have KA8 := hide (KA7.out.drewN nq); have KB8 := hide (KB7.out.drewN nq)
      clear d1 d2 t1 t2 t3 t4 hoar hob0 hobr hrng cr cx hoa hob hoa0 hab hba hne0 l0 l1 l2 g0 g1 g2 a0 a1 a2 b0 b1 b2 HU7 KG7 KA7 KB7
      obtain ⟨r1, r2, r3, r4⟩ := ra
      obtain ⟨s1, s2, s3, s4⟩ := rb
      generalize W.drewN nq = W2 at *
      have g0 := KG8.out.cell (k := 0) (v := .int .i64 (a : Int)) rfl; have g1 := KG8.out.cell (k := 1) (v := .int .i64 (b : Int)) rfl; have g2 := KG8.out.cell (k := 2) (v := .int .i64 gg) rfl
      have a0 := KA8.out.cell (k := 0) (v := .int .i64 ea.office) rfl; have a1 := KA8.out.cell (k := 1) (v := .int .i64 al) rfl; have a2 := KA8.out.cell (k := 2) (v := .int .i64 ah) rfl
      have b0 := KB8.out.cell (k := 0) (v := .int .i64 ebv.office) rfl; have b1 := KB8.out.cell (k := 1) (v := .int .i64 bl) rfl; have b2 := KB8.out.cell (k := 2) (v := .int .i64 bh) rfl
      go_wp2_with (at_builtin; refine Stop.out ?_)
      refine Stop.go ?_
      have hBz := HU8.out.below.size
      refine wpList_app _ rfl (.tmp 86) (.tmp 114) 61 rfl w.heap.size 66 i0 _ 7 56 Try.underlying61 hi0 hz0 hz1 hz2 rfl (by omega) u8 _ _ rfl (HU8.out.next (balloc (Below.refl _ _) _)).own (some ⟨W2.heap.size, 0, none⟩) 1 1 (Nd.cells ⟨a, b, ea.office, max al (bl - gg), min ah (bh - gg), gg, ebv.office⟩) rfl (Src.blk (Blk.new _ _ _) rfl rfl) (nd_one _) (by unfold maxLen; omega) (by omega) (by simp; omega) ?_
      intro v1 w7 hown1 hg1
      have HU9 := hide (show NP w ib es.length ((xs.set a true).set b true) v1 ((ls.take (k + 1)).map fun g => ndU (legUv es g)) w7 by
        rw [HS.out, Hnd.out]
        exact (HU8.out.next (balloc (Below.refl _ _) _)).app hg1 hown1)
      have HX5 := hide (And.intro HX3.out.1 (And.intro HX3.out.2 HX4.out))
      clear hg1 hown1 g0 g1 g2 a0 a1 a2 b0 b1 b2 HU8 KG8 KA8 KB8 HX3 HX4 HS Hnd
      go_wp2_with fail
      go_roundw
      case rel => exact ⟨k + 1, _, by omega, by go_num, HU9, HX5⟩
      case measure => simp [intOf]; omega
    · obtain rfl : k = ls.length := by omega
      have HXl := hide (show xs.length = es.length ∧ (∀ (i : Nat) (b : Bool), xs[i]? = some b → b = inL ls i) ∧ ∀ g ∈ ls, legOk d es g ∧ clipOk (evAt es g.src.toNat) ∧ clipOk (evAt es g.dst.toNat) by have := HX.out; rw [List.take_length] at this; exact this)
      have HU1 : Hid (NP w ib es.length xs u8 ((ls.map fun g => ndU (legUv es g)) ++ (onesL es ls 0).map ndU) wr) := hide (by have := HU.out; rw [List.take_length] at this; simpa [onesL] using this)
      clear HU HX
      go_wp2
      go_loopw [8, 14] (fun v sk wr => ∃ k : Nat, k ≤ es.length ∧ sk = .int .i64 k ∧ Hid (NP w ib es.length xs v ((ls.map fun g => ndU (legUv es g)) ++ (onesL es ls k).map ndU) wr)) (fun _ sk _ => es.length - (intOf sk).toNat)
      case atStart => exact ⟨0, Nat.zero_le _, rfl, HU1⟩
      case round =>
        clear HU1
        obtain ⟨k, hk, rfl, HU⟩ := hrel
        by_cases hltk : k < es.length
        · obtain ⟨xb, hxb⟩ : ∃ xb, xs[k]? = some xb := ⟨_, List.getElem?_eq_getElem (by rw [HXl.out.1]; exact hltk)⟩
          have hin := HXl.out.2.1 _ _ hxb
          have ck := HU.out.cell hxb
          clear hxb
          cases xb with
          | true =>
            have HU2 := hide (show NP w ib es.length xs u8 ((ls.map fun g => ndU (legUv es g)) ++ (onesL es ls (k + 1)).map ndU) wr by rw [onesL_no hin.symm]; exact HU.out)
            clear hin
            go_wp2
            go_roundw
            case rel => exact ⟨k + 1, by omega, by go_num, HU2⟩
            case measure => simp [intOf]; omega
          | false =>
            obtain ⟨eb, eo, e, rfl, hev, e0, e1, e2, e3⟩ := (He.out.keep (Keeps.of_below HU.out.below)).ev hltk
            have HS := hide (show (ls.map fun g => ndU (legUv es g)) ++ (onesL es ls (k + 1)).map ndU = ((ls.map fun g => ndU (legUv es g)) ++ (onesL es ls k).map ndU) ++ [⟨(k : Int), -1, e.office, (clipT e).low, (clipT e).high, 0, e.office⟩] by
              rw [onesL_yes hin.symm, List.map_append, ← List.append_assoc, evAt_at hev]; rfl)
            have hlen : ((ls.map fun g => ndU (legUv es g)) ++ (onesL es ls k).map ndU).length ≤ 16 := by
              rw [List.length_append, List.length_map, List.length_map]
              unfold onesL
              rw [List.length_map]
              have := List.length_filter_le (fun i => !inL ls i) (List.range k)
              rw [List.length_range] at this
              omega
            obtain ⟨al, hal1⟩ : ∃ al, (clipT e).low = al := ⟨_, rfl⟩
            obtain ⟨ah, hah1⟩ : ∃ ah, (clipT e).high = ah := ⟨_, rfl⟩
            rw [hal1, hah1] at HS
            have Hal := hide hal1; have Hah := hide hah1
            clear hev hin hal1 hah1
            go_wp2_with (go_at_call 44; refine Stop.out ?_)
            refine Stop.go (clip2_c e al ah _ _ Hal.out Hah.out ?_)
            intro w3 hb3
            have HU3 := hide (HU.out.next hb3)
            have hBz := HU3.out.below.size
            clear hb3 e0 e1 e2 e3 ck
            go_wp2_with (at_builtin; refine Stop.out ?_)
            refine Stop.go ?_
            refine wpList_app _ rfl (.tmp 132) (.tmp 143) 61 rfl w.heap.size 66 i0 _ 7 56 Try.underlying61 hi0 hz0 hz1 hz2 rfl (by omega) u8 _ _ rfl (HU3.out.next (balloc (balloc (Below.refl _ _) _) _)).own (some ⟨w3.heap.size + 1, 0, none⟩) 1 1 (Nd.cells ⟨(k : Int), -1, e.office, al, ah, 0, e.office⟩) rfl (Src.blk (Blk.new_at (by simp)) rfl rfl) (nd_one _) (by unfold maxLen; omega) (by omega) (by simp; omega) ?_
            intro v1 w7 hown1 hg1
            have HU9 := hide (show NP w ib es.length xs v1 ((ls.map fun g => ndU (legUv es g)) ++ (onesL es ls (k + 1)).map ndU) w7 by
              rw [HS.out]
              exact (HU3.out.next (balloc (balloc (Below.refl _ _) _) _)).app hg1 hown1)
            clear hg1 hown1 HU3 HU HS
            go_wp2_with fail
            go_roundw
            case rel => exact ⟨k + 1, by omega, by go_num, HU9⟩
            case measure => simp [intOf]; omega
        · obtain rfl : k = es.length := by omega
          have HN := HU.out.own
          have e : ((ls.map fun g => ndU (legUv es g)) ++ (onesL es ls es.length).map ndU) = nodesL es ls := by
            unfold nodesL unitsL
            rw [List.map_append, List.map_map]; rfl
          rw [e] at HN
          obtain ⟨np, nc, rfl, hN⟩ := HN.nds
          have HND := hide hN
          have B2 := hide HU.out.below
          have hle : (nodesL es ls).length ≤ 7 := by
            have := units_len HW.out
            rw [nodes_len]; omega
          have HF5 := hide (fun (x : Nd) (hx : x ∈ nodesL es ls) (h : ¬ x.low ≤ x.high) => HR0.out (fun hN => h (hN.win x hx)))
          have HOk := hide (fun (h : ∀ x ∈ nodesL es ls, x.low ≤ x.high) => HR1.out ⟨HXl.out.2.2, h⟩)
          clear hN HN e HU HXl
          generalize nodesL es ls = nds at *
          generalize wr = W at *
          go_wp2
          go_loopw [16] (fun sk wr => ∃ k nd : Nat, k ≤ nds.length ∧ sk = .int .i64 k ∧ Hid (∀ x ∈ nds.take k, x.low ≤ x.high) ∧ wr = W.drewN nd) (fun sk _ => nds.length - (intOf sk).toNat)
          case atStart => exact ⟨0, 0, Nat.zero_le _, rfl, hide (by simp), rfl⟩
          case round =>
            obtain ⟨k, nd, hk, rfl, HA, rfl⟩ := hrel
            by_cases hltk : k < nds.length
            · obtain ⟨nb, no, x, rfl, hx, _, _, _, c3, c4, _, _⟩ := HND.out.nd hltk
              have HXm := hide (List.mem_of_getElem? hx)
              have HA2 := hide (fun (h : x.low ≤ x.high) => (show ∀ y ∈ nds.take (k + 1), y.low ≤ y.high from fun y hy => by
                rw [take_succ_of hx] at hy
                rcases List.mem_append.1 hy with h2 | h2
                · exact HA.out y h2
                · simp at h2; rw [h2]; exact h))
              clear hx
              by_cases t : x.high < x.low
              · have HF1 := hide (HF5.out x HXm.out (by omega))
                have d1 : decide (x.high < x.low) = true := by simpa using t
                go_wp2
                go_quiet (fail)
                go_wp2
                exact HF1.out _ (below_drewN' (below_drewN' B2.out _) _)
              have d1 : decide (x.high < x.low) = false := by simpa using t
              have HA3 := hide (HA2.out (by omega))
              go_wp2
              go_quiet (fail)
              go_wp2
              go_roundw
              case rel => exact ⟨k + 1, _, by omega, by go_num, HA3, by first | rfl | exact World.drewN_drewN ..⟩
              case measure => simp [intOf]; omega
            · obtain rfl : k = nds.length := by omega
              have HD := hide (HOk.out (by have := HA.out; rwa [List.take_length] at this))
              go_wp2
              exact HD.out _ _ _ (below_drewN' B2.out _) (HND.out.keep (fun _ _ h => h))
end Go.Proofs.Ytaopfoicdjejnaa
