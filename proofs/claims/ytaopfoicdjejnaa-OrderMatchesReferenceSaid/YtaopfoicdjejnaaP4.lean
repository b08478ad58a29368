/- Plain: what Fit answers is possible. -/
import Derived.Test.YtaopfoicdjejnaaP3
set_option linter.unusedVariables false
set_option linter.unusedSimpArgs false
namespace Go.Proofs.Ytaopfoicdjejnaa
open Go.RowKit

theorem srt_exists (key : Nat → Int) : ∀ l : List Nat, l.Nodup → ∃ M : List Nat, M.Perm l ∧ Srt key id M
  | [], _ => ⟨[], List.Perm.refl _, List.Pairwise.nil⟩
  | a :: t, h => by
    have h' := List.nodup_cons.1 h
    obtain ⟨M, h1, h2⟩ := srt_exists key t h'.2
    let p : Nat → Bool := fun x => decide (key x < key a ∨ (key x = key a ∧ x < a))
    refine ⟨M.filter p ++ a :: M.filter (fun x => !p x), ?_, ?_⟩
    · have e : (M.filter p ++ M.filter (fun x => !p x)).Perm M := List.filter_append_perm p M
      exact List.perm_middle.trans (List.Perm.cons a (e.trans h1))
    · have hne : ∀ x ∈ M, x ≠ a := fun x hx e => h'.1 (e ▸ h1.mem_iff.1 hx)
      have lo : ∀ x ∈ M.filter p, LtT key id x a := fun x hx => by
        have := (List.mem_filter.1 hx).2
        simpa [p, LtT] using this
      have hi : ∀ y ∈ M.filter (fun x => !p x), LtT key id a y := fun y hy => by
        have h3 := List.mem_filter.1 hy
        have h4 := hne y h3.1
        have h5 : ¬ (key y < key a ∨ (key y = key a ∧ y < a)) := by
          have h6 := h3.2
          simp only [p, Bool.not_eq_true', decide_eq_false_iff_not] at h6
          exact h6
        unfold LtT
        simp only [id]
        omega
      unfold Srt
      rw [List.pairwise_append]
      refine ⟨List.Pairwise.filter _ h2, List.pairwise_cons.2 ⟨hi, List.Pairwise.filter _ h2⟩, fun x hx y hy => ?_⟩
      rcases List.mem_cons.1 hy with rfl | hy
      · exact lo x hx
      · exact (lo x hx).trans (hi y hy)
theorem tm_set {ts : List Int} {i : Nat} {x : Int} (h : i < ts.length) (j : Nat) : tmF (ts.set i x) j = if j = i then x else tmF ts j := by
  unfold tmF
  rw [List.getElem?_set]
  by_cases e : i = j
  · subst e; simp [h]
  · have e' : ¬ j = i := fun x => e x.symm
    simp [e, e']
theorem wr_len (u : Uv) (b : Int) (ts : List Int) : (wrU u b ts).length = ts.length := by cases u <;> simp [wrU]
theorem wr_keep {u : Uv} {b : Int} {ts : List Int} {x : Nat} (hx : x ∉ u.uk.evs) : tmF (wrU u b ts) x = tmF ts x := by
  cases u with
  | one i e =>
    have h : x ≠ i := by simpa [Uv.uk, UK.evs] using hx
    unfold wrU tmF
    simp only
    rw [List.getElem?_set, if_neg (fun e => h e.symm)]
  | leg g a c =>
    have h : x ≠ g.src.toNat ∧ x ≠ g.dst.toNat := by simpa [Uv.uk, UK.evs, Lgr.lg] using hx
    unfold wrU tmF
    simp only
    rw [List.getElem?_set, if_neg (fun e => h.2 e.symm), List.getElem?_set, if_neg (fun e => h.1 e.symm)]
theorem wr_says {u : Uv} {b : Int} {ts : List Int} (hx : ∀ x ∈ u.uk.evs, x < ts.length) (hne : ∀ g a c, u = .leg g a c → g.src.toNat ≠ g.dst.toNat) : u.uk.says (tmF (wrU u b ts)) b := by
  cases u with
  | one i e =>
    have h : i < ts.length := hx i (by simp [Uv.uk, UK.evs])
    show tmF (ts.set i b) i = b
    rw [tm_set h, if_pos rfl]
  | leg g a c =>
    have h1 : g.src.toNat < ts.length := hx _ (by simp [Uv.uk, UK.evs, Lgr.lg])
    have h2 : g.dst.toNat < ts.length := hx _ (by simp [Uv.uk, UK.evs, Lgr.lg])
    have h3 := hne g a c rfl
    show tmF ((ts.set g.src.toNat b).set g.dst.toNat (b + g.gap)) g.src.toNat = b ∧ tmF ((ts.set g.src.toNat b).set g.dst.toNat (b + g.gap)) g.dst.toNat = b + g.gap
    have h2' : g.dst.toNat < (ts.set g.src.toNat b).length := by rw [List.length_set]; exact h2
    rw [tm_set h2' g.src.toNat, tm_set h2' g.dst.toNat, if_neg h3, if_pos rfl, tm_set h1, if_pos rfl]
    exact ⟨rfl, rfl⟩
theorem runT_len {D : Nat → Nat → Int} {us : List Uv} : ∀ (l : List Nat) (off : Option Nat) (time : Int) (ts : List Int), (runT D us off time l ts).length = ts.length
  | [], _, _, _ => rfl
  | u :: l, off, time, ts => by rw [runT, runT_len l, wr_len]
theorem runT_keep {D : Nat → Nat → Int} {us : List Uv} {x : Nat} : ∀ (l : List Nat) (off : Option Nat) (time : Int) (ts : List Int), (∀ u ∈ l, x ∉ (uvF us u).uk.evs) → tmF (runT D us off time l ts) x = tmF ts x
  | [], _, _, _, _ => rfl
  | u :: l, off, time, ts, h => by rw [runT, runT_keep l _ _ _ (fun v hv => h v (List.mem_cons_of_mem _ hv)), wr_keep (h u (by simp))]
theorem runT_says {D : Nat → Nat → Int} {us : List Uv} (hne : ∀ u, ∀ g a c, uvF us u = .leg g a c → g.src.toNat ≠ g.dst.toNat ∨ us.length ≤ u) : ∀ (l : List Nat) (off : Option Nat) (time : Int) (ts : List Int) (r : List (Nat × Int)), l.Nodup → (∀ u ∈ l, u < us.length) → (∀ u ∈ l, ∀ v ∈ l, u ≠ v → ∀ x ∈ (uvF us u).uk.evs, x ∉ (uvF us v).uk.evs) →
    (∀ u ∈ l, ∀ x ∈ (uvF us u).uk.evs, x < ts.length) → runF D (unF us) off time l = some r → ∀ p ∈ r, (uvF us p.1).uk.says (tmF (runT D us off time l ts)) p.2
  | [], off, time, ts, r, _, _, _, _, h => by
    injection h with h; subst h
    intro p hp; simp at hp
  | u :: l, off, time, ts, r, hn, hlt, hap, hx, h => by
    have hn' := List.nodup_cons.1 hn
    rw [runF] at h
    split at h
    · cases h
    · obtain ⟨r', hr, rfl⟩ := Option.map_eq_some_iff.1 h
      intro p hp
      rw [runT]
      rcases List.mem_cons.1 hp with rfl | hp
      · have h1 := wr_says (u := uvF us u) (b := beginF D (unF us) off time u) (ts := ts) (hx u (by simp)) (fun g a c e => by
          rcases hne u g a c e with h | h
          · exact h
          · have := hlt u (by simp); omega)
        have hkeep : ∀ x ∈ (uvF us u).uk.evs, tmF (runT D us (some (unF us u).exit) (beginF D (unF us) off time u + (unF us u).span) l (wrU (uvF us u) (beginF D (unF us) off time u) ts)) x = tmF (wrU (uvF us u) (beginF D (unF us) off time u) ts) x := fun x hxx =>
          runT_keep l _ _ _ (fun v hv => hap u (by simp) v (List.mem_cons_of_mem _ hv) (fun e => hn'.1 (e ▸ hv)) x hxx)
        show (uvF us u).uk.says _ (beginF D (unF us) off time u)
        cases hu : (uvF us u).uk with
        | one i =>
          rw [hu] at h1 hkeep
          show tmF _ i = _
          rw [hkeep i (by simp [UK.evs])]; exact h1
        | leg g =>
          rw [hu] at h1 hkeep
          refine ⟨?_, ?_⟩
          · show tmF _ g.src = _
            rw [hkeep _ (by simp [UK.evs])]; exact h1.1
          · show tmF _ g.dst = _
            rw [hkeep _ (by simp [UK.evs])]; exact h1.2
      · exact runT_says hne l _ _ _ r' hn'.2 (fun v hv => hlt v (List.mem_cons_of_mem _ hv)) (fun a ha b hb => hap a (List.mem_cons_of_mem _ ha) b (List.mem_cons_of_mem _ hb)) (fun v hv x hxx => by rw [wr_len]; exact hx v (List.mem_cons_of_mem _ hv) x hxx) hr p hp
theorem unit_in2 {d : List (List Int)} {es : List Evt} {ls : List Lgr} (hW : WellP d es ls) {u : Uv} (hu : u ∈ unitsL es ls) :
    (∃ i e, u = .one i e ∧ i < es.length) ∨ ∃ (s t : Nat) (gp : Int) (a b : Evt), u = .leg ⟨s, t, gp⟩ a b ∧ s < es.length ∧ t < es.length ∧ ¬ s = t ∧ 0 ≤ gp ∧ gp ≤ 1000000 := by
  unfold unitsL at hu
  rcases List.mem_append.1 hu with h | h
  · obtain ⟨g, hg, rfl⟩ := List.mem_map.1 h
    obtain ⟨a1, a2, a3, a4, a5, a6⟩ := hW.leg g hg
    obtain ⟨k, hk⟩ := List.getElem?_of_mem hg
    have hne := (fl_once hk hW.once).2.2
    refine .inr ⟨g.src.toNat, g.dst.toNat, g.gap, evAt es g.src.toNat, evAt es g.dst.toNat, ?_, by omega, by omega, by omega, a5, a6⟩
    unfold legUv
    rw [show ((g.src.toNat : Nat) : Int) = g.src by omega, show ((g.dst.toNat : Nat) : Int) = g.dst by omega]
  · unfold onesL at h
    obtain ⟨i, hi, rfl⟩ := List.mem_map.1 h
    exact .inl ⟨i, _, rfl, by simpa using (List.mem_filter.1 hi).1⟩

theorem fitR_sound {d : List (List Int)} {es : List Evt} {ls : List Lgr} {ts : List Int} (h : fitR d es ls = some ts) : HoldP d es ls ts := by
  by_cases hc : WellP d es ls ∧ (∀ g ∈ ls, legOk d es g) ∧ (∀ u ∈ unitsL es ls, winOk u) ∧ precP d (susL es ls)
  · rw [fitR_yes hc] at h
    obtain ⟨hW, hL, hWn, hpre⟩ := hc
    obtain ⟨M, pM, sM⟩ := srt_exists (keyF (unitsL es ls)) (List.range (unitsL es ls).length) List.nodup_range
    have hsus : susL es ls = M.map (uvF (unitsL es ls)) := by unfold susL; rw [sortM_eq pM sM]
    rw [hsus] at h
    obtain ⟨l, hl, rfl⟩ := Option.map_eq_some_iff.1 h
    have hUn := sorted_unOk hW hL pM
    have hU := sorted_units hW pM
    have hC := sorted_cover hW hL pM
    have hun := sorted_un hW pM
    have hsm := sorted_mem pM
    obtain ⟨h1, h2, h3, h4⟩ := fitSeq_sound hW.dist.Tri hUn hl
    obtain ⟨r, hr⟩ := Option.isSome_iff_exists.1 h4
    have hlen : ((M.map (uvF (unitsL es ls))).map Uv.uk).length = (M.map (uvF (unitsL es ls))).length := List.length_map _
    have hwin : ∀ u < (M.map (uvF (unitsL es ls))).length, (unF (M.map (uvF (unitsL es ls))) u).low ≤ (unF (M.map (uvF (unitsL es ls))) u).high := fun u hu => by
      rw [unF_at (List.getElem?_eq_getElem hu)]
      exact hWn _ (hsm _ (List.getElem_mem hu))
    have hpos := run_pos hW.dist.Tri (fun u hu => ⟨hUn u hu, hwin u hu⟩) h2 h1 h3 hr
    have hruns := run_sound hW.dist.Tri l none 0 r (fun u hu => ⟨hUn u (h3 u hu), hwin u (h3 u hu)⟩) hr
    refine ⟨hW, by rw [runT_len, List.length_replicate], ?_⟩
    have hP2 : PosB (dst d) (unsF (evF es) ((M.map (uvF (unitsL es ls))).map Uv.uk)) (beginsF r) (List.range ((M.map (uvF (unitsL es ls))).map Uv.uk).length) := by
      rw [hlen]
      exact posB_congr (fun u hu => hun u (by simpa using hu)) hpos
    refine pos_holds hW.dist.Tri hU hC hP2 ?_
    have huv : ∀ (i : Nat) (u : Uv), (M.map (uvF (unitsL es ls)))[i]? = some u → uvF (M.map (uvF (unitsL es ls))) i = u := fun i u hu => uvF_at hu
    have hap : ∀ u ∈ l, ∀ v ∈ l, u ≠ v → ∀ x ∈ (uvF (M.map (uvF (unitsL es ls))) u).uk.evs, x ∉ (uvF (M.map (uvF (unitsL es ls))) v).uk.evs := fun u hu v hv hne => by
      have a1 : (M.map (uvF (unitsL es ls)))[u]? = some (uvF (M.map (uvF (unitsL es ls))) u) := by rw [uvF_at (List.getElem?_eq_getElem (h3 u hu))]; exact List.getElem?_eq_getElem (h3 u hu)
      have a2 : (M.map (uvF (unitsL es ls)))[v]? = some (uvF (M.map (uvF (unitsL es ls))) v) := by rw [uvF_at (List.getElem?_eq_getElem (h3 v hv))]; exact List.getElem?_eq_getElem (h3 v hv)
      exact hU.apart u v _ _ (by rw [List.getElem?_map, a1]; rfl) (by rw [List.getElem?_map, a2]; rfl) hne
    have hxs : ∀ u ∈ l, ∀ x ∈ (uvF (M.map (uvF (unitsL es ls))) u).uk.evs, x < (List.replicate es.length (0 : Int)).length := fun u hu x hx => by
      rw [List.length_replicate]
      rw [uvF_at (List.getElem?_eq_getElem (h3 u hu))] at hx
      exact (unit_evs hW (hsm _ (List.getElem_mem (h3 u hu)))).1 x hx
    have hsay := runT_says (D := dst d) (us := M.map (uvF (unitsL es ls))) (fun u g a c e => by
      rcases Nat.lt_or_ge u (M.map (uvF (unitsL es ls))).length with hu | hu
      · left
        rw [uvF_at (List.getElem?_eq_getElem hu)] at e
        rcases unit_in2 hW (hsm _ (List.getElem_mem hu)) with ⟨i, e', h1, _⟩ | ⟨s, t, gp, a', b', h1, _, _, h2, _⟩
        · rw [h1] at e; cases e
        · rw [h1] at e; injection e with e1 e2 e3
          rw [← e1]; simpa using h2
      · exact .inr hu) l none 0 (List.replicate es.length 0) r h2 h3 hap hxs hr
    intro i u hu
    rw [List.getElem?_map] at hu
    obtain ⟨v, hv, rfl⟩ := Option.map_eq_some_iff.1 hu
    have hi := (List.getElem?_eq_some_iff.1 hv).1
    have hmem : i ∈ l := nodup_all h2 h3 h1 hi
    rw [← hruns.1] at hmem
    obtain ⟨p, hp, rfl⟩ := List.mem_map.1 hmem
    have h5 := hsay p hp
    rw [huv _ _ hv] at h5
    rw [begins_mem (by rw [hruns.1]; exact h2) hp]
    exact h5
  · rw [fitR_no hc] at h; cases h
theorem fitR_some {d : List (List Int)} {es : List Evt} {ls : List Lgr} {t : Nat → Int} (hW : WellP d es ls) (h : HoldsP (dst d) (evF es) es.length (ls.map Lgr.lg) t) : (fitR d es ls).isSome = true :=
  fitR_complete hW h (srt_exists _ _ List.nodup_range)
theorem fitR_iff {d : List (List Int)} {es : List Evt} {ls : List Lgr} : (fitR d es ls).isSome = true ↔ WellP d es ls ∧ ∃ t, HoldsP (dst d) (evF es) es.length (ls.map Lgr.lg) t := by
  constructor
  · intro h
    obtain ⟨ts, hts⟩ := Option.isSome_iff_exists.1 h
    have := fitR_sound hts
    exact ⟨this.1, _, this.2.2⟩
  · rintro ⟨hW, t, h⟩
    exact fitR_some hW h
end Go.Proofs.Ytaopfoicdjejnaa
