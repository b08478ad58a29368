/- Plain: what Fit answers. -/
import Derived.Test.YtaopfoicdjejnaaC12
import Derived.Test.YtaopfoicdjejnaaC13
set_option linter.unusedVariables false
set_option linter.unusedSimpArgs false
namespace Go.Proofs.Ytaopfoicdjejnaa
open Go.RowKit

theorem srt_unique {α : Type} {key : α → Int} {tag : α → Nat} : ∀ (A B : List α), A.Perm B → Srt key tag A → Srt key tag B → A = B
  | [], B, h, _, _ => h.nil_eq.symm ▸ rfl
  | a :: A, [], h, _, _ => by have := h.length_eq; simp at this
  | a :: A, b :: B, h, hA, hB => by
    have hA' := List.pairwise_cons.1 hA
    have hB' := List.pairwise_cons.1 hB
    have hab : a = b := by
      have h1 : a ∈ b :: B := h.mem_iff.1 (by simp)
      have h2 : b ∈ a :: A := h.mem_iff.2 (by simp)
      rcases List.mem_cons.1 h1 with e | e
      · exact e
      · rcases List.mem_cons.1 h2 with e2 | e2
        · exact e2.symm
        · exact absurd (hA'.1 b e2) (hB'.1 a e).asymm
    subst hab
    rw [srt_unique A B (List.Perm.cons_inv h) hA'.2 hB'.2]
open Classical in
/-- The units in the order of the ends of their windows. -/
noncomputable def sortM (us : List Uv) : List Nat := if h : ∃ M : List Nat, M.Perm (List.range us.length) ∧ Srt (keyF us) id M then h.choose else []
theorem sortM_eq {us : List Uv} {M : List Nat} (h1 : M.Perm (List.range us.length)) (h2 : Srt (keyF us) id M) : sortM us = M := by
  have h : ∃ M : List Nat, M.Perm (List.range us.length) ∧ Srt (keyF us) id M := ⟨M, h1, h2⟩
  unfold sortM
  rw [dif_pos h]
  have hc := h.choose_spec
  exact srt_unique _ _ (hc.1.trans h1.symm) hc.2 h2
noncomputable def susL (es : List Evt) (ls : List Lgr) : List Uv := (sortM (unitsL es ls)).map (uvF (unitsL es ls))
def wrU (u : Uv) (b : Int) (ts : List Int) : List Int := match u with
  | .one i _ => ts.set i b
  | .leg g _ _ => (ts.set g.src.toNat b).set g.dst.toNat (b + g.gap)
def runT (D : Nat → Nat → Int) (us : List Uv) : Option Nat → Int → List Nat → List Int → List Int
  | _, _, [], ts => ts
  | off, time, u :: l, ts => runT D us (some (unF us u).exit) (beginF D (unF us) off time u + (unF us u).span) l (wrU (uvF us u) (beginF D (unF us) off time u) ts)
def precP (d : List (List Int)) (us : List Uv) : Prop := ∀ i j, i < j → j < us.length → fitsF (dst d) (unF us) i j = true ∨ fitsF (dst d) (unF us) j i = true
open Classical in
/-- What Fit answers. -/
noncomputable def fitR (d : List (List Int)) (es : List Evt) (ls : List Lgr) : Option (List Int) :=
  if WellP d es ls ∧ (∀ g ∈ ls, legOk d es g) ∧ (∀ u ∈ unitsL es ls, winOk u) ∧ precP d (susL es ls) then (fitSeq (dst d) (unF (susL es ls)) (susL es ls).length).map (fun l => runT (dst d) (susL es ls) none 0 l (List.replicate es.length 0)) else none
theorem fitR_no {d : List (List Int)} {es : List Evt} {ls : List Lgr} (h : ¬ (WellP d es ls ∧ (∀ g ∈ ls, legOk d es g) ∧ (∀ u ∈ unitsL es ls, winOk u) ∧ precP d (susL es ls))) : fitR d es ls = none := by unfold fitR; rw [if_neg h]
theorem fitR_yes {d : List (List Int)} {es : List Evt} {ls : List Lgr} (h : WellP d es ls ∧ (∀ g ∈ ls, legOk d es g) ∧ (∀ u ∈ unitsL es ls, winOk u) ∧ precP d (susL es ls)) :
    fitR d es ls = (fitSeq (dst d) (unF (susL es ls)) (susL es ls).length).map (fun l => runT (dst d) (susL es ls) none 0 l (List.replicate es.length 0)) := by unfold fitR; rw [if_pos h]
theorem units_len {d : List (List Int)} {es : List Evt} {ls : List Lgr} (hW : WellP d es ls) : (unitsL es ls).length ≤ es.length := by
  let first : Uv → Nat := fun u => match u with | .one i _ => i | .leg g _ _ => g.src.toNat
  have hleg : ∀ g ∈ ls, 0 ≤ g.src ∧ g.src < es.length := fun g hg => ⟨(hW.leg g hg).1, (hW.leg g hg).2.1⟩
  have h1 : ((unitsL es ls).map first).Nodup := by
    unfold unitsL
    rw [List.map_append, List.nodup_append]
    refine ⟨?_, ?_, ?_⟩
    · rw [List.map_map]
      have : (ls.map fun g => g.src).Nodup := by
        have h2 : (ls.map fun g => g.src).Sublist (ls.flatMap fun g => [g.src, g.dst]) := by
          generalize ls = L
          induction L with
          | nil => exact List.Sublist.slnil
          | cons g t ih => rw [List.map_cons, List.flatMap_cons]; exact List.Sublist.cons_cons _ (List.Sublist.cons _ ih)
        exact h2.nodup hW.once
      unfold List.Nodup at this ⊢
      rw [List.pairwise_map] at this ⊢
      refine List.Pairwise.imp_of_mem (fun {a b} ha hb hne e => hne ?_) this
      have e' : a.src.toNat = b.src.toNat := e
      have := hleg a ha; have := hleg b hb
      omega
    · unfold onesL
      rw [List.map_map, show (first ∘ fun i => Uv.one i (evAt es i)) = id from rfl, List.map_id]
      exact List.Pairwise.filter _ List.nodup_range
    · intro a ha b hb e
      subst e
      rw [List.map_map] at ha
      obtain ⟨g, hg, rfl⟩ := List.mem_map.1 ha
      unfold onesL at hb
      rw [List.map_map] at hb
      obtain ⟨i, hi, e⟩ := List.mem_map.1 hb
      have e' : i = g.src.toNat := e
      have h2 := (List.mem_filter.1 hi).2
      have h3 : inL ls i = true := by
        unfold inL
        rw [List.any_eq_true]
        refine ⟨g, hg, ?_⟩
        have := hleg g hg
        simp; left; omega
      rw [h3] at h2; cases h2
  have := nodup_len es.length _ h1 (fun x hx => by
    obtain ⟨u, hu, rfl⟩ := List.mem_map.1 hx
    unfold unitsL at hu
    rcases List.mem_append.1 hu with h | h
    · obtain ⟨g, hg, rfl⟩ := List.mem_map.1 h
      have := hleg g hg
      show g.src.toNat < es.length
      omega
    · unfold onesL at h
      obtain ⟨i, hi, rfl⟩ := List.mem_map.1 h
      have := (List.mem_filter.1 hi).1
      show i < es.length
      simpa using this)
  rwa [List.length_map] at this
theorem sorted_mem {us : List Uv} {M : List Nat} (h : M.Perm (List.range us.length)) : ∀ u ∈ M.map (uvF us), u ∈ us := by
  intro u hu
  obtain ⟨i, hi, rfl⟩ := List.mem_map.1 hu
  have h1 : i < us.length := by have := h.mem_iff.1 hi; simpa using this
  rw [uvF_at (List.getElem?_eq_getElem h1)]
  exact List.getElem_mem h1
theorem sorted_ok {d : List (List Int)} {es : List Evt} {ls : List Lgr} {M : List Nat} (hW : WellP d es ls) (h : M.Perm (List.range (unitsL es ls).length)) : SrOk d (M.map (uvF (unitsL es ls))) := by
  refine ⟨hW.dist, ?_, fun u hu => units_ok hW u (sorted_mem h u hu)⟩
  rw [List.length_map, h.length_eq, List.length_range]
  have := units_len hW; have := hW.few; omega
theorem unOk_unit {d : List (List Int)} {es : List Evt} {ls : List Lgr} (hW : WellP d es ls) (hL : ∀ g ∈ ls, legOk d es g) : ∀ u ∈ unitsL es ls, 0 ≤ u.un.low ∧ 0 ≤ dst d u.un.entry u.un.exit ∧ dst d u.un.entry u.un.exit ≤ u.un.span := by
  intro u hu
  have hok := units_ok hW u hu
  unfold unitsL at hu
  rcases List.mem_append.1 hu with h | h
  · obtain ⟨g, hg, rfl⟩ := List.mem_map.1 h
    have h1 := hL g hg
    have h2 := hW.dist.rng (evAt es g.src.toNat).office.toNat (evAt es g.dst.toNat).office.toNat
    have h3 := clampLo_bd (evAt es g.src.toNat).ev
    unfold legOk at h1
    refine ⟨?_, ?_, h1.2⟩
    · show 0 ≤ max (clampLo (evAt es g.src.toNat).ev) _
      omega
    · show 0 ≤ dst d (evAt es g.src.toNat).office.toNat (evAt es g.dst.toNat).office.toNat
      omega
  · unfold onesL at h
    obtain ⟨i, hi, rfl⟩ := List.mem_map.1 h
    have h3 := clampLo_bd (evAt es i).ev
    have h4 : 0 ≤ (evAt es i).office ∧ (evAt es i).office < d.length := ⟨hok.2.1, hok.2.2.1⟩
    have h5 := hW.dist.zero (evAt es i).office.toNat (by omega)
    exact ⟨h3.1, by show 0 ≤ dst d (evAt es i).office.toNat (evAt es i).office.toNat; omega, by show dst d (evAt es i).office.toNat (evAt es i).office.toNat ≤ 0; omega⟩
theorem sorted_unOk {d : List (List Int)} {es : List Evt} {ls : List Lgr} {M : List Nat} (hW : WellP d es ls) (hL : ∀ g ∈ ls, legOk d es g) (h : M.Perm (List.range (unitsL es ls).length)) : ∀ u < (M.map (uvF (unitsL es ls))).length, UnOk (dst d) (unF (M.map (uvF (unitsL es ls)))) u := by
  intro u hu
  have hx : (M.map (uvF (unitsL es ls)))[u]? = some (M.map (uvF (unitsL es ls)))[u] := List.getElem?_eq_getElem hu
  unfold UnOk
  rw [unF_at hx]
  exact unOk_unit hW hL _ (sorted_mem h _ (List.getElem_mem hu))
end Go.Proofs.Ytaopfoicdjejnaa
