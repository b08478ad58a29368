/- Plain: the chapter's examples. -/
import Derived.Test.YtaopfoicdjejnaaP4
set_option linter.unusedVariables false
set_option linter.unusedSimpArgs false
namespace Go.Proofs.Ytaopfoicdjejnaa
open Go.RowKit

def xD : List (List Int) := [[0, 10], [-1, 0]]
def xE (o l h : Int) : Evt := ⟨o, l, h, none, 0, 0⟩
def xA : List Evt := [xE 0 0 5, xE 1 0 12]
def xN : List Evt := [xE 1 0 5, xE 0 10 20]
def xB : List Evt := [xE 0 0 5, xE 1 0 30]
def xC : List Evt := [xE 0 0 5, xE 1 0 30, xE 1 12 14]
def xL : List Lgr := [⟨0, 1, 20⟩]
theorem xD_ok : DistP xD := by
  refine ⟨by decide, by decide, by decide, fun i k j hi hk hj h1 h2 h3 => ?_⟩
  have hi' : i < 2 := hi
  have hk' : k < 2 := hk
  have hj' : j < 2 := hj
  clear hi hk hj
  rcases (by omega : i = 0 ∨ i = 1) with rfl | rfl <;> rcases (by omega : k = 0 ∨ k = 1) with rfl | rfl <;> rcases (by omega : j = 0 ∨ j = 1) with rfl | rfl <;> revert h1 h2 h3 <;> decide
theorem xA_ok : WellP xD xA [] := ⟨xD_ok, by decide, by decide, by simp, by simp⟩
theorem xN_ok : WellP xD xN [] := ⟨xD_ok, by decide, by decide, by simp, by simp⟩
theorem xB_ok : WellP xD xB xL := ⟨xD_ok, by decide, by decide, by decide, by decide⟩
theorem xC_ok : WellP xD xC xL := ⟨xD_ok, by decide, by decide, by decide, by decide⟩
theorem x0_ok : WellP [] [] [] := ⟨⟨by decide, by simp, by simp, fun i k j h => by simp at h⟩, by decide, by simp, by simp, by simp⟩
theorem two_of {n : Nat} {p : Nat → Nat → Prop} (h : ∀ i < n, ∀ j < n, i ≠ j → p i j) : ∀ i < n, ∀ j < n, i ≠ j → p i j := h
theorem xA_t : HoldsP (dst xD) (evF xA) 2 [] (tmF [0, 10]) := by
  refine ⟨by decide, ?_, by simp, by simp, by simp⟩
  intro i hi j hj hne
  have h01 : befE (dst xD) (evF xA) (tmF [0, 10]) 0 1 := by unfold befE; decide
  rcases (by omega : (i = 0 ∧ j = 1) ∨ (i = 1 ∧ j = 0)) with ⟨rfl, rfl⟩ | ⟨rfl, rfl⟩
  · exact .inl h01
  · exact .inr h01
theorem xB_t : HoldsP (dst xD) (evF xB) 2 (xL.map Lgr.lg) (tmF [0, 20]) := by
  have h01 : befE (dst xD) (evF xB) (tmF [0, 20]) 0 1 := by unfold befE; decide
  refine ⟨by decide, ?_, ?_, ?_, ?_⟩
  · intro i hi j hj hne
    rcases (by omega : (i = 0 ∧ j = 1) ∨ (i = 1 ∧ j = 0)) with ⟨rfl, rfl⟩ | ⟨rfl, rfl⟩
    · exact .inl h01
    · exact .inr h01
  · intro g hg
    simp [xL] at hg
    subst hg
    exact ⟨by decide, h01⟩
  · intro g hg k hk h1 h2
    simp [xL] at hg
    subst hg
    exfalso
    have h1' : k ≠ 0 := h1
    have h2' : k ≠ 1 := h2
    omega
  · intro g hg g' hg' hne
    simp [xL] at hg hg'
    subst hg; subst hg'
    exact absurd rfl hne
theorem xA_fit : ∃ ts, fitR xD xA [] = some ts := Option.isSome_iff_exists.1 (fitR_some (t := tmF [0, 10]) xA_ok xA_t)
theorem xB_fit : ∃ ts, fitR xD xB xL = some ts := Option.isSome_iff_exists.1 (fitR_some (t := tmF [0, 20]) xB_ok xB_t)
theorem x0_fit : ∃ ts, fitR [] [] [] = some ts := Option.isSome_iff_exists.1 (fitR_some (t := tmF []) x0_ok ⟨by simp, by simp, by simp, by simp, by simp⟩)
theorem fit_none {d es ls} (h : ¬ ∃ t, HoldsP (dst d) (evF es) es.length (ls.map Lgr.lg) t) : fitR d es ls = none := by
  cases hf : fitR d es ls with
  | none => rfl
  | some ts => exact absurd (fitR_iff.1 (by rw [hf]; rfl)).2 h
theorem xN_fit : fitR xD xN [] = none := fit_none (by
  rintro ⟨t, h⟩
  have w0 := h.win 0 (by decide)
  have w1 := h.win 1 (by decide)
  have a0 : (evF xN 0).high = 5 := rfl
  have a1 : (evF xN 1).low = 10 := rfl
  have e01 : dst xD (evF xN 0).office (evF xN 1).office = -1 := rfl
  have e10 : dst xD (evF xN 1).office (evF xN 0).office = 10 := rfl
  rcases h.two 0 (by decide) 1 (by decide) (by decide) with ⟨h1, h2⟩ | ⟨h1, h2⟩
  · rw [e01] at h1; omega
  · rw [e10] at h2; omega)
theorem xC_fit : fitR xD xC xL = none := fit_none (by
  rintro ⟨t, h⟩
  have w0 := h.win 0 (by decide)
  have w2 := h.win 2 (by decide)
  have a2 : (evF xC 2).high = 14 := rfl
  have hl := h.leg ⟨0, 1, 20⟩ (by simp [xL, Lgr.lg])
  have hl1 : t 1 - t 0 = 20 := hl.1
  have e20 : dst xD (evF xC 2).office (evF xC 0).office = -1 := rfl
  have e12 : dst xD (evF xC 1).office (evF xC 2).office = 0 := rfl
  rcases h.out ⟨0, 1, 20⟩ (by simp [xL, Lgr.lg]) 2 (by decide) (by decide) (by decide) with ⟨h1, h2⟩ | ⟨h1, h2⟩
  · have h1' : 0 ≤ dst xD (evF xC 2).office (evF xC 0).office := h1
    rw [e20] at h1'; omega
  · have h2' : dst xD (evF xC 1).office (evF xC 2).office ≤ t 2 - t 1 := h2
    rw [e12] at h2'; omega)
theorem hA10 : holdB xD xA [] [0, 10] = true := holdB_true.2 ⟨xA_ok, rfl, xA_t⟩
theorem hA9 : holdB xD xA [] [0, 9] = false := holdB_false (fun ⟨_, _, h⟩ => by
  have e01 : dst xD (evF xA 0).office (evF xA 1).office = 10 := rfl
  have e10 : dst xD (evF xA 1).office (evF xA 0).office = -1 := rfl
  have t0 : tmF [0, 9] 0 = 0 := rfl
  have t1 : tmF [0, 9] 1 = 9 := rfl
  rcases h.two 0 (by decide) 1 (by decide) (by decide) with ⟨h1, h2⟩ | ⟨h1, h2⟩
  · rw [e01] at h2; omega
  · rw [e10] at h1; omega)
theorem hB21 : holdB xD xB xL [0, 21] = false := holdB_false (fun ⟨_, _, h⟩ => by
  have hl := h.leg ⟨0, 1, 20⟩ (by simp [xL, Lgr.lg])
  have hl1 : tmF [0, 21] 1 - tmF [0, 21] 0 = 20 := hl.1
  have t0 : tmF [0, 21] 0 = 0 := rfl
  have t1 : tmF [0, 21] 1 = 21 := rfl
  omega)
theorem hA0 : holdB xD xA [] [0] = false := holdB_false (fun ⟨_, h, _⟩ => by simp [xA] at h)
theorem h1 : holdB [[1]] [] [] [] = false := holdB_false (fun ⟨h, _, _⟩ => by
  have := h.dist.zero 0 (by decide)
  exact absurd this (by decide))
end Go.Proofs.Ytaopfoicdjejnaa
