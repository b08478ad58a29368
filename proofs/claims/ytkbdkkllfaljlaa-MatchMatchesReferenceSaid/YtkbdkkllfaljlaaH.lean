import Derived.Test.YtkbdkkllfaljlaaC8
import Derived.Test.YtkbdkkllfaljlaaP1
import Derived.Test.YtkbdkkllfaljlaaP2
set_option linter.unusedVariables false
set_option linter.unusedSimpArgs false
namespace Go.Proofs.Ytkbdkkllfaljlaa
open Go.RowKit Go.Sort

/-- The street of the chapter's example. -/
def exS : Sv := ⟨⟨#[49, 48, 48, 48]⟩, ⟨#[72, 97, 109]⟩, ⟨#[77, 97, 105, 110, 32, 83, 116, 46]⟩, none, 0, [], 1, 9, 2, true⟩
theorem example_c (w : World) (R) (hR : R (.returned (.slice (some ⟨w.heap.size, 0, none⟩) 1 1)) (w.alloc (.cells exS.cells.toArray 49))) : Calls Try.prog 26 #[] w R := by
  have HR := hide hR; clear hR
  unfold Sv.cells exS at HR
  simp only [List.length_nil] at HR
  go_enter Try.func26, Try.ntmps26
  go_wp2
  exact HR.out
theorem StsAt.one {w : World} {g : Nat} {s : Sv} (h : ∀ c v, s.cells[c]? = some v → w.cell? ⟨g, c, none⟩ = some v) (ha : StrsAt w s.ap s.al) : StsAt w (some ⟨g, 0, none⟩) [s] := fun _ =>
  ⟨g, 0, rfl, fun i x hx => by
    rcases i with _ | i
    · injection hx with hx; subst hx
      exact ⟨fun c v hv => by have := h c v hv; simpa using this, ha⟩
    · simp at hx⟩
/-- Candidates where what is found is known, of at most one. -/
theorem cand1_c (p : Option Addr) (n cap : Nat) (l : List Sv) (a : Av) (most : Int) (F : List Cnd) (w : World) (R) (hn : l.length = n) (hl : n ≤ 100000) (h : StsAt w p l) (hal' : ∀ s ∈ l, s.al.length ≤ 100000) (hmost : (Lit.int .i64 most).wf = true)
    (hF : (if most < 0 ∨ 6 < most then [] else found a most 0 l) = F) (hF1 : F.length ≤ 1)
    (hR : ∀ q c w', Below w.heap.size w w' → CndsAt w' q F → R (.returned (.slice q F.length c)) w') :
    Calls Try.prog 19 #[.slice p n cap, .agg a.cells.toArray, .int .i64 most] w R := by
  refine candidates_c p n cap l a most w R hn hl h hal' hmost fun q c M w' hb ho h1 h2 => ?_
  have hM : M = F := by
    by_cases hm : most < 0 ∨ 6 < most
    · rw [if_pos hm] at hF; rw [h1 hm, hF]
    · rw [if_neg hm] at hF
      have h3 := (h2 (by omega)).1
      rw [hF] at h3
      match F, hF1, h3 with
      | [], _, h3 => exact h3.eq_nil
      | [x], _, h3 => exact List.perm_singleton.1 h3
  subst hM
  exact hR q c w' hb (CndsAt.of_own ho)

theorem toList_data (x : ByteArray) : x.toList = x.data.toList := ByteArray.toList_eq x
theorem bdist_levR (a b : ByteArray) : (bdist a b : Int) = (levR a.data.toList b.data.toList : Int) := by unfold bdist; rw [levR_eq]
theorem bdist_fold (a b : ByteArray) : (bdist (foldB a) (foldB b) : Int) = (levR (foldL a.data.toList) (foldL b.data.toList) : Int) := by rw [bdist_levR, foldB_list, foldB_list]
/-- The cost, by lists. -/
theorem costP_eq (s : Sv) (a : Av) : costP s a = if [a.street, s.name].any longB || s.al.any longB then none
  else if !a.code.data.toList.isEmpty && [a.code, s.code].any longB || !a.town.data.toList.isEmpty && [a.town, s.town].any longB then none
  else some (leastL (levR (foldL a.street.data.toList) (foldL s.name.data.toList) : Int) (s.al.map fun x => (levR (foldL a.street.data.toList) (foldL x.data.toList) : Int)) + (if a.code.data.toList.isEmpty then 0 else (levR a.code.data.toList s.code.data.toList : Int)) + (if a.town.data.toList.isEmpty then 0 else (levR (foldL a.town.data.toList) (foldL s.town.data.toList) : Int))) := by
  unfold costP
  simp only [bdist_levR, foldB_list, toList_data]
theorem hcost_a : costP exS ⟨⟨#[]⟩, ⟨#[77, 105, 97, 110, 32, 83, 116, 114, 46]⟩, 5, ⟨#[]⟩, ⟨#[]⟩⟩ = some 2 := by rw [costP_eq]; decide +kernel
theorem hcost_c : costP exS ⟨⟨#[]⟩, ⟨#[109, 97, 105, 110, 32, 115, 116, 114, 101, 101, 116]⟩, 9, ⟨#[49, 48, 48, 49]⟩, ⟨#[72, 65, 77]⟩⟩ = some 1 := by rw [costP_eq]; decide +kernel
theorem hcost_d : costP exS ⟨⟨#[]⟩, ⟨#[77, 97, 105, 110, 32, 83, 116, 46]⟩, 10, ⟨#[]⟩, ⟨#[]⟩⟩ = some 0 := by rw [costP_eq]; decide +kernel
theorem found_one (a : Av) (most : Int) (n : Int) (h : costP exS a = some n) : found a most 0 [exS] = if fits exS a && decide (n ≤ most) then [⟨0, wrap64 (a.number - 2), n⟩] else [] := by
  rw [found, h]; simp [found, exS]
theorem sameLit_c (p : Option Addr) (cap n : Nat) (xs : List Cnd) (w : World) (R) (hn : xs.length = n) (hl : n ≤ 40) (h : CndsAt w p xs) (hR : ∀ w', Below w.heap.size w w' → R (.returned (.bool true)) w') :
    Calls Try.prog 18 #[.slice p n cap, .slice (some ⟨w.heap.size, 0, none⟩) n n] (w.alloc (.cells (xs.flatMap Cnd.cells).toArray 47)) R :=
  same_c p _ n n cap n xs xs _ R hn hn (by omega) (by omega) (h.keep (Keeps.alloc _ _)) (CndsAt.lit xs) fun w' hw' => by
    rw [decide_eq_true rfl]; exact hR w' (bseq (balloc (Below.refl _ _) _) hw'.below)
theorem distLit_c (a b : ByteArray) (n : Nat) (w : World) (R) (ha : a.size ≤ 200) (hb : b.size ≤ 200) (h : levR a.data.toList b.data.toList = n) (hR : ∀ w', Below w.heap.size w w' → R (.returned (.int .i64 (n : Int))) w') : Calls Try.prog 14 #[.string a, .string b] w R :=
  dist_c a b w R ha hb fun w' hb => by rw [levR_eq, h]; exact hR w' hb
theorem foldLit_c (s r : ByteArray) (w : World) (R) (hs : s.size ≤ 200) (h : foldL s.data.toList = r.data.toList) (hR : ∀ w', Below w.heap.size w w' → R (.returned (.string r)) w') : Calls Try.prog 16 #[.string s] w R :=
  fold_c s w R (by omega) fun w' hb => by
    rw [show foldB s = r from bytes_data.2 (by rw [foldB_list, h])]; exact hR w' hb
theorem exS_al : ∀ s ∈ [exS], s.al.length ≤ 100000 := by intro s hs; obtain rfl := List.mem_singleton.1 hs; exact Nat.zero_le _

set_option maxRecDepth 100000 in
set_option maxHeartbeats 2000000 in
theorem head_c (w : World) (R) (hR : ∀ w', Below w.heap.size w w' → R (.returned (.bool true)) w') : Calls Try.prog 11 #[] w R := by
  have HR := hide hR; clear hR
  go_enter Try.func11, Try.ntmps11
  go_wp2_with (go_at_call 26; refine Stop.out ?_)
  refine Stop.go (example_c w _ ?_)
  have B := hide (balloc (Below.refl w.heap.size w) (.cells exS.cells.toArray 49))
  have S := hide (show StsAt (w.alloc (.cells exS.cells.toArray 49)) (some ⟨w.heap.size, 0, none⟩) [exS] from StsAt.one (fun c v hv => by rw [cell_new]; simpa using hv) StrsAt.nil)
  have hz : w.heap.size < (w.alloc (.cells exS.cells.toArray 49)).heap.size := by simp
  generalize w.alloc (.cells exS.cells.toArray 49) = w1 at *
  go_wp2_with (go_at_call 19; refine Stop.out ?_)
  refine Stop.go (cand1_c _ 1 1 [exS] ⟨⟨#[]⟩, ⟨#[77, 105, 97, 110, 32, 83, 116, 114, 46]⟩, 5, ⟨#[]⟩, ⟨#[]⟩⟩ 2 [⟨0, 3, 2⟩] _ _ rfl (by decide) S.out exS_al (by decide) (by rw [if_neg (by decide), found_one _ _ _ hcost_a]; decide +kernel) (by decide) ?_)
  intro q1 c1 w2 hb F1
  have F1 := hide F1
  replace B := hide (bseq B.out hb)
  replace S := hide (S.out.keep (Keeps.of_below hb))
  clear hb
  go_wp2_with (go_at_call 19; refine Stop.out ?_)
  refine Stop.go (cand1_c _ 1 1 [exS] ⟨⟨#[]⟩, ⟨#[77, 105, 97, 110, 32, 83, 116, 114, 46]⟩, 5, ⟨#[]⟩, ⟨#[]⟩⟩ 1 [] _ _ rfl (by decide) S.out exS_al (by decide) (by rw [if_neg (by decide), found_one _ _ _ hcost_a]; decide +kernel) (by decide) ?_)
  intro q2 c2 w3 hb F2
  clear F2
  replace B := hide (bseq B.out hb)
  replace S := hide (S.out.keep (Keeps.of_below hb))
  replace F1 := hide (F1.out.keep (Keeps.of_below hb))
  clear hb
  go_wp2_with (go_at_call 19; refine Stop.out ?_)
  refine Stop.go (cand1_c _ 1 1 [exS] ⟨⟨#[]⟩, ⟨#[109, 97, 105, 110, 32, 115, 116, 114, 101, 101, 116]⟩, 9, ⟨#[49, 48, 48, 49]⟩, ⟨#[72, 65, 77]⟩⟩ 6 [⟨0, 7, 1⟩] _ _ rfl (by decide) S.out exS_al (by decide) (by rw [if_neg (by decide), found_one _ _ _ hcost_c]; decide +kernel) (by decide) ?_)
  intro q3 c3 w4 hb F3
  have F3 := hide F3
  replace B := hide (bseq B.out hb)
  replace S := hide (S.out.keep (Keeps.of_below hb))
  replace F1 := hide (F1.out.keep (Keeps.of_below hb))
  clear hb
  go_wp2_with (go_at_call 19; refine Stop.out ?_)
  refine Stop.go (cand1_c _ 1 1 [exS] ⟨⟨#[]⟩, ⟨#[77, 97, 105, 110, 32, 83, 116, 46]⟩, 10, ⟨#[]⟩, ⟨#[]⟩⟩ 6 [] _ _ rfl (by decide) S.out exS_al (by decide) (by rw [if_neg (by decide), found_one _ _ _ hcost_d]; decide +kernel) (by decide) ?_)
  intro q4 c4 w5 hb F4
  clear F4
  replace B := hide (bseq B.out hb)
  replace S := hide (S.out.keep (Keeps.of_below hb))
  replace F1 := hide (F1.out.keep (Keeps.of_below hb))
  replace F3 := hide (F3.out.keep (Keeps.of_below hb))
  clear hb
  go_wp2_with (go_at_call 19; refine Stop.out ?_)
  refine Stop.go (cand1_c _ 1 1 [exS] ⟨⟨#[]⟩, ⟨#[77, 97, 105, 110, 32, 83, 116, 46]⟩, 5, ⟨#[]⟩, ⟨#[]⟩⟩ 7 [] _ _ rfl (by decide) S.out exS_al (by decide) (if_pos (by decide)) (by decide) ?_)
  intro q5 c5 w6 hb F5
  clear F5
  replace B := hide (bseq B.out hb)
  replace F1 := hide (F1.out.keep (Keeps.of_below hb))
  replace F3 := hide (F3.out.keep (Keeps.of_below hb))
  clear hb S
  go_wp2_with (go_at_call 18; refine Stop.out ?_)
  refine Stop.go (sameLit_c q1 c1 1 [⟨0, 3, 2⟩] w6 _ rfl (by decide) F1.out ?_)
  intro w7 hb
  replace B := hide (bseq B.out hb)
  replace F3 := hide (F3.out.keep (Keeps.of_below hb))
  clear hb F1
  go_wp2_with (go_at_call 18; refine Stop.out ?_)
  refine Stop.go (sameLit_c q3 c3 1 [⟨0, 7, 1⟩] w7 _ rfl (by decide) F3.out ?_)
  intro w8 hb
  replace B := hide (bseq B.out hb)
  clear hb F3
  go_wp2_with (go_at_call 14; refine Stop.out ?_)
  refine Stop.go (distLit_c ⟨#[107, 105, 116, 116, 101, 110]⟩ ⟨#[115, 105, 116, 116, 105, 110, 103]⟩ 3 w8 _ (by decide) (by decide) (by decide +kernel) ?_)
  intro w9 hb
  replace B := hide (bseq B.out hb)
  clear hb
  go_wp2_with (go_at_call 14; refine Stop.out ?_)
  refine Stop.go (distLit_c ⟨#[]⟩ ⟨#[97, 98]⟩ 2 w9 _ (by decide) (by decide) (by decide +kernel) ?_)
  intro w10 hb
  replace B := hide (bseq B.out hb)
  clear hb
  go_wp2_with (go_at_call 16; refine Stop.out ?_)
  refine Stop.go (foldLit_c ⟨#[32, 77, 97, 105, 110, 32, 32, 32, 83, 116, 114, 101, 101, 116, 32]⟩ ⟨#[109, 97, 105, 110, 32, 115, 116]⟩ w10 _ (by decide) (by decide +kernel) ?_)
  intro w11 hb
  replace B := hide (bseq B.out hb)
  clear hb
  go_wp2_with (go_at_call 16; refine Stop.out ?_)
  refine Stop.go (foldLit_c ⟨#[83, 116, 114, 46]⟩ ⟨#[115, 116, 114, 46]⟩ w11 _ (by decide) (by decide +kernel) ?_)
  intro w12 hb
  replace B := hide (bseq B.out hb)
  clear hb
  go_wp2_with (go_at_call 16; refine Stop.out ?_)
  refine Stop.go (foldLit_c ⟨#[]⟩ ⟨#[]⟩ w12 _ (by decide) (by decide +kernel) ?_)
  intro w13 hb
  replace B := hide (bseq B.out hb)
  clear hb
  go_wp2_with fail
  exact HR.out _ B.out
end Go.Proofs.Ytkbdkkllfaljlaa
