/- MatchMetric: the distance of two texts is 0 exactly if they are equal, is the same in both directions, and is no greater than by way of a third text. Conditions: those that the law tests itself (texts of at most 60 bytes); at any other input the law asks its fixed examples alone. Parts of this text: MatchMetric: the distance is a metric. -/
import Derived.Test.YtkbdkkllfaljlaaH
import Derived.Test.YtkbdkkllfaljlaaF2
set_option linter.unusedVariables false
set_option linter.unusedSimpArgs false
namespace Go.Proofs.Ytkbdkkllfaljlaa
open Go.ChangeShapes Go.WideShapes Go.ChangeAt Go.RowKit

set_option maxRecDepth 100000 in
set_option maxHeartbeats 2000000 in
theorem metric_c (a b c : ByteArray) (w : World) (R) (hR : ∀ w', Below w.heap.size w w' → R (.returned (.bool true)) w') : Calls Try.prog 4 #[.string a, .string b, .string c] w R := by
  have HR := hide hR; clear hR
  go_enter Try.func4, Try.ntmps4
  go_wp2_with (go_at_call 11; refine Stop.out ?_)
  refine Stop.go (head_c _ _ ?_)
  intro w1 hb1
  have B := hide hb1; clear hb1
  by_cases h1 : (60 : Int) < (a.size : Int)
  · go_wp2
    exact HR.out _ B.out
  · by_cases h2 : (60 : Int) < (b.size : Int)
    · go_wp2
      exact HR.out _ B.out
    · by_cases h3 : (60 : Int) < (c.size : Int)
      · go_wp2
        exact HR.out _ B.out
      · have Z := hide (And.intro (show a.size ≤ 60 by omega) (And.intro (show b.size ≤ 60 by omega) (show c.size ≤ 60 by omega)))
        go_wp2_with (go_at_call 14; refine Stop.out ?_)
        refine Stop.go (bdist_c a b _ _ (by have := Z.out.1; omega) (by have := Z.out.2.1; omega) ?_)
        intro w2 hb
        replace B := hide (bseq B.out hb); clear hb
        have l1 := bdist_le (a := a) (b := b) (by have := Z.out.1; omega) (by have := Z.out.2.1; omega)
        have l2 := bdist_le (a := b) (b := c) (by have := Z.out.2.1; omega) (by have := Z.out.2.2; omega)
        have hs : bdist b a = bdist a b := lev_symm _ _
        have ht : bdist a c ≤ bdist a b + bdist b c := lev_tri _ _ _
        have h0 : (0 : Int) ≤ (bdist a b : Int) := by omega
        have hq : ((bdist a b : Int) == 0) = (a.toList == b.toList) := by
          rw [Bool.eq_iff_iff, beq_iff_eq, beq_iff_eq, ByteArray.toList_eq, ByteArray.toList_eq]
          exact ⟨fun h => (lev_zero _ _).1 (Int.ofNat.inj h), fun h => by show ((lev a.data.toList b.data.toList : Nat) : Int) = 0; rw [(lev_zero _ _).2 h]; rfl⟩
        have ht' : (bdist a c : Int) ≤ (bdist a b : Int) + (bdist b c : Int) := by omega
        have hwr : IntKind.i64.wrap ((bdist a b : Int) + (bdist b c : Int)) = (bdist a b : Int) + (bdist b c : Int) := IntWalk.i64_in _ (by omega)
        have HS := hide hs
        clear hs ht l1 l2
        go_wp2_with (go_at_call 14; refine Stop.out ?_)
        refine Stop.go (bdist_c b a _ _ (by have := Z.out.2.1; omega) (by have := Z.out.1; omega) ?_)
        rw [HS.out]
        intro w3 hb
        replace B := hide (bseq B.out hb); clear hb
        go_wp2_with (go_at_call 14; refine Stop.out ?_)
        refine Stop.go (bdist_c a c _ _ (by have := Z.out.1; omega) (by have := Z.out.2.2; omega) ?_)
        intro w4 hb
        replace B := hide (bseq B.out hb); clear hb
        go_wp2_with (go_at_call 14; refine Stop.out ?_)
        refine Stop.go (bdist_c b c _ _ (by have := Z.out.2.1; omega) (by have := Z.out.2.2; omega) ?_)
        intro w5 hb
        replace B := hide (bseq B.out hb); clear hb
        go_wp2_with fail
        exact HR.out _ B.out

set_option maxRecDepth 100000 in
theorem metric_holds_lifted (os : Os) (started : os.Started) (H : Type) (enc : TypeId × Value → H) :
    ReturnsInHanded {} Try.checked os 4 .any (Rows.matchMetricSpec.pre6 enc Try.prog Try.f4 Rows.matchMetricRow.domain false) (Rows.matchMetricSpec.post enc Try.prog Try.f4 false true false false) := by
  refine returnsInHanded_of_change (C := Try.checked) Try.own started (by kernel_rfl) Try.func4
    (ChangeSpec.witness6 (enc := enc) (C := Try.checked) false ⟨#[], #[.string ⟨#[]⟩, .string ⟨#[]⟩, .string ⟨#[]⟩], []⟩ 8 (by kernel_rfl) (by kernel_rfl) (by kernel_rfl) (by kernel_rfl)) ?_
  intro W base args ds gs before hval0 hW hcnd _
  have hval : ∀ (j : Nat) t v, Try.f4.params[j]? = some t → args[j]? = some v → Value.okWide Try.prog W .any base t v := hval0
  have hW' := hW
  obtain ⟨p, q, hA0, hV, rfl, hfz, hnd⟩ := hW
  have hA : DataW.TrodAll enc Try.prog W 0 (fun _ => true) true Try.f4.params.toList args.toList ds p := hA0
  have hA1 := hA
  rw [Try.params4] at hA hval
  obtain ⟨v0, vs0, d0, ds0, p0, q0, hargs, rfl, rfl, h0, r0⟩ := trodAll_cons hA
  obtain ⟨v1, vs1, d1, ds1, p1, q1, rfl, rfl, rfl, h1, r1⟩ := trodAll_cons r0
  obtain ⟨v2, vs2, d2, ds2, p2, q2, rfl, rfl, rfl, h2, r2⟩ := trodAll_cons r1
  obtain ⟨rfl, rfl, rfl⟩ := trodAll_nil r2
  obtain rfl : args = #[v0, v1, v2] := by cases args; simp_all
  obtain ⟨rfl, rfl⟩ := trodVars_none hV
  obtain ⟨x0, rfl, _, _, hw0⟩ := Go.ChangeMaps.open_string Try.underlying9 (hval 0 9 v0 rfl rfl) h0
  obtain ⟨x1, rfl, _, _, hw1⟩ := Go.ChangeMaps.open_string Try.underlying9 (hval 1 9 v1 rfl rfl) h1
  obtain ⟨x2, rfl, _, _, hw2⟩ := Go.ChangeMaps.open_string Try.underlying9 (hval 2 9 v2 rfl rfl) h2
  refine metric_c x0 x1 x2 W _ fun W' bel => ?_
  exact ⟨_, rfl, law_post Try.laidOut bel rfl hW' hA1 (by kernel_rfl) rfl Try.underlying4 rfl rfl rfl⟩

theorem metric_holds : Rows.MatchMetricSaid :=
  OpenClaim.holds_of_wide 4 Try.f4 rfl rfl rfl rfl rfl rfl rfl ⟨rfl, rfl, rfl, rfl, rfl⟩ rfl rfl rfl rfl rfl (by kernel_rfl) Try.func4 (by kernel_rfl)
    (of_decide_eq_true (by kernel_rfl)) (by unfold Func.isWrapper; rw [if_neg (of_decide_eq_false (by kernel_rfl))]; exact ⟨rfl, rfl⟩)
    (fun os started H enc _ => metric_holds_lifted os started H enc)

end Go.Proofs.Ytkbdkkllfaljlaa
