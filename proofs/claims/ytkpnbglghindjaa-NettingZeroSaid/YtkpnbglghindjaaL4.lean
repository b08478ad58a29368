/- After the payments of Net for any well-formed balances, all balances are 0. -/
import Derived.Test.YtkpnbglghindjaaD1
import Derived.Test.YtkpnbglghindjaaC10
import Derived.Test.YtkpnbglghindjaaF1
set_option linter.unusedVariables false
set_option linter.unusedSimpArgs false
namespace Go.Proofs.Ytkpnbglghindjaa
open Go.ChangeShapes Go.WideShapes Go.ChangeAt Go.RowKit Math

set_option maxHeartbeats 1000000 in
theorem zero_c (p : Option Addr) (n cap : Nat) (l : List Int) (w : World) (R) (hn : l.length = n) (hl : n ≤ maxLen) (h : IntsAt .i32 w p l) (_hz : p = none → n = 0) (hw : ∀ x ∈ l, (Lit.int .i32 x).wf = true)
    (hR : ∀ w', Below w.heap.size w w' → R (.returned (.bool true)) w') : Calls Try.prog 4 #[.slice p n cap] w R := by
  have Hn := hide hn; have HR := hide hR; have H := hide h
  have H32 := hide (show I32 l from fun x hx => wf_i32.1 (hw x hx))
  have Hb1 : (balL l).length ≤ 40 ∧ 1 ≤ (balL l).length := by have := length_balL l; omega
  have Hf := few40 l H32.out
  clear hn hR h hw
  go_enter Try.func4, Try.ntmps4
  go_wp2_with (go_at_call 10; refine Stop.out ?_)
  refine Stop.go (head_c _ _ ?_)
  intro w1 B1
  replace B1 := hide B1
  go_wp2_with (go_at_call 17; refine Stop.out ?_)
  refine Stop.go (balanced_c p n cap l _ _ Hn.out hl (H.out.keep (Keeps.of_below B1.out)) H32.out ?_)
  intro v2 w2 b2 o2
  obtain ⟨p2, cap2, rfl, hp2⟩ := own_val o2
  have I2 := hide (IntsAt.of_own o2)
  have B2 := hide (bseq B1.out b2)
  have Hp2 := hide hp2
  clear b2 o2 hp2
  generalize hbl : balL l = b at *
  have Hbl := hide hbl
  clear hbl
  go_wp2_with (go_at_call 11; refine Stop.out ?_)
  refine Stop.go (net_c p2 b.length cap2 b _ _ rfl (by unfold maxLen; omega) I2.out Hp2.out ?_)
  intro v3 w3 b3 o3
  rw [show netErr b = 0 by rw [← Hbl.out]; exact netErr_balL l H32.out]
  obtain ⟨p3, cap3, rfl, hp3⟩ := own_val o3
  have T3 := hide (TrsAt.of_own o3)
  have I3 := hide (I2.out.keep (Keeps.of_below b3))
  have B3 := hide (bseq B2.out b3)
  clear b3 o3 hp3
  go_wp2_with (go_at_call 15; refine Stop.out ?_)
  refine Stop.go (Pay_c p2 p3 b.length (netList b).length cap2 cap3 b (netList b) _ _ rfl rfl (by omega) (by unfold maxLen; omega) I3.out Hp2.out T3.out ?_)
  intro v4 w4 b4 o4
  rw [show payRes b (netList b) = List.replicate b.length 0 by rw [← Hbl.out]; exact payRes_balL l H32.out] at o4
  obtain ⟨p4, cap4, rfl, hp4⟩ := own_val o4
  have I4 := hide (IntsAt.of_own o4)
  have B4 := hide (bseq B3.out b4)
  clear b4 o4 hp4
  rw [List.length_replicate]
  generalize hnb : b.length = m at *
  have hnn : ((m : Int) != m) = false := by simp
  go_wp2_with fail
  go_loop [8] (fun i => ∃ k : Nat, k ≤ m ∧ i = .int .i64 k) (fun i => m - (intOf i).toNat)
  case atStart => exact ⟨0, Nat.zero_le _, rfl⟩
  case round =>
    obtain ⟨k, hk, rfl⟩ := hrel
    by_cases hlt : k < m
    · obtain ⟨b', o, x, rfl, hx, hc⟩ := I4.out.at_ (i := k) (by rw [List.length_replicate]; exact hlt)
      obtain rfl : 0 = x := by rw [List.getElem?_replicate, if_pos hlt] at hx; injection hx
      clear hx
      go_wp2
      go_round
      case rel => exact ⟨k + 1, by omega, by go_num⟩
      case measure => simp [intOf]; omega
    · go_wp2
      exact HR.out _ B4.out

set_option maxRecDepth 100000 in
theorem zero_holds_lifted (os : Os) (started : os.Started) (H : Type) (enc : TypeId × Value → H) :
    ReturnsInHanded {} Try.checked os 4 .any (Rows.nettingZeroSpec.pre6 enc Try.prog Try.f4 Rows.nettingZeroRow.domain false) (Rows.nettingZeroSpec.post enc Try.prog Try.f4 false true false false) := by
  refine returnsInHanded_of_change (C := Try.checked) Try.own started (by kernel_rfl) Try.func4
    (ChangeSpec.witness6 (enc := enc) (C := Try.checked) false ⟨#[], #[.slice none 0 0], []⟩ 8 (by kernel_rfl) (by kernel_rfl) (by kernel_rfl) (by kernel_rfl)) ?_
  intro W base args ds gs before hval0 hW hcnd _
  have hval : ∀ (j : Nat) t v, Try.f4.params[j]? = some t → args[j]? = some v → Value.okWide Try.prog W .any base t v := hval0
  have hW' := hW
  obtain ⟨p, q, hA0, hV, rfl, hfz, hnd⟩ := hW
  have hA : DataW.TrodAll enc Try.prog W 0 (fun _ => true) true Try.f4.params.toList args.toList ds p := hA0
  have hA1 := hA
  rw [Try.params4] at hA hval
  obtain ⟨v0, vs0, d0, ds0, p0, q0, hargs, rfl, rfl, h0, r0⟩ := trodAll_cons hA
  obtain ⟨rfl, rfl, rfl⟩ := trodAll_nil r0
  obtain rfl : args = #[v0] := by cases args; simp_all
  obtain ⟨rfl, rfl⟩ := trodVars_none hV
  obtain ⟨a0, n0, c0, l0, rfl, hl0, hm0, hi0, hz0, hw0⟩ := open_ints' Try.underlying32 Try.underlying21 (by kernel_rfl) (hval 0 32 v0 rfl rfl) h0
  refine zero_c a0 n0 c0 l0 W _ hl0 hm0 hi0 hz0 hw0 fun W' bel => ?_
  exact ⟨_, rfl, law_post Try.laidOut bel rfl hW' hA1 (by kernel_rfl) rfl Try.underlying4 rfl rfl rfl⟩

theorem zero_holds : Rows.NettingZeroSaid :=
  OpenClaim.holds_of_wide 4 Try.f4 rfl rfl rfl rfl rfl rfl rfl ⟨rfl, rfl, rfl, rfl, rfl⟩ rfl rfl rfl rfl rfl (by kernel_rfl) Try.func4 (by kernel_rfl)
    (of_decide_eq_true (by kernel_rfl)) (by unfold Func.isWrapper; rw [if_neg (of_decide_eq_false (by kernel_rfl))]; exact ⟨rfl, rfl⟩)
    (fun os started H enc _ => zero_holds_lifted os started H enc)

end Go.Proofs.Ytkpnbglghindjaa
