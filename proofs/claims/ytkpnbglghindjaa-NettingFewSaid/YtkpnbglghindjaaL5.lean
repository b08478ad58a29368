/- For any well-formed balances there are fewer payments than balances that are not 0, if there are any, and otherwise none, and all amounts are greater than 0. -/
import Derived.Test.YtkpnbglghindjaaP1
set_option linter.unusedVariables false
set_option linter.unusedSimpArgs false
namespace Go.Proofs.Ytkpnbglghindjaa
open Go.ChangeShapes Go.WideShapes Go.ChangeAt Go.RowKit Math

theorem nz_take_succ {l : List Int} {k : Nat} {x : Int} (hx : l[k]? = some x) : nz (l.take (k + 1)) = nz (l.take k) + (if x = 0 then 0 else 1) := by
  rw [List.take_add_one, hx]
  have : ∀ (a b : List Int), nz (a ++ b) = nz a + nz b := by
    intro a b
    induction a with
    | nil => simp [nz]
    | cons y a ih => simp only [List.cons_append, nz, ih]; omega
  rw [this]
  simp [nz]

set_option maxRecDepth 100000 in
set_option maxHeartbeats 1000000 in
theorem few_c (p : Option Addr) (n cap : Nat) (l : List Int) (w : World) (R) (hn : l.length = n) (hl : n ≤ maxLen) (h : IntsAt .i32 w p l) (_hz : p = none → n = 0) (hw : ∀ x ∈ l, (Lit.int .i32 x).wf = true)
    (hR : ∀ w', Below w.heap.size w w' → R (.returned (.bool true)) w') : Calls Try.prog 5 #[.slice p n cap] w R := by
  have Hn := hide hn; have HR := hide hR; have H := hide h
  have H32 := hide (show I32 l from fun x hx => wf_i32.1 (hw x hx))
  have Hb1 : (balL l).length ≤ 40 := by have := length_balL l; omega
  have Hf := hide (net_few_balL l H32.out)
  have Hd := hide (net_dir_balL l H32.out)
  have He := hide (netErr_balL l H32.out)
  clear hn hR h hw
  go_enter Try.func5, Try.ntmps5
  go_wp2_with (go_at_call 10; refine Stop.out ?_)
  refine Stop.go (head_c _ _ ?_)
  intro w1 B1
  replace B1 := hide B1
  go_wp2_with (go_at_call 17; refine Stop.out ?_)
  refine Stop.go (balanced2_c p n cap l _ _ Hn.out hl (H.out.keep (Keeps.of_below B1.out)) H32.out ?_)
  intro p2 cap2 w2 b2 i2 hp2
  have I2 := hide i2
  have B2 := hide (bseq B1.out b2)
  have Hp2 := hide hp2
  clear b2 i2 hp2
  generalize balL l = b at *
  go_wp2_with (go_at_call 11; refine Stop.out ?_)
  refine Stop.go (netOk_c p2 b.length cap2 b _ _ rfl Hb1 I2.out Hp2.out He.out ?_)
  intro p3 cap3 w3 b3 t3
  have T3 := hide t3
  have I3 := hide (I2.out.keep (Keeps.of_below b3))
  have B3 := hide (bseq B2.out b3)
  clear b3 t3
  generalize hts : netList b = ts at *
  generalize hm : b.length = m at *
  have Hm := hide hm
  clear hts hm
  have hfm : ts.length ≤ 40 := by have := Hf.out; have := nz_le' b; rw [Hm.out] at this; omega
  go_wp2_with fail
  go_loop [7, 8] (fun c i => ∃ k : Nat, k ≤ m ∧ i = .int .i64 k ∧ c = .int .i64 (nz (b.take k))) (fun _ i => m - (intOf i).toNat)
  case atStart => exact ⟨0, Nat.zero_le _, rfl, rfl⟩
  case round =>
    obtain ⟨k, hk, rfl, rfl⟩ := hrel
    have hnk : nz (b.take k) ≤ k := Nat.le_trans (nz_le' _) (List.length_take_le _ _)
    generalize hc : nz (b.take k) = c at *
    have Hc := hide hc
    clear hc
    by_cases hlt : k < m
    · obtain ⟨b', o, x, rfl, hx, hcell⟩ := I3.out.at_ (i := k) (by rw [Hm.out]; exact hlt)
      have Hx := hide hx; clear hx
      by_cases hx0 : x = 0
      · subst hx0
        go_wp2_with fail
        go_round
        case rel => exact ⟨k + 1, by omega, by go_num, by rw [nz_take_succ Hx.out, Hc.out, if_pos rfl]; rfl⟩
        case measure => simp [intOf]; omega
      · go_wp2_with fail
        go_round
        case rel => exact ⟨k + 1, by omega, by go_num, by rw [nz_take_succ Hx.out, Hc.out, if_neg hx0]; rfl⟩
        case measure => simp [intOf]; omega
    · have hkm : b.take k = b := List.take_of_length_le (by rw [Hm.out]; omega)
      have hcc : nz b = c := by rw [← hkm]; exact Hc.out
      have hf2 : ts.length ≤ c - 1 := by rw [← hcc]; exact Hf.out
      clear hkm hcc
      rcases Nat.eq_zero_or_pos c with h0 | h0
      · have ht0 : ts.length = 0 := by omega
        have hnil : ts = [] := List.eq_nil_of_length_eq_zero ht0
        subst h0
        subst hnil
        clear ht0 hf2
        go_wp2_with fail
        refine wp_loop_once ?_
        go_wp2_with fail
        exact HR.out _ B3.out
      · have h1 : ¬ ((c : Int) ≤ (ts.length : Int)) := by omega
        have h2 : ((c : Int) == 0) = false := by simp; omega
        have h3 : (0 : Int) < c := by omega
        go_wp2_with fail
        go_loop [9] (fun i => ∃ k : Nat, k ≤ ts.length ∧ i = .int .i64 k) (fun i => ts.length - (intOf i).toNat)
        case atStart => exact ⟨0, Nat.zero_le _, rfl⟩
        case round =>
          obtain ⟨j, hj, rfl⟩ := hrel
          by_cases hjt : j < ts.length
          · obtain ⟨b', o, x, rfl, hx, hc1, hc2, hc3⟩ := T3.out.at_ (i := j) hjt
            have hd := Hd.out x (List.mem_of_getElem? hx)
            have hpos : 0 < x.am := hd.2.2.2.2.1
            clear hx hd hc1 hc2 h2
            go_wp2_with fail
            go_round
            case rel => exact ⟨j + 1, by omega, by go_num⟩
            case measure => simp [intOf]; omega
          · clear h2
            go_wp2_with fail
            exact HR.out _ B3.out
where
  nz_le' (l : List Int) : nz l ≤ l.length := by
    induction l with
    | nil => simp [nz]
    | cons a l ih => simp only [nz, List.length_cons]; split <;> omega

set_option maxRecDepth 100000 in
theorem few_holds_lifted (os : Os) (started : os.Started) (H : Type) (enc : TypeId × Value → H) :
    ReturnsInHanded {} Try.checked os 5 .any (Rows.nettingFewSpec.pre6 enc Try.prog Try.f5 Rows.nettingFewRow.domain false) (Rows.nettingFewSpec.post enc Try.prog Try.f5 false true false false) := by
  refine returnsInHanded_of_change (C := Try.checked) Try.own started (by kernel_rfl) Try.func5
    (ChangeSpec.witness6 (enc := enc) (C := Try.checked) false ⟨#[], #[.slice none 0 0], []⟩ 8 (by kernel_rfl) (by kernel_rfl) (by kernel_rfl) (by kernel_rfl)) ?_
  intro W base args ds gs before hval0 hW hcnd _
  have hval : ∀ (j : Nat) t v, Try.f5.params[j]? = some t → args[j]? = some v → Value.okWide Try.prog W .any base t v := hval0
  have hW' := hW
  obtain ⟨p, q, hA0, hV, rfl, hfz, hnd⟩ := hW
  have hA : DataW.TrodAll enc Try.prog W 0 (fun _ => true) true Try.f5.params.toList args.toList ds p := hA0
  have hA1 := hA
  rw [Try.params5] at hA hval
  obtain ⟨v0, vs0, d0, ds0, p0, q0, hargs, rfl, rfl, h0, r0⟩ := trodAll_cons hA
  obtain ⟨rfl, rfl, rfl⟩ := trodAll_nil r0
  obtain rfl : args = #[v0] := by cases args; simp_all
  obtain ⟨rfl, rfl⟩ := trodVars_none hV
  obtain ⟨a0, n0, c0, l0, rfl, hl0, hm0, hi0, hz0, hw0⟩ := open_ints' Try.underlying32 Try.underlying21 (by kernel_rfl) (hval 0 32 v0 rfl rfl) h0
  refine few_c a0 n0 c0 l0 W _ hl0 hm0 hi0 hz0 hw0 fun W' bel => ?_
  exact ⟨_, rfl, law_post Try.laidOut bel rfl hW' hA1 (by kernel_rfl) rfl Try.underlying4 rfl rfl rfl⟩

theorem few_holds : Rows.NettingFewSaid :=
  OpenClaim.holds_of_wide 5 Try.f5 rfl rfl rfl rfl rfl rfl rfl ⟨rfl, rfl, rfl, rfl, rfl⟩ rfl rfl rfl rfl rfl (by kernel_rfl) Try.func5 (by kernel_rfl)
    (of_decide_eq_true (by kernel_rfl)) (by unfold Func.isWrapper; rw [if_neg (of_decide_eq_false (by kernel_rfl))]; exact ⟨rfl, rfl⟩)
    (fun os started H enc _ => few_holds_lifted os started H enc)

end Go.Proofs.Ytkpnbglghindjaa
