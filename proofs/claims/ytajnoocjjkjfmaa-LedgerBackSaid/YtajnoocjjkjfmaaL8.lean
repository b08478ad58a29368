/- LedgerBack: adjusting forth and back leaves every account as it was. -/
import Derived.Test.YtajnoocjjkjfmaaP6
import Derived.Test.YtajnoocjjkjfmaaL2
set_option linter.unusedVariables false
set_option linter.unusedSimpArgs false
namespace Go.Proofs.Ytajnoocjjkjfmaa
open Go.ChangeShapes Go.WideShapes Go.ChangeAt Go.RowKit

theorem EWf.of_valid {n : Int} {l : List Ent} (hn : n ≤ 100) (h : l.all (validE n) = true) : EWf l := fun e he => by
  obtain ⟨_, v2, v3, _, v5, v6⟩ := validE_true (List.all_eq_true.1 h e he)
  have := inB_true v2; have := inB_true v3; have := inB_true v5
  exact ⟨wf_i64.2 (by omega), wf_i64.2 (by omega), wf_i64.2 (by omega), by unfold maxLen; omega⟩
theorem adj_valid {a b : List Int} {ref : ByteArray} (h : adjE a b ref = 0) : (adjL a b ref).all (validE a.length) = true := by
  rw [List.all_eq_true]; intro e he; exact ((adj_props h).1 e he).1
theorem am_sum {n : Int} {l : List Ent} (h : l.all (validE n) = true) : 0 ≤ (l.map Ent.am).sum ∧ (l.map Ent.am).sum ≤ 1000000000 * (l.length : Int) := by
  induction l with
  | nil => simp
  | cons e l ih =>
    rw [List.all_cons, Bool.and_eq_true] at h
    have h1 := ih h.2
    have h2 := inB_true (validE_true h.1).2.2.2.2.1
    simp only [List.map_cons, List.sum_cons, List.length_cons]; omega
theorem all_take {f : Ent → Bool} {l : List Ent} (h : l.all f = true) (k : Nat) : (l.take k).all f = true := by
  rw [List.all_eq_true] at *; intro e he; exact h e (List.mem_of_mem_take he)
theorem am_succ {l : List Ent} {k : Nat} {x : Ent} (hx : l[k]? = some x) : ((l.take (k + 1)).map Ent.am).sum = ((l.take k).map Ent.am).sum + x.am := by
  rw [List.take_add_one, hx, List.map_append, List.sum_append_int]; simp
theorem back_zero {a b : List Int} {ref : ByteArray} (h : adjE a b ref = 0) (k : adjE b a ref = 0) : balOk a.length (adjL a b ref ++ adjL b a ref) = true ∧ (∀ i : Nat, netF (adjL a b ref ++ adjL b a ref) i = 0) ∧ ((adjL a b ref).map Ent.am).sum - ((adjL b a ref).map Ent.am).sum = 0 := by
  obtain ⟨z1, z2, z3, _, _, _, z7, _⟩ := adjE_zero h
  refine ⟨?_, fun i => ?_, ?_⟩
  · unfold balOk
    rw [inB_mk (x := (a.length : Int)) ⟨by omega, by omega⟩, List.all_append, adj_valid h, z1, adj_valid k]; rfl
  · rw [netF_append, (adj_props h).2.1, (adj_props k).2.1]; omega
  · rw [(adj_props h).2.2.2, (adj_props k).2.2.2, diff_neg z1]
    have := sum_max (diffL a b)
    omega

set_option maxRecDepth 100000 in
set_option maxHeartbeats 8000000 in
theorem lback_c (p : Option Addr) (n cap : Nat) (a : List Int) (q : Option Addr) (m cap' : Nat) (b : List Int) (w : World) (R)
    (hn : a.length = n) (hl : n ≤ maxLen) (h : IntsAt .i64 w p a) (_hz : p = none → n = 0) (_hw : ∀ x ∈ a, (Lit.int .i64 x).wf = true) (hm : b.length = m) (hl' : m ≤ maxLen) (h' : IntsAt .i64 w q b) (_hz' : q = none → m = 0) (_hw' : ∀ x ∈ b, (Lit.int .i64 x).wf = true)
    (hR : ∀ w', Below w.heap.size w w' → R (.returned (.bool true)) w') : Calls Try.prog 10 #[.slice p n cap, .slice q m cap'] w R := by
  have Hn := hide hn; have HR := hide hR; have H := hide h; have Hl := hide hl; have Hm := hide hm; have H' := hide h'; have Hl' := hide hl'
  have Hr : Hid ((⟨#[]⟩ : ByteArray).size ≤ maxLen) := hide (by decide)
  clear hn hR h _hz _hw hm h' _hz' _hw'
  unfold maxLen at hl hl'
  by_cases c1 : 100 < n
  · go_enter Try.func10, Try.ntmps10
    go_wp2_with (go_at_call 11; refine Stop.out ?_)
    refine Stop.go (head_c _ _ ?_)
    intro w1 B1
    replace B1 := hide B1
    go_wp2_with fail
    exact HR.out _ B1.out
  · by_cases c2 : 100 < m
    · go_enter Try.func10, Try.ntmps10
      go_wp2_with (go_at_call 11; refine Stop.out ?_)
      refine Stop.go (head_c _ _ ?_)
      intro w1 B1
      replace B1 := hide B1
      go_wp2_with fail
      exact HR.out _ B1.out
    · have HS := hide (adjE_symm a b ⟨#[]⟩)
      have HC := hide (adjE_cases a b ⟨#[]⟩)
      have HSelf := hide (@adj_self a b ⟨#[]⟩)
      have HBack := hide (@back_zero a b ⟨#[]⟩)
      have HZ := hide (@adjE_zero a b ⟨#[]⟩)
      have V1 := hide (@adj_valid a b ⟨#[]⟩); have V2 := hide (@adj_valid b a ⟨#[]⟩)
      have L1 := hide (adjL_len a b ⟨#[]⟩); have L2 := hide (adjL_len b a ⟨#[]⟩)
      obtain ⟨i0, hi, hz0, hz1, hz2⟩ := info_parts Try.info34
      go_enter Try.func10, Try.ntmps10
      go_wp2_with (go_at_call 11; refine Stop.out ?_)
      refine Stop.go (head_c _ _ ?_)
      intro w1 B1
      have I1 := hide (H.out.keep (Keeps.of_below B1)); have J1 := hide (H'.out.keep (Keeps.of_below B1))
      replace B1 := hide B1
      go_wp2_with (go_at_call 17; refine Stop.out ?_)
      refine Stop.go (adj_b p q n m cap cap' a b ⟨#[]⟩ _ _ Hn.out Hm.out Hl.out Hl'.out I1.out J1.out Hr.out ?_)
      intro pa ca w2 hb ia
      have B2 := hide (bseq B1.out hb); have I2 := hide (I1.out.keep (Keeps.of_below hb)); have J2 := hide (J1.out.keep (Keeps.of_below hb)); have A2 := hide ia
      clear hb ia B1 I1 J1
      generalize adjL a b ⟨#[]⟩ = la at *
      generalize adjE a b ⟨#[]⟩ = e1 at *
      go_wp2_with (go_at_call 17; refine Stop.out ?_)
      refine Stop.go (adj_b q p m n cap' cap b a ⟨#[]⟩ _ _ Hm.out Hn.out Hl'.out Hl.out J2.out I2.out Hr.out ?_)
      intro pb cb w3 hb ib
      have B3 := hide (bseq B2.out hb); have I3 := hide (I2.out.keep (Keeps.of_below hb)); have J3 := hide (J2.out.keep (Keeps.of_below hb)); have A3 := hide (A2.out.keep (Keeps.of_below hb)); have C3 := hide ib
      clear hb ib B2 I2 J2 A2
      generalize adjL b a ⟨#[]⟩ = lb at *
      generalize adjE b a ⟨#[]⟩ = e2 at *
      rcases HC.out with h0 | h0 | h0 | h0
      · subst h0
        obtain ⟨s1, s2⟩ := HSelf.out (.inl rfl)
        have S1 := hide s1; have S2 := hide s2
        clear s1 s2
        by_cases he2 : e2 = 0
        · subst he2
          obtain ⟨z1, z2, z3, _⟩ := HZ.out rfl
          obtain ⟨k1, k2, k3⟩ := HBack.out rfl rfl
          have v1 := V1.out rfl; have v2 := V2.out rfl
          rw [Hn.out, Hm.out] at z1
          subst z1
          rw [Hn.out] at k1 v1 z2
          rw [Hm.out] at v2
          have K2 := hide k2; have K3 := hide k3; have U1 := hide v1; have U2 := hide v2
          have l1 := L1.out; have l2 := L2.out
          have hEn : balE n (la ++ lb) = 0 := by
            rcases balE_le (n := n) (l := la ++ lb) (by rw [List.length_append]; omega) with ⟨_, h⟩ | ⟨h, _⟩
            · exact h
            · rw [k1] at h; cases h
          have hLn := balL_ok hEn
          have hLz : (List.range n).map (fun (i : Nat) => netF (la ++ lb) (i : Int)) = List.replicate n 0 := by
            rw [List.map_congr_left (g := fun _ => (0 : Int)) (fun i _ => k2 i)]
            apply List.ext_getElem?
            intro i
            rcases Nat.lt_or_ge i n with h | h
            · rw [at_range _ _ _ h, List.getElem?_replicate, if_pos h]
            · rw [List.getElem?_eq_none (by simpa using h), List.getElem?_eq_none (by simpa using h)]
          rw [Int.toNat_natCast, hLz] at hLn
          have HEn := hide hEn; have HLn := hide hLn
          obtain ⟨ka, hka⟩ : ∃ ka, ka = la.length := ⟨_, rfl⟩
          obtain ⟨kb, hkb⟩ : ∃ kb, kb = lb.length := ⟨_, rfl⟩
          rw [← hka, ← hkb]
          rw [← hka] at l1; rw [← hkb] at l2
          have Ka := hide hka.symm; have Kb := hide hkb.symm
          have hmax : max (n : Int) 1 = (n : Int) := by omega
          have HNw : Hid ((Lit.int .i64 (n : Int)).wf = true) := hide (wf_i64.2 (by omega))
          clear k1 k2 k3 v1 v2 hEn hLn hLz hka hkb HC HS HSelf HBack HZ V1 V2 L1 L2
          go_wp2_with (go_at_call 17; refine Stop.out ?_)
          refine Stop.go (adj_b p p n n cap cap a a ⟨#[]⟩ _ _ Hn.out Hn.out Hl.out Hl.out I3.out I3.out Hr.out ?_)
          intro pc cc w4 hb _
          rw [S1.out, S2.out]
          have B4 := hide (bseq B3.out hb); have A4 := hide (A3.out.keep (Keeps.of_below hb)); have C4 := hide (C3.out.keep (Keeps.of_below hb))
          clear hb B3 I3 J3 A3 C3
          go_wp2_with (at_builtin; refine Stop.out ?_)
          refine Stop.go ?_
          refine wpList_app _ rfl (.tmp 76) (.tmp 77) 22 rfl w4.heap.size 34 i0 _ 4 40 Try.underlying22 hi hz0 hz1 hz2 rfl (by omega) _ 0 [] rfl (World.ownsRow_lit _ #[] 0 (Nat.le_refl _) (by decide) rfl) pa ka ca (la.flatMap entCells) rfl ((Src.ents Ka.out A4.out).keep (Keeps.alloc _ _)) (ents_oneCell _) (by unfold maxLen; omega) (by omega) (by simp) ?_
          intro v5 w5 o5 g5
          rw [Nat.zero_add, List.nil_append] at o5
          have b5 := app_below (lit_own w4) g5
          obtain ⟨vp5, vc5, rfl, _⟩ := own_val o5
          have bh5 := hide b5; have oh5 := hide o5
          clear g5 b5 o5
          have bz5 := bh5.out.size
          go_wp2_with (at_builtin; refine Stop.out ?_)
          refine Stop.go ?_
          refine wpList_app _ rfl (.tmp 78) (.tmp 79) 22 rfl w4.heap.size 34 i0 _ 4 40 Try.underlying22 hi hz0 hz1 hz2 rfl (by omega) (.slice vp5 ka vc5) ka (la.flatMap entCells) rfl oh5.out pb kb cb (lb.flatMap entCells) rfl (Src.ents Kb.out (C4.out.keep (Keeps.of_below bh5.out))) (ents_oneCell _) (by unfold maxLen; omega) (by omega) (by omega) ?_
          intro v6 w6 o6 g6
          have b6 := app_below2 bh5.out oh5.out g6
          have o6' := own_app o6 Ka.out Kb.out
          obtain ⟨vq6, vd6, rfl, _⟩ := own_val o6'
          have EC6 := hide (EntsAt.of_own o6')
          have BC6 := hide b6
          have EL6 := hide (show (la ++ lb).length = ka + kb by rw [List.length_append, Ka.out, Kb.out])
          clear g6 b6 o6 o6' oh5 bh5
          go_wp2_with (go_at_call 13; refine Stop.out ?_)
          try rw [hmax]
          refine Stop.go (bal_b n vq6 (ka + kb) vd6 (la ++ lb) _ _ EL6.out (by unfold maxLen; omega) EC6.out (EWf.append (EWf.of_valid (by omega) U1.out) (EWf.of_valid (by omega) U2.out)) HNw.out ?_)
          intro px cx w7 hb ix
          rw [HEn.out, HLn.out, List.length_replicate]
          rw [HLn.out] at ix
          have bb := bseq BC6.out hb
          have B7 := hide (bseq B4.out bb); have A7 := hide (A4.out.keep (Keeps.of_below bb)); have C7 := hide (C4.out.keep (Keeps.of_below bb)); have X7 := hide ix
          clear hb ix bb B4 A4 C4 BC6 EC6 bz5 hmax
          go_wp2_with fail
          go_loop [14, 15] (fun t i => ∃ k : Nat, k ≤ ka ∧ i = .int .i64 k ∧ t = .int .i64 ((la.take k).map Ent.am).sum) (fun _ i => ka - (intOf i).toNat)
          case atStart => exact ⟨0, Nat.zero_le _, rfl, rfl⟩
          case round =>
            obtain ⟨k, hk, rfl, rfl⟩ := hrel
            obtain ⟨sb1, sb2⟩ := am_sum (all_take U1.out k)
            have hlk : (la.take k).length ≤ k := List.length_take_le _ _
            generalize hsk : ((la.take k).map Ent.am).sum = sk at *
            have Hsk := hide hsk; clear hsk
            by_cases hlt : k < ka
            · obtain ⟨bl, ol, x, rfl, hx, hc1, hc2, hc3, hc4⟩ := A7.out.at_ (i := k) (by rw [Ka.out]; exact hlt)
              have hxa := inB_true (validE_true (List.all_eq_true.1 U1.out x (List.mem_of_getElem? hx))).2.2.2.2.1
              have Hsucc := hide (am_succ hx)
              rw [Hsk.out] at Hsucc
              clear hx
              go_wp2
              go_round
              case rel => exact ⟨k + 1, by omega, by go_num, by rw [Hsucc.out]⟩
              case measure => simp [intOf]; omega
            · have hkk : k = ka := by omega
              have etk : la.take k = la := List.take_of_length_le (by rw [Ka.out]; omega)
              rw [etk] at Hsk
              rw [Hsk.out] at K3
              clear etk hlt
              have hsk2 : sk ≤ 1000000000000 := by omega
              go_wp2
              go_loop [14, 16] (fun t i => ∃ k : Nat, k ≤ kb ∧ i = .int .i64 k ∧ t = .int .i64 (sk - ((lb.take k).map Ent.am).sum)) (fun _ i => kb - (intOf i).toNat)
              case atStart => exact ⟨0, Nat.zero_le _, rfl, by simp⟩
              case round =>
                obtain ⟨k2, hk2, rfl, rfl⟩ := hrel
                obtain ⟨tb1, tb2⟩ := am_sum (all_take U2.out k2)
                have hlk2 : (lb.take k2).length ≤ k2 := List.length_take_le _ _
                generalize hsk' : ((lb.take k2).map Ent.am).sum = sl at *
                have Hsl := hide hsk'; clear hsk'
                by_cases hlt2 : k2 < kb
                · obtain ⟨bl, ol, x, rfl, hx, hc1, hc2, hc3, hc4⟩ := C7.out.at_ (i := k2) (by rw [Kb.out]; exact hlt2)
                  have hxa := inB_true (validE_true (List.all_eq_true.1 U2.out x (List.mem_of_getElem? hx))).2.2.2.2.1
                  have Hsucc := hide (am_succ hx)
                  rw [Hsl.out] at Hsucc
                  have Hsucc2 := hide (show sk - sl - x.am = sk - ((lb.take (k2 + 1)).map Ent.am).sum by rw [Hsucc.out]; omega)
                  clear hx
                  go_wp2
                  go_round
                  case rel => exact ⟨k2 + 1, by omega, by go_num, by rw [Hsucc2.out]⟩
                  case measure => simp [intOf]; omega
                · have etk2 : lb.take k2 = lb := List.take_of_length_le (by rw [Kb.out]; omega)
                  rw [etk2] at Hsl
                  rw [Hsl.out] at K3
                  have hz : sk - sl = 0 := K3.out
                  have hzb : (sk - sl == 0) = true := by simp; omega
                  clear etk2 hz
                  go_wp2
                  go_loop [17] (fun i => ∃ k : Nat, k ≤ n ∧ i = .int .i64 k) (fun i => n - (intOf i).toNat)
                  case atStart => exact ⟨0, Nat.zero_le _, rfl⟩
                  case round =>
                    obtain ⟨k3, hk3, rfl⟩ := hrel
                    by_cases hlt3 : k3 < n
                    · obtain ⟨bx, ox, x, rfl, hx, hcx⟩ := X7.out.at_ (i := k3) (by simpa using hlt3)
                      have hx0 : x = 0 := by
                        rw [List.getElem?_replicate, if_pos hlt3] at hx
                        injection hx with hx; exact hx.symm
                      subst hx0
                      clear hx
                      go_wp2
                      go_round
                      case rel => exact ⟨k3 + 1, by omega, by go_num⟩
                      case measure => simp [intOf]; omega
                    · go_wp2
                      exact HR.out _ B7.out
        · have he2b : (e2 != 0) = true := by simpa using he2
          clear he2
          go_wp2_with (go_at_call 17; refine Stop.out ?_)
          refine Stop.go (adj_b p p n n cap cap a a ⟨#[]⟩ _ _ Hn.out Hn.out Hl.out Hl.out I3.out I3.out Hr.out ?_)
          intro pc cc w4 hb _
          rw [S1.out, S2.out]
          have B4 := hide (bseq B3.out hb)
          clear hb
          go_wp2_with fail
          exact HR.out _ B4.out
      · have he : e2 = e1 := HS.out (.inl h0)
        subst he; subst h0
        go_wp2_with fail
        exact HR.out _ B3.out
      · subst h0
        obtain ⟨s1, s2⟩ := HSelf.out (.inr rfl)
        have S1 := hide s1; have S2 := hide s2
        clear s1 s2
        go_wp2_with (go_at_call 17; refine Stop.out ?_)
        refine Stop.go (adj_b p p n n cap cap a a ⟨#[]⟩ _ _ Hn.out Hn.out Hl.out Hl.out I3.out I3.out Hr.out ?_)
        intro pc cc w4 hb _
        rw [S1.out, S2.out]
        have B4 := hide (bseq B3.out hb)
        clear hb
        go_wp2_with fail
        exact HR.out _ B4.out
      · have he : e2 = e1 := HS.out (.inr h0)
        subst he; subst h0
        go_wp2_with fail
        exact HR.out _ B3.out

set_option maxRecDepth 100000 in
theorem lback_holds_lifted (os : Os) (started : os.Started) (H : Type) (enc : TypeId × Value → H) :
    ReturnsInHanded {} Try.checked os 10 .any (Rows.ledgerBackSpec.pre6 enc Try.prog Try.f10 Rows.ledgerBackRow.domain false) (Rows.ledgerBackSpec.post enc Try.prog Try.f10 false true false false) := by
  refine returnsInHanded_of_change (C := Try.checked) Try.own started (by kernel_rfl) Try.func10
    (ChangeSpec.witness6 (enc := enc) (C := Try.checked) false ⟨#[], #[.slice none 0 0, .slice none 0 0], []⟩ 8 (by kernel_rfl) (by kernel_rfl) (by kernel_rfl) (by kernel_rfl)) ?_
  intro W base args ds gs before hval0 hW hcnd _
  have hval : ∀ (j : Nat) t v, Try.f10.params[j]? = some t → args[j]? = some v → Value.okWide Try.prog W .any base t v := hval0
  have hW' := hW
  obtain ⟨p, q, hA0, hV, rfl, hfz, hnd⟩ := hW
  have hA : DataW.TrodAll enc Try.prog W 0 (fun _ => true) true Try.f10.params.toList args.toList ds p := hA0
  have hA1 := hA
  rw [Try.params10] at hA hval
  obtain ⟨v0, vs0, d0, ds0, p0, q0, hargs, rfl, rfl, h0, r0⟩ := trodAll_cons hA
  obtain ⟨v1, vs1, d1, ds1, p1, q1, rfl, rfl, rfl, h1, r1⟩ := trodAll_cons r0
  obtain ⟨rfl, rfl, rfl⟩ := trodAll_nil r1
  obtain rfl : args = #[v0, v1] := by cases args; simp_all
  obtain ⟨rfl, rfl⟩ := trodVars_none hV
  obtain ⟨a0, n0, c0, l0, rfl, hl0, hm0, hi0, hz0, hw0⟩ := open_ints' Try.underlying23 Try.underlying3 (by kernel_rfl) (hval 0 23 v0 rfl rfl) h0
  obtain ⟨a1, n1, c1, l1, rfl, hl1, hm1, hi1, hz1, hw1⟩ := open_ints' Try.underlying23 Try.underlying3 (by kernel_rfl) (hval 1 23 v1 rfl rfl) h1
  refine lback_c a0 n0 c0 l0 a1 n1 c1 l1 W _ hl0 hm0 hi0 hz0 hw0 hl1 hm1 hi1 hz1 hw1 fun W' bel => ?_
  exact ⟨_, rfl, law_post Try.laidOut bel rfl hW' hA1 (by kernel_rfl) rfl Try.underlying4 rfl rfl rfl⟩

theorem lback_holds : Rows.LedgerBackSaid :=
  OpenClaim.holds_of_wide 10 Try.f10 rfl rfl rfl rfl rfl rfl rfl ⟨rfl, rfl, rfl, rfl, rfl⟩ rfl rfl rfl rfl rfl (by kernel_rfl) Try.func10 (by kernel_rfl)
    (of_decide_eq_true (by kernel_rfl)) (by unfold Func.isWrapper; rw [if_neg (of_decide_eq_false (by kernel_rfl))]; exact ⟨rfl, rfl⟩)
    (fun os started H enc _ => lback_holds_lifted os started H enc)

end Go.Proofs.Ytajnoocjjkjfmaa
