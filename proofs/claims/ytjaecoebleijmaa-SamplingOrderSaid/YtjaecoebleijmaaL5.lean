/- SamplingOrder: the estimate and the bound do not depend on the order of the values, nor on the first number; a greater value gives no smaller estimate. -/
import Derived.Test.YtjaecoebleijmaaC8
import Derived.Test.YtjaecoebleijmaaM1
import Derived.Test.YtjaecoebleijmaaFr
set_option linter.unusedVariables false
set_option linter.unusedSimpArgs false
namespace Go.Proofs.Ytjaecoebleijmaa
open Go.ChangeShapes Go.WideShapes Go.ChangeAt Go.RowKit

theorem own_below {w w' : World} {base e size n : Nat} {v : Value} {xs : List Value} (h : w.ownsRow base e size v n xs) (hb : Below w.heap.size w w') : w'.ownsRow base e size v n xs := by
  refine ⟨h.1, ?_⟩
  rcases h.2 with h' | ⟨g, cap, cur, hv, hg, hh, rest⟩
  · exact .inl h'
  · exact .inr ⟨g, cap, cur, hv, hg, (hb.block g (Array.getElem?_eq_some_iff.1 hh).1).trans hh, rest⟩

theorem sum_set (l : List Int) (i : Nat) (v : Int) (h : i < l.length) : (l.set i v).sum = l.sum - l.getD i 0 + v := by
  induction l generalizing i with
  | nil => simp at h
  | cons x l ih =>
    cases i with
    | zero => simp; omega
    | succ i =>
      have := ih i (by simpa using h)
      rw [List.set_cons_succ, List.sum_cons, List.sum_cons, this]
      simp
      omega
theorem est_sum {n step first : Int} {l l' : List Int} (h : l.sum = l'.sum) : est n step first l = est n step first l' := by unfold est; rw [h]
theorem estErr_sum {n step first most : Int} {l l' : List Int} (h : l.sum = l'.sum) : estErr n step first most l = estErr n step first most l' := by unfold estErr; rw [est_sum h, h]
theorem est_cnt {n step first other : Int} {l : List Int} (h : cnt n step first = cnt n step other) : est n step other l = est n step first l := by unfold est; rw [h]
theorem estErr_cnt {n step first other most : Int} {l : List Int} (h : cnt n step first = cnt n step other) : estErr n step other most l = estErr n step first most l := by unfold estErr; rw [est_cnt h, h]
theorem est_mono {n step first : Int} (hv : validB n step first = true) {l l' : List Int} (h : l.sum ≤ l'.sum) : est n step first l ≤ est n step first l' := by
  have c0 := cnt_pos hv
  obtain ⟨v1, v2, v3, v4, v5, v6⟩ := valid_true hv
  unfold est
  exact Int.ediv_le_ediv (by omega) (Int.mul_le_mul_of_nonneg_right (by omega) (by omega))

set_option maxRecDepth 100000 in
set_option maxHeartbeats 2000000 in
theorem order_c (n step first other most : Int) (p : Option Addr) (m cap : Nat) (l : List Int) (at' by' : Int) (w : World) (R) (hw0 : (Lit.int .i64 n).wf = true) (hw1 : (Lit.int .i64 step).wf = true) (hw2 : (Lit.int .i64 first).wf = true) (hw2' : (Lit.int .i64 other).wf = true) (hw3 : (Lit.int .i64 most).wf = true)
    (hm : l.length = m) (hl : m ≤ maxLen) (h : IntsAt .u16 w p l) (_hz : p = none → m = 0) (hw : ∀ x ∈ l, (Lit.int .u16 x).wf = true) (hw5 : (Lit.int .u16 at').wf = true) (hw6 : (Lit.int .u16 by').wf = true)
    (hR : ∀ w', Below w.heap.size w w' → R (.returned (.bool true)) w') : Calls Try.prog 7 #[.int .i64 n, .int .i64 step, .int .i64 first, .int .i64 other, .int .i64 most, .slice p m cap, .int .u16 at', .int .u16 by'] w R := by
  have Hm := hide hm; have HR := hide hR; have H := hide h
  have H16 := hide (show ∀ x ∈ l, 0 ≤ x ∧ x ≤ 65535 from fun x hx => wf_u16.1 (hw x hx))
  obtain ⟨ha0, ha1⟩ := wf_u16.1 hw5
  obtain ⟨hb0, hb1⟩ := wf_u16.1 hw6
  clear hm hR h hw hw0 hw1 hw2 hw2' hw3 _hz hw5 hw6
  unfold maxLen at hl
  cases hf : (decide (n ≤ 500) && validB n step first) with
  | false =>
    have Hf := hide hf; clear hf
    go_enter Try.func7, Try.ntmps7
    go_wp2_with (go_at_call 9; refine Stop.out ?_)
    refine Stop.go (head_c _ _ ?_)
    intro w1 B1
    replace B1 := hide B1
    go_wp2_with (go_at_call 15; refine fine_c _ _ _ _ _ ?_; rw [Hf.out])
    exact HR.out _ B1.out
  | true =>
    have Hf := hide hf
    rw [Bool.and_eq_true, decide_eq_true_eq] at hf
    obtain ⟨hn5, hv⟩ := hf
    have Hv := hide hv; clear hv
    cases hfo : (decide (n ≤ 500) && validB n step other) with
    | false =>
      have Hfo := hide hfo; clear hfo
      go_enter Try.func7, Try.ntmps7
      go_wp2_with (go_at_call 9; refine Stop.out ?_)
      refine Stop.go (head_c _ _ ?_)
      intro w1 B1
      replace B1 := hide B1
      go_wp2_with (go_at_call 15; refine Stop.out ?_)
      refine Stop.go (fine_c _ _ _ _ _ ?_)
      rw [Hf.out]
      go_wp2_with (go_at_call 15; refine Stop.out ?_)
      refine Stop.go (fine_c _ _ _ _ _ ?_)
      rw [Hfo.out]
      go_wp2_with fail
      exact HR.out _ B1.out
    | true =>
      have Hfo := hide hfo
      rw [Bool.and_eq_true, decide_eq_true_eq] at hfo
      obtain ⟨-, hvo⟩ := hfo
      have Hvo := hide hvo; clear hvo
      by_cases hb : most < 0 ∨ (0 ≤ most ∧ 60000 < most) ∨ (0 ≤ most ∧ most ≤ 60000 ∧ 500 < m)
      · rcases hb with h1 | ⟨h1, h2⟩ | ⟨h1, h2, h3⟩
        all_goals
          go_enter Try.func7, Try.ntmps7
          go_wp2_with (go_at_call 9; refine Stop.out ?_)
          refine Stop.go (head_c _ _ ?_)
          intro w1 B1
          replace B1 := hide B1
          go_wp2_with (go_at_call 15; refine Stop.out ?_)
          refine Stop.go (fine_c _ _ _ _ _ ?_)
          rw [Hf.out]
          go_wp2_with (go_at_call 15; refine Stop.out ?_)
          refine Stop.go (fine_c _ _ _ _ _ ?_)
          rw [Hfo.out]
          go_wp2_with fail
          exact HR.out _ B1.out
      · obtain ⟨h1, h2, h3⟩ : 0 ≤ most ∧ most ≤ 60000 ∧ m ≤ 500 := by omega
        clear hb
        obtain ⟨v1, v2, v3, v4, v5, v6⟩ := valid_true Hv.out
        have c1 := cnt_le Hv.out
        have c0 := cnt_pos Hv.out
        have co1 := cnt_le Hvo.out
        have hsl := sq_len n step first
        have hslo := sq_len n step other
        have hva := valL_bd (n := cnt n step first) h1 l
        have hvl := valL_len (cnt n step first) most l
        have hok := estOk_mk Hv.out h1 (by omega) hvl hva
        generalize hal : valL (cnt n step first) most l = al at *
        have hrs : al.reverse.sum = al.sum := List.sum_reverse_int al
        have hok2 : estOk n step first most al.reverse = true := estOk_mk Hv.out h1 (by omega) (by rw [List.length_reverse]; exact hvl) (fun x hx => hva x (by simpa using hx))
        have hE := estR_true hok
        have hE2 := estR_true hok2
        rw [est_sum hrs, estErr_sum hrs] at hE2
        have hEo : cnt n step first = cnt n step other → estR n step other most al = .tuple #[.int .i64 (est n step first al), .int .i64 (estErr n step first most al), .int .i64 0] := fun hc => by
          have := estR_true (estOk_mk Hvo.out h1 (by omega) (by rw [← hc]; exact hvl) hva)
          rw [est_cnt hc, estErr_cnt hc] at this
          exact this
        have hE3 : ∀ k y, k < cnt n step first → al.getD k 0 ≤ y → y ≤ most → ∃ a b, estR n step first most (al.set k y) = .tuple #[.int .i64 a, .int .i64 b, .int .i64 0] ∧ est n step first al ≤ a := fun k y hk hy hy2 => by
          have hb : Bd most (al.set k y) := fun x hx => by
            rcases List.mem_or_eq_of_mem_set hx with h | rfl
            · exact hva x h
            · have hx' : al.getD k 0 = al[k]'(by omega) := by rw [List.getD_eq_getElem?_getD, List.getElem?_eq_getElem (by omega)]; rfl
              have := hva (al[k]'(by omega)) (List.getElem_mem _)
              omega
          refine ⟨_, _, estR_true (estOk_mk Hv.out h1 (by omega) (by rw [List.length_set]; exact hvl) hb), est_mono Hv.out ?_⟩
          rw [sum_set _ _ _ (by omega)]; omega
        have HE := hide hE; have HE2 := hide hE2; have HEo := hide hEo; have HE3 := hide hE3
        generalize hsq : sq n step first = sqq at *
        generalize hsqo : sq n step other = sqo at *
        generalize hcc : cnt n step first = c at *
        generalize hco : cnt n step other = d at *
        have Hal := hide hal; have Hsq := hide hsq; have Hsl := hide hsl; have Hvl := hide hvl; have Hva := hide hva; have Hcc := hide hcc
        have Hsqo := hide hsqo; have Hslo := hide hslo; have Hco := hide hco
        clear hal hsq hsl hvl hva hE hE2 hok hok2 hcc hrs hEo hE3 hsqo hslo hco
        generalize est n step first al = E at *
        generalize estErr n step first most al = Y at *
        obtain ⟨i0, hi0, hz0, hz1, hz2⟩ := info_parts Try.info3'
        go_enter Try.func7, Try.ntmps7
        go_wp2_with (go_at_call 9; refine Stop.out ?_)
        refine Stop.go (head_c _ _ ?_)
        intro w1 B1
        have I1 := hide (H.out.keep (Keeps.of_below B1))
        replace B1 := hide B1
        go_wp2_with (go_at_call 15; refine Stop.out ?_)
        refine Stop.go (fine_c _ _ _ _ _ ?_)
        rw [Hf.out]
        go_wp2_with (go_at_call 15; refine Stop.out ?_)
        refine Stop.go (fine_c _ _ _ _ _ ?_)
        rw [Hfo.out]
        go_wp2_with (go_at_call 10; refine Stop.out ?_)
        refine Stop.go (chosen_c _ _ _ Hv.out _ _ ?_)
        intro v3 w3 o3 b3
        rw [Hsq.out, Hsl.out] at o3
        obtain ⟨p3, cap3, rfl, _⟩ := own_val o3
        have I3 := hide (I1.out.keep (Keeps.of_below b3))
        have B3 := hide (bseq B1.out b3)
        clear b3 o3
        go_wp2_with (go_at_call 10; refine Stop.out ?_)
        refine Stop.go (chosen_c _ _ _ Hvo.out _ _ ?_)
        intro v3 w3' o3 b3
        rw [Hsqo.out, Hslo.out] at o3
        obtain ⟨p3o, cap3o, rfl, _⟩ := own_val o3
        have I3' := hide (I3.out.keep (Keeps.of_below b3))
        have B3' := hide (bseq B3.out b3)
        clear b3 o3
        go_wp2_with (go_at_call 16; refine Stop.out ?_)
        refine Stop.go (values_c c most p m cap l _ _ Hm.out h3 (by omega) I3'.out H16.out ⟨h1, by omega⟩ ?_)
        intro g w4 b4 o4
        rw [Hal.out] at o4
        have A4 := hide (IntsAt.of_own o4)
        have O4 := hide o4
        have B4 := hide (bseq B3'.out b4)
        have hb4 := hide (o4.lt g rfl)
        clear b4 o4
        go_wp2_with fail
        go_loopw [23, 24] (fun v i wr => ∃ j : Nat, j ≤ c ∧ i = .int .i64 ((c : Int) - 1 - j) ∧ Hid (wr.ownsRow w4.heap.size 3 1 v (al.reverse.take j).length ((al.reverse.take j).map (Value.int .i64))) ∧ Hid (Below w4.heap.size w4 wr)) (fun _ i _ => (intOf i + 1).toNat)
        case atStart => exact ⟨0, Nat.zero_le _, by simp, hide (World.ownsRow_nil ..), hide (Below.refl _ _)⟩
        case round =>
          obtain ⟨j, hj, rfl, Ho, Hb⟩ := hrel
          by_cases hlt : j < c
          · obtain ⟨r, hr⟩ : ∃ r : Nat, r + j + 1 = c := ⟨c - 1 - j, by omega⟩
            obtain ⟨b, o, x, hq, hx, hc⟩ := (A4.out.keep (Keeps.of_below Hb.out)).at_ (i := r) (by rw [Hvl.out]; omega)
            cases hq
            rw [Nat.zero_add] at hc
            have hxb := Hva.out x (List.mem_of_getElem? hx)
            have Hs := hide (show al.reverse.take (j + 1) = al.reverse.take j ++ [x] by
              rw [List.take_add_one, List.getElem?_reverse (by rw [Hvl.out]; omega), Hvl.out, show c - 1 - j = r by omega, hx]; rfl)
            have hlj : (al.reverse.take j).length ≤ j := List.length_take_le _ _
            have hri : (c : Int) - 1 - j = r := by omega
            rw [hri]
            have hrc : r < c := by omega
            clear hx hri
            generalize hpl : al.reverse.take j = pl at *
            have Hpl := hide hpl; clear hpl
            have Hr := hide hr; clear hr
            go_wp2_with (at_builtin; refine Stop.out ?_)
            refine Stop.go ?_
            refine wpList_app _ rfl (.tmp 91) (.tmp 96) 22 rfl w4.heap.size 3 i0 _ 1 8 Try.underlying22 hi0 hz0 hz1 hz2 rfl (by omega) _ pl.length (pl.map (Value.int .i64)) rfl (Ho.out.alloc _) (some ⟨wr.heap.size, 0, none⟩) 1 1 [.int .i64 x] rfl ⟨rfl, fun _ => ⟨_, rfl, fun j u hu => ?_⟩⟩ (ints_oneCell .i64 [x]) (by unfold maxLen; omega) (by omega) (by simp; have := Hb.out.size; omega) ?_
            · match j, hu with
              | 0, hu => cases hu; exact cell_new
            intro v1 w1 hown1 hg1
            have Hb1 := hide (show Below w4.heap.size w4 w1 from Hb.out.grown (World.grownBy.trans (World.grownBy_alloc _ _ _) hg1) Hb.out.size (fun k hk => (Ho.out.lt k hk).1))
            have Hown1 := hide hown1
            clear hown1 hg1
            go_wp2_with fail
            go_roundw
            case rel => exact ⟨j + 1, by omega, by have := Hr.out; apply congrArg (Value.int .i64); omega, hide (by rw [Hs.out]; simpa using Hown1.out), Hb1⟩
            case measure => simp [intOf]; try omega
          · have hkm' : al.reverse.take j = al.reverse := List.take_of_length_le (by rw [List.length_reverse, Hvl.out]; omega)
            rw [hkm'] at Ho
            clear hkm'
            obtain ⟨pg, capg, hvg, _⟩ := own_val Ho.out
            subst hvg
            have G5 := hide (IntsAt.of_own Ho.out)
            have B5 := hide (bseq B4.out Hb.out)
            have A5 := hide (A4.out.keep (Keeps.of_below Hb.out))
            have O5 := hide (own_below O4.out Hb.out)
            have Hgl := hide (show al.reverse.length = c by rw [List.length_reverse]; exact Hvl.out)
            have hjc : (c : Int) - 1 - j = -1 := by omega
            rw [Hgl.out, hjc]
            clear hjc
            generalize al.reverse = gr at *
            go_wp2_with (go_at_call 12; refine Stop.out ?_)
            refine Stop.go (estimate_c n step first most _ c c al _ _ (fun _ => by omega) Hvl.out (by unfold maxLen; omega) A5.out ?_)
            intro w6 b6
            rw [HE.out]
            have G6 := hide (G5.out.keep (Keeps.of_below b6))
            have A6 := hide (A5.out.keep (Keeps.of_below b6))
            have O6 := hide (own_below O5.out b6)
            have B6 := hide (bseq B5.out b6)
            clear b6
            go_wp2_with (go_at_call 12; refine Stop.out ?_)
            refine Stop.go (estimate_c n step first most pg c capg gr _ _ (fun _ => by omega) Hgl.out (by unfold maxLen; omega) G6.out ?_)
            intro w7 b7
            rw [HE2.out]
            have A7 := hide (A6.out.keep (Keeps.of_below b7))
            have O7 := hide (own_below O6.out b7)
            have B7 := hide (bseq B6.out b7)
            clear b7
            by_cases hcd : c = d
            · subst hcd
              have hcc : ((c : Int) == (c : Int)) = true := by simp
              have hc0 : ((c : Int) == 0) = false := by simp; omega
              have hcn0 : (c == 0) = false := by simp; omega
              go_wp2_with (go_at_call 12; refine Stop.out ?_)
              refine Stop.go (estimate_c n step other most _ c c al _ _ (fun _ => by omega) Hvl.out (by unfold maxLen; omega) A7.out ?_)
              intro w8 b8
              rw [HEo.out (by trivial)]
              have O8 := hide (own_below O7.out b8)
              have B8 := hide (bseq B7.out b8)
              clear b8
              go_wp2_with fail
              obtain ⟨kk, hkk⟩ : ∃ kk : Nat, at' % (c : Int) = kk := ⟨(at' % (c : Int)).toNat, by have := Int.emod_nonneg at' (show (c : Int) ≠ 0 by omega); omega⟩
              have hkc : kk < c := by have := Int.emod_lt_of_pos at' (show (0 : Int) < c by omega); omega
              obtain ⟨y, hy, hcy⟩ := owni_at O8.out (i := kk) hkc
              have hyb : 0 ≤ y ∧ y ≤ most := by
                have e : al.getD kk 0 = al[kk]'(by have := Hvl.out; omega) := by rw [List.getD_eq_getElem?_getD, List.getElem?_eq_getElem (by have := Hvl.out; omega)]; rfl
                have := Hva.out _ (List.getElem_mem (l := al) (n := kk) (by have := Hvl.out; omega))
                omega
              obtain ⟨z, hz⟩ : ∃ z, z = by' % (most - y + 1) := ⟨_, rfl⟩
              have hzb : 0 ≤ z ∧ z ≤ most - y := by
                have h1 := Int.emod_nonneg by' (show most - y + 1 ≠ 0 by omega)
                have h2 := Int.emod_lt_of_pos by' (show 0 < most - y + 1 by omega)
                omega
              obtain ⟨a, b, hab, hge⟩ := HE3.out kk (y + z) hkc (by omega) (by omega)
              have Hab := hide hab; have Hy := hide hy; have Hz := hide hz; have Hkk := hide hkk
              have hfz := O8.out.frozenAt kk
              rw [hkk]
              clear hab hy hz hkk
              obtain ⟨d1, hd1⟩ : ∃ d1, d1 = most - y := ⟨_, rfl⟩
              obtain ⟨d2, hd2⟩ : ∃ d2, d2 = d1 + 1 := ⟨_, rfl⟩
              have hd2p : 1 ≤ d2 := by omega
              have hzt : by'.tmod d2 = z := by rw [Int.tmod_eq_emod_of_nonneg hb0, hd2, hd1]; exact Hz.out.symm
              have hzm : by' % d2 = z := by rw [hd2, hd1]; exact Hz.out.symm
              have q1 : IntKind.i64.wrap (most - y) = d1 := by rw [IntWalk.i64_in _ (by omega)]; exact hd1.symm
              have q2 : IntKind.i64.wrap (d1 + 1) = d2 := by rw [IntWalk.i64_in _ (by omega)]; exact hd2.symm
              have q3 : IntKind.i64.wrap z = z := IntWalk.i64_in _ (by omega)
              have q4 : IntKind.i64.wrap (y + z) = y + z := IntWalk.i64_in _ (by omega)
              have q5 : (d2 == 0) = false := by simp; omega
              have q6 : ¬ d2 = 0 := by omega
              clear hd1 hd2
              go_still_tail 18, (by kernel_rfl)
              change wpList _ _ _ _ _ w8.drew
              go_wp2_with (go_at_call 12; refine Stop.out ?_)
              clear q1 q2 q3 q4 q5 q6 hzt hzm
              have O9 := hide (owni_set O8.out kk (y + z))
              have I9 := hide (IntsAt.of_own O9.out)
              have hbk : Below w.heap.size w (w8.setCell ⟨g, kk, none⟩ (.int .i64 (y + z))) := B8.out.setCell (p := ⟨g, kk, none⟩) (by have := hb4.out.1; have := B3'.out.size; show _ ≤ g; omega) _
              have B9 := hide hbk.drew
              refine Stop.go (estimate_c n step first most _ c c (al.set kk (y + z)) _ _ (fun _ => by omega) (by rw [List.length_set]; exact Hvl.out) (by unfold maxLen; omega) I9.out ?_)
              intro wz bz
              rw [Hab.out]
              have Bz := hide (bseq B9.out bz)
              clear bz hbk
              go_wp2_with fail
              exact HR.out _ Bz.out
            · have hcc : ((d : Int) == (c : Int)) = false := by simp; omega
              have hc0 : ((c : Int) == 0) = false := by simp; omega
              have hcn0 : (c == 0) = false := by simp; omega
              have hcd' : (d == c) = false := by simp; omega
              go_wp2_with fail
              obtain ⟨kk, hkk⟩ : ∃ kk : Nat, at' % (c : Int) = kk := ⟨(at' % (c : Int)).toNat, by have := Int.emod_nonneg at' (show (c : Int) ≠ 0 by omega); omega⟩
              have hkc : kk < c := by have := Int.emod_lt_of_pos at' (show (0 : Int) < c by omega); omega
              obtain ⟨y, hy, hcy⟩ := owni_at O7.out (i := kk) hkc
              have hyb : 0 ≤ y ∧ y ≤ most := by
                have e : al.getD kk 0 = al[kk]'(by have := Hvl.out; omega) := by rw [List.getD_eq_getElem?_getD, List.getElem?_eq_getElem (by have := Hvl.out; omega)]; rfl
                have := Hva.out _ (List.getElem_mem (l := al) (n := kk) (by have := Hvl.out; omega))
                omega
              obtain ⟨z, hz⟩ : ∃ z, z = by' % (most - y + 1) := ⟨_, rfl⟩
              have hzb : 0 ≤ z ∧ z ≤ most - y := by
                have h1 := Int.emod_nonneg by' (show most - y + 1 ≠ 0 by omega)
                have h2 := Int.emod_lt_of_pos by' (show 0 < most - y + 1 by omega)
                omega
              obtain ⟨a, b, hab, hge⟩ := HE3.out kk (y + z) hkc (by omega) (by omega)
              have Hab := hide hab; have Hy := hide hy; have Hz := hide hz; have Hkk := hide hkk
              have hfz := O7.out.frozenAt kk
              rw [hkk]
              clear hab hy hz hkk
              obtain ⟨d1, hd1⟩ : ∃ d1, d1 = most - y := ⟨_, rfl⟩
              obtain ⟨d2, hd2⟩ : ∃ d2, d2 = d1 + 1 := ⟨_, rfl⟩
              have hd2p : 1 ≤ d2 := by omega
              have hzt : by'.tmod d2 = z := by rw [Int.tmod_eq_emod_of_nonneg hb0, hd2, hd1]; exact Hz.out.symm
              have hzm : by' % d2 = z := by rw [hd2, hd1]; exact Hz.out.symm
              have q1 : IntKind.i64.wrap (most - y) = d1 := by rw [IntWalk.i64_in _ (by omega)]; exact hd1.symm
              have q2 : IntKind.i64.wrap (d1 + 1) = d2 := by rw [IntWalk.i64_in _ (by omega)]; exact hd2.symm
              have q3 : IntKind.i64.wrap z = z := IntWalk.i64_in _ (by omega)
              have q4 : IntKind.i64.wrap (y + z) = y + z := IntWalk.i64_in _ (by omega)
              have q5 : (d2 == 0) = false := by simp; omega
              have q6 : ¬ d2 = 0 := by omega
              clear hd1 hd2
              go_still_tail 18, (by kernel_rfl)
              change wpList _ _ _ _ _ w7.drew
              go_wp2_with (go_at_call 12; refine Stop.out ?_)
              clear q1 q2 q3 q4 q5 q6 hzt hzm
              have O9 := hide (owni_set O7.out kk (y + z))
              have I9 := hide (IntsAt.of_own O9.out)
              have hbk : Below w.heap.size w (w7.setCell ⟨g, kk, none⟩ (.int .i64 (y + z))) := B7.out.setCell (p := ⟨g, kk, none⟩) (by have := hb4.out.1; have := B3'.out.size; show _ ≤ g; omega) _
              have B9 := hide hbk.drew
              refine Stop.go (estimate_c n step first most _ c c (al.set kk (y + z)) _ _ (fun _ => by omega) (by rw [List.length_set]; exact Hvl.out) (by unfold maxLen; omega) I9.out ?_)
              intro wz bz
              rw [Hab.out]
              have Bz := hide (bseq B9.out bz)
              clear bz hbk
              go_wp2_with fail
              exact HR.out _ Bz.out

set_option maxRecDepth 100000 in
theorem order_holds_lifted (os : Os) (started : os.Started) (H : Type) (enc : TypeId × Value → H) :
    ReturnsInHanded {} Try.checked os 7 .any (Rows.samplingOrderSpec.pre6 enc Try.prog Try.f7 Rows.samplingOrderRow.domain false) (Rows.samplingOrderSpec.post enc Try.prog Try.f7 false true false false) := by
  refine returnsInHanded_of_change (C := Try.checked) Try.own started (by kernel_rfl) Try.func7
    (ChangeSpec.witness6 (enc := enc) (C := Try.checked) false ⟨#[], #[.int .i64 0, .int .i64 0, .int .i64 0, .int .i64 0, .int .i64 0, .slice none 0 0, .int .u16 0, .int .u16 0], []⟩ 8 (by kernel_rfl) (by kernel_rfl) (by kernel_rfl) (by kernel_rfl)) ?_
  intro W base args ds gs before hval0 hW hcnd _
  have hval : ∀ (j : Nat) t v, Try.f7.params[j]? = some t → args[j]? = some v → Value.okWide Try.prog W .any base t v := hval0
  have hW' := hW
  obtain ⟨p, q, hA0, hV, rfl, hfz, hnd⟩ := hW
  have hA : DataW.TrodAll enc Try.prog W 0 (fun _ => true) true Try.f7.params.toList args.toList ds p := hA0
  have hA1 := hA
  rw [Try.params7] at hA hval
  obtain ⟨v0, vs0, d0, ds0, p0, q0, hargs, rfl, rfl, h0, r0⟩ := trodAll_cons hA
  obtain ⟨v1, vs1, d1, ds1, p1, q1, rfl, rfl, rfl, h1, r1⟩ := trodAll_cons r0
  obtain ⟨v2, vs2, d2, ds2, p2, q2, rfl, rfl, rfl, h2, r2⟩ := trodAll_cons r1
  obtain ⟨v3, vs3, d3, ds3, p3, q3, rfl, rfl, rfl, h3, r3⟩ := trodAll_cons r2
  obtain ⟨v4, vs4, d4, ds4, p4, q4, rfl, rfl, rfl, h4, r4⟩ := trodAll_cons r3
  obtain ⟨v5, vs5, d5, ds5, p5, q5, rfl, rfl, rfl, h5, r5⟩ := trodAll_cons r4
  obtain ⟨v6, vs6, d6, ds6, p6, q6, rfl, rfl, rfl, h6, r6⟩ := trodAll_cons r5
  obtain ⟨v7, vs7, d7, ds7, p7, q7, rfl, rfl, rfl, h7, r7⟩ := trodAll_cons r6
  obtain ⟨rfl, rfl, rfl⟩ := trodAll_nil r7
  obtain rfl : args = #[v0, v1, v2, v3, v4, v5, v6, v7] := by cases args; simp_all
  obtain ⟨rfl, rfl⟩ := trodVars_none hV
  obtain ⟨x0, rfl, _, _, hw0⟩ := open_int Try.underlying3 (hval 0 3 v0 rfl rfl) h0
  obtain ⟨x1, rfl, _, _, hw1⟩ := open_int Try.underlying3 (hval 1 3 v1 rfl rfl) h1
  obtain ⟨x2, rfl, _, _, hw2⟩ := open_int Try.underlying3 (hval 2 3 v2 rfl rfl) h2
  obtain ⟨x3, rfl, _, _, hw3⟩ := open_int Try.underlying3 (hval 3 3 v3 rfl rfl) h3
  obtain ⟨x4, rfl, _, _, hw4⟩ := open_int Try.underlying3 (hval 4 3 v4 rfl rfl) h4
  obtain ⟨a5, n5, c5, l5, rfl, hl5, hm5, hi5, hz5, hw5⟩ := open_ints' Try.underlying32 Try.underlying39 (by kernel_rfl) (hval 5 32 v5 rfl rfl) h5
  obtain ⟨x6, rfl, _, _, hw6⟩ := open_int Try.underlying39 (hval 6 39 v6 rfl rfl) h6
  obtain ⟨x7, rfl, _, _, hw7⟩ := open_int Try.underlying39 (hval 7 39 v7 rfl rfl) h7
  refine order_c x0 x1 x2 x3 x4 a5 n5 c5 l5 x6 x7 W _ hw0 hw1 hw2 hw3 hw4 hl5 hm5 hi5 hz5 hw5 hw6 hw7 fun W' bel => ?_
  exact ⟨_, rfl, law_post Try.laidOut bel rfl hW' hA1 (by kernel_rfl) rfl Try.underlying4 rfl rfl rfl⟩

theorem order_holds : Rows.SamplingOrderSaid :=
  OpenClaim.holds_of_wide 7 Try.f7 rfl rfl rfl rfl rfl rfl rfl ⟨rfl, rfl, rfl, rfl, rfl⟩ rfl rfl rfl rfl rfl (by kernel_rfl) Try.func7 (by kernel_rfl)
    (of_decide_eq_true (by kernel_rfl)) (by unfold Func.isWrapper; rw [if_neg (of_decide_eq_false (by kernel_rfl))]; exact ⟨rfl, rfl⟩)
    (fun os started H enc _ => order_holds_lifted os started H enc)

end Go.Proofs.Ytjaecoebleijmaa
