/- LedgerSettles: the entries of Adjust turn the first balances into the second ones. -/
import Derived.Test.YtajnoocjjkjfmaaP6
import Derived.Test.YtajnoocjjkjfmaaL2
set_option linter.unusedVariables false
set_option linter.unusedSimpArgs false
namespace Go.Proofs.Ytajnoocjjkjfmaa
open Go.ChangeShapes Go.WideShapes Go.ChangeAt Go.RowKit

theorem run_neq_str (s : ByteArray) (w : World) : (binOp .neq 9 (.string s) (.string s)).run Try.prog w = .ok (.bool false) w := by
  simp [go_sem]

set_option maxRecDepth 100000 in
set_option maxHeartbeats 8000000 in
theorem settles_c (p : Option Addr) (n cap : Nat) (a : List Int) (q : Option Addr) (m cap' : Nat) (b : List Int) (ref : ByteArray) (w : World) (R)
    (hn : a.length = n) (hl : n ≤ maxLen) (h : IntsAt .i64 w p a) (_hz : p = none → n = 0) (_hw : ∀ x ∈ a, (Lit.int .i64 x).wf = true) (hm : b.length = m) (hl' : m ≤ maxLen) (h' : IntsAt .i64 w q b) (_hz' : q = none → m = 0) (_hw' : ∀ x ∈ b, (Lit.int .i64 x).wf = true) (hr : ref.size ≤ maxLen)
    (hR : ∀ w', Below w.heap.size w w' → R (.returned (.bool true)) w') : Calls Try.prog 9 #[.slice p n cap, .slice q m cap', .string ref] w R := by
  have Hn := hide hn; have HR := hide hR; have H := hide h; have Hl := hide hl; have Hm := hide hm; have H' := hide h'; have Hl' := hide hl'; have Hr := hide hr
  clear hn hR h _hz _hw hm h' _hz' _hw'
  unfold maxLen at hl hl' hr
  by_cases c1 : 100 < n
  · go_enter Try.func9, Try.ntmps9
    go_wp2_with (go_at_call 11; refine Stop.out ?_)
    refine Stop.go (head_c _ _ ?_)
    intro w1 B1
    replace B1 := hide B1
    go_wp2_with fail
    exact HR.out _ B1.out
  · by_cases c2 : 100 < m
    · go_enter Try.func9, Try.ntmps9
      go_wp2_with (go_at_call 11; refine Stop.out ?_)
      refine Stop.go (head_c _ _ ?_)
      intro w1 B1
      replace B1 := hide B1
      go_wp2_with fail
      exact HR.out _ B1.out
    · by_cases c3 : 100 < ref.size
      · have c4 : (100 : Int) < (ref.size : Int) := by omega
        go_enter Try.func9, Try.ntmps9
        go_wp2_with (go_at_call 11; refine Stop.out ?_)
        refine Stop.go (head_c _ _ ?_)
        intro w1 B1
        replace B1 := hide B1
        go_wp2_with fail
        exact HR.out _ B1.out
      · have c4 : ¬ (100 : Int) < (ref.size : Int) := by omega
        by_cases he : adjE a b ref = 0
        · obtain ⟨z1, z2, z3, z4, z5, z6, z7, z8⟩ := adjE_zero he
          obtain ⟨pr1, pr2, pr3, _⟩ := adj_props he
          rw [Hn.out, Hm.out] at z1
          subst z1
          rw [Hn.out] at pr3 z2
          have Hab := hide (wrong_bd z5); have Hbb := hide (wrong_bd z6)
          have Hall := hide (show (adjL a b ref).all (validE n) = true by rw [List.all_eq_true]; intro e he'; have := (pr1 e he').1; rw [Hn.out] at this; exact this)
          have Hpr := hide pr1
          have Hfin := hide (afterL_all he)
          have HE := hide he
          clear he z3 z4 z5 z6 z7 z8 pr1 pr2
          obtain ⟨i0, hi0, hz0, hz1, hz2⟩ := info_parts Try.info3
          have z2' : (0 : Int) < (n : Int) := by omega
          go_enter Try.func9, Try.ntmps9
          go_wp2_with (go_at_call 11; refine Stop.out ?_)
          refine Stop.go (head_c _ _ ?_)
          intro w1 B1
          have I1 := hide (H.out.keep (Keeps.of_below B1)); have J1 := hide (H'.out.keep (Keeps.of_below B1))
          replace B1 := hide B1
          go_wp2_with (go_at_call 17; refine Stop.out ?_)
          refine Stop.go (adj_b p q n n cap cap' a b ref _ _ Hn.out Hm.out Hl.out Hl'.out I1.out J1.out Hr.out ?_)
          intro pl cl w2 hb il
          rw [HE.out]
          have B2 := hide (bseq B1.out hb); have I2 := hide (I1.out.keep (Keeps.of_below hb)); have J2 := hide (J1.out.keep (Keeps.of_below hb)); have L2 := hide il
          clear hb il B1 I1 J1
          generalize hLL : adjL a b ref = L at *
          obtain ⟨k0, hk0⟩ : ∃ k0, k0 = L.length := ⟨_, rfl⟩
          rw [← hk0]
          have Hk0 := hide hk0.symm
          have hkn : k0 < n := by omega
          clear hk0 pr3 hLL
          go_wp2_with (at_builtin; refine Stop.out ?_)
          refine Stop.go ?_
          refine wpList_app _ rfl (.tmp 61) (.tmp 62) 23 rfl w2.heap.size 3 i0 _ 1 8 Try.underlying23 hi0 hz0 hz1 hz2 rfl (by omega) _ 0 [] rfl (World.ownsRow_lit _ #[] 0 (Nat.le_refl _) (by decide) rfl) p n cap (a.map (Value.int .i64)) rfl ((Src.ints Hn.out I2.out).keep (Keeps.alloc _ _)) (ints_oneCell _ _) (by unfold maxLen; omega) (by omega) (by simp) ?_
          intro v3 w3 o3 g3
          rw [Nat.zero_add, List.nil_append] at o3
          have b3 := app_below (World.ownsRow_lit (e := 3) (size := 1) _ #[] 0 (Nat.le_refl _) (by decide) rfl) g3
          obtain ⟨gx, capx, rfl, hg1, hg2⟩ := own_form o3 (by omega)
          have BB3 := hide b3
          have O3 : Hid (w3.ownsRow w2.heap.size 3 1 (.slice (some ⟨gx, 0, none⟩) n capx) n ((afterL a (L.take 0)).map (Value.int .i64))) := hide (by rw [List.take_zero, afterL_nil]; exact o3)
          have hBz := B2.out.size
          clear g3 b3 o3
          go_wp2_with fail
          go_loopw [11, 12, 13] (fun i fa tb wr => ∃ k : Nat, k ≤ k0 ∧ i = .int .i64 k ∧ Hid (wr.ownsRow w2.heap.size 3 1 (.slice (some ⟨gx, 0, none⟩) n capx) n ((afterL a (L.take k)).map (Value.int .i64))) ∧ Hid (Below w2.heap.size w2 wr)) (fun i _ _ _ => k0 - (intOf i).toNat)
          case atStart => exact ⟨0, Nat.zero_le _, rfl, O3, BB3⟩
          case round =>
            clear O3 BB3
            obtain ⟨k, hk, rfl, P, Hb⟩ := hrel
            by_cases hlt : k < k0
            · obtain ⟨bl, ol, e, rfl, hx, hc1, hc2, hc3, hc4⟩ := (L2.out.keep (Keeps.of_below Hb.out)).at_ (i := k) (by rw [Hk0.out]; exact hlt)
              have hblw : bl < w2.heap.size := by
                obtain ⟨b', o', x', hq', _, hc', _⟩ := L2.out.at_ (i := k) (by rw [Hk0.out]; exact hlt)
                cases hq'
                exact block_lt hc'
              obtain ⟨q1, q2, q3, q4⟩ := Hpr.out e (List.mem_of_getElem? hx)
              obtain ⟨_, v2, v3, v4, v5, v6⟩ := validE_true q1
              rw [Hn.out] at q1 v2 v3
              have hf := inB_true v2; have ht := inB_true v3; have ham := inB_true v5
              obtain ⟨ef, et, am, er⟩ := e
              simp only at hc1 hc2 hc3 hc4 q2 q3 q4 v4 v6 hf ht ham
              obtain ⟨f, rfl⟩ := Int.eq_ofNat_of_zero_le hf.1
              obtain ⟨t, rfl⟩ := Int.eq_ofNat_of_zero_le ht.1
              have q4' : er = ref := q4
              subst q4'
              simp only [Int.toNat_natCast] at q2 q3
              have hfn : f < n := by omega
              have htn : t < n := by omega
              have hne : f ≠ t := fun h => v4 (by rw [h])
              have hlk : (L.take k).length ≤ 1000 := by have h1 := Hk0.out; rw [List.length_take]; omega
              have hbd := hide (fun i => afterL_bd (l := L.take k) (n := n) Hab.out (by rw [List.all_eq_true]; intro e he; exact List.all_eq_true.1 Hall.out e (List.mem_of_mem_take he)) hlk i)
              have hset := hide (afterL_set (a := a) hx (by rw [Hn.out]; exact hfn) (by rw [Hn.out]; exact htn) hne)
              have Q1 := hide q1
              obtain ⟨ham1, ham2⟩ := ham
              clear hx v2 v3 v4 v5 hf ht q1
              obtain ⟨ba, oa, af, rfl, hax, hac⟩ := (I2.out.keep (Keeps.of_below Hb.out)).at_ (i := f) (by rw [Hn.out]; exact hfn)
              obtain ⟨ba', oa', at', hqa, hatx, hatc⟩ := (I2.out.keep (Keeps.of_below Hb.out)).at_ (i := t) (by rw [Hn.out]; exact htn)
              cases hqa
              obtain ⟨bb, ob, bf, rfl, hbx, hbc⟩ := (J2.out.keep (Keeps.of_below Hb.out)).at_ (i := f) (by rw [Hm.out]; exact hfn)
              obtain ⟨bb', ob', bt, hqb, hbtx, hbtc⟩ := (J2.out.keep (Keeps.of_below Hb.out)).at_ (i := t) (by rw [Hm.out]; exact htn)
              cases hqb
              rw [getD_of hax, getD_of hbx] at q2
              rw [getD_of hatx, getD_of hbtx] at q3
              clear hax hatx hbx hbtx
              go_wp2_with (go_at_call 19; refine Stop.out ?_)
              refine Stop.go (valid_b n ⟨(f : Int), (t : Int), am, er⟩ (by unfold maxLen; simp only; omega) _ _ ?_)
              intro w4 hb4
              rw [Q1.out]
              have d1 := cell_later hb4 hc1; have d2 := cell_later hb4 hc2; have d3 := cell_later hb4 hc3; have d4 := cell_later hb4 hc4
              have e1 := cell_later hb4 hac; have e2 := cell_later hb4 hatc; have e3 := cell_later hb4 hbc; have e4 := cell_later hb4 hbtc
              have P4 := hide (own_below P.out hb4)
              have Hb4 := hide (bseq Hb.out hb4)
              have hqr := run_neq_str er
              clear hc1 hc2 hc3 hc4 hac hatc hbc hbtc P Hb hb4
              go_wp2
              have hd1 : decide ((f : Int) < 0) = false := decide_eq_false (by omega)
              have hd2 : decide ((t : Int) < 0) = false := decide_eq_false (by omega)
              have hd3 : decide ((n : Int) ≤ (f : Int)) = false := decide_eq_false (by omega)
              have hd4 : decide ((n : Int) ≤ (t : Int)) = false := decide_eq_false (by omega)
              have hd5 : decide (af ≤ bf) = false := decide_eq_false (by omega)
              have hd6 : decide (bt ≤ at') = false := decide_eq_false (by omega)
              go_quiet (fail)
              have P5 : Hid ((w4.drewN nq).ownsRow w2.heap.size 3 1 (.slice (some ⟨gx, 0, none⟩) n capx) n ((afterL a (L.take k)).map (Value.int .i64))) := hide P4.out
              have Hb5 := hide (below_drewN' Hb4.out nq)
              replace d3 : (w4.drewN nq).cell? ⟨bl, ol + k * 4 + 2, none⟩ = some (.int .i64 am) := d3
              clear d1 d2 d4 e1 e2 e3 e4 hd1 hd2 hd3 hd4 hd5 hd6 P4 Hb4 hqr q2 q3
              generalize w4.drewN nq = w5 at *
              generalize hcur : afterL a (L.take k) = cur at *
              have Hcur := hide hcur; clear hcur
              obtain ⟨b11, b12⟩ := hbd.out f
              obtain ⟨b21, b22⟩ := hbd.out t
              have hcf := owni_cell P5.out (i := f) hfn
              have e2t : ∀ v, (cur.set f v).getD t 0 = cur.getD t 0 := fun v => by
                rw [List.getD_eq_getElem?_getD, List.getElem?_set, if_neg hne, ← List.getD_eq_getElem?_getD]
              generalize hy1 : cur.getD f 0 = y1 at *
              generalize hy2 : cur.getD t 0 = y2 at *
              have Hy1 := hide hy1; have Hy2 := hide hy2; have E2t := hide e2t
              clear hy1 hy2 e2t
              have hfz := fun j => P5.out.frozenAt j
              go_wp2
              go_still_tail 13, (by kernel_rfl)
              change wpList _ _ _ _ _ w5.drew
              go_wp2_with fail
              have ho2 : Hid ((w5.setCell ⟨gx, f, none⟩ (.int .i64 (y1 - am))).drew.ownsRow w2.heap.size 3 1 (.slice (some ⟨gx, 0, none⟩) n capx) n ((cur.set f (y1 - am)).map (Value.int .i64))) := hide (owni_set P5.out f (y1 - am))
              have hb3 : Hid (Below w2.heap.size w2 (w5.setCell ⟨gx, f, none⟩ (.int .i64 (y1 - am))).drew) := hide ((below_set Hb5.out gx f _ hg1).drew)
              replace d3 : (w5.setCell ⟨gx, f, none⟩ (.int .i64 (y1 - am))).drew.cell? ⟨bl, ol + k * 4 + 2, none⟩ = _ := (World.cell?_setCell_other w5 ⟨gx, f, none⟩ ⟨bl, ol + k * 4 + 2, none⟩ _ (by intro h; injection h; omega)).trans d3
              generalize hw2 : (w5.setCell ⟨gx, f, none⟩ (.int .i64 (y1 - am))).drew = w6 at *
              clear hw2 hcf hfz P5 Hb5
              have hcf := owni_cell ho2.out (i := t) htn
              rw [E2t.out] at hcf
              have hfz := fun j => ho2.out.frozenAt j
              go_still_tail 13, (by kernel_rfl)
              change wpList _ _ _ _ _ w6.drew
              go_wp2_with fail
              have ho3 := hide (owni_set ho2.out t (y2 + am))
              have hb6 := hide (below_set hb3.out gx t (.int .i64 (y2 + am)) hg1)
              go_roundw
              case rel => exact ⟨k + 1, by omega, by go_num, hide (by rw [← hset.out]; exact ho3.out), hide hb6.out.drew⟩
              case measure => simp [intOf]; omega
            · have hkk : k = k0 := by omega
              have etk : L.take k = L := List.take_of_length_le (by rw [Hk0.out]; omega)
              rw [etk, Hfin.out] at P
              have X := hide (IntsAt.of_own P.out)
              have J4 := hide (J2.out.keep (Keeps.of_below Hb.out))
              have B4 := hide (bseq B2.out Hb.out)
              clear etk P Hb
              subst hkk
              go_wp2_with (go_at_call 21; refine Stop.out ?_)
              refine Stop.go (ints_c _ q n n capx cap' b b _ _ Hm.out Hm.out Hl.out Hl.out X.out J4.out ?_)
              rw [decide_eq_true rfl]
              intro w7 d7
              have B7 := hide (B4.out.trans d7.below); clear d7
              go_wp2_with fail
              exact HR.out _ B7.out
        · have HE : Hid (adjL a b ref = []) := hide (adjL_no he)
          rcases adjE_cases a b ref with h1 | h1 | h1 | h1
          · exact absurd h1 he
          all_goals
            have HE2 := hide h1
            clear he h1
            go_enter Try.func9, Try.ntmps9
            go_wp2_with (go_at_call 11; refine Stop.out ?_)
            refine Stop.go (head_c _ _ ?_)
            intro w1 B1
            have I1 := hide (H.out.keep (Keeps.of_below B1)); have J1 := hide (H'.out.keep (Keeps.of_below B1))
            replace B1 := hide B1
            go_wp2_with (go_at_call 17; refine Stop.out ?_)
            refine Stop.go (adj_b p q n m cap cap' a b ref _ _ Hn.out Hm.out Hl.out Hl'.out I1.out J1.out Hr.out ?_)
            intro pl cl w2 hb il
            rw [HE2.out, HE.out]
            have B2 := hide (bseq B1.out hb)
            clear hb il B1
            go_wp2_with fail
            exact HR.out _ B2.out

set_option maxRecDepth 100000 in
theorem settles_holds_lifted (os : Os) (started : os.Started) (H : Type) (enc : TypeId × Value → H) :
    ReturnsInHanded {} Try.checked os 9 .any (Rows.ledgerSettlesSpec.pre6 enc Try.prog Try.f9 Rows.ledgerSettlesRow.domain false) (Rows.ledgerSettlesSpec.post enc Try.prog Try.f9 false true false false) := by
  refine returnsInHanded_of_change (C := Try.checked) Try.own started (by kernel_rfl) Try.func9
    (ChangeSpec.witness6 (enc := enc) (C := Try.checked) false ⟨#[], #[.slice none 0 0, .slice none 0 0, .string ⟨#[]⟩], []⟩ 8 (by kernel_rfl) (by kernel_rfl) (by kernel_rfl) (by kernel_rfl)) ?_
  intro W base args ds gs before hval0 hW hcnd _
  have hval : ∀ (j : Nat) t v, Try.f9.params[j]? = some t → args[j]? = some v → Value.okWide Try.prog W .any base t v := hval0
  have hW' := hW
  obtain ⟨p, q, hA0, hV, rfl, hfz, hnd⟩ := hW
  have hA : DataW.TrodAll enc Try.prog W 0 (fun _ => true) true Try.f9.params.toList args.toList ds p := hA0
  have hA1 := hA
  rw [Try.params9] at hA hval
  obtain ⟨v0, vs0, d0, ds0, p0, q0, hargs, rfl, rfl, h0, r0⟩ := trodAll_cons hA
  obtain ⟨v1, vs1, d1, ds1, p1, q1, rfl, rfl, rfl, h1, r1⟩ := trodAll_cons r0
  obtain ⟨v2, vs2, d2, ds2, p2, q2, rfl, rfl, rfl, h2, r2⟩ := trodAll_cons r1
  obtain ⟨rfl, rfl, rfl⟩ := trodAll_nil r2
  obtain rfl : args = #[v0, v1, v2] := by cases args; simp_all
  obtain ⟨rfl, rfl⟩ := trodVars_none hV
  obtain ⟨a0, n0, c0, l0, rfl, hl0, hm0, hi0, hz0, hw0⟩ := open_ints' Try.underlying23 Try.underlying3 (by kernel_rfl) (hval 0 23 v0 rfl rfl) h0
  obtain ⟨a1, n1, c1, l1, rfl, hl1, hm1, hi1, hz1, hw1⟩ := open_ints' Try.underlying23 Try.underlying3 (by kernel_rfl) (hval 1 23 v1 rfl rfl) h1
  obtain ⟨x2, rfl, _, _, hw2⟩ := Go.ChangeMaps.open_string Try.underlying9 (hval 2 9 v2 rfl rfl) h2
  refine settles_c a0 n0 c0 l0 a1 n1 c1 l1 x2 W _ hl0 hm0 hi0 hz0 hw0 hl1 hm1 hi1 hz1 hw1 hw2 fun W' bel => ?_
  exact ⟨_, rfl, law_post Try.laidOut bel rfl hW' hA1 (by kernel_rfl) rfl Try.underlying4 rfl rfl rfl⟩

theorem settles_holds : Rows.LedgerSettlesSaid :=
  OpenClaim.holds_of_wide 9 Try.f9 rfl rfl rfl rfl rfl rfl rfl ⟨rfl, rfl, rfl, rfl, rfl⟩ rfl rfl rfl rfl rfl (by kernel_rfl) Try.func9 (by kernel_rfl)
    (of_decide_eq_true (by kernel_rfl)) (by unfold Func.isWrapper; rw [if_neg (of_decide_eq_false (by kernel_rfl))]; exact ⟨rfl, rfl⟩)
    (fun os started H enc _ => settles_holds_lifted os started H enc)

end Go.Proofs.Ytajnoocjjkjfmaa
