import Derived.Test.YtkpnbglghindjaaL7
import Derived.Test.YtkpnbglghindjaaF3
set_option linter.unusedVariables false
set_option linter.unusedSimpArgs false
namespace Go.Proofs.Ytkpnbglghindjaa
open Go.ChangeShapes Go.WideShapes Go.ChangeAt Go.RowKit Math

theorem getD_payAll (M : Int) (hM : 0 ≤ M) (ts : List Tr) : ∀ (b : List Int), Bnd M b → (∀ t ∈ ts, fineB b.length t = true) → Bnd (M + 2000000 * (ts.length : Int)) (payAll b ts) := by
  induction ts generalizing M with
  | nil => intro b hb _ x hx; have := hb x hx; simp; omega
  | cons t ts ih =>
    intro b hb h
    have h1 := fine_true (h t (by simp))
    have hb' : Bnd (M + 2000000) (payOne b t) := fun x hx => by
      obtain ⟨i, _, rfl⟩ := mem_getD hx
      rw [getD_payOne b t (by omega) (by omega)]
      have := hb.at_ hM i
      split <;> split <;> omega
    have := ih (M + 2000000) (by omega) (payOne b t) hb' (fun t' ht' => by rw [length_payOne]; exact h t' (by simp [ht']))
    intro x hx
    have := this x hx
    simp only [List.length_cons]
    omega
theorem payRes_fine (b : List Int) (l : List Tr) (hb : Bnd 1000000000000 b) (hl : l.length ≤ 1000) (h : ∀ t ∈ l, fineB b.length t = true) : payRes b l = payAll b l := by
  refine payRes_ok (by omega) ?_ ?_
  · rw [List.any_eq_false]
    intro x hx
    have := hb x hx
    unfold wrongB maxB
    simp; omega
  · rw [List.any_eq_false]
    intro t ht
    have := fine_true (h t ht)
    rw [bad_of (by omega)]
    simp

theorem step_app {P : Program} {w : World} {ops : Array Oper} {o : Oper} {a : Act} {K : Act → World → Prop} {Q : Exit → Act → World → Prop} {E : Prop} (hgd : o.guard = none) (s x : Operand) (t : TypeId)
    (ho : o.op = .call { callee := .builtin .append, args := #[s, x], argTypes := #[t, t] })
    (base : Nat) (e : TypeId) (i : TypeInfo) (z : Value) (size bytes : Nat) (ht : P.underlying t = some (.slice e)) (hi : P.info? e = some i) (hz : i.zero = some z)
    (hsize : i.size = size) (hby : i.bytes = bytes) (hzs : z.cells.size = size) (hsz : 0 < size)
    (v : Value) (n : Nat) (xs : List Value) (hv : a.eval s = v) (hown : w.ownsRow base e size v n xs) (p : Option Addr) (m c : Nat) (news : List Value) (hx : a.eval x = .slice p m c) (hs : Src w p m size news)
    (h1 : ∀ u ∈ news, u.oneCell' = true) (h63 : n + m ≤ maxLen) (hbytes : (n + m) * bytes ≤ 140737488355328) (hbase : base ≤ w.heap.size)
    (h : ∀ v' w', w'.ownsRow base e size v' (n + m) (xs ++ news) → w.grownBy w' v.ownBlock → K (a.put o.dst v') w') : if Region.wanted o (yielded ops a.tmps) = true then Oper.wp P o a w K Q else E := by
  rw [if_pos (by simp [Region.wanted, hgd])]
  exact wp_app w s x t ho base e i z size bytes ht hi hz hsize hby hzs hsz v n xs hv hown p m c news hx hs h1 h63 hbytes hbase h

set_option maxRecDepth 100000 in
set_option maxHeartbeats 2000000 in
theorem sums_c (p : Option Addr) (n cap : Nat) (b : List Int) (q : Option Addr) (m cap' : Nat) (l : List Tr) (f : Int) (w : World) (R) (hn : b.length = n) (hl : n ≤ maxLen) (h : IntsAt .i64 w p b) (hz : p = none → n = 0) (_hw : ∀ x ∈ b, (Lit.int .i64 x).wf = true)
    (hm : l.length = m) (hlm : m ≤ maxLen) (ht : TrsAt w q l) (_hz' : q = none → m = 0) (hcap : m ≤ cap' ∧ cap' ≤ maxLen) (hf : (Lit.int .u8 f).wf = true)
    (hR : ∀ w', Below w.heap.size w w' → R (.returned (.bool true)) w') : Calls Try.prog 7 #[.slice p n cap, .slice q m cap', .int .u8 f] w R := by
  have Hn := hide hn; have Hm := hide hm; have HR := hide hR; have H := hide h; have T := hide ht; have Hz := hide hz
  obtain ⟨hf0, hf1⟩ := bounds_u8 hf
  obtain ⟨j0, hj0, hj9, hj1, hj2⟩ := info_parts info_tr
  clear hn hm hR h ht hz _hw hf
  unfold maxLen at hl hlm hcap
  by_cases hbig : n ≤ 60 ∧ m ≤ 60
  · obtain ⟨hn60, hm60⟩ := hbig
    cases hsm : b.all smallB with
    | false =>
      have Hsm := hide hsm
      clear hsm
      go_enter Try.func7, Try.ntmps7
      go_wp2_with (go_at_call 10; refine Stop.out ?_)
      refine Stop.go (head_c _ _ ?_)
      intro w1 B1
      have H1 := hide (H.out.keep (Keeps.of_below B1))
      replace B1 := hide B1
      go_wp2_with (go_at_call 18; refine Stop.out ?_)
      refine Stop.go (small_c p n cap b _ _ Hn.out (by unfold maxLen; omega) H1.out ?_)
      intro w2 d2
      rw [Hsm.out]
      have B2 := hide (B1.out.trans d2.below)
      clear d2
      go_wp2_with fail
      exact HR.out _ B2.out
    | true =>
      cases hfi : l.all (fineB n) with
      | false =>
        have Hsm := hide hsm; have Hfi := hide hfi
        clear hsm hfi
        go_enter Try.func7, Try.ntmps7
        go_wp2_with (go_at_call 10; refine Stop.out ?_)
        refine Stop.go (head_c _ _ ?_)
        intro w1 B1
        have H1 := hide (H.out.keep (Keeps.of_below B1)); have T1 := hide (T.out.keep (Keeps.of_below B1))
        replace B1 := hide B1
        go_wp2_with (go_at_call 18; refine Stop.out ?_)
        refine Stop.go (small_c p n cap b _ _ Hn.out (by unfold maxLen; omega) H1.out ?_)
        intro w2 d2
        rw [Hsm.out]
        have T2 := hide (T1.out.keep d2.keeps)
        have B2 := hide (B1.out.trans d2.below)
        clear d2
        go_wp2_with (go_at_call 19; refine Stop.out ?_)
        refine Stop.go (fine_c q n m cap' l _ _ Hm.out (by unfold maxLen; omega) (by unfold maxLen; omega) T2.out ?_)
        intro w3 d3
        rw [Hfi.out]
        have B3 := hide (B2.out.trans d3.below)
        clear d3
        go_wp2_with fail
        exact HR.out _ B3.out
      | true =>
        have Hsm := hide hsm; have Hfi := hide hfi
        obtain ⟨k, hk⟩ : ∃ k : Nat, f % (m + 1) = k := ⟨(f % (m + 1)).toNat, by have := Int.emod_nonneg f (show ((m : Int) + 1) ≠ 0 by omega); omega⟩
        have hkm : k ≤ m := by have := Int.emod_lt_of_pos f (show (0 : Int) < m + 1 by omega); omega
        have Hk := hide hk
        clear hsm hfi hk
        have Hpx := hide (payRes_fine b l (fun x hx => by have := List.all_eq_true.1 Hsm.out x hx; unfold smallB at this; simp at this; omega) (by rw [Hm.out]; omega) (fun t ht => by rw [Hn.out]; exact List.all_eq_true.1 Hfi.out t ht))
        go_enter Try.func7, Try.ntmps7
        go_wp2_with (go_at_call 10; refine Stop.out ?_)
        refine Stop.go (head_c _ _ ?_)
        intro w1 B1
        have H1 := hide (H.out.keep (Keeps.of_below B1)); have T1 := hide (T.out.keep (Keeps.of_below B1))
        replace B1 := hide B1
        go_wp2_with (go_at_call 18; refine Stop.out ?_)
        refine Stop.go (small_c p n cap b _ _ Hn.out (by unfold maxLen; omega) H1.out ?_)
        intro w2 d2
        rw [Hsm.out]
        have H2 := hide (H1.out.keep d2.keeps); have T2 := hide (T1.out.keep d2.keeps)
        have B2 := hide (B1.out.trans d2.below)
        clear d2
        go_wp2_with (go_at_call 19; refine Stop.out ?_)
        refine Stop.go (fine_c q n m cap' l _ _ Hm.out (by unfold maxLen; omega) (by unfold maxLen; omega) T2.out ?_)
        intro w3 d3
        rw [Hfi.out]
        have H3 := hide (H2.out.keep d3.keeps); have T3 := hide (T2.out.keep d3.keeps)
        have B3 := hide (B2.out.trans d3.below)
        clear d3
        go_wp2_with (go_at_call 15; refine Stop.out ?_)
        refine Stop.go (Pay_c p q n m cap cap' b l _ _ Hn.out Hm.out (by omega) (by unfold maxLen; omega) H3.out Hz.out T3.out ?_)
        intro v4 w4 b4 o4
        rw [Hpx.out] at o4
        have e4 : (payAll b l).length = n := by rw [length_payAll]; exact Hn.out
        unfold OwnI at o4
        rw [e4] at o4
        obtain ⟨p4, cap4, rfl, hp4⟩ := own_val o4
        have I4 := hide (IntsAt.of_own o4)
        have H4 := hide (H3.out.keep (Keeps.of_below b4)); have T4 := hide (T3.out.keep (Keeps.of_below b4))
        have B4 := hide (bseq B3.out b4)
        have Hp4 := hide hp4
        clear b4 o4 e4 hp4
        have hmod := Hk.out
        go_wp2_with fail
        rw [Hk.out]
        clear hmod
        have hs1 := fun w => run_slice_to (P := Try.prog) w 23 36 Try.underlying23 j0 hj0 q m cap' k (by omega)
        have hs2 := fun w => run_slice_from (P := Try.prog) w 23 36 Try.underlying23 j0 hj0 3 hj1 q m cap' k hkm
        obtain ⟨q2, hq2⟩ : ∃ q2, (if cap' = k then q else q.map (·.add (k * 3))) = q2 := ⟨_, rfl⟩
        rw [hq2] at hs2
        have Q2 := hide (show TrsAt w4 q2 (l.drop k) by rw [← hq2]; exact T4.out.drop (by rw [Hm.out]; exact hcap.1))
        clear hq2
        have Hbin := hide (getD_payAll 1000000 (by decide) (l.take k) b (fun x hx => by have := List.all_eq_true.1 Hsm.out x hx; unfold smallB at this; simp at this; omega) (fun t ht => by rw [Hn.out]; exact List.all_eq_true.1 Hfi.out t (List.mem_of_mem_take ht)))
        have Hin := hide (payRes_fine b (l.take k) (fun x hx => by have := List.all_eq_true.1 Hsm.out x hx; unfold smallB at this; simp at this; omega) (by rw [List.length_take, Hm.out]; omega) (fun t ht => by rw [Hn.out]; exact List.all_eq_true.1 Hfi.out t (List.mem_of_mem_take ht)))
        have Hlt := hide (show (l.take k).length = k by rw [List.length_take, Hm.out]; omega)
        have Hld := hide (show (l.drop k).length = m - k by rw [List.length_drop, Hm.out])
        have Hout := hide (show payRes (payAll b (l.take k)) (l.drop k) = payAll b l by
          rw [payRes_fine _ _ (fun x hx => by have h1 := Hbin.out x hx; have h2 := Hlt.out; omega) (by rw [Hld.out]; omega) (fun t ht => by rw [length_payAll, Hn.out]; exact List.all_eq_true.1 Hfi.out t (List.mem_of_mem_drop ht)), ← payAll_append, List.take_append_drop])
        replace H4 := hide (H4.out.keep (Keeps.drew w4)); replace T4 := hide (T4.out.keep (Keeps.drew w4)); replace Q2 := hide (Q2.out.keep (Keeps.drew w4))
        replace I4 := hide (I4.out.keep (Keeps.drew w4)); replace B4 := hide B4.out.drew
        go_region_with (first
          | (go_at_call_of 15 (Value.slice p n cap)
             refine Pay_c p q n k cap cap' b (l.take k) _ _ Hn.out Hlt.out (by omega) (by unfold maxLen; omega) H4.out Hz.out (T4.out.take k) ?_
             intro v5 w5 b5 o5
             obtain ⟨p5, cap5, rfl, hp5⟩ := own_val o5
             rw [Hin.out] at o5 hp5 ⊢
             have I5 := hide (IntsAt.of_own o5)
             have Q5 := hide (Q2.out.keep (Keeps.of_below b5))
             have P5 := hide (I4.out.keep (Keeps.of_below b5))
             have B5 := hide (bseq B4.out b5)
             have L5 := hide (show (payAll b (l.take k)).length = n by rw [length_payAll]; exact Hn.out)
             rw [L5.out] at hp5 ⊢
             have Hp5 := hide hp5
             have H5 := hide (H4.out.keep (Keeps.of_below b5))
             have T5 := hide (T4.out.keep (Keeps.of_below b5))
             clear b5 o5 hp5)
          | (go_at_call_of 15 (Value.slice p5 n cap5)
             refine Pay_c p5 q2 n (m - k) cap5 (cap' - k) (payAll b (l.take k)) (l.drop k) _ _ L5.out Hld.out (by omega) (by unfold maxLen; omega) I5.out Hp5.out Q5.out ?_
             intro v6 w6 b6 o6
             obtain ⟨p6, cap6, rfl, hp6⟩ := own_val o6
             rw [Hout.out] at o6 ⊢
             have I6 := hide (IntsAt.of_own o6)
             have P6 := hide (P5.out.keep (Keeps.of_below b6))
             have B6 := hide (bseq B5.out b6)
             have H6 := hide (H5.out.keep (Keeps.of_below b6))
             have T6 := hide (T5.out.keep (Keeps.of_below b6))
             have L6 := hide (show (payAll b l).length = n by rw [length_payAll]; exact Hn.out)
             rw [L6.out]
             clear b6 o6 hp6))
        go_wp2_with fail
        go_loopw [11, 12] (fun v i wr => ∃ c : Nat, c ≤ m ∧ i = .int .i64 ((c : Int) - 1) ∧ Hid (wr.ownsRow w6.heap.size 36 3 v (m - c) ((((l.drop c).map backT).reverse).flatMap trCells)) ∧ Hid (Below w6.heap.size w6 wr)) (fun _ i _ => (intOf i + 1).toNat)
        case atStart => exact ⟨m, Nat.le_refl _, rfl, hide (by rw [Nat.sub_self, List.drop_eq_nil_of_le (by rw [Hm.out]; exact Nat.le_refl _)]; exact World.ownsRow_nil ..), hide (Below.refl _ _)⟩
        case round =>
          obtain ⟨c, hc, rfl, Ho, Hb⟩ := hrel
          rcases c with _ | c
          · have Hfin := Ho
            clear Ho
            rw [List.drop_zero, Nat.sub_zero] at Hfin
            obtain ⟨p7, cap7, hv7, hp7⟩ := own_val Hfin.out
            subst hv7
            have S7 := hide (TrsAt.of_own Hfin.out)
            have B7 := hide (bseq B6.out Hb.out)
            have P7 := hide (P6.out.keep (Keeps.of_below Hb.out))
            have J7 := hide (I6.out.keep (Keeps.of_below Hb.out))
            have H7 := hide (H6.out.keep (Keeps.of_below Hb.out))
            have hbl : ∀ t ∈ l, t.fr.toNat < b.length ∧ t.to_.toNat < b.length := fun t ht => by
              have := fine_true (List.all_eq_true.1 Hfi.out t ht)
              have h1 := Hn.out
              omega
            have Hsum := hide (sum_payAll l b hbl)
            have hbs : Bnd 1000000 b := fun x hx => by have := List.all_eq_true.1 Hsm.out x hx; unfold smallB at this; simp at this; omega
            have Hba := hide (getD_payAll 1000000 (by decide) l b hbs (fun t ht => by rw [Hn.out]; exact List.all_eq_true.1 Hfi.out t ht))
            have Hlb := hide (show ((l.map backT).reverse).length = m by rw [List.length_reverse, List.length_map, Hm.out])
            have Hback := hide (show payRes (payAll b l) ((l.map backT).reverse) = b by
              rw [payRes_fine _ _ (fun x hx => by have h1 := Hba.out x hx; have h2 := Hm.out; omega) (by rw [Hlb.out]; omega) (fun t ht => by
                rw [List.mem_reverse] at ht
                obtain ⟨t0, ht0, rfl⟩ := List.mem_map.1 ht
                have := fine_true (List.all_eq_true.1 Hfi.out t0 ht0)
                rw [length_payAll, Hn.out]
                unfold fineB smallB backT
                simp
                omega), payAll_back l b hbl])
            have Hbd1 := hide (show Bd 1000000000000 (payAll b l) from fun x hx => by have h1 := Hba.out x hx; have h2 := Hm.out; omega)
            have Hbd2 := hide (show Bd 1000000000000 b from fun x hx => by have h1 := hbs x hx; omega)
            clear hbl hbs
            have hnn : ((n : Int) == n) = true := by simp
            obtain ⟨sm, hsm⟩ : ∃ sm, b.sum = sm := ⟨_, rfl⟩
            have Hsm2 := hide hsm
            clear hsm
            have hss : (sm == sm) = true := by simp
            go_wp2_with (go_at_call 20; refine Stop.out ?_)
            refine Stop.go (total_c p4 n cap4 (payAll b l) _ _ L6.out (by omega) P7.out Hbd1.out ?_)
            rw [Hsum.out, Hsm2.out]
            go_wp2_with (go_at_call 20; refine Stop.out ?_)
            refine Stop.go (total_c p n cap b _ _ Hn.out (by omega) H7.out Hbd2.out ?_)
            rw [Hsm2.out]
            go_wp2_with (go_at_call 14; refine Stop.out ?_)
            refine Stop.go (ints_c p4 p6 n n cap4 cap6 (payAll b l) (payAll b l) _ _ L6.out L6.out (by unfold maxLen; omega) (by unfold maxLen; omega) P7.out J7.out ?_)
            intro w8 d8
            rw [decide_eq_true rfl]
            have P8 := hide (P7.out.keep d8.keeps)
            have H8 := hide (H7.out.keep d8.keeps)
            have S8 := hide (S7.out.keep d8.keeps)
            have B8 := hide (B7.out.trans d8.below)
            clear d8
            go_wp2_with (go_at_call 15; refine Stop.out ?_)
            refine Stop.go (Pay_c p4 p7 n m cap4 cap7 (payAll b l) ((l.map backT).reverse) _ _ L6.out Hlb.out (by omega) (by unfold maxLen; omega) P8.out Hp4.out S8.out ?_)
            intro v9 w9 b9 o9
            rw [Hback.out] at o9
            obtain ⟨p9, cap9, rfl, _⟩ := own_val o9
            rw [Hn.out]
            have I9 := hide (IntsAt.of_own o9)
            have H9 := hide (H8.out.keep (Keeps.of_below b9))
            have B9 := hide (bseq B8.out b9)
            clear b9 o9
            go_wp2_with (go_at_call 14; refine Stop.out ?_)
            refine Stop.go (ints_c p9 p n n cap9 cap b b _ _ Hn.out Hn.out (by unfold maxLen; omega) (by unfold maxLen; omega) I9.out H9.out ?_)
            intro w10 d10
            rw [decide_eq_true rfl]
            have B10 := hide (B9.out.trans d10.below)
            clear d10
            go_wp2_with fail
            exact HR.out _ B10.out
          · rw [show (((c + 1 : Nat) : Int) - 1) = (c : Int) by omega]
            obtain ⟨b', o, x, rfl, hx, hk1, hk2, hk3⟩ := (T6.out.keep (Keeps.of_below Hb.out)).at_ (i := c) (by rw [Hm.out]; omega)
            have Hx := hide hx; clear hx
            obtain ⟨xf, xt, xa⟩ := x
            simp only at hk1 hk2 hk3
            have hcm : c < m := by omega
            go_wp2_with fail
            go_region_law (refine step_app rfl (.tmp 60) (.tmp 77) 23 rfl w6.heap.size 36 j0 _ 3 24 Try.underlying23 hj0 hj9 hj1 hj2 rfl (by omega) u11 (m - (c + 1)) ((((l.drop (c + 1)).map backT).reverse).flatMap trCells) rfl (World.ownsRow.alloc (w := wr.drew) Ho.out _) (some ⟨wr.heap.size, 0, none⟩) 1 1 (trCells ⟨xt, xf, xa⟩) rfl (trCells_src (t := ⟨xt, xf, xa⟩) (cell_new (w := wr.drew) (i := 0)) (cell_new (w := wr.drew) (i := 1)) (cell_new (w := wr.drew) (i := 2))) (trCells_one _) (by unfold maxLen; omega) (by omega) (by simp; have := Hb.out.size; omega) ?_; intro v1 w7 hown1 hg1)
            all_goals
              have h0 := World.grownBy.trans (World.grownBy_alloc wr.drew _ _) hg1
              have hg1' : wr.grownBy w7 u11.ownBlock := ⟨h0.os, h0.tape, h0.output, h0.size, h0.block⟩
              clear h0
              have Hb1' := hide (show Below w6.heap.size w6 w7 from Hb.out.grown hg1' Hb.out.size (fun k hk => (Ho.out.lt k hk).1))
              have Hown1 := hide hown1
              clear hown1 hg1 hg1' hk1 hk2 hk3
              go_wp2_with fail
              go_roundw
              case rel =>
                refine ⟨c, by omega, by first | rfl | go_num, hide ?_, Hb1'⟩
                have := Hown1.out
                have e : l.drop c = ⟨xf, xt, xa⟩ :: l.drop (c + 1) := by
                  have h1 := (List.getElem?_eq_some_iff.1 Hx.out)
                  rw [← h1.2]
                  exact List.drop_eq_getElem_cons h1.1
                rw [e, List.map_cons, List.reverse_cons, List.flatMap_append, show m - c = m - (c + 1) + 1 by omega]
                simpa [backT] using this
              case measure => first | (simp [intOf]; done) | (simp [intOf]; omega)
  · rcases Nat.lt_or_ge 60 n with h1 | h1
    · clear hbig
      go_enter Try.func7, Try.ntmps7
      go_wp2_with (go_at_call 10; refine Stop.out ?_)
      refine Stop.go (head_c _ _ ?_)
      intro w1 B1
      replace B1 := hide B1
      go_wp2_with fail
      exact HR.out _ B1.out
    · have h2 : 60 < m := by omega
      clear hbig
      go_enter Try.func7, Try.ntmps7
      go_wp2_with (go_at_call 10; refine Stop.out ?_)
      refine Stop.go (head_c _ _ ?_)
      intro w1 B1
      replace B1 := hide B1
      go_wp2_with fail
      exact HR.out _ B1.out
end Go.Proofs.Ytkpnbglghindjaa
