/- LedgerSums: balances sum to 0, and those of two lists are the sums. -/
import Derived.Test.YtajnoocjjkjfmaaP5
import Derived.Test.YtajnoocjjkjfmaaF2
set_option linter.unusedVariables false
set_option linter.unusedSimpArgs false
namespace Go.Proofs.Ytajnoocjjkjfmaa
open Go.ChangeShapes Go.WideShapes Go.ChangeAt Go.RowKit

theorem Src.ents {w : World} {p : Option Addr} {l : List Ent} {n : Nat} (hn : l.length = n) (h : EntsAt w p l) : Src w p n 4 (l.flatMap entCells) := by
  refine ⟨by rw [flat_len (k := 4) (fun _ => rfl), hn], fun h0 => ?_⟩
  obtain ⟨b, o, rfl, hc⟩ := h (by omega)
  refine ⟨_, rfl, fun j u hu => ?_⟩
  have hj := (List.getElem?_eq_some_iff.1 hu).1
  rw [flat_len (k := 4) (fun _ => rfl)] at hj
  have hi : j / 4 < l.length := by omega
  have hx : l[j / 4]? = some l[j / 4] := List.getElem?_eq_getElem hi
  obtain ⟨c1, c2, c3, c4⟩ := hc _ _ hx
  have h4 : j % 4 < 4 := Nat.mod_lt _ (by decide)
  have e := flat_at (enc := entCells) (k := 4) (fun _ => rfl) l (j / 4) (j % 4) _ hx h4
  have ej : j / 4 * 4 + j % 4 = j := by omega
  rw [ej, hu] at e
  rw [Addr.add_lit, show o + j = o + j / 4 * 4 + j % 4 by omega]
  have hcase : j % 4 = 0 ∨ j % 4 = 1 ∨ j % 4 = 2 ∨ j % 4 = 3 := by omega
  rcases hcase with h | h | h | h <;> rw [h] at e ⊢ <;> simp [entCells] at e <;> subst e
  · exact c1
  · exact c2
  · exact c3
  · exact c4
theorem ents_oneCell (l : List Ent) : ∀ u ∈ l.flatMap entCells, u.oneCell' = true := by
  intro u hu
  obtain ⟨x, _, hu⟩ := List.mem_flatMap.1 hu
  exact ent_one x u hu
theorem few_len {l : List Ent} {m : Int} (h : fewE l m = true) : (l.length : Int) ≤ m := by
  unfold fewE at h
  rw [Bool.and_eq_true, decide_eq_true_eq] at h
  exact h.2
theorem EWf.append {l m : List Ent} (h : EWf l) (k : EWf m) : EWf (l ++ m) := fun e he => by
  rcases List.mem_append.1 he with h1 | h1
  · exact h e h1
  · exact k e h1
theorem EWf.reverse {l : List Ent} (h : EWf l) : EWf l.reverse := fun e he => h e (by simpa using he)
theorem drop_rev {l : List Ent} {c : Nat} {x : Ent} (hx : l[c]? = some x) : (l.drop c).reverse = (l.drop (c + 1)).reverse ++ [x] := by
  have h := List.getElem?_eq_some_iff.1 hx
  obtain ⟨h1, h2⟩ := h
  rw [List.drop_eq_getElem_cons h1, h2, List.reverse_cons]
theorem Bd.net {n : Int} {l : List Ent} (h : l.all (validE n) = true) (hl : l.length ≤ 1000) (N : Nat) : Bd 1000000000000000 ((List.range N).map fun (i : Nat) => netF l (i : Int)) := fun x hx => by
  obtain ⟨i, _, rfl⟩ := List.mem_map.1 hx
  have := netF_bd h (i : Int)
  omega

theorem lit_own (w : World) : (w.alloc (.cells #[] 34)).ownsRow w.heap.size 34 4 (.slice (some ⟨w.heap.size, 0, none⟩) 0 0) 0 [] := World.ownsRow_lit _ #[] 0 (Nat.le_refl _) (by decide) rfl
theorem app_below {w w1 : World} {v : Value} {e size n : Nat} {xs : List Value} {o : Obj} (h0 : (w.alloc o).ownsRow w.heap.size e size v n xs) (hg : (w.alloc o).grownBy w1 v.ownBlock) : Below w.heap.size w w1 :=
  (balloc (Below.refl _ _) _).grown hg (by simp) (fun k hk => (h0.lt k hk).1)
theorem app_below2 {w w1 w2 : World} {v : Value} {e size n : Nat} {xs : List Value} (hb : Below w.heap.size w w1) (h0 : w1.ownsRow w.heap.size e size v n xs) (hg : w1.grownBy w2 v.ownBlock) : Below w.heap.size w w2 :=
  hb.grown hg hb.size (fun k hk => (h0.lt k hk).1)
theorem own_app {w : World} {base : Nat} {v : Value} {n m : Nat} {a b : List Ent} (h : w.ownsRow base 34 4 v (n + m) (a.flatMap entCells ++ b.flatMap entCells)) (hn : a.length = n) (hm : b.length = m) : w.ownsRow base 34 4 v (n + m) ((a ++ b).flatMap entCells) := by
  rw [List.flatMap_append]; exact h

set_option maxRecDepth 100000 in
set_option maxHeartbeats 8000000 in
theorem sums_c (acc : Int) (p : Option Addr) (n cap : Nat) (a : List Ent) (q : Option Addr) (m cap' : Nat) (b : List Ent) (w : World) (R) (hw0 : (Lit.int .i64 acc).wf = true)
    (hn : a.length = n) (hl : n ≤ maxLen) (h : EntsAt w p a) (_hz : p = none → n = 0) (hwa : EWf a) (hm : b.length = m) (hl' : m ≤ maxLen) (h' : EntsAt w q b) (_hz' : q = none → m = 0) (hwb : EWf b)
    (hR : ∀ w', Below w.heap.size w w' → R (.returned (.bool true)) w') : Calls Try.prog 4 #[.int .i64 acc, .slice p n cap, .slice q m cap'] w R := by
  have Hn := hide hn; have HR := hide hR; have EA := hide h; have Hl := hide hl; have Hm := hide hm; have EB := hide h'; have Hl' := hide hl'; have WA := hide hwa; have WB := hide hwb; have Hw0 := hide hw0
  clear hn hR h _hz hwa hm h' _hz' hwb hw0
  unfold maxLen at hl hl'
  cases hfa : fewE a 100 with
  | false =>
    have Hf := hide hfa; clear hfa
    go_enter Try.func4, Try.ntmps4
    go_wp2_with (go_at_call 11; refine Stop.out ?_)
    refine Stop.go (head_c _ _ ?_)
    intro w1 B1
    have E1 := hide (EA.out.keep (Keeps.of_below B1))
    replace B1 := hide B1
    go_wp2_with (go_at_call 12; refine Stop.out ?_)
    refine Stop.go (few_c p n cap a 100 _ _ Hn.out Hl.out WA.out E1.out ?_)
    rw [Hf.out]
    go_wp2_with fail
    exact HR.out _ B1.out
  | true =>
    have Hfa := hide hfa
    have hna := few_len hfa
    rw [Hn.out] at hna
    have hna2 : n ≤ 100 := by omega
    clear hfa hna
    cases hfb : fewE b 100 with
    | false =>
      have Hf := hide hfb; clear hfb
      go_enter Try.func4, Try.ntmps4
      go_wp2_with (go_at_call 11; refine Stop.out ?_)
      refine Stop.go (head_c _ _ ?_)
      intro w1 B1
      have E1 := hide (EA.out.keep (Keeps.of_below B1)); have F1 := hide (EB.out.keep (Keeps.of_below B1))
      replace B1 := hide B1
      go_wp2_with (go_at_call 12; refine Stop.out ?_)
      refine Stop.go (few_c p n cap a 100 _ _ Hn.out Hl.out WA.out E1.out ?_)
      rw [Hfa.out]
      go_wp2_with (go_at_call 12; refine Stop.out ?_)
      refine Stop.go (few_c q m cap' b 100 _ _ Hm.out Hl'.out WB.out F1.out ?_)
      rw [Hf.out]
      go_wp2_with fail
      exact HR.out _ B1.out
    | true =>
      have Hfb := hide hfb
      have hmb := few_len hfb
      rw [Hm.out] at hmb
      have hmb2 : m ≤ 100 := by omega
      clear hfb hmb
      obtain ⟨i0, hi, hz0, hz1, hz2⟩ := info_parts Try.info34
      go_enter Try.func4, Try.ntmps4
      go_wp2_with (go_at_call 11; refine Stop.out ?_)
      refine Stop.go (head_c _ _ ?_)
      intro w1 B1
      have E1 := hide (EA.out.keep (Keeps.of_below B1)); have F1 := hide (EB.out.keep (Keeps.of_below B1))
      replace B1 := hide B1
      go_wp2_with (go_at_call 12; refine Stop.out ?_)
      refine Stop.go (few_c p n cap a 100 _ _ Hn.out Hl.out WA.out E1.out ?_)
      rw [Hfa.out]
      go_wp2_with (go_at_call 12; refine Stop.out ?_)
      refine Stop.go (few_c q m cap' b 100 _ _ Hm.out Hl'.out WB.out F1.out ?_)
      rw [Hfb.out]
      go_wp2_with (go_at_call 13; refine Stop.out ?_)
      refine Stop.go (bal_b acc p n cap a _ _ Hn.out Hl.out E1.out WA.out Hw0.out ?_)
      intro px cx w2 hb ix
      have B2 := hide (bseq B1.out hb); have E2 := hide (E1.out.keep (Keeps.of_below hb)); have F2 := hide (F1.out.keep (Keeps.of_below hb)); have X2 := hide ix
      clear hb ix B1 E1 F1
      go_wp2_with (go_at_call 13; refine Stop.out ?_)
      refine Stop.go (bal_b acc q m cap' b _ _ Hm.out Hl'.out F2.out WB.out Hw0.out ?_)
      intro py cy w3 hb iy
      have B3 := hide (bseq B2.out hb); have E3 := hide (E2.out.keep (Keeps.of_below hb)); have F3 := hide (F2.out.keep (Keeps.of_below hb)); have X3 := hide (X2.out.keep (Keeps.of_below hb)); have Y3 := hide iy
      clear hb iy B2 E2 F2 X2
      rcases balE_le (n := acc) (l := a) (by rw [Hn.out]; omega) with ⟨oka, ea⟩ | ⟨_, ea, la⟩
      · rcases balE_le (n := acc) (l := b) (by rw [Hm.out]; omega) with ⟨okb, eb⟩ | ⟨_, eb, lb⟩
        · have oab := balE_le (n := acc) (l := a ++ b) (by rw [List.length_append, Hn.out, Hm.out]; omega)
          have oba := balE_le (n := acc) (l := b ++ a) (by rw [List.length_append, Hn.out, Hm.out]; omega)
          have orv := balE_le (n := acc) (l := a.reverse) (by rw [List.length_reverse, Hn.out]; omega)
          rw [balOk_append oka okb] at oab; rw [balOk_append okb oka] at oba; rw [balOk_reverse oka] at orv
          simp at oab oba orv
          obtain ⟨ka, kall, _⟩ := balE_zero ea
          obtain ⟨_, kallab, _⟩ := balE_zero oab
          have hN := inB_true ka
          obtain ⟨N, rfl⟩ := Int.eq_ofNat_of_zero_le (show 0 ≤ acc by omega)
          have Lx := hide (balL_ok ea); have Ly := hide (balL_ok eb); have Lz := hide (balL_ok oab); have Lw := hide (balL_ok oba); have Lv := hide (balL_ok orv)
          rw [Int.toNat_natCast] at Lx Ly Lz Lw Lv
          rw [ea, eb, Lx.out, Ly.out]
          rw [Lx.out] at X3
          rw [Ly.out] at Y3
          have e1 : (List.range N).map (fun (i : Nat) => netF (b ++ a) (i : Int)) = (List.range N).map fun (i : Nat) => netF (a ++ b) (i : Int) := List.map_congr_left fun i _ => by rw [netF_append, netF_append]; omega
          have e2 : (List.range N).map (fun (i : Nat) => netF a.reverse (i : Int)) = (List.range N).map fun (i : Nat) => netF a (i : Int) := List.map_congr_left fun i _ => netF_reverse _ _
          rw [e1] at Lw
          rw [e2] at Lv
          have Oab := hide oab; have Oba := hide oba; have Orv := hide orv
          have S1 := hide (net_sum N a kall); have S2 := hide (net_sum N (a ++ b) kallab)
          have D1 := hide (Bd.net kall (by rw [Hn.out]; omega) N); have D2 := hide (Bd.net kallab (by rw [List.length_append, Hn.out, Hm.out]; omega) N)
          have hlr : ∀ F : Nat → Int, ((List.range N).map F).length = N := fun F => by simp
          have HLR := hide hlr
          simp only [hlr]
          have hN1 : 1 ≤ N := by omega
          have hN2 : N ≤ 100 := by omega
          clear oka ea okb eb oab oba orv ka kall kallab hN e1 e2 hlr
          have Bz := B3.out.size
          go_wp2_with (at_builtin; refine Stop.out ?_)
          refine Stop.go ?_
          refine wpList_app _ rfl (.tmp 65) (.tmp 66) 22 rfl w3.heap.size 34 i0 _ 4 40 Try.underlying22 hi hz0 hz1 hz2 rfl (by omega) _ 0 [] rfl (World.ownsRow_lit _ #[] 0 (Nat.le_refl _) (by decide) rfl) p n cap (a.flatMap entCells) rfl ((Src.ents Hn.out E3.out).keep (Keeps.alloc _ _)) (ents_oneCell _) (by unfold maxLen; omega) (by omega) (by simp) ?_
          intro v4 w4a o4 g4
          rw [Nat.zero_add, List.nil_append] at o4
          have b4 := app_below (lit_own w3) g4
          obtain ⟨vp4, vc4, rfl, _⟩ := own_val o4
          have bh4 := hide b4; have oh4 := hide o4
          clear g4 b4 o4
          have bz4 := bh4.out.size
          go_wp2_with (at_builtin; refine Stop.out ?_)
          refine Stop.go ?_
          refine wpList_app _ rfl (.tmp 67) (.tmp 68) 22 rfl w3.heap.size 34 i0 _ 4 40 Try.underlying22 hi hz0 hz1 hz2 rfl (by omega) (.slice vp4 n vc4) n (a.flatMap entCells) rfl oh4.out q m cap' (b.flatMap entCells) rfl (Src.ents Hm.out (F3.out.keep (Keeps.of_below bh4.out))) (ents_oneCell _) (by unfold maxLen; omega) (by omega) (by omega) ?_
          intro v4' w4b o4' g4'
          have b4' := app_below2 bh4.out oh4.out g4'
          have o4'' := own_app o4' Hn.out Hm.out
          obtain ⟨vq4, vd4, rfl, _⟩ := own_val o4''
          have EC4 := hide (EntsAt.of_own o4'')
          have BC4 := hide b4'
          have EL4 := hide (show (a ++ b).length = n + m by rw [List.length_append, Hn.out, Hm.out])
          clear g4' b4' o4' o4'' oh4 bh4
          go_wp2_with (go_at_call 13; refine Stop.out ?_)
          refine Stop.go (bal_b N vq4 (n + m) vd4 (a ++ b) _ _ EL4.out (by unfold maxLen; omega) EC4.out (EWf.append WA.out WB.out) Hw0.out ?_)
          intro pz cz w5 hb iz
          rw [Oab.out, Lz.out, HLR.out]
          rw [Lz.out] at iz
          have bb := bseq BC4.out hb
          have B5 := hide (bseq B3.out bb); have E5 := hide (E3.out.keep (Keeps.of_below bb)); have F5 := hide (F3.out.keep (Keeps.of_below bb)); have X5 := hide (X3.out.keep (Keeps.of_below bb)); have Y5 := hide (Y3.out.keep (Keeps.of_below bb)); have Z5 := hide iz
          clear hb iz bb B3 E3 F3 X3 Y3 BC4 EC4 bz4
          go_wp2_with (at_builtin; refine Stop.out ?_)
          refine Stop.go ?_
          refine wpList_app _ rfl (.tmp 75) (.tmp 76) 22 rfl w5.heap.size 34 i0 _ 4 40 Try.underlying22 hi hz0 hz1 hz2 rfl (by omega) _ 0 [] rfl (World.ownsRow_lit _ #[] 0 (Nat.le_refl _) (by decide) rfl) q m cap' (b.flatMap entCells) rfl ((Src.ents Hm.out F5.out).keep (Keeps.alloc _ _)) (ents_oneCell _) (by unfold maxLen; omega) (by omega) (by simp) ?_
          intro v6 w6a o6 g6
          rw [Nat.zero_add, List.nil_append] at o6
          have b6 := app_below (lit_own w5) g6
          obtain ⟨vp6, vc6, rfl, _⟩ := own_val o6
          have bh6 := hide b6; have oh6 := hide o6
          clear g6 b6 o6
          have bz6 := bh6.out.size
          go_wp2_with (at_builtin; refine Stop.out ?_)
          refine Stop.go ?_
          refine wpList_app _ rfl (.tmp 77) (.tmp 78) 22 rfl w5.heap.size 34 i0 _ 4 40 Try.underlying22 hi hz0 hz1 hz2 rfl (by omega) (.slice vp6 m vc6) m (b.flatMap entCells) rfl oh6.out p n cap (a.flatMap entCells) rfl (Src.ents Hn.out (E5.out.keep (Keeps.of_below bh6.out))) (ents_oneCell _) (by unfold maxLen; omega) (by omega) (by omega) ?_
          intro v6' w6b o6' g6'
          have b6' := app_below2 bh6.out oh6.out g6'
          have o6'' := own_app o6' Hm.out Hn.out
          obtain ⟨vq6, vd6, rfl, _⟩ := own_val o6''
          have EC6 := hide (EntsAt.of_own o6'')
          have BC6 := hide b6'
          have EL6 := hide (show (b ++ a).length = m + n by rw [List.length_append, Hm.out, Hn.out])
          clear g6' b6' o6' o6'' oh6 bh6
          go_wp2_with (go_at_call 13; refine Stop.out ?_)
          refine Stop.go (bal_b N vq6 (m + n) vd6 (b ++ a) _ _ EL6.out (by unfold maxLen; omega) EC6.out (EWf.append WB.out WA.out) Hw0.out ?_)
          intro pw cw w7 hb iw
          rw [Oba.out, Lw.out, HLR.out]
          rw [Lw.out] at iw
          have bb := bseq BC6.out hb
          have B7 := hide (bseq B5.out bb); have E7 := hide (E5.out.keep (Keeps.of_below bb)); have X7 := hide (X5.out.keep (Keeps.of_below bb)); have Y7 := hide (Y5.out.keep (Keeps.of_below bb)); have Z7 := hide (Z5.out.keep (Keeps.of_below bb)); have V7 := hide iw
          clear hb iw bb B5 E5 F5 X5 Y5 Z5 BC6 EC6 bz6
          go_wp2_with fail
          go_loopw [16, 17] (fun v i wr => ∃ c : Nat, c ≤ n ∧ i = .int .i64 ((c : Int) - 1) ∧ Hid (wr.ownsRow w7.heap.size 34 4 v (n - c) (((a.drop c).reverse).flatMap entCells)) ∧ Hid (Below w7.heap.size w7 wr)) (fun _ i _ => (intOf i + 1).toNat)
          case atStart => exact ⟨n, Nat.le_refl _, rfl, hide (by rw [List.drop_of_length_le (by rw [Hn.out]; omega), Nat.sub_self]; exact World.ownsRow_nil ..), hide (Below.refl _ _)⟩
          case round =>
            obtain ⟨c, hc, rfl, P, Hb⟩ := hrel
            obtain ⟨vp, vc, rfl, _⟩ := own_val P.out
            cases c with
            | zero =>
              rw [show ((0 : Nat) : Int) - 1 = -1 by omega]
              have EV := hide (show EntsAt wr vp a.reverse by
                have := P.out; rw [List.drop_zero] at this; exact EntsAt.of_own this)
              have B8 := hide (bseq B7.out Hb.out); have X8 := hide (X7.out.keep (Keeps.of_below Hb.out)); have Y8 := hide (Y7.out.keep (Keeps.of_below Hb.out)); have Z8 := hide (Z7.out.keep (Keeps.of_below Hb.out)); have V8 := hide (V7.out.keep (Keeps.of_below Hb.out))
              clear P Hb B7 X7 Y7 Z7 V7
              simp only [Nat.sub_zero]
              go_wp2_with (go_at_call 13; refine Stop.out ?_)
              refine Stop.go (bal_b N vp n vc a.reverse _ _ (by rw [List.length_reverse, Hn.out]) Hl.out EV.out (EWf.reverse WA.out) Hw0.out ?_)
              intro pv cv w9 hb iv
              rw [Orv.out, Lv.out, HLR.out]
              rw [Lv.out] at iv
              have B9 := hide (bseq B8.out hb); have X9 := hide (X8.out.keep (Keeps.of_below hb)); have Y9 := hide (Y8.out.keep (Keeps.of_below hb)); have Z9 := hide (Z8.out.keep (Keeps.of_below hb)); have V9 := hide (V8.out.keep (Keeps.of_below hb)); have U9 := hide iv
              clear hb iv B8 X8 Y8 Z8 V8 EV
              have hzz : ∀ i : Nat, netF (a ++ b) (i : Int) = netF a (i : Int) + netF b (i : Int) := fun i => netF_append a b i
              have HZZ := hide hzz
              clear hzz
              go_wp2_with (go_at_call 21; refine Stop.out ?_)
              refine Stop.go (ints_c pz pw N N cz cw _ _ _ _ (HLR.out _) (HLR.out _) (by unfold maxLen; omega) (by unfold maxLen; omega) Z9.out V9.out ?_)
              rw [decide_eq_true rfl]
              intro w10 d10
              have B10 := hide (B9.out.trans d10.below); have X10 := hide (X9.out.keep d10.keeps); have Y10 := hide (Y9.out.keep d10.keeps); have Z10 := hide (Z9.out.keep d10.keeps); have U10 := hide (U9.out.keep d10.keeps)
              clear d10 B9 X9 Y9 Z9 V9 U9
              go_wp2_with (go_at_call 21; refine Stop.out ?_)
              refine Stop.go (ints_c px pv N N cx cv _ _ _ _ (HLR.out _) (HLR.out _) (by unfold maxLen; omega) (by unfold maxLen; omega) X10.out U10.out ?_)
              rw [decide_eq_true rfl]
              intro w11 d11
              have B11 := hide (B10.out.trans d11.below); have X11 := hide (X10.out.keep d11.keeps); have Y11 := hide (Y10.out.keep d11.keeps); have Z11 := hide (Z10.out.keep d11.keeps)
              clear d11 B10 X10 Y10 Z10 U10
              go_wp2_with (go_at_call 23; refine Stop.out ?_)
              refine Stop.go (sum_c px N cx _ _ _ (HLR.out _) (by omega) X11.out D1.out ?_)
              rw [S1.out]
              go_wp2_with (go_at_call 23; refine Stop.out ?_)
              refine Stop.go (sum_c pz N cz _ _ _ (HLR.out _) (by omega) Z11.out D2.out ?_)
              rw [S2.out]
              go_wp2_with fail
              go_loopw [20] (fun i wr => ∃ k d : Nat, k ≤ N ∧ i = .int .i64 k ∧ wr = w11.drewN d) (fun i _ => N - (intOf i).toNat)
              case atStart => exact ⟨0, 0, Nat.zero_le _, rfl, rfl⟩
              case round =>
                obtain ⟨k, d, hk, rfl, rfl⟩ := hrel
                by_cases hlt : k < N
                · obtain ⟨bx, ox, x1, rfl, hx, hcx⟩ := X11.out.at_ (i := k) (by rw [HLR.out]; exact hlt)
                  obtain ⟨by', oy, y1, rfl, hy, hcy⟩ := Y11.out.at_ (i := k) (by rw [HLR.out]; exact hlt)
                  obtain ⟨bz, oz, z1, rfl, hz, hcz⟩ := Z11.out.at_ (i := k) (by rw [HLR.out]; exact hlt)
                  rw [at_range _ _ _ hlt] at hx hy hz
                  injection hx with hx; injection hy with hy; injection hz with hz
                  have hzv : z1 = x1 + y1 := by rw [← hx, ← hy, ← hz]; exact HZZ.out k
                  have b1 := D1.out x1 (by rw [← hx]; exact List.mem_map.2 ⟨k, by simpa using hlt, rfl⟩)
                  have b2 := D2.out z1 (by rw [← hz]; exact List.mem_map.2 ⟨k, by simpa using hlt, rfl⟩)
                  have hw := wrap_small (x := x1 + y1) (by omega)
                  have hne : (z1 != x1 + y1) = false := by simp [hzv]
                  clear hx hy hz hzv
                  go_wp2
                  go_quiet (fail)
                  clear hw
                  go_wp2
                  go_roundw
                  case rel => exact ⟨k + 1, _, by omega, by go_num, (by first | rfl | exact World.drewN_drewN _ _ _)⟩
                  case measure => simp [intOf]; omega
                · have B12 := hide (below_drewN' B11.out d)
                  go_wp2
                  exact HR.out _ B12.out
            | succ c =>
              rw [show (((c + 1 : Nat) : Int) - 1) = (c : Int) by omega]
              obtain ⟨b1, o, x, rfl, hx, hc1, hc2, hc3, hc4⟩ := (E7.out.keep (Keeps.of_below Hb.out)).at_ (i := c) (by rw [Hn.out]; omega)
              have hdr := hide (drop_rev hx)
              have hBz := Hb.out.size
              have hcn : c < n := by omega
              obtain ⟨xf, xt, xa, xr⟩ := x
              simp only at hc1 hc2 hc3 hc4
              clear hx
              go_wp2_with (at_builtin; refine Stop.out ?_)
              refine Stop.go ?_
              refine wpList_append_own _ rfl (.tmp 90) (.tmp 95) 22 rfl w7.heap.size 34 i0 (.agg #[.int .i64 0, .int .i64 0, .int .i64 0, .string ⟨#[]⟩]) 4 40 Try.underlying22 hi hz0 hz1 hz2 rfl (by decide) (.slice vp (n - (c + 1)) vc) (n - (c + 1)) (((a.drop (c + 1)).reverse).flatMap entCells) rfl (P.out.alloc _) ⟨wr.heap.size, 0, none⟩ 1 1 (entCells ⟨xf, xt, xa, xr⟩) rfl rfl (ent_src _ ⟨xf, xt, xa, xr⟩ _) (ent_one _) (by unfold maxLen; omega) (by omega) (by simp; omega) ?_
              intro v' w1' hown' hgrow _
              have Hb1' := hide ((balloc Hb.out _).grown hgrow (by simp; omega) (fun j hj => (P.out.lt j hj).1))
              have Hown2 := hide (show w1'.ownsRow w7.heap.size 34 4 v' (n - c) (((a.drop c).reverse).flatMap entCells) by
                rw [hdr.out, List.flatMap_append, show n - c = n - (c + 1) + 1 by omega]; simpa using hown')
              clear hown' hgrow hc1 hc2 hc3 hc4
              go_wp2_with fail
              go_roundw
              case rel => exact ⟨c, by omega, by first | rfl | go_num, Hown2, Hb1'⟩
              case measure => first | (simp [intOf]; done) | (simp [intOf]; omega)
        · rw [ea, eb, lb]
          go_wp2_with fail
          exact HR.out _ B3.out
      · rw [ea, la]
        rcases balE_le (n := acc) (l := b) (by rw [Hm.out]; omega) with ⟨okb, eb⟩ | ⟨_, eb, lb⟩
        · rw [eb]
          go_wp2_with fail
          exact HR.out _ B3.out
        · rw [eb]
          go_wp2_with fail
          exact HR.out _ B3.out

set_option maxRecDepth 100000 in
theorem sums_holds_lifted (os : Os) (started : os.Started) (H : Type) (enc : TypeId × Value → H) :
    ReturnsInHanded {} Try.checked os 4 .any (Rows.ledgerSumsSpec.pre6 enc Try.prog Try.f4 Rows.ledgerSumsRow.domain false) (Rows.ledgerSumsSpec.post enc Try.prog Try.f4 false true false false) := by
  refine returnsInHanded_of_change (C := Try.checked) Try.own started (by kernel_rfl) Try.func4
    (ChangeSpec.witness6 (enc := enc) (C := Try.checked) false ⟨#[], #[.int .i64 0, .slice none 0 0, .slice none 0 0], []⟩ 8 (by kernel_rfl) (by kernel_rfl) (by kernel_rfl) (by kernel_rfl)) ?_
  intro W base args ds gs before hval0 hW hcnd _
  have hval : ∀ (j : Nat) t v, Try.f4.params[j]? = some t → args[j]? = some v → Value.okWide Try.prog W .any base t v := hval0
  have hW' := hW
  obtain ⟨p, q, hA0, hV, rfl, hfz, hnd⟩ := hW
  have hA : DataW.TrodAll enc Try.prog W 0 (fun _ => true) true Try.f4.params.toList args.toList ds p := hA0
  have hA1 := hA
  rw [Try.params4] at hA hval
  obtain ⟨v0, vs0, d0, ds0, p0, q0, hargs, rfl, rfl, h0, r0⟩ := trodAll_cons hA
  obtain ⟨v1, vs1, d1, ds1, p1, q1, rfl, rfl, rfl, h1, r1⟩ := trodAll_cons r0
  obtain ⟨v2, vs2, d2, ds2, p2, q2, rfl, rfl, rfl, h2, r2⟩ := trodAll_cons r1
  obtain ⟨rfl, rfl, rfl⟩ := trodAll_nil r2
  obtain rfl : args = #[v0, v1, v2] := by cases args; simp_all
  obtain ⟨rfl, rfl⟩ := trodVars_none hV
  obtain ⟨x0, rfl, _, _, hw0⟩ := open_int Try.underlying3 (hval 0 3 v0 rfl rfl) h0
  obtain ⟨a1, n1, c1, l1, rfl, hl1, hm1, hi1, hz1, hw1⟩ := open_ents (hval 1 22 v1 rfl rfl) h1
  obtain ⟨a2, n2, c2, l2, rfl, hl2, hm2, hi2, hz2, hw2⟩ := open_ents (hval 2 22 v2 rfl rfl) h2
  refine sums_c x0 a1 n1 c1 l1 a2 n2 c2 l2 W _ hw0 hl1 hm1 hi1 hz1 hw1 hl2 hm2 hi2 hz2 hw2 fun W' bel => ?_
  exact ⟨_, rfl, law_post Try.laidOut bel rfl hW' hA1 (by kernel_rfl) rfl Try.underlying4 rfl rfl rfl⟩

theorem sums_holds : Rows.LedgerSumsSaid :=
  OpenClaim.holds_of_wide 4 Try.f4 rfl rfl rfl rfl rfl rfl rfl ⟨rfl, rfl, rfl, rfl, rfl⟩ rfl rfl rfl rfl rfl (by kernel_rfl) Try.func4 (by kernel_rfl)
    (of_decide_eq_true (by kernel_rfl)) (by unfold Func.isWrapper; rw [if_neg (of_decide_eq_false (by kernel_rfl))]; exact ⟨rfl, rfl⟩)
    (fun os started H enc _ => sums_holds_lifted os started H enc)

end Go.Proofs.Ytajnoocjjkjfmaa
