import Derived.Test.YtajnoocjjkjfmaaP2
import Derived.Test.YtajnoocjjkjfmaaD3
set_option linter.unusedVariables false
set_option linter.unusedSimpArgs false
namespace Go.Proofs.Ytajnoocjjkjfmaa
open Go.RowKit

theorem src_one (w : World) (v : Value) (t : TypeId) : Src (w.alloc (.cells #[v] t)) (some ⟨w.heap.size, 0, none⟩) 1 1 [v] :=
  ⟨rfl, fun _ => ⟨_, rfl, cell_one_new _ _ _⟩⟩
set_option maxHeartbeats 4000000 in
set_option maxRecDepth 100000 in
theorem refAdjust_c (p q : Option Addr) (n m cap cap' : Nat) (a b : List Int) (ref : ByteArray) (w : World) (R) (hn : a.length = n) (hm : b.length = m) (hl : n ≤ maxLen) (hl' : m ≤ maxLen) (h : IntsAt .i64 w p a) (h' : IntsAt .i64 w q b) (hr : ref.size ≤ maxLen)
    (hR : ∀ v w', Below w.heap.size w w' → w'.ownsRow w.heap.size 34 4 v (adjL a b ref).length ((adjL a b ref).flatMap entCells) → R (.returned (.tuple #[v, .int .i64 (adjE a b ref)])) w') :
    Calls Try.prog 18 #[.slice p n cap, .slice q m cap', .string ref] w R := by
  have hl2 := hl; have hl2' := hl'
  unfold maxLen at hl hl' hr
  have Hn := hide hn; have Hm := hide hm; have H := hide h; have H' := hide h'; have HR := hide hR
  clear hn hm h h' hR
  have Hbad := hide (fun (e : Int) (he : adjE a b ref = e) (h0 : e ≠ 0) w' (B : Below w.heap.size w w') => (show R (.returned (.tuple #[.slice none 0 0, .int .i64 e])) w' by
    have := HR.out (.slice none 0 0) w' B (by unfold adjL; rw [if_neg (by rw [he]; exact h0)]; exact World.ownsRow_nil ..)
    rw [he] at this; exact this))
  cases ha : okB a with
  | false =>
    have Ha := hide ha
    have hb := hide (Hbad.out 1 (okB_false_a ha) (by decide))
    clear ha
    go_enter Try.func18, Try.ntmps18
    go_wp2_with (go_at_call 32; refine Stop.out ?_)
    refine Stop.go (refOk_c p n cap a w _ Hn.out hl2 H.out ?_)
    rw [Ha.out]
    intro w1 hd1
    have B1 := hide (hd1.below (B := w.heap.size)); clear hd1
    go_wp2_with fail
    exact hb.out _ B1.out
  | true =>
    cases hbb : okB b with
    | false =>
      have Ha := hide ha; have Hb := hide hbb
      have hb := hide (Hbad.out 1 (okB_false_b hbb) (by decide))
      clear ha hbb
      go_enter Try.func18, Try.ntmps18
      go_wp2_with (go_at_call 32; refine Stop.out ?_)
      refine Stop.go (refOk_c p n cap a w _ Hn.out hl2 H.out ?_)
      rw [Ha.out]
      intro w1 hd1
      go_wp2_with (go_at_call 32; refine Stop.out ?_)
      refine Stop.go (refOk_c q m cap' b w1 _ Hm.out hl2' (H'.out.keep hd1.keeps) ?_)
      rw [Hb.out]
      intro w2 hd2
      have B2 := hide ((hd1.trans hd2).below (B := w.heap.size)); clear hd1 hd2
      go_wp2_with fail
      exact hb.out _ B2.out
    | true =>
      have Ha := hide ha; have Hb := hide hbb
      have HA := hide (fun (hnm : n = m) (h60 : ref.size ≤ 60) => okB_adj (ref := ref) ha hbb (by rw [Hn.out, Hm.out]; exact hnm) h60)
      have hlen : 1 ≤ n ∧ n ≤ 100 := by
        have h1 := ha
        unfold okB at h1
        rw [Bool.and_eq_true] at h1
        have h2 := inB_true h1.2
        rw [Hn.out] at h2
        omega
      clear ha hbb
      by_cases hnm : n = m
      · subst hnm
        have hnn : ((n : Int) != (n : Int)) = false := by simp
        by_cases h60 : ref.size ≤ 60
        · have h60' : ¬ (60 : Int) < (ref.size : Int) := by omega
          obtain ⟨hA1, hA2, hA3⟩ := HA.out rfl h60
          have hdl := hide (show (diffL a b).length = n by rw [diff_len (by rw [Hn.out, Hm.out]), Hn.out])
          have hdb := hide (show Bd 2000000000 (diffL a b) from diff_bd a b (by rw [any_wrong] at hA2; simpa using hA2) (by rw [any_wrong] at hA3; simpa using hA3))
          have hE : Hid (adjE a b ref = if (diffL a b).sum ≠ 0 then 380 else if (settleL ref (diffL a b)).any (fun e => decide (1000000000 < e.am)) = true then 2 else 0) := hide (by
            unfold adjE; rw [if_neg (by rw [hA1]; decide), if_neg (by rw [hA2, hA3]; decide)])
          have hab : Hid ((∀ x ∈ a, -1000000000 ≤ x ∧ x ≤ 1000000000) ∧ ∀ x ∈ b, -1000000000 ≤ x ∧ x ≤ 1000000000) := hide ⟨fun x hx => by
              rw [any_wrong] at hA2
              exact inB_true (List.all_eq_true.1 (by simpa using hA2) x hx), fun x hx => by
              rw [any_wrong] at hA3
              exact inB_true (List.all_eq_true.1 (by simpa using hA3) x hx)⟩
          clear hA1 hA2 hA3 HA
          obtain ⟨j0, hj0, hjz0, hjz1, hjz2⟩ := info_parts Try.info3
          go_enter Try.func18, Try.ntmps18
          go_wp2_with (go_at_call 32; refine Stop.out ?_)
          refine Stop.go (refOk_c p n cap a w _ Hn.out hl2 H.out ?_)
          rw [Ha.out]
          intro w1 hd1
          go_wp2_with (go_at_call 32; refine Stop.out ?_)
          refine Stop.go (refOk_c q n cap' b w1 _ Hm.out hl2' (H'.out.keep hd1.keeps) ?_)
          rw [Hb.out]
          intro w2 hd2
          have B2 := hide ((hd1.trans hd2).below (B := w.heap.size)); clear hd1 hd2
          go_wp2_with fail
          go_loopw [8, 9, 10] (fun v t i wr => ∃ k : Nat, k ≤ n ∧ i = .int .i64 k ∧ t = .int .i64 ((diffL a b).take k).sum ∧
                Hid (wr.ownsRow w.heap.size 3 1 v k (((diffL a b).take k).map (Value.int .i64))) ∧ Hid (Below w.heap.size w wr)) (fun _ _ i _ => n - (intOf i).toNat)
          case atStart => exact ⟨0, Nat.zero_le _, rfl, rfl, hide (World.ownsRow_nil ..), B2⟩
          case round =>
            clear B2
            obtain ⟨k, hk, rfl, rfl, P, Hbl⟩ := hrel
            have hsb := sum_bd (M := 2000000000) (l := (diffL a b).take k) (fun x hx => hdb.out x (List.mem_of_mem_take hx))
            have hlk : ((diffL a b).take k).length ≤ k := List.length_take_le _ _
            generalize hsk : ((diffL a b).take k).sum = sk at *
            have Hsk := hide hsk; clear hsk
            have hskb : -1000000000000 ≤ sk ∧ sk ≤ 1000000000000 := by omega
            obtain ⟨hsk1, hsk2⟩ := hskb
            clear hsb hlk
            by_cases hlt : k < n
            · obtain ⟨ba, oa, x, rfl, hx, hcx⟩ := (H.out.keep (Keeps.of_below Hbl.out)).at_ (i := k) (by rw [Hn.out]; exact hlt)
              obtain ⟨bb, ob, y, rfl, hy, hcy⟩ := (H'.out.keep (Keeps.of_below Hbl.out)).at_ (i := k) (by rw [Hm.out]; exact hlt)
              obtain ⟨hx1, hx2⟩ := hab.out.1 x (List.mem_of_getElem? hx)
              obtain ⟨hy1, hy2⟩ := hab.out.2 y (List.mem_of_getElem? hy)
              have hz := hide (diff_at hx hy)
              clear hx hy
              obtain ⟨vp, vc, rfl, _⟩ := own_val P.out
              have hBz := Hbl.out.size
              have hwd := wrap_small (x := y - x) (by omega)
              go_wp2
              go_region_law (refine step_app rfl (.tmp 41) (.tmp 51) 23 rfl w.heap.size 3 j0 _ 1 8 Try.underlying23 hj0 hjz0 hjz1 hjz2 rfl (by omega) (.slice vp k vc) k (((diffL a b).take k).map (Value.int .i64)) rfl (World.ownsRow.alloc (w := wr.drew) P.out _) (some ⟨wr.heap.size, 0, none⟩) 1 1 [.int .i64 (y - x)] rfl (src_one wr.drew _ _) (by simp [Value.oneCell']) (by unfold maxLen; omega) (by omega) (by simp; omega) ?_; intro v1 w7 hown1 hg1)
              all_goals
                have h0 := World.grownBy.trans (World.grownBy_alloc wr.drew _ _) hg1
                have hg1' : wr.grownBy w7 (Value.slice vp k vc).ownBlock := ⟨h0.os, h0.tape, h0.output, h0.size, h0.block⟩
                clear h0
                have Hb1' := hide (show Below w.heap.size w w7 from Hbl.out.grown hg1' Hbl.out.size (fun j hj => (P.out.lt j hj).1))
                have hown2 : w7.ownsRow w.heap.size 3 1 v1 (k + 1) (((diffL a b).take (k + 1)).map (Value.int .i64)) := by
                  rw [List.take_add_one, hz.out, List.map_append]; simpa using hown1
                obtain ⟨g', cap', rfl, _⟩ := own_form hown2 (by omega)
                have hck := owni_cell hown2 (i := k) (by omega)
                have e3 : ((diffL a b).take (k + 1)).getD k 0 = y - x := by
                  rw [List.getD_eq_getElem?_getD, List.getElem?_take, if_pos (by omega), hz.out]; rfl
                rw [e3] at hck
                have Hown2 := hide hown2
                have hz2 := hide (show sk + (y - x) = ((diffL a b).take (k + 1)).sum by rw [List.take_add_one, List.sum_append_int, hz.out, Hsk.out]; simp)
                clear hown1 hown2 hg1 hg1' hcx hcy e3
                go_wp2_with fail
                go_roundw
                case rel => exact ⟨k + 1, by omega, by go_num, by rw [hz2.out], Hown2, Hb1'⟩
                case measure => simp [intOf]; omega
            · obtain rfl : k = n := by omega
              have etk : (diffL a b).take k = diffL a b := List.take_of_length_le (by rw [hdl.out]; omega)
              rw [etk] at P Hsk
              clear etk hlt
              obtain ⟨gd, capd, rfl, hgd1, hgd2⟩ := own_form P.out (by omega)
              generalize hdd : diffL a b = d at *
              have Hdd := hide hdd; clear hdd
              have hbd : Hid (∀ t, -2000000000 ≤ d.getD t 0 ∧ d.getD t 0 ≤ 2000000000) := hide (fun t => by
                rcases Nat.lt_or_ge t d.length with h | h
                · rw [List.getD_eq_getElem?_getD, List.getElem?_eq_getElem h]
                  exact hdb.out _ (List.getElem_mem h)
                · rw [List.getD_eq_getElem?_getD, List.getElem?_eq_none h]; simp)
              by_cases hs : sk = 0
              · subst hs
                have HE0 := hide hE.out
                rw [Hsk.out, if_neg (fun h => h rfl)] at HE0
                obtain ⟨i0, hi, hz0, hz1, hz2⟩ := info_parts Try.info34
                have Hlen : Hid ((settleL ref d).length ≤ 100) := hide (by
                  have h1 := settleL_len ref d
                  have h2 := nz_le d
                  have h3 := hdl.out
                  omega)
                have hkb := hlen.2
                clear hE hab Ha Hb
                go_wp2_with fail
                go_loopw [11, 12, 13, 14] (fun v si sj am wr => ∃ (pre : List Ent) (cur : List Int),
                  Hid (cur.length = k ∧ cur.sum = 0 ∧ settleL ref d = pre ++ settleL ref cur ∧ (∀ t, -2000000000 ≤ cur.getD t 0 ∧ cur.getD t 0 ≤ 2000000000) ∧ pre.any (fun e => decide (1000000000 < e.am)) = false) ∧
                  Hid (wr.ownsRow w.heap.size 3 1 (.slice (some ⟨gd, 0, none⟩) k capd) k (cur.map (Value.int .i64))) ∧ Hid (wr.ownsRow w.heap.size 34 4 v pre.length (pre.flatMap entCells)) ∧ Hid (Below w.heap.size w wr))
                  (fun _ _ _ _ wr => nzW gd k wr)
                case atStart => exact ⟨[], d, hide ⟨hdl.out, Hsk.out, rfl, hbd.out, rfl⟩, P, hide (World.ownsRow_nil ..), Hbl⟩
                case round =>
                  clear P Hbl
                  obtain ⟨pre, cur, hp, HO, HEn, Hbl⟩ := hrel
                  have HHalt := hide (fun (hh : halt cur = true) v w' (B : Below w.heap.size w w') (O : w'.ownsRow w.heap.size 34 4 v pre.length (pre.flatMap entCells)) => (show R (.returned (.tuple #[v, .int .i64 0])) w' by
                    have hset : settleL ref d = pre := by rw [hp.out.2.2.1, settleL_halt hh, List.append_nil]
                    have he : adjE a b ref = 0 := by rw [HE0.out, hset, if_neg (by rw [hp.out.2.2.2.2]; decide)]
                    have hL : adjL a b ref = pre := by unfold adjL; rw [if_pos he, Hdd.out, hset]
                    have := HR.out v w' B (by rw [hL]; exact O)
                    rw [he] at this; exact this))
                  obtain ⟨vp, vc, rfl, _⟩ := own_val HEn.out
                  go_wp2
                  go_loop [12] (fun si => ∃ i : Nat, si = .int .i64 i ∧ i ≤ negI cur) (fun si => k - (intOf si).toNat)
                  case atStart => exact ⟨0, rfl, Nat.zero_le _⟩
                  case round =>
                    obtain ⟨i2, rfl, hi2⟩ := hrel
                    have hcl := hp.out.1
                    have hnl := negI_le cur
                    have hpl := posI_le cur
                    by_cases hA : i2 < negI cur
                    · have hx := negI_before cur hA
                      have hc := owni_cell HO.out (i := i2) (by omega)
                      generalize cur.getD i2 0 = x at *
                      have hi3 : i2 < k := by omega
                      clear hcl hnl hpl
                      go_wp2
                      go_round
                      case rel => exact ⟨i2 + 1, by go_num, by omega⟩
                      case measure => simp [intOf]; omega
                    · have hi3 : i2 = negI cur := by omega
                      have Hi3 := hide hi3
                      have hex : (i2 = k ∧ Hid (halt cur = true)) ∨ (i2 < k ∧ ∃ x, x < 0 ∧ Hid (cur.getD i2 0 = x) ∧ wr.cell? ⟨gd, i2, none⟩ = some (.int .i64 x)) := by
                        rcases Nat.lt_or_ge i2 k with h | h
                        · exact .inr ⟨h, _, by rw [hi3]; exact negI_at cur (by omega), hide rfl, owni_cell HO.out h⟩
                        · exact .inl ⟨by omega, hide (by unfold halt; rw [decide_eq_true (show negI cur = cur.length by omega)]; rfl)⟩
                      clear hA hi2 hi3
                      have Hcl := hide hcl
                      rcases hex with ⟨hin2, hh⟩ | ⟨hin2, x, hx, hxe, hcx⟩
                      · have hnlt : ¬ (i2 : Int) < (k : Int) := by omega
                        have hieq : ((i2 : Int) == (k : Int)) = true := by simp; omega
                        have Hin2 := hide hin2
                        clear hcl hnl hpl hin2
                        go_wp2
                        go_loop [13] (fun sj => ∃ j : Nat, sj = .int .i64 j ∧ j ≤ posI cur) (fun sj => k - (intOf sj).toNat)
                        case atStart => exact ⟨0, rfl, Nat.zero_le _⟩
                        case round =>
                          obtain ⟨j2, rfl, hj2⟩ := hrel
                          have hpl := posI_le cur
                          have hcl := Hcl.out
                          by_cases hA : j2 < posI cur
                          · have hy := posI_before cur hA
                            have hc := owni_cell HO.out (i := j2) (by omega)
                            generalize cur.getD j2 0 = y at *
                            have hj3 : j2 < k := by omega
                            clear hcl hpl
                            go_wp2
                            go_round
                            case rel => exact ⟨j2 + 1, by go_num, by omega⟩
                            case measure => simp [intOf]; omega
                          · have Hfin := hide (HHalt.out hh.out _ _ Hbl.out HEn.out)
                            rcases Nat.lt_or_ge j2 k with h | h
                            · have hy := posI_at cur (by omega)
                              have hj3 : posI cur = j2 := by omega
                              rw [hj3] at hy
                              have hc := owni_cell HO.out (i := j2) h
                              generalize cur.getD j2 0 = y at *
                              clear hcl hpl hj3 hA
                              go_wp2
                              exact Hfin.out
                            · have hj4 : ¬ (j2 : Int) < (k : Int) := by omega
                              clear hcl hpl hA h
                              go_wp2
                              exact Hfin.out
                      · have hxb := hp.out.2.2.2.1 i2
                        rw [hxe.out] at hxb
                        obtain ⟨hxb1, hxb2⟩ := hxb
                        have hcl2 := hcl
                        have hpk := hide (pos_of_neg hp.out.2.1 (by rw [← Hi3.out]; omega))
                        have hineq : ((i2 : Int) == (k : Int)) = false := by simp; omega
                        clear hcl hnl hpl
                        go_wp2
                        go_loop [13] (fun sj => ∃ j : Nat, sj = .int .i64 j ∧ j ≤ posI cur) (fun sj => k - (intOf sj).toNat)
                        case atStart => exact ⟨0, rfl, Nat.zero_le _⟩
                        case round =>
                          obtain ⟨j2, rfl, hj2⟩ := hrel
                          have hpl := posI_le cur
                          have hcl := Hcl.out
                          by_cases hA : j2 < posI cur
                          · have hy := posI_before cur hA
                            have hc := owni_cell HO.out (i := j2) (by omega)
                            generalize cur.getD j2 0 = y at *
                            have hj3 : j2 < k := by omega
                            clear hcl hpl
                            go_wp2
                            go_round
                            case rel => exact ⟨j2 + 1, by go_num, by omega⟩
                            case measure => simp [intOf]; omega
                          · have h : j2 < k := by have := hpk.out; omega
                            have hj3 : posI cur = j2 := by omega
                            have Hj3 := hide hj3
                            have hh : halt cur = false := by
                              unfold halt
                              rw [decide_eq_false (show ¬ negI cur = cur.length by have := Hi3.out; omega), decide_eq_false (show ¬ posI cur = cur.length by omega)]; rfl
                            have hy := posI_at cur (by omega)
                            rw [hj3] at hy
                            have hcy := owni_cell HO.out (i := j2) h
                            have hyb := hp.out.2.2.2.1 j2
                            generalize hye : cur.getD j2 0 = y at *
                            have Hye := hide hye
                            have hij : i2 ≠ j2 := by
                              have := (halt_false hh).2.2.1
                              have := Hi3.out
                              omega
                            have Hh := hide hh
                            have hij1 : ¬ i2 = j2 := hij
                            have hij2 : ¬ j2 = i2 := fun h => hij h.symm
                            have hfz1 := HO.out.frozenAt i2
                            have hfz2 := HO.out.frozenAt j2
                            obtain ⟨hyb1, hyb2⟩ := hyb
                            obtain ⟨am, ham⟩ : ∃ am, am = min (-x) y := ⟨_, rfl⟩
                            have hamb : 0 < am ∧ am ≤ -x ∧ am ≤ y := by omega
                            have Ham := hide ham
                            obtain ⟨hamb1, hamb2, hamb3⟩ := hamb
                            have hwx := wrap_small (x := 0 - x) (by omega)
                            clear hcl hpl hj3 hA hye hij hcl2 hh ham
                            go_wp2
                            go_quiet (fail)
                            clear hwx
                            rw [← Ham.out]
                            have HO2 := hide (show (wr.drewN nq).ownsRow w.heap.size 3 1 (.slice (some ⟨gd, 0, none⟩) k capd) k (cur.map (Value.int .i64)) from HO.out)
                            have HE2 := hide (show (wr.drewN nq).ownsRow w.heap.size 34 4 (.slice vp pre.length vc) pre.length (pre.flatMap entCells) from HEn.out)
                            have Hb2 := hide (below_drewN' Hbl.out nq)
                            have hnzw := hide (nzW_eq (g := gd) (n := k) (w := wr) hp.out.1 (fun t ht => owni_cell HO.out ht))
                            clear hcx hcy hfz1 hfz2 HO HEn Hbl HHalt
                            generalize wr.drewN nq = wq at *
                            have e1 : Hid (amt cur = am) := hide (by unfold amt; rw [← Hi3.out, Hj3.out, hxe.out, Hye.out]; exact Ham.out.symm)
                            have e2 : Hid (nextE ref cur = ⟨(i2 : Int), (j2 : Int), am, ref⟩) := hide (by unfold nextE; rw [e1.out, ← Hi3.out, Hj3.out])
                            have e3 : Hid (nxt cur = (cur.set i2 (x + am)).set j2 (y - am)) := hide (by unfold nxt; rw [e1.out, ← Hi3.out, Hj3.out, hxe.out, Hye.out])
                            have hset : Hid (settleL ref d = pre ++ nextE ref cur :: settleL ref (nxt cur)) := hide (by rw [hp.out.2.2.1, settleL_step Hh.out])
                            have hplen : pre.length < 200 := by
                              have h1 := Hlen.out
                              rw [hset.out, List.length_append, List.length_cons] at h1
                              omega
                            by_cases hbig : 1000000000 < am
                            · have hb := hide (Hbad.out 2 (by
                                rw [HE0.out, hset.out, e2.out, if_pos]
                                rw [List.any_append, List.any_cons]; simp [hbig]) (by decide) _ Hb2.out)
                              go_wp2_with (go_at_call 29; refine most_c _ _ ?_)
                              exact hb.out
                            · have hBz := Hb2.out.size
                              go_wp2_with (first | (go_at_call 29; refine most_c _ _ ?_) | (at_builtin; refine Stop.out ?_))
                              refine Stop.go ?_
                              refine wpList_append_own _ rfl (.tmp 105) (.tmp 111) 22 rfl w.heap.size 34 i0 (.agg #[.int .i64 0, .int .i64 0, .int .i64 0, .string ⟨#[]⟩]) 4 40 Try.underlying22 hi hz0 hz1 hz2 rfl (by decide) (.slice vp pre.length vc) pre.length (pre.flatMap entCells) rfl (HE2.out.alloc _) ⟨wq.heap.size, 0, none⟩ 1 1 (entCells ⟨(i2 : Int), (j2 : Int), am, ref⟩) rfl rfl (ent_src _ ⟨(i2 : Int), (j2 : Int), am, ref⟩ _) (ent_one _) (by unfold maxLen; omega) (by omega) (by simp; omega) ?_
                              intro v' w1 hown' hgrow _
                              have O3 := hide ((HO2.out.alloc _).kept hgrow (.inr (fun e => own_ne HO2.out HE2.out (by decide) rfl e.symm)))
                              have Hb3 := hide ((balloc Hb2.out _).grown hgrow (by simp; omega) (fun j hj => (HE2.out.lt j hj).1))
                              have hcx := owni_cell O3.out (i := i2) hin2
                              have hcy := owni_cell O3.out (i := j2) h
                              rw [hxe.out] at hcx
                              rw [Hye.out] at hcy
                              have hfz1 := O3.out.frozenAt i2
                              have hfz2 := O3.out.frozenAt j2
                              have hE3 : Hid (w1.ownsRow w.heap.size 34 4 v' (pre.length + 1) ((pre ++ [(⟨(i2 : Int), (j2 : Int), am, ref⟩ : Ent)]).flatMap entCells)) := hide (by simpa using hown')
                              obtain ⟨v'p, v'c, rfl, _⟩ := own_val hE3.out
                              clear hown' hgrow
                              have HO4 : Hid (((w1.setCell ⟨gd, i2, none⟩ (.int .i64 (x + am))).setCell ⟨gd, j2, none⟩ (.int .i64 (y - am))).ownsRow w.heap.size 3 1 (.slice (some ⟨gd, 0, none⟩) k capd) k ((nxt cur).map (Value.int .i64))) := hide (by
                                rw [e3.out]; exact owni_set (owni_set O3.out i2 (x + am)) j2 (y - am))
                              have hne4 := own_ne O3.out hE3.out (by decide) (k := gd) rfl
                              have HE4 : Hid (((w1.setCell ⟨gd, i2, none⟩ (.int .i64 (x + am))).setCell ⟨gd, j2, none⟩ (.int .i64 (y - am))).ownsRow w.heap.size 34 4 (.slice v'p (pre.length + 1) v'c) (pre.length + 1) ((pre ++ [(⟨(i2 : Int), (j2 : Int), am, ref⟩ : Ent)]).flatMap entCells)) := hide (hE3.out.kept (grownBy_set (grownBy_set (World.grownBy.refl w1 (some gd)) i2 _) j2 _) (.inr hne4))
                              have Hb4 : Hid (Below w.heap.size w ((w1.setCell ⟨gd, i2, none⟩ (.int .i64 (x + am))).setCell ⟨gd, j2, none⟩ (.int .i64 (y - am)))) := hide (below_set (below_set Hb3.out gd i2 _ hgd1) gd j2 _ hgd1)
                              clear hne4
                              go_wp2_with fail
                              go_roundw
                              case rel =>
                                have hs := hset.out
                                rw [e2.out] at hs
                                refine ⟨pre ++ [(⟨(i2 : Int), (j2 : Int), am, ref⟩ : Ent)], nxt cur,
                                  hide ⟨by rw [nxt_len]; exact hp.out.1, by rw [sum_nxt Hh.out]; exact hp.out.2.1, by rw [hs]; simp, bd_nxt Hh.out hp.out.2.2.2.1, by rw [List.any_append, hp.out.2.2.2.2]; simp [hbig]⟩, HO4, ?_, Hb4⟩
                                have := HE4.out
                                rw [show pre.length + 1 = (pre ++ [(⟨(i2 : Int), (j2 : Int), am, ref⟩ : Ent)]).length by simp] at this
                                simpa using hide this
                              case measure =>
                                have m1 := nzW_eq (g := gd) (n := k) (d := nxt cur) (by rw [nxt_len]; exact hp.out.1) (fun t ht => owni_cell HO4.out ht)
                                rw [m1, hnzw.out]
                                exact nxt_nz Hh.out
              · have hs0 : (sk != 0) = true := by simp; exact hs
                have hb := hide (Hbad.out 380 (by rw [hE.out, Hsk.out, if_pos hs]) (by decide) _ Hbl.out)
                clear hs
                go_wp2_with fail
                exact hb.out
        · have h60' : (60 : Int) < (ref.size : Int) := by omega
          have hb := hide (Hbad.out 1 (adjE_one (.inl (by unfold adjShape; rw [decide_eq_false h60]; simp))) (by decide))
          clear h60
          go_enter Try.func18, Try.ntmps18
          go_wp2_with (go_at_call 32; refine Stop.out ?_)
          refine Stop.go (refOk_c p n cap a w _ Hn.out hl2 H.out ?_)
          rw [Ha.out]
          intro w1 hd1
          go_wp2_with (go_at_call 32; refine Stop.out ?_)
          refine Stop.go (refOk_c q n cap' b w1 _ Hm.out hl2' (H'.out.keep hd1.keeps) ?_)
          rw [Hb.out]
          intro w2 hd2
          have B2 := hide ((hd1.trans hd2).below (B := w.heap.size)); clear hd1 hd2
          go_wp2_with fail
          exact hb.out _ B2.out
      · have hnn : ((n : Int) != (m : Int)) = true := by simp; omega
        have hb := hide (Hbad.out 1 (adjE_one (.inl (by unfold adjShape; rw [Hn.out, Hm.out, decide_eq_false hnm]; rfl))) (by decide))
        clear hnm
        go_enter Try.func18, Try.ntmps18
        go_wp2_with (go_at_call 32; refine Stop.out ?_)
        refine Stop.go (refOk_c p n cap a w _ Hn.out hl2 H.out ?_)
        rw [Ha.out]
        intro w1 hd1
        go_wp2_with (go_at_call 32; refine Stop.out ?_)
        refine Stop.go (refOk_c q m cap' b w1 _ Hm.out hl2' (H'.out.keep hd1.keeps) ?_)
        rw [Hb.out]
        intro w2 hd2
        have B2 := hide ((hd1.trans hd2).below (B := w.heap.size)); clear hd1 hd2
        go_wp2_with fail
        exact hb.out _ B2.out
end Go.Proofs.Ytajnoocjjkjfmaa
