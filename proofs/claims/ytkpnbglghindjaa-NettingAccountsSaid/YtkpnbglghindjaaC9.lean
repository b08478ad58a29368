import Derived.Test.YtkpnbglghindjaaC7
import Derived.Test.YtkpnbglghindjaaC5
set_option linter.unusedVariables false
set_option linter.unusedSimpArgs false
namespace Go.Proofs.Ytkpnbglghindjaa
open Go.RowKit Math

theorem best_succ_lt {lt : Int → Int → Bool} {l : List Int} {k : Nat} {x y : Int} {c : Nat} (hc : best lt l k = c) (hx : l.getD k 0 = x) (hy : l.getD c 0 = y) (h : lt x y = true) : best lt l (k + 1) = k := by
  unfold best; rw [hc, hx, hy, h, if_pos rfl]
theorem best_succ_ge {lt : Int → Int → Bool} {l : List Int} {k : Nat} {x y : Int} {c : Nat} (hc : best lt l k = c) (hx : l.getD k 0 = x) (hy : l.getD c 0 = y) (h : lt x y = false) : best lt l (k + 1) = c := by
  unfold best; rw [hc, hx, hy, h, if_neg (by simp)]

set_option maxRecDepth 100000 in
set_option maxHeartbeats 2000000 in
theorem RNet_c (p : Option Addr) (n cap : Nat) (l : List Int) (w : World) (R) (hn : l.length = n) (hl : n ≤ maxLen) (h : IntsAt .i64 w p l)
    (hR : ∀ v w', Below w.heap.size w w' → OwnT w' w.heap.size v (netList l) → R (.returned (.tuple #[v, .int .i64 (netErr l)])) w') : Calls Try.prog 12 #[.slice p n cap] w R := by
  unfold maxLen at hl
  have Hn := hide hn; have HR := hide hR; have H := hide h
  clear hn hR h
  obtain ⟨i0, hi0, hz0, hz1, hz2⟩ := info_parts info_int
  obtain ⟨j0, hj0, jz0, jz1, jz2⟩ := info_parts info_tr
  by_cases h40 : 40 < n
  · have he := netErr_long (l := l) (by rw [Hn.out]; omega)
    have HR1 := hide (HR.out (.slice none 0 0) w (Below.refl _ _) (by rw [netList_err (by rw [he]; decide)]; exact World.ownsRow_nil ..))
    rw [he] at HR1
    clear he
    go_enter Try.func12, Try.ntmps12
    go_wp2_with fail
    exact HR1.out
  · cases hw : l.any (wrongB maxB) with
    | true =>
      have he := netErr_wrong hw
      have HR1 := hide (HR.out (.slice none 0 0) w (Below.refl _ _) (by rw [netList_err (by rw [he]; decide)]; exact World.ownsRow_nil ..))
      rw [he] at HR1
      have Hw := hide hw; clear hw he
      go_enter Try.func12, Try.ntmps12
      go_wp2_with (go_at_call 28; refine Stop.out ?_)
      refine Stop.go (amounts_c p n cap l _ _ Hn.out (by unfold maxLen; omega) H.out ?_)
      rw [all_okAmt, Hw.out]
      go_wp2_with fail
      exact HR1.out
    | false =>
      have Hbd := hide (wrongB_any_false hw)
      have Hw := hide hw; clear hw
      by_cases hs : l.sum = 0
      · have Hs := hide hs
        have He := hide (netErr_ok (by rw [Hn.out]; exact h40) Hw.out hs)
        have HL := hide (netList_ok He.out)
        clear hs
        go_enter Try.func12, Try.ntmps12
        go_wp2_with (go_at_call 28; refine Stop.out ?_)
        refine Stop.go (amounts_c p n cap l _ _ Hn.out (by unfold maxLen; omega) H.out ?_)
        rw [all_okAmt, Hw.out]
        go_wp2_with (go_at_call 20; refine Stop.out ?_)
        refine Stop.go (total_c p n cap l _ _ Hn.out (by omega) H.out Hbd.out ?_)
        rw [Hs.out]
        go_wp2_with (at_builtin; refine Stop.out ?_)
        refine Stop.go ?_
        refine wpList_app _ rfl (.tmp 21) (.tmp 22) 22 rfl w.heap.size 3 i0 _ 1 8 Try.underlying22 hi0 hz0 hz1 hz2 rfl (by omega) _ 0 [] rfl (World.ownsRow_lit _ #[] 0 (Nat.le_refl _) (by decide) rfl) p n cap (l.map (Value.int .i64)) rfl ((Src.ints Hn.out H.out).keep (Keeps.alloc _ _)) (ints_oneCell _ _) (by unfold maxLen; omega) (by omega) (by simp) ?_
        intro v1 w1 hown1 hg1
        have hg2 : (w.alloc (.cells #[] 3)).grownBy w1 (some w.heap.size) := hg1
        have Hb1 := hide (((Below.refl w.heap.size w).alloc (Nat.le_refl _) (.cells #[] 3)).grown hg2 (by simp) (fun k hk => by injection hk with hk; omega))
        rw [Nat.zero_add, List.nil_append] at hown1
        obtain ⟨p5, cap5, rfl, hp5⟩ := own_val hown1
        have Hp5 := hide hp5
        have Hown1 := hide hown1
        clear hown1 hg1 hg2 hp5
        go_wp2_with fail
        go_loopg [4] (nz l) (fun k v4 wr => ∃ rest out, Hid (rest.length = n) ∧ Hid (rest.sum = 0) ∧ Hid (nz rest = k) ∧ Hid (Bd 1000000000000 rest) ∧ Hid (out ++ netLoop k rest = netLoop (nz l) l) ∧ Hid (out.length + k ≤ n)
          ∧ Hid (wr.ownsRow w.heap.size 3 1 (.slice p5 n cap5) n (rest.map (Value.int .i64))) ∧ Hid (OwnT wr w.heap.size v4 out) ∧ Hid (Below w.heap.size w wr))
        case atStart => exact ⟨l, [], Hn, Hs, hide rfl, Hbd, hide rfl, hide (by have := nz_le l; rw [Hn.out] at this; simpa using this), Hown1, hide (World.ownsRow_nil ..), Hb1⟩
        case round =>
          obtain ⟨rest, out, Rn, Rs, Rz, Rb, Ro, Rl, Rown, Rt, Rw⟩ := hrel
          clear Hs Hown1 Hb1 Hbd
          have hrd : IntsAt .i64 wr p5 rest := IntsAt.of_own Rown.out
          obtain ⟨wo, hwo⟩ : ∃ wo : World, wo = wr := ⟨_, rfl⟩
          subst hwo
          go_wp2_with fail
          go_loopw [6, 7, 8] (fun a b i wi => ∃ k d c e : Nat, k ≤ n ∧ i = .int .i64 k ∧ a = .int .i64 d ∧ b = .int .i64 c ∧ d ≤ k ∧ c ≤ k ∧ Hid (best ltI rest k = d) ∧ Hid (best gtI rest k = c) ∧ wi = wo.drewN e) (fun _ _ i _ => n - (intOf i).toNat)
          case atStart => exact ⟨0, 0, 0, 0, Nat.zero_le _, rfl, rfl, rfl, Nat.le_refl _, Nat.le_refl _, hide rfl, hide rfl, rfl⟩
          case round =>
            obtain ⟨k, d, c, e, hk, rfl, rfl, rfl, hdk, hck, hbd, hbc, rfl⟩ := hrel
            by_cases hlt : k < n
            · have hdn : d < n := by omega
              have hcn : c < n := by omega
              obtain ⟨b, o, x, rfl, hx, hc0⟩ := hrd.at_ (i := k) (by rw [Rn.out]; exact hlt)
              obtain ⟨_, _, y, hbo, hy, hc1⟩ := hrd.at_ (i := d) (by rw [Rn.out]; exact hdn)
              cases hbo
              obtain ⟨_, _, z, hbo, hz, hc2⟩ := hrd.at_ (i := c) (by rw [Rn.out]; exact hcn)
              cases hbo
              have Hx := hide (getD_of hx); have Hy := hide (getD_of hy); have Hz := hide (getD_of hz)
              clear hx hy hz hrd
              by_cases h1 : x < y <;> by_cases h2 : z < x
              all_goals
                go_wp2_with fail
                go_quiet (fail)
                go_wp2_with fail
                go_quiet (fail)
                go_wp2_with fail
                go_roundw
                case measure => simp [intOf]; omega
              case rel => exact ⟨k + 1, k, k, _, by omega, by go_num, rfl, rfl, by omega, by omega, hide (best_succ_lt hbd.out Hx.out Hy.out (decide_eq_true h1)), hide (best_succ_lt hbc.out Hx.out Hz.out (decide_eq_true h2)), rfl⟩
              case rel => exact ⟨k + 1, k, c, _, by omega, by go_num, rfl, rfl, by omega, by omega, hide (best_succ_lt hbd.out Hx.out Hy.out (decide_eq_true h1)), hide (best_succ_ge hbc.out Hx.out Hz.out (decide_eq_false (by omega))), rfl⟩
              case rel => exact ⟨k + 1, d, k, _, by omega, by go_num, rfl, rfl, by omega, by omega, hide (best_succ_ge hbd.out Hx.out Hy.out (decide_eq_false (by omega))), hide (best_succ_lt hbc.out Hx.out Hz.out (decide_eq_true h2)), rfl⟩
              case rel => exact ⟨k + 1, d, c, _, by omega, by go_num, rfl, rfl, by omega, by omega, hide (best_succ_ge hbd.out Hx.out Hy.out (decide_eq_false (by omega))), hide (best_succ_ge hbc.out Hx.out Hz.out (decide_eq_false (by omega))), rfl⟩
            · obtain rfl : n = k := by omega
              have HLd := hide (show least rest = d by unfold least; rw [Rn.out]; exact hbd.out)
              have HLc := hide (show most rest = c by unfold most; rw [Rn.out]; exact hbc.out)
              have Hrd := hide hrd; clear hrd
              by_cases h0 : n = 0
              · subst h0
                have Hr0 := hide (List.eq_nil_of_length_eq_zero Rn.out)
                have Hend := hide (show out = netList l by rw [HL.out, ← Ro.out, netLoop_zero rest Rs.out (by rw [Hr0.out]; rfl), List.append_nil])
                go_wp2_with fail
                have HR1 := HR.out u4 (wo.drewN e) (below_drewN' Rw.out e) (by rw [← Hend.out]; exact Rt.out)
                rw [He.out] at HR1
                exact HR1
              · have hdn : d < n := by have := best_lt ltI rest n (by rw [Rn.out]; exact Nat.le_refl _) (by rw [Rn.out]; omega); rw [Rn.out, hbd.out] at this; exact this
                have hcn : c < n := by have := best_lt gtI rest n (by rw [Rn.out]; exact Nat.le_refl _) (by rw [Rn.out]; omega); rw [Rn.out, hbc.out] at this; exact this
                obtain ⟨g, cap6, hv5, hg1, hg2⟩ := own_form Rown.out (by omega)
                injection hv5 with hv1 hv2 hv3
                subst hv1; subst hv3
                clear hv2
                obtain ⟨x, hx, hxc⟩ := owni_at Rown.out hdn
                obtain ⟨y, hy, hyc⟩ := owni_at Rown.out hcn
                have hxb := Rb.out.getD (by decide) d
                have hyb := Rb.out.getD (by decide) c
                rw [hx] at hxb
                rw [hy] at hyb
                have Hx := hide hx; have Hy := hide hy; clear hx hy
                by_cases hz : x = 0 ∧ y = 0
                · obtain ⟨rfl, rfl⟩ := hz
                  have Hend := hide (show out = netList l by
                    rw [HL.out, ← Ro.out]
                    cases gk with
                    | zero => simp [netLoop]
                    | succ k => rw [netLoop, if_pos ⟨by rw [HLd.out]; exact Hx.out, by rw [HLc.out]; exact Hy.out⟩, List.append_nil])
                  go_wp2_with fail
                  have HR1 := HR.out u4 (wo.drewN e) (below_drewN' Rw.out e) (by rw [← Hend.out]; exact Rt.out)
                  rw [He.out] at HR1
                  exact HR1
                · obtain ⟨hx0, hy0⟩ : x < 0 ∧ 0 < y := by
                    have := extremes rest Rs.out (by rw [HLd.out, HLc.out, Hx.out, Hy.out]; exact hz)
                    rw [HLd.out, HLc.out, Hx.out, Hy.out] at this
                    exact this.2
                  clear hz
                  have hy00 : (y == 0) = false := by simp; omega
                  have hn00 : ((n : Int) == 0) = false := by simp; omega
                  have hdc : d ≠ c := by rintro rfl; have h1 := Hx.out; rw [Hy.out] at h1; omega
                  have Hxc := hide hxc; have Hyc := hide hyc
                  go_wp2_with fail
                  go_quiet (fail)
                  clear hxc hyc hy00 hn00
                  obtain ⟨am, ham⟩ : ∃ am, min (-x) y = am := ⟨_, rfl⟩
                  rw [ham]
                  have hamb : 0 < am ∧ am ≤ -x ∧ am ≤ y := by omega
                  have Ham := hide ham; clear ham
                  have Hnext := hide (show nextPay rest = ⟨d, c, am⟩ by unfold nextPay; rw [HLd.out, HLc.out, Hx.out, Hy.out, Ham.out])
                  rw [World.drewN_drewN]
                  generalize e + nq = e1
                  have Rl' := Rl.out
                  go_wp2_with (at_builtin; refine Stop.out ?_)
                  refine Stop.go ?_
                  refine wpList_app _ rfl (.tmp 71) (.tmp 76) 23 rfl w.heap.size 36 j0 _ 3 24 Try.underlying23 hj0 jz0 jz1 jz2 rfl (by omega) u4 out.length (out.flatMap trCells) rfl (World.ownsRow.alloc (w := wo.drewN e1) Rt.out _) (some ⟨wo.heap.size, 0, none⟩) 1 1 (trCells ⟨d, c, am⟩) rfl (trCells_src (t := ⟨d, c, am⟩) (cell_new (w := wo.drewN e1) (i := 0)) (cell_new (w := wo.drewN e1) (i := 1)) (cell_new (w := wo.drewN e1) (i := 2))) (trCells_one _) (by unfold maxLen; omega) (by omega) (by simp; have := Rw.out.size; omega) ?_
                  intro v7 w7 hown7 hg7
                  have hg7' : (wo.drewN e1).grownBy w7 u4.ownBlock := World.grownBy.trans (World.grownBy_alloc _ _ _) hg7
                  have hne : u4.ownBlock ≠ some g := own_ne Rown.out Rt.out (by decide) (k := g) rfl
                  have Rown7 := hide (show w7.ownsRow w.heap.size 3 1 (.slice (some ⟨g, 0, none⟩) n cap5) n (rest.map (Value.int .i64)) from World.ownsRow.kept (w := wo.drewN e1) Rown.out hg7' (.inr (fun h => hne h.symm)))
                  have Bw7 := hide (show Below w.heap.size w w7 from Below.grown (below_drewN' Rw.out e1) hg7' Rw.out.size (fun k hk => (Rt.out.lt k hk).1))
                  have Hown7 := hide hown7
                  clear hown7 hg7 hg7' hne Rown Rt Rw Hxc Hyc Hrd
                  have hxc := owni_cell Rown7.out hdn
                  rw [Hx.out] at hxc
                  have hfz := fun j => Rown7.out.frozenAt j
                  have hyc : ∀ u, (w7.setCell ⟨g, d, none⟩ u).cell? ⟨g, c, none⟩ = some (.int .i64 y) := fun u => by
                    rw [World.cell?_setCell_other w7 ⟨g, d, none⟩ ⟨g, c, none⟩ u (by intro h; injection h; omega), owni_cell Rown7.out hcn, Hy.out]
                  have hzn : ¬ (rest.getD (least rest) 0 = 0 ∧ rest.getD (most rest) 0 = 0) := by rw [HLd.out, Hx.out]; omega
                  have hlt := nz_next rest Rs.out hzn
                  rw [Rz.out] at hlt
                  have Hlt := hide hlt
                  have Hzn := hide hzn
                  have Hdc := hide hdc
                  clear hzn hlt hdc
                  go_wp2_with fail
                  have Rown9 := hide (owni_set (owni_set Rown7.out d (x + am)) c (y - am))
                  have Bw9 := hide ((Bw7.out.setCell (p := ⟨g, d, none⟩) hg1 (.int .i64 (x + am))).setCell (p := ⟨g, c, none⟩) hg1 (.int .i64 (y - am)))
                  have hne : v7.ownBlock ≠ some g := own_ne Rown7.out Hown7.out (by decide) (k := g) rfl
                  have Hown9 := hide (((Hown7.out.kept (grownBy_set (World.grownBy.refl w7 (some g)) d (.int .i64 (x + am))) (.inr hne)).kept (grownBy_set (World.grownBy.refl _ (some g)) c (.int .i64 (y - am))) (.inr hne)))
                  have hpe : payOne rest (nextPay rest) = (rest.set d (x + am)).set c (y - am) := by
                    rw [payNext rest (by rw [HLd.out, HLc.out]; exact Hdc.out), HLd.out, HLc.out, Hnext.out, Hx.out, Hy.out]
                  have Hpe := hide hpe
                  clear hpe hne hfz hxc hyc
                  go_roundg (nz (payOne rest (nextPay rest)))
                  case measure => exact Hlt.out
                  case rel =>
                    refine ⟨payOne rest (nextPay rest), out ++ [nextPay rest], hide (by rw [length_payOne]; exact Rn.out), hide (by rw [sum_next _ (by rw [Rn.out]; omega)]; exact Rs.out), hide rfl, ?_, ?_, ?_, ?_, ?_, ?_⟩
                    · refine hide fun z hz => ?_
                      obtain ⟨i, _, rfl⟩ := mem_getD hz
                      have := next_between rest Rs.out Hzn.out i
                      have := Rb.out.getD (by decide) i
                      omega
                    · refine hide ?_
                      have hex : netLoop gk rest = nextPay rest :: netLoop (gk - 1) (payOne rest (nextPay rest)) := by
                        have h1 := Hlt.out
                        obtain ⟨m, rfl⟩ : ∃ m, gk = m + 1 := ⟨gk - 1, by omega⟩
                        rw [netLoop, if_neg Hzn.out, Nat.add_sub_cancel]
                      rw [← Ro.out, hex, List.append_assoc, List.singleton_append, netLoop_fuel (gk - 1) (payOne rest (nextPay rest)) ((sum_next _ (by rw [Rn.out]; omega)).trans Rs.out) (by have := Hlt.out; omega)]
                    · refine hide ?_
                      have := Hlt.out; have := Rl.out
                      simp only [List.length_append, List.length_singleton]; omega
                    · rw [Hpe.out]; exact Rown9
                    · refine hide ?_
                      unfold OwnT
                      rw [List.length_append, List.flatMap_append, Hnext.out]
                      simpa using Hown9.out
                    · exact Bw9
      · have he := netErr_sum (by rw [Hn.out]; exact h40) Hw.out hs
        have HR1 := hide (HR.out (.slice none 0 0) w (Below.refl _ _) (by rw [netList_err (by rw [he]; decide)]; exact World.ownsRow_nil ..))
        rw [he] at HR1
        clear he
        go_enter Try.func12, Try.ntmps12
        go_wp2_with (go_at_call 28; refine Stop.out ?_)
        refine Stop.go (amounts_c p n cap l _ _ Hn.out (by unfold maxLen; omega) H.out ?_)
        rw [all_okAmt, Hw.out]
        have Hss := hide hs
        obtain ⟨sm, hsm⟩ : ∃ sm, l.sum = sm := ⟨_, rfl⟩
        have Hsm := hide hsm
        rw [hsm] at hs
        clear hsm
        go_wp2_with (go_at_call 20; refine Stop.out ?_)
        refine Stop.go (total_c p n cap l _ _ Hn.out (by omega) H.out Hbd.out ?_)
        rw [Hsm.out]
        go_wp2_with fail
        exact HR1.out
end Go.Proofs.Ytkpnbglghindjaa
