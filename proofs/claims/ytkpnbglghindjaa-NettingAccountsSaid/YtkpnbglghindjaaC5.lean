import Derived.Test.YtkpnbglghindjaaC4
set_option linter.unusedVariables false
set_option linter.unusedSimpArgs false
namespace Go.Proofs.Ytkpnbglghindjaa
open Go.RowKit Math

theorem netErr_long {l : List Int} (h : 40 < l.length) : netErr l = 1 := if_pos (Or.inl h)
theorem netErr_wrong {l : List Int} (h : l.any (wrongB maxB) = true) : netErr l = 1 := if_pos (Or.inr h)
theorem netErr_sum {l : List Int} (h : ¬ 40 < l.length) (h' : l.any (wrongB maxB) = false) (hs : l.sum ≠ 0) : netErr l = 380 := by
  unfold netErr; rw [if_neg (by rw [h']; simp; omega), if_pos hs]
theorem netErr_ok {l : List Int} (h : ¬ 40 < l.length) (h' : l.any (wrongB maxB) = false) (hs : l.sum = 0) : netErr l = 0 := by
  unfold netErr; rw [if_neg (by rw [h']; simp; omega), if_neg (by simp [hs])]
theorem netList_err {l : List Int} (h : netErr l ≠ 0) : netList l = [] := if_neg h
theorem netList_ok {l : List Int} (h : netErr l = 0) : netList l = netLoop (nz l) l := if_pos h

theorem lt_cmp : (fun a b => decide (cmpI a b < 0)) = ltI := by
  funext a b
  unfold ltI
  rcases Int.lt_trichotomy a b with h | h | h
  · rw [cmpI_lt h, decide_eq_true h]; rfl
  · subst h; rw [cmpI_eq]; simp
  · rw [cmpI_gt h, decide_eq_false (show ¬ a < b by omega)]; rfl
theorem gt_cmp : (fun a b => decide ((fun a b => cmpI b a) a b < 0)) = gtI := by
  funext a b
  have := congrFun (congrFun lt_cmp b) a
  exact this
theorem nz_le (l : List Int) : nz l ≤ l.length := by
  induction l with
  | nil => simp [nz]
  | cons a l ih => simp only [nz, List.length_cons]; split <;> omega

set_option maxRecDepth 100000 in
set_option maxHeartbeats 2000000 in
theorem net_c (p : Option Addr) (n cap : Nat) (l : List Int) (w : World) (R) (hn : l.length = n) (hl : n ≤ maxLen) (h : IntsAt .i64 w p l) (hp : p = none → n = 0)
    (hR : ∀ v w', Below w.heap.size w w' → OwnT w' w.heap.size v (netList l) → R (.returned (.tuple #[v, .int .i64 (netErr l)])) w') : Calls Try.prog 11 #[.slice p n cap] w R := by
  unfold maxLen at hl
  by_cases h40 : 40 < n
  · have he := netErr_long (l := l) (by omega)
    have HR := hR (.slice none 0 0) w (Below.refl _ _) (by rw [netList_err (by rw [he]; decide)]; exact World.ownsRow_nil ..)
    rw [he] at HR
    clear hR
    have HR := hide HR
    clear hn h hp he
    go_enter Try.func11, Try.ntmps11
    go_wp2_with fail
    exact HR.out
  · cases hw : l.any (wrongB maxB) with
    | true =>
      have he := netErr_wrong hw
      have HR := hide (fun w' hw' => hR (.slice none 0 0) w' hw' (by rw [netList_err (by rw [he]; decide)]; exact World.ownsRow_nil ..))
      rw [he] at HR
      have Hn := hide hn
      have Hp := hide hp
      have Hw := hide hw
      clear hR hw hn hp he
      go_enter Try.func11, Try.ntmps11
      go_wp2_with (first
        | (go_at_call 22; refine wrongNumber_c _ _ _ ?_)
        | (go_at_call 21; refine containsFunc_c _ _ _ l _ _ (wrongB maxB) _ _ Hn.out (by unfold maxLen; omega) (h.keep (Keeps.alloc _ _)) (pred_wrong _ _ _ (by decide) (by decide) (by simp [maxB])) ?_; intro w1 hw1; rw [Hw.out]; have Hw1 := hide (Below.trans ((Below.refl _ _).alloc (Nat.le_refl _) _) hw1.below); clear hw1))
      exact HR.out _ Hw1.out
    | false =>
      have Hbd := hide (wrongB_any_false hw)
      have Hn := hide hn
      have Hw := hide hw
      have HR := hide hR
      clear hR hw hn
      go_enter Try.func11, Try.ntmps11
      go_wp2_with (first
        | (go_at_call 22; refine wrongNumber_c _ _ _ ?_)
        | (go_at_call 21; refine containsFunc_c _ _ _ l _ _ (wrongB maxB) _ _ Hn.out (by unfold maxLen; omega) (h.keep (Keeps.alloc _ _)) (pred_wrong _ _ _ (by decide) (by decide) (by simp [maxB])) ?_; intro w1 hw1; rw [Hw.out]; have Hw1 := hide (Below.trans ((Below.refl _ _).alloc (Nat.le_refl _) _) hw1.below); clear hw1))
      have h1 := h.keep (Keeps.of_below Hw1.out)
      clear h
      go_loop [4, 22] (fun s i => ∃ k : Nat, k ≤ n ∧ i = .int .i64 k ∧ s = .int .i64 (l.take k).sum) (fun _ i => n - (intOf i).toNat)
      case atStart => exact ⟨0, Nat.zero_le _, rfl, rfl⟩
      case round =>
        obtain ⟨k, hk, rfl, rfl⟩ := hrel
        have hb := sum_take_bd Hbd.out k
        generalize hsk : (l.take k).sum = sk at *
        have Hsk := hide hsk; clear hsk
        by_cases hlt : k < n
        · obtain ⟨b, o, x, rfl, hx, hc⟩ := h1.at_ (i := k) (by rw [Hn.out]; exact hlt)
          have hxb := Hbd.out x (List.mem_of_getElem? hx)
          have Hx := hide hx; clear hx h1
          have Hp := hide hp; clear hp
          go_wp2
          go_round
          case rel => exact ⟨k + 1, by omega, by go_num, by rw [List.take_add_one, List.sum_append_int, Hx.out, Hsk.out]; simp⟩
          case measure => simp [intOf]; omega
        · have hkn : l.take k = l := List.take_of_length_le (by rw [Hn.out]; omega)
          have HS := hide (show l.sum = sk by rw [← hkn]; exact Hsk.out)
          clear hkn Hsk
          by_cases hs : sk = 0
          · subst hs
            have he := netErr_ok (by rw [Hn.out]; exact h40) Hw.out HS.out
            have HL := hide (netList_ok he)
            have He := hide he; clear he
            by_cases h0 : n = 0
            · have Hl0 := hide (List.eq_nil_of_length_eq_zero (by rw [Hn.out]; exact h0))
              have Hp := hide hp; clear hp
              go_wp2
              have := HR.out (.slice none 0 0) w1 Hw1.out (by rw [HL.out, Hl0.out]; exact World.ownsRow_nil ..)
              rw [He.out] at this
              exact this
            · have Hp := hide hp; clear hp
              have h00 : ((n : Int) == 0) = false := by simp; omega
              go_wp2_with (go_at_call 23; refine clone_c p n cap l _ _ Hn.out (by omega) h1 Hp.out ?_; intro v8 w2 hw2 hown2)
              have hown2' : w2.ownsRow w1.heap.size 3 1 v8 n (l.map (Value.int .i64)) := by have := hown2; unfold OwnI at this; rw [Hn.out] at this; exact this
              obtain ⟨g, cap8, rfl, hg1, hg2⟩ := own_form hown2' (by omega)
              have Hb2 := hide (Below.trans (Hw1.out) (hw2.mono Hw1.out.size))
              have hB0 := Hw1.out.size
              have Hown2 := hide hown2'
              clear hown2' hown2 hw2 h1
              go_loopg [7] (nz l) (fun k v7 wr => ∃ rest out, Hid (rest.length = n) ∧ Hid (rest.sum = 0) ∧ Hid (nz rest = k) ∧ Hid (Bd 1000000000000 rest) ∧ Hid (out ++ netLoop k rest = netLoop (nz l) l) ∧ Hid (out.length + k ≤ n)
                ∧ Hid (wr.ownsRow w1.heap.size 3 1 (.slice (some ⟨g, 0, none⟩) n cap8) n (rest.map (Value.int .i64))) ∧ Hid (OwnT wr w.heap.size v7 out) ∧ Hid (Below w.heap.size w wr) ∧ g < wr.heap.size)
              case atStart => exact ⟨l, [], Hn, HS, hide rfl, Hbd, hide rfl, hide (by have := nz_le l; rw [Hn.out] at this; simpa using this), Hown2, hide (World.ownsRow_nil ..), Hb2, hg2⟩
              case round =>
                obtain ⟨rest, out, Rn, Rs, Rz, Rb, Ro, Rl, Rown, Rt, Rw, hgr⟩ := hrel
                clear HS Hown2 Hb2 hg2
                have hrd : IntsAt .i64 wr (some ⟨g, 0, none⟩) rest := IntsAt.of_own Rown.out
                obtain ⟨d, hd⟩ : ∃ d, best ltI rest n = d := ⟨_, rfl⟩
                obtain ⟨c, hc⟩ : ∃ c, best gtI rest n = c := ⟨_, rfl⟩
                have hdn : d < n := by rw [← hd]; have := best_lt ltI rest n (by rw [Rn.out]; exact Nat.le_refl _) (by rw [Rn.out]; omega); rw [Rn.out] at this; exact this
                have hcn : c < n := by rw [← hc]; have := best_lt gtI rest n (by rw [Rn.out]; exact Nat.le_refl _) (by rw [Rn.out]; omega); rw [Rn.out] at this; exact this
                have Hd := hide hd; have Hc := hide hc; clear hd hc
                have HLd := hide (show least rest = d by unfold least; rw [Rn.out]; exact Hd.out)
                have HLc := hide (show most rest = c by unfold most; rw [Rn.out]; exact Hc.out)
                obtain ⟨x, hx, hxc⟩ := owni_at Rown.out hdn
                obtain ⟨y, hy, hyc⟩ := owni_at Rown.out hcn
                have hxb := Rb.out.getD (by decide) d
                have hyb := Rb.out.getD (by decide) c
                rw [hx] at hxb
                rw [hy] at hyb
                have Hx := hide hx; have Hy := hide hy; clear hx hy
                have Hxc := hide hxc; have Hyc := hide hyc; clear hxc hyc
                by_cases hz : x = 0 ∧ y = 0
                · obtain ⟨rfl, rfl⟩ := hz
                  have Hend := hide (show netLoop gk rest = [] by
                    cases gk with
                    | zero => rfl
                    | succ k => unfold netLoop; rw [if_pos ⟨by rw [HLd.out]; exact Hx.out, by rw [HLc.out]; exact Hy.out⟩])
                  have Hrd := hide hrd; clear hrd
                  go_wp2_with (go_at_call 24; with_reducible refine first_c (some ⟨g, 0, none⟩) n cap8 rest 25 #[] cmpI _ _ Rn.out (by unfold maxLen; omega) Hrd.out (fun w' _ => cmpF_compare w') ?_; intro w3 hw3; rw [lt_cmp, Hd.out]; have Hw3 := hide hw3; clear hw3)
                  with_reducible refine first_c (some ⟨g, 0, none⟩) n cap8 rest 26 #[] (fun a b => cmpI b a) _ _ Rn.out (by unfold maxLen; omega) (Hrd.out.keep Hw3.out.keeps) (fun w' _ => cmpF_back w') ?_
                  intro w4 hw4
                  rw [gt_cmp, Hc.out]
                  have Hw4 := hide (Dr.trans Hw3.out hw4); clear hw4
                  have hx4 := Hw4.out.keeps _ _ Hxc.out
                  have hy4 := Hw4.out.keeps _ _ Hyc.out
                  go_wp2_with fail
                  have he : out = netList l := by rw [HL.out, ← Ro.out, Hend.out, List.append_nil]
                  have HR1 := HR.out u7 w4 (Below.trans Rw.out Hw4.out.below) (by rw [← he]; obtain ⟨q, rfl⟩ := Hw4.out; exact Rt.out)
                  rw [He.out] at HR1
                  exact HR1
                · obtain ⟨hx0, hy0⟩ : x < 0 ∧ 0 < y := by
                    have := extremes rest Rs.out (by rw [HLd.out, HLc.out, Hx.out, Hy.out]; exact hz)
                    rw [HLd.out, HLc.out, Hx.out, Hy.out] at this
                    exact this.2
                  clear hz
                  have hx00 : (x == 0) = false := by simp; omega
                  have Hrd := hide hrd; clear hrd
                  go_wp2_with (go_at_call 24; with_reducible refine first_c (some ⟨g, 0, none⟩) n cap8 rest 25 #[] cmpI _ _ Rn.out (by unfold maxLen; omega) Hrd.out (fun w' _ => cmpF_compare w') ?_; intro w3 hw3; rw [lt_cmp, Hd.out]; have Hw3 := hide hw3; clear hw3)
                  with_reducible refine first_c (some ⟨g, 0, none⟩) n cap8 rest 26 #[] (fun a b => cmpI b a) _ _ Rn.out (by unfold maxLen; omega) (Hrd.out.keep Hw3.out.keeps) (fun w' _ => cmpF_back w') ?_
                  intro w4 hw4
                  rw [gt_cmp, Hc.out]
                  have Hw4 := hide (Dr.trans Hw3.out hw4); clear hw4
                  have hx4 := Hw4.out.keeps _ _ Hxc.out
                  have hy4 := Hw4.out.keeps _ _ Hyc.out
                  go_wp2_with fail
                  have hx5 : ∀ o, (w4.alloc o).cell? ⟨g, d, none⟩ = some (.int .i64 x) := fun o => Keeps.alloc w4 o _ _ hx4
                  have hy5 : ∀ o, (w4.alloc o).cell? ⟨g, c, none⟩ = some (.int .i64 y) := fun o => Keeps.alloc w4 o _ _ hy4
                  go_region
                  clear hx5 hy5
                  go_wp2_with fail
                  obtain ⟨am, ham⟩ : ∃ am, min (-x) y = am := ⟨_, rfl⟩
                  rw [ham]
                  have hamb : 0 < am ∧ am ≤ -x ∧ am ≤ y := by omega
                  have Ham := hide ham; clear ham
                  have hnext : nextPay rest = ⟨d, c, am⟩ := by
                    unfold nextPay
                    rw [HLd.out, HLc.out, Hx.out, Hy.out, Ham.out]
                  have Hnext := hide hnext; clear hnext
                  generalize hB : w4.heap.size = B
                  have hgB : g < B := by obtain ⟨q, hq⟩ := Hw4.out; rw [← hB, hq]; exact hgr
                  have Bw4 := hide (Below.trans Rw.out Hw4.out.below)
                  have Rown4 := hide (show w4.ownsRow w1.heap.size 3 1 (.slice (some ⟨g, 0, none⟩) n cap8) n (rest.map (Value.int .i64)) by obtain ⟨q, rfl⟩ := Hw4.out; exact Rown.out)
                  have Rt4 := hide (show OwnT w4 w.heap.size u7 out by obtain ⟨q, rfl⟩ := Hw4.out; exact Rt.out)
                  clear Rown Rt Rw Hxc Hyc Hrd hx4 hy4 Hw3 Hw4
                  generalize hw5 : ((w4.alloc (.cells #[.int .i64 (d : Int), .int .i64 (c : Int), .int .i64 am] 36)).alloc (.cells #[.int .i64 (d : Int), .int .i64 (c : Int), .int .i64 am] 36)).drew = w5
                  have Rown5 := hide (show w5.ownsRow w1.heap.size 3 1 (.slice (some ⟨g, 0, none⟩) n cap8) n (rest.map (Value.int .i64)) by subst hw5; exact (Rown4.out.alloc _).alloc _)
                  have Rt5 := hide (show OwnT w5 w.heap.size u7 out by subst hw5; exact (Rt4.out.alloc _).alloc _)
                  have Bw5 := hide (show Below w.heap.size w w5 by subst hw5; exact ((Bw4.out.alloc Bw4.out.size _).alloc (by simp; have := Bw4.out.size; omega) _).drew)
                  have hs5 : w5.heap.size = B + 2 := by subst hw5; simp [hB]
                  have p0 : w5.cell? ⟨B, 0, none⟩ = some (.int .i64 (d : Int)) := by subst hw5; subst hB; simp
                  have p1 : w5.cell? ⟨B, 1, none⟩ = some (.int .i64 (c : Int)) := by subst hw5; subst hB; simp
                  have p2 : w5.cell? ⟨B, 2, none⟩ = some (.int .i64 am) := by subst hw5; subst hB; simp
                  have q0 : w5.cell? ⟨B + 1, 0, none⟩ = some (.int .i64 (d : Int)) := by subst hw5; subst hB; simp
                  have q1 : w5.cell? ⟨B + 1, 1, none⟩ = some (.int .i64 (c : Int)) := by subst hw5; subst hB; simp
                  have q2 : w5.cell? ⟨B + 1, 2, none⟩ = some (.int .i64 am) := by subst hw5; subst hB; simp
                  have htr := TrsAt.one (t := ⟨d, c, am⟩) q0 q1 q2
                  have P0 := hide p0; have P1 := hide p1; have P2 := hide p2
                  clear hw5 hB q0 q1 q2 Rown4 Rt4 Bw4 p0 p1 p2
                  refine pay_c g n cap8 w1.heap.size 1 1 (some ⟨B + 1, 0, none⟩) rest [⟨d, c, am⟩] w5 _ rfl (by omega) hg1 (by omega) Rown5.out (by omega) htr (fun _ b o h => by injection h with h; injection h; omega) (fun t ht => by
                    rw [List.mem_singleton] at ht
                    subst ht
                    exact ⟨by simp, by simp; omega, by simp, by simp; omega, by simp; omega, by simp; omega⟩) (Rb.out.mono (by decide)) ?_
                  clear htr
                  intro w6 hown6 hg6
                  have Rown6 := hide (show w6.ownsRow w1.heap.size 3 1 (.slice (some ⟨g, 0, none⟩) n cap8) n ((payOne rest (nextPay rest)).map (Value.int .i64)) by rw [Hnext.out]; exact hown6)
                  have Rt6 := hide (show OwnT w6 w.heap.size u7 out from Rt5.out.kept hg6 (.inr (own_ne Rown5.out Rt5.out (by decide) (k := g) rfl)))
                  have Bw6 := hide (show Below w.heap.size w w6 from Bw5.out.grown hg6 Bw5.out.size (fun k hk => by injection hk; omega))
                  have hs6 := hg6.size
                  have p0 := hg6.cell P0.out (by simp; omega)
                  have p1 := hg6.cell P1.out (by simp; omega)
                  have p2 := hg6.cell P2.out (by simp; omega)
                  clear Rown5 Rt5 Bw5 hown6 hg6 P0 P1 P2
                  obtain ⟨i0, hi0, hz0, hz1, hz2⟩ := info_parts info_tr
                  have Rl' := Rl.out
                  go_wp2_with (at_builtin; refine Stop.out ?_)
                  refine Stop.go ?_
                  refine wpList_app _ rfl (.tmp 71) (.tmp 73) 23 rfl w.heap.size 36 i0 _ 3 24 Try.underlying23 hi0 hz0 hz1 hz2 rfl (by omega) u7 out.length (out.flatMap trCells) rfl (Rt6.out.alloc _) (some ⟨w6.heap.size, 0, none⟩) 1 1 (trCells ⟨d, c, am⟩) rfl (trCells_src (t := ⟨d, c, am⟩) (by simp) (by simp) (by simp)) (trCells_one _) (by unfold maxLen; omega) (by omega) (by simp; have := Bw6.out.size; omega) ?_
                  intro v7 w7 hown7 hg7
                  have hg7' : w6.grownBy w7 u7.ownBlock := World.grownBy.trans (World.grownBy_alloc _ _ _) hg7
                  have hne : u7.ownBlock ≠ some g := own_ne Rown6.out Rt6.out (by decide) (k := g) rfl
                  have Rown7 := hide (show w7.ownsRow w1.heap.size 3 1 (.slice (some ⟨g, 0, none⟩) n cap8) n ((payOne rest (nextPay rest)).map (Value.int .i64)) from Rown6.out.kept hg7' (.inr (fun h => hne h.symm)))
                  have Bw7 := hide (show Below w.heap.size w w7 from Bw6.out.grown hg7' Bw6.out.size (fun k hk => (Rt6.out.lt k hk).1))
                  have hs7 := hg7'.size
                  have Hown7 := hide hown7
                  clear hown7 hg7 hg7' hne Rown6 Rt6 Bw6 p0 p1 p2
                  have hzn : ¬ (rest.getD (least rest) 0 = 0 ∧ rest.getD (most rest) 0 = 0) := by rw [HLd.out, Hx.out]; omega
                  have hlt := nz_next rest Rs.out hzn
                  rw [Rz.out] at hlt
                  have Hlt := hide hlt
                  have Hzn := hide hzn
                  clear hzn hlt
                  go_wp2_with fail
                  go_roundg (nz (payOne rest (nextPay rest)))
                  case measure => exact Hlt.out
                  case rel =>
                    refine ⟨payOne rest (nextPay rest), out ++ [nextPay rest], hide (by rw [length_payOne]; exact Rn.out), hide (by rw [sum_next _ (by rw [Rn.out]; omega)]; exact Rs.out), hide rfl, ?_, ?_, ?_, Rown7, ?_, Bw7, by omega⟩
                    · refine hide fun z hz => ?_
                      obtain ⟨i, _, rfl⟩ := mem_getD hz
                      have := next_between rest Rs.out Hzn.out i
                      have := Rb.out.getD (by decide) i
                      omega
                    · refine hide ?_
                      have hex : netLoop gk rest = nextPay rest :: netLoop (gk - 1) (payOne rest (nextPay rest)) := by
                        have h1 := Hlt.out
                        obtain ⟨m, rfl⟩ : ∃ m, gk = m + 1 := ⟨gk - 1, by omega⟩
                        rw [netLoop, if_neg Hzn.out, Nat.add_sub_cancel]
                      rw [← Ro.out, hex, List.append_assoc, List.singleton_append, netLoop_fuel (gk - 1) (payOne rest (nextPay rest)) ((sum_next _ (by rw [Rn.out]; omega)).trans Rs.out) (by have := Hlt.out; omega)]
                    · refine hide ?_
                      have := Hlt.out; have := Rl.out
                      simp only [List.length_append, List.length_singleton]; omega
                    · refine hide ?_
                      unfold OwnT
                      rw [List.length_append, List.flatMap_append, Hnext.out]
                      simpa using Hown7.out
          · have he := netErr_sum (by rw [Hn.out]; exact h40) Hw.out (show l.sum ≠ 0 by rw [HS.out]; exact hs)
            have He := hide he; clear he
            have Hp := hide hp; clear hp
            go_wp2
            have := HR.out (.slice none 0 0) w1 Hw1.out (by rw [netList_err (by rw [He.out]; decide)]; exact World.ownsRow_nil ..)
            rw [He.out] at this
            exact this
end Go.Proofs.Ytkpnbglghindjaa
