/- The inspector: opening a certificate; usable networks; plans that fit. The inspector: usable networks; plans that fit. The inspector: usable networks. The inspector: plans that fit. -/
import Derived.Test.YtgfhcmidnbahjaaGreatDoorQT31
import Derived.Test.YtgfhcmidnbahjaaGreatDoorQT30
set_option linter.unusedVariables false
set_option linter.unusedSimpArgs false
namespace Go.Proofs.YtgfhcmidnbahjaaGreatDoor
open Go.RowKit Go.Shelf
attribute [local go_sem] Oper.semAt_some run_store_func
set_option maxRecDepth 100000 in
theorem iopen_no (xs : List Int) (q : Option Addr) (cap : Nat) (s : Int) (w : World) (R : Ending → World → Prop) (hy : IntsAt .i64 w q xs) (hl : xs.length ≤ 1000000) (hsl : sealedB xs s = false) (hR : ∀ w', Below w.heap.size w w' → R (.panicked (pnc 180)) w') :
    Calls Tryz.prog 98 #[.agg #[.slice q xs.length cap, .int .i64 s]] w R := by
  have HR := hide hR
  obtain ⟨w1, hw1⟩ : ∃ w1, (w.alloc (.cells #[.slice q xs.length cap, .int .i64 s] 42)).alloc (.cells #[.int .i64 0, .int .i64 0, .slice none 0 0, .slice none 0 0] 39) = w1 := ⟨_, rfl⟩
  have hb1 : Below w.heap.size w w1 := hw1 ▸ balloc (balloc (Below.refl _ _) _) _
  have kc : Blk w1 w.heap.size #[.slice q xs.length cap, .int .i64 s] 42 := by rw [← hw1]; exact Blk.alloc (Blk.new _ _ _) _
  have x0 := kc.cell (k := 0) rfl; have x1 := kc.cell (k := 1) rfl
  have HY := hide (hy.keep (Keeps.of_below hb1)); have HB1 := hide hb1
  clear hR hy hb1 kc
  go_enter Tryz.func98, Tryz.ntmps98
  go_wp2_with (go_at_call 149; refine Stop.out ?_)
  clear hw1
  refine Stop.go (sealed_c xs q cap s w1 _ HY.out hl ?_)
  rw [hsl]
  intro w2 hb
  have HB2 := hide (bseq HB1.out hb)
  clear hb x0 x1
  go_wp2_with (go_at_call 100; refine Stop.out ?_)
  refine Stop.go (require_no 180 _ _ ?_)
  exact ⟨rfl, HR.out w2 HB2.out⟩
set_option maxRecDepth 100000 in
set_option maxHeartbeats 2000000 in
theorem iopen_ok (xs : List Int) (q : Option Addr) (cap : Nat) (s : Int) (n c : Nat) (next : Mat) (C : Cube) (fr till : Int) (rest : List Int) (w : World) (R) (hy : IntsAt .i64 w q xs) (hcap : xs.length ≤ cap) (hl : xs.length ≤ 1000000) (hsl : sealedB xs s = true) (hx : xs = headL n c next C fr till ++ rest)
    (hn : n ≤ 12) (hc : c ≤ 4) (hft : fr < till) (h60 : till ≤ fr + 60) (h600 : till ≤ 600) (h0 : 0 ≤ fr) (hrn : ∀ o d, -1 ≤ next o d ∧ next o d ≤ 65518) (hrc : ∀ k o d, -1 ≤ C k o d ∧ C k o d ≤ 65518)
    (hR : ∀ gr g1 g2 w', RdS w gr rest w' → (∀ W, Ab gr w' W → MatAt W (some ⟨g1, 0, none⟩) n next ∧ CubeAt W (some ⟨g2, 0, none⟩) c n C) → R (.returned (.tuple #[.agg #[.int .i64 fr, .int .i64 till, .slice (some ⟨g1, 0, none⟩) n n, .slice (some ⟨g2, 0, none⟩) c c], .pointer (some ⟨gr, 0, none⟩)])) w') :
    Calls Tryz.prog 98 #[.agg #[.slice q xs.length cap, .int .i64 s]] w R := by
  have HR := hide hR; have HRn := hide hrn; have HRc := hide hrc; have HX := hide hx
  clear hx
  obtain ⟨w1, hw1⟩ : ∃ w1, (w.alloc (.cells #[.slice q xs.length cap, .int .i64 s] 42)).alloc (.cells #[.int .i64 0, .int .i64 0, .slice none 0 0, .slice none 0 0] 39) = w1 := ⟨_, rfl⟩
  have hb1 : Below w.heap.size w w1 := hw1 ▸ balloc (balloc (Below.refl _ _) _) _
  have kc : Blk w1 w.heap.size #[.slice q xs.length cap, .int .i64 s] 42 := by rw [← hw1]; exact Blk.alloc (Blk.new _ _ _) _
  have kr : Blk w1 (w.heap.size + 1) #[.int .i64 0, .int .i64 0, .slice none 0 0, .slice none 0 0] 39 := by rw [← hw1]; exact Blk.new_at (by simp)
  have x0 := kc.cell (k := 0) rfl; have x1 := kc.cell (k := 1) rfl
  have HY0 := hide hy; have HY := hide (hy.keep (Keeps.of_below hb1)); have HB1 := hide hb1; have KC := hide kc; have KR := hide kr
  clear hR hy hb1 kc kr hrn hrc
  go_enter Tryz.func98, Tryz.ntmps98
  go_wp2_with (go_at_call 149; refine Stop.out ?_)
  clear hw1
  refine Stop.go (sealed_c xs q cap s w1 _ HY.out hl ?_)
  rw [hsl]
  intro w2 hb
  have HB2 := hide (bseq HB1.out hb); have KC2 := hide (KC.out.next hb); have KR2 := hide (KR.out.next hb)
  clear hb x0 x1 KC KR HB1
  go_wp2_with (go_at_call 100; refine Stop.out ?_)
  refine Stop.go (require_yes 180 _ _ ?_)
  intro v
  have x0 := KC2.out.cell (k := 0) rfl
  obtain ⟨w3, hw3⟩ : ∃ w3, w2.alloc (.cells #[.slice q xs.length cap] 160) = w3 := ⟨_, rfl⟩
  have hb3 : Below w2.heap.size w2 w3 := hw3 ▸ balloc (Below.refl _ _) _
  have hrd : RdS w w2.heap.size xs w3 := ⟨bseq HB2.out hb3, HB2.out.size, q, cap, hw3 ▸ Blk.new _ _ _, hcap, HY0.out⟩
  have HRd := hide hrd; have KR3 := hide (KR2.out.next hb3)
  have hws := HB2.out.size
  have hrl := KR2.out.lt
  clear hb3 hrd KC2 KR2
  go_wp2_with (go_at_call 150; refine Stop.out ?_)
  clear hw3
  obtain ⟨gr, hgr⟩ : ∃ gr, w2.heap.size = gr := ⟨_, rfl⟩
  rw [hgr] at HRd hws hrl
  rw [hgr]
  have HRd2 : Hid (RdS w gr (headL n c next C fr till ++ rest) w3) := hide (by rw [← HX.out]; exact HRd.out)
  refine Stop.go (iplan_c gr n c next C fr till rest w w3 _ HRd2.out hn hc hft h60 h600 h0 (by rw [← HX.out]; exact hl) HRn.out HRc.out ?_)
  intro g1 g2 w4 hS hK hM
  have kr4 := KR3.out.sb hK (show w.heap.size + 1 ≠ gr by omega)
  obtain ⟨w5, hw5⟩ : ∃ w5, w4.alloc (.cells #[.int .i64 fr, .int .i64 till, .slice (some ⟨g1, 0, none⟩) n n, .slice (some ⟨g2, 0, none⟩) c c] 39) = w5 := ⟨_, rfl⟩
  have hb5 : Below w4.heap.size w4 w5 := hw5 ▸ balloc (Below.refl _ _) _
  have k5 : Blk w5 w4.heap.size #[.int .i64 fr, .int .i64 till, .slice (some ⟨g1, 0, none⟩) n n, .slice (some ⟨g2, 0, none⟩) c c] 39 := hw5 ▸ Blk.new _ _ _
  have y0 := k5.cell (k := 0) rfl; have y1 := k5.cell (k := 1) rfl; have y2 := k5.cell (k := 2) rfl; have y3 := k5.cell (k := 3) rfl
  have kr5 := kr4.next hb5
  have z0 := kr5.cell (k := 0) rfl; have z1 := kr5.cell (k := 1) rfl; have z2 := kr5.cell (k := 2) rfl; have z3 := kr5.cell (k := 3) rfl
  have f0 := kr5.free 0; have f1 := kr5.free 1; have f2 := kr5.free 2; have f3 := kr5.free 3
  have KR5 := hide kr5; have HS5 := hide (hS.next hb5)
  have HM := hide hM
  have hA5 : Ab gr w4 w5 := Ab.of_sb (Sb.of_below hb5)
  have HF := hide (HR.out gr g1 g2 ((((w5.setCell ⟨w.heap.size + 1, 0, none⟩ (.int .i64 fr)).setCell ⟨w.heap.size + 1, 1, none⟩ (.int .i64 till)).setCell ⟨w.heap.size + 1, 2, none⟩ (.slice (some ⟨g1, 0, none⟩) n n)).setCell ⟨w.heap.size + 1, 3, none⟩ (.slice (some ⟨g2, 0, none⟩) c c))
    ((((HS5.out.far (p := ⟨w.heap.size + 1, 0, none⟩) (show w.heap.size ≤ w.heap.size + 1 by omega) (show gr ≠ w.heap.size + 1 by omega) _).far (p := ⟨w.heap.size + 1, 1, none⟩) (show w.heap.size ≤ w.heap.size + 1 by omega) (show gr ≠ w.heap.size + 1 by omega) _).far (p := ⟨w.heap.size + 1, 2, none⟩) (show w.heap.size ≤ w.heap.size + 1 by omega) (show gr ≠ w.heap.size + 1 by omega) _).far (p := ⟨w.heap.size + 1, 3, none⟩) (show w.heap.size ≤ w.heap.size + 1 by omega) (show gr ≠ w.heap.size + 1 by omega) _)
    (fun W hW => HM.out W (((((hA5.cell (p := ⟨w.heap.size + 1, 0, none⟩) (show w.heap.size + 1 ≤ gr by omega) _).cell (p := ⟨w.heap.size + 1, 1, none⟩) (show w.heap.size + 1 ≤ gr by omega) _).cell (p := ⟨w.heap.size + 1, 2, none⟩) (show w.heap.size + 1 ≤ gr by omega) _).cell (p := ⟨w.heap.size + 1, 3, none⟩) (show w.heap.size + 1 ≤ gr by omega) _).trans hW)))
  have KF := hide ((((KR5.out.set 0 (.int .i64 fr)).set 1 (.int .i64 till)).set 2 (.slice (some ⟨g1, 0, none⟩) n n)).set 3 (.slice (some ⟨g2, 0, none⟩) c c))
  clear hS hK hM kr4 hb5 k5 kr5 hA5 KR3 HRd HRd2 KR5 HS5 HB2
  go_wp2
  refine bodyPost_ret (v := .tuple #[.agg #[.int .i64 fr, .int .i64 till, .slice (some ⟨g1, 0, none⟩) n n, .slice (some ⟨g2, 0, none⟩) c c], .pointer (some ⟨gr, 0, none⟩)]) ?_ rfl HF.out
  have w0' := KF.out.cell (k := 0) rfl; have w1' := KF.out.cell (k := 1) rfl; have w2' := KF.out.cell (k := 2) rfl; have w3' := KF.out.cell (k := 3) rfl
  simp [results, Tryz.results98, go_sem, w0', w1', w2', w3']
end Go.Proofs.YtgfhcmidnbahjaaGreatDoor
namespace Go.Proofs.YtgfhcmidnbahjaaGreatDoor
open Go.RowKit Go.Shelf
attribute [local go_sem] Oper.semAt_some run_store_func
set_option maxRecDepth 100000 in
set_option maxHeartbeats 2000000 in
theorem iwell_c (c : Cal) (w : World) (R) (hC : CalAt w c) (hok : calOk c = true) (hR : ∀ w', Below w.heap.size w w' → R (.returned (.bool true)) w') :
    Calls Tryz.prog 154 #[.agg c.cells.toArray] w R := by
  have HR := hide hR; have HC := hide hC
  obtain ⟨w1, hw1, hb1, k1⟩ := cal_box c w
  have HB1 := hide hb1; have HK1 := hide k1
  have hP := calP_of hok
  have HP := hide hP
  have x0 := k1.cell (k := 0) (v := .int .i64 c.zone) rfl; have x1 := k1.cell (k := 1) (v := .slice c.wp c.week.length c.wc) rfl; have x2 := k1.cell (k := 2) (v := .slice c.hp c.hol.length c.hc) rfl
  rw [hP.week] at x1
  have hz := hP.zone
  have hl := hP.hol
  obtain ⟨n, hn⟩ : ∃ n, c.hol.length = n := ⟨_, rfl⟩
  have Hn := hide hn
  rw [hn] at x2 hl
  have t1 : ¬ (40 : Int) < (n : Int) := by omega
  unfold Cal.cells at hw1 ⊢
  clear hR hC hb1 k1 hok hP hn
  go_enter Tryz.func154, Tryz.ntmps154
  go_wp2_with (go_at_call 152; refine Stop.out ?_)
  clear hw1
  refine Stop.go (between_c c.zone (-720) 840 true (by simp; omega) _ _ ?_)
  go_wp2
  go_loopw [3] (fun si wr => ∃ i : Nat, 1 ≤ i ∧ i ≤ n + 1 ∧ si = .int .i64 (i : Int) ∧ Hid (Below w.heap.size w wr) ∧ Hid (Blk wr w.heap.size c.cells.toArray 164)) (fun si _ => n + 1 - (intOf si).toNat)
  case atStart => exact ⟨1, Nat.le_refl _, by omega, rfl, HB1, HK1⟩
  case round =>
    obtain ⟨i, hi1, hi, rfl, HB, HK⟩ := hrel
    have x2 := HK.out.cell (k := 2) (v := .slice c.hp c.hol.length c.hc) rfl
    rw [Hn.out] at x2
    by_cases hlt : i < n
    · obtain ⟨b, o, x, hp, hx, c0⟩ := (HC.out.hol.keep (Keeps.of_below HB.out)).at_ (i := i) (by rw [Hn.out]; omega)
      obtain ⟨j, hj⟩ : ∃ j, i = j + 1 := ⟨i - 1, by omega⟩
      obtain ⟨b', o', y, hp', hy, c1⟩ := (HC.out.hol.keep (Keeps.of_below HB.out)).at_ (i := j) (by rw [Hn.out]; omega)
      rw [hp] at hp'; injection hp' with hp'; injection hp' with e1 e2; subst e1; subst e2
      have hxy : y < x := incr_mono HP.out.inc hy hx (by omega)
      rw [hp] at x2
      have e3 : IntKind.i64.wrap ((i : Int) - 1) = (j : Int) := (IntWalk.i64_in _ (by omega)).trans (by omega)
      have e4 : (i : Int) - 1 = (j : Int) := by omega
      have q1 : (0 : Int) ≤ (i : Int) := by omega
      have q2 : (i : Int) < (n : Int) := by omega
      have q3 : (0 : Int) ≤ (j : Int) := by omega
      have q4 : (j : Int) < (n : Int) := by omega
      have t2 : ¬ x ≤ y := by omega
      have Hj := hide hj
      clear hp hx hy hj
      go_wp2
      go_quiet (fail)
      go_wp2
      go_roundw
      case rel => exact ⟨i + 1, by omega, by omega, by go_num, hide (below_drewN' HB.out _), hide (HK.out.drewN _)⟩
      case measure => simp [intOf]; omega
    · have q1 : ¬ (i : Int) < (n : Int) := by omega
      go_wp2
      exact HR.out _ HB.out
end Go.Proofs.YtgfhcmidnbahjaaGreatDoor
namespace Go.Proofs.YtgfhcmidnbahjaaGreatDoor
open Go.RowKit Go.Shelf
attribute [local go_sem] Oper.semAt_some run_store_func
set_option maxRecDepth 100000 in
theorem iminute_c (x : Int) (hx : 0 ≤ x ∧ x ≤ 1439) (w : World) (R) (hR : R (.returned (.bool true)) w) : Calls Tryz.prog 151 #[.int .i64 x] w R := by
  have HR := hide hR
  clear hR
  go_enter Tryz.func151, Tryz.ntmps151
  go_wp2_with (go_at_call 152; refine Stop.out ?_)
  refine Stop.go (between_c x 0 1439 true (by simp; omega) _ _ ?_)
  go_wp2
  exact HR.out
set_option maxRecDepth 100000 in
theorem ioffice_c (N : Net) (gn g : Nat) (x : Int) (hx : 0 ≤ x ∧ x < N.offs.length) (hlen : N.offs.length ≤ 100) (w : World) (R) (hg : Blk w g #[.pointer (some ⟨gn, 0, none⟩)] 102) (hN : Blk w gn N.cells 29) (hR : R (.returned (.bool true)) w) : Calls Tryz.prog 153 #[.int .i64 x, .pointer (some ⟨g, 0, none⟩)] w R := by
  have HR := hide hR
  have x0 := hg.cell (k := 0) rfl
  have x3 := hN.cell (k := 3) (v := .slice N.fp N.offs.length N.fc) rfl
  obtain ⟨n, hn⟩ : ∃ n, N.offs.length = n := ⟨_, rfl⟩
  rw [hn] at x3 hx hlen
  clear hR hg hN hn
  go_enter Tryz.func153, Tryz.ntmps153
  go_wp2_with (go_at_call 152; refine Stop.out ?_)
  refine Stop.go (between_c x 0 ((n : Int) - 1) true (by simp; omega) _ _ ?_)
  go_wp2
  exact HR.out
structure UsI (w : World) (N : Net) (gn : Nat) (W : World) : Prop where
  below : Below w.heap.size w W
  b : Blk W w.heap.size #[.pointer (some ⟨gn, 0, none⟩)] 102
  net : Blk W gn N.cells 29
  nn : NetAt W N
theorem UsI.next {w : World} {N : Net} {gn : Nat} {W W' : World} (h : UsI w N gn W) (hb : Below W.heap.size W W') : UsI w N gn W' := ⟨bseq h.below hb, h.b.next hb, h.net.next hb, h.nn.next hb⟩
set_option maxRecDepth 100000 in
set_option maxHeartbeats 8000000 in
theorem usable_c (N : Net) (gn : Nat) (w : World) (R) (hN : Blk w gn N.cells 29) (hNt : NetAt w N) (hS : Snd N) (hR : ∀ w', Below w.heap.size w w' → R (.returned (.bool true)) w') :
    Calls Tryz.prog 101 #[.pointer (some ⟨gn, 0, none⟩)] w R := by
  have HR := hide hR; have HSn := hide hS
  have hmf : ∀ (fn : Fn) (first cap : Array Value) (w : World), (Instr.makeFunc fn first cap).run Tryz.prog w = .ok (.func fn first cap) w := fun _ _ _ _ => rfl
  obtain ⟨w1, hw1⟩ : ∃ w1, w.alloc (.cells #[.pointer (some ⟨gn, 0, none⟩)] 102) = w1 := ⟨_, rfl⟩
  have hb1 : Below w.heap.size w w1 := hw1 ▸ balloc (Below.refl _ _) _
  have HI1 := hide (show UsI w N gn w1 from ⟨hb1, hw1 ▸ Blk.new _ _ _, hN.next hb1, hNt.next hb1⟩)
  have y := HI1.out.b.cell (k := 0) rfl
  have x0 := HI1.out.net.cell (k := 0) (v := .slice N.cp N.cals.length N.cc) rfl
  clear hR hS hN hNt hb1
  go_enter Tryz.func101, Tryz.ntmps101
  go_wp2
  clear hw1 y x0
  go_loopw [19] (fun si wr => ∃ i : Nat, i ≤ N.cals.length ∧ si = .int .i64 (i : Int) ∧ Hid (UsI w N gn wr)) (fun si _ => N.cals.length - (intOf si).toNat)
  case atStart => exact ⟨0, Nat.zero_le _, rfl, HI1⟩
  case round =>
    clear HI1
    obtain ⟨i, hi, rfl, HI⟩ := hrel
    by_cases hlt : i < N.cals.length
    · obtain ⟨b, o, c, hp, hc, hC, c0, c1, c2⟩ := HI.out.nn.cal_ hlt
      have q1 : (0 : Int) ≤ (i : Int) := by omega
      have Hlt := hide hlt
      have q2 : (i : Int) < (N.cals.length : Int) := by omega
      have hbnd := HSn.out.ncal
      obtain ⟨w2, hw2⟩ : ∃ w2, wr.alloc (.cells #[.int .i64 c.zone, .slice c.wp c.week.length c.wc, .slice c.hp c.hol.length c.hc] 164) = w2 := ⟨_, rfl⟩
      have hb2 : Below wr.heap.size wr w2 := hw2 ▸ balloc (Below.refl _ _) _
      have k2 : Blk w2 wr.heap.size #[.int .i64 c.zone, .slice c.wp c.week.length c.wc, .slice c.hp c.hol.length c.hc] 164 := hw2 ▸ Blk.new _ _ _
      have HI2 := hide (HI.out.next hb2)
      have hok := HSn.out.cal i hlt
      rw [getD_some hc] at hok
      have Hok := hide hok
      have HC := hide (hC.keep (Keeps.of_below hb2))
      have z0 := k2.cell (k := 0) rfl; have z1 := k2.cell (k := 1) rfl; have z2 := k2.cell (k := 2) rfl
      clear hc hC hok hb2 k2
      rw [hp]
      clear hp
      go_wp2_with (go_at_call 154; refine Stop.out ?_)
      clear hw2
      have hcall := iwell_c c w2
      unfold Cal.cells at hcall
      refine Stop.go (hcall _ HC.out Hok.out ?_)
      intro w3 hb
      have HI3 := hide (HI2.out.next hb)
      clear hb hcall c0 c1 c2 z0 z1 z2
      go_wp2
      go_roundw
      case rel => exact ⟨i + 1, by have := Hlt.out; omega, by go_num, HI3⟩
      case measure => have := Hlt.out; simp [intOf]; omega
    · have q1 : ¬ (i : Int) < (N.cals.length : Int) := by omega
      have y := HI.out.b.cell (k := 0) rfl
      have x3 := HI.out.net.cell (k := 3) (v := .slice N.fp N.offs.length N.fc) rfl
      go_wp2
      clear y x3
      go_loopw [32] (fun si wr => ∃ i : Nat, i ≤ N.offs.length ∧ si = .int .i64 (i : Int) ∧ Hid (UsI w N gn wr)) (fun si _ => N.offs.length - (intOf si).toNat)
      case atStart => exact ⟨0, Nat.zero_le _, rfl, HI⟩
      case round =>
        clear HI
        obtain ⟨i, hi, rfl, HI⟩ := hrel
        by_cases hlt : i < N.offs.length
        · obtain ⟨b, o, f, hp, hf, hF, c0, c1, c2, c3, c4, c5, c6⟩ := HI.out.nn.off_ hlt
          have q1 : (0 : Int) ≤ (i : Int) := by omega
          have Hlt := hide hlt
          have q2 : (i : Int) < (N.offs.length : Int) := by omega
          have hbnd := HSn.out.noff
          obtain ⟨w2, hw2⟩ : ∃ w2, wr.alloc (.cells #[.string f.name, .int .i64 f.operator, .int .i64 f.calendar, .int .i64 f.pockets, .int .i64 f.passes, .int .i64 f.minutes, .slice f.cp f.codes.length f.cc] 65) = w2 := ⟨_, rfl⟩
          have hb2 : Below wr.heap.size wr w2 := hw2 ▸ balloc (Below.refl _ _) _
          have k2 : Blk w2 wr.heap.size #[.string f.name, .int .i64 f.operator, .int .i64 f.calendar, .int .i64 f.pockets, .int .i64 f.passes, .int .i64 f.minutes, .slice f.cp f.codes.length f.cc] 65 := hw2 ▸ Blk.new _ _ _
          have HI2 := hide (HI.out.next hb2)
          have hO := offP_of (HSn.out.off i hlt)
          rw [getD_some hf] at hO
          have o1 := hO.cal; have o2 := hO.passes; have o3 := hO.minutes
          have hnc := HSn.out.ncal
          have z2 := k2.cell (k := 2) rfl; have z4 := k2.cell (k := 4) rfl; have z5 := k2.cell (k := 5) rfl
          have z0 := k2.cell (k := 0) rfl; have z1 := k2.cell (k := 1) rfl; have z3 := k2.cell (k := 3) rfl; have z6 := k2.cell (k := 6) rfl
          have y := HI2.out.b.cell (k := 0) rfl
          have x0 := HI2.out.net.cell (k := 0) (v := .slice N.cp N.cals.length N.cc) rfl
          clear hf hF hO hb2 k2
          rw [hp]
          clear hp
          go_wp2
          clear hw2
          go_quiet (exact between_c _ _ _ true (by simp; omega) _ _ ⟨rfl, _, rfl⟩)
          have HI3 := hide (HI2.out.next (below_drewN' (Below.refl _ _) nq))
          clear c0 c1 c2 c3 c4 c5 c6 z0 z1 z2 z3 z4 z5 z6 y x0
          go_wp2
          go_roundw
          case rel => exact ⟨i + 1, by have := Hlt.out; omega, by go_num, HI3⟩
          case measure => have := Hlt.out; simp [intOf]; omega
        · have q1 : ¬ (i : Int) < (N.offs.length : Int) := by omega
          have y := HI.out.b.cell (k := 0) rfl
          have x3 := HI.out.net.cell (k := 4) (v := .slice N.lp N.lins.length N.lc) rfl
          go_wp2
          clear y x3
          go_loopw [64] (fun si wr => ∃ i : Nat, i ≤ N.lins.length ∧ si = .int .i64 (i : Int) ∧ Hid (UsI w N gn wr)) (fun si _ => N.lins.length - (intOf si).toNat)
          case atStart => exact ⟨0, Nat.zero_le _, rfl, HI⟩
          case round =>
            clear HI
            obtain ⟨i, hi, rfl, HI⟩ := hrel
            by_cases hlt : i < N.lins.length
            · obtain ⟨b, o, f, hp, hf, hF, c0, c1, c2, c3, c4, c5⟩ := HI.out.nn.lin_ hlt
              have q1 : (0 : Int) ≤ (i : Int) := by omega
              have Hlt := hide hlt
              have q2 : (i : Int) < (N.lins.length : Int) := by omega
              have hbnd := HSn.out.nlin
              obtain ⟨w2, hw2⟩ : ∃ w2, wr.alloc (.cells #[.string f.name, .int .i64 f.src, .int .i64 f.dst, .int .i64 f.at_, .int .i64 f.travel, .int .i64 f.load] 55) = w2 := ⟨_, rfl⟩
              have hb2 : Below wr.heap.size wr w2 := hw2 ▸ balloc (Below.refl _ _) _
              have k2 : Blk w2 wr.heap.size #[.string f.name, .int .i64 f.src, .int .i64 f.dst, .int .i64 f.at_, .int .i64 f.travel, .int .i64 f.load] 55 := hw2 ▸ Blk.new _ _ _
              have HI2 := hide (HI.out.next hb2)
              have hO := linP_of (HSn.out.lin i hlt)
              rw [getD_some hf] at hO
              have o1 := hO.src; have o2 := hO.dst; have o3 := hO.at_; have o4 := hO.travel
              have hno := HSn.out.noff
              have z0 := k2.cell (k := 0) rfl; have z1 := k2.cell (k := 1) rfl; have z2 := k2.cell (k := 2) rfl; have z3 := k2.cell (k := 3) rfl; have z4 := k2.cell (k := 4) rfl; have z5 := k2.cell (k := 5) rfl
              have HI3 := HI2
              clear hf hF hO hb2 k2
              rw [hp]
              clear hp
              go_wp2_with (go_at_call 153; refine Stop.out ?_)
              clear hw2
              refine Stop.go (ioffice_c N gn _ f.src o1 (by omega) _ _ HI2.out.b HI2.out.net ?_)
              go_wp2_with (go_at_call 153; refine Stop.out ?_)
              refine Stop.go (ioffice_c N gn _ f.dst o2 (by omega) _ _ HI2.out.b HI2.out.net ?_)
              go_wp2_with (go_at_call 151; refine Stop.out ?_)
              refine Stop.go (iminute_c f.at_ o3 _ _ ?_)
              go_wp2_with (go_at_call 152; refine Stop.out ?_)
              refine Stop.go (between_c f.travel 1 100000 true (by simp; omega) _ _ ?_)
              clear c0 c1 c2 c3 c4 c5 z0 z1 z2 z3 z4 z5
              go_wp2
              go_roundw
              case rel => exact ⟨i + 1, by have := Hlt.out; omega, by go_num, HI3⟩
              case measure => have := Hlt.out; simp [intOf]; omega
            · have q1 : ¬ (i : Int) < (N.lins.length : Int) := by omega
              have y := HI.out.b.cell (k := 0) rfl
              have x3 := HI.out.net.cell (k := 5) (v := .slice N.kp N.clss.length N.kc) rfl
              go_wp2
              clear y x3
              go_loopw [99] (fun si wr => ∃ i : Nat, i ≤ N.clss.length ∧ si = .int .i64 (i : Int) ∧ Hid (UsI w N gn wr)) (fun si _ => N.clss.length - (intOf si).toNat)
              case atStart => exact ⟨0, Nat.zero_le _, rfl, HI⟩
              case round =>
                clear HI
                obtain ⟨i, hi, rfl, HI⟩ := hrel
                by_cases hlt : i < N.clss.length
                · obtain ⟨b, o, f, hp, hf, hF, c0, c1, c2⟩ := HI.out.nn.cls_ hlt
                  have q1 : (0 : Int) ≤ (i : Int) := by omega
                  have Hlt := hide hlt
                  have q2 : (i : Int) < (N.clss.length : Int) := by omega
                  have hbnd := HSn.out.ncls
                  obtain ⟨w2, hw2⟩ : ∃ w2, wr.alloc (.cells #[.string f.name, .int .i64 f.cut, .int .i64 f.deliver] 168) = w2 := ⟨_, rfl⟩
                  have hb2 : Below wr.heap.size wr w2 := hw2 ▸ balloc (Below.refl _ _) _
                  have k2 : Blk w2 wr.heap.size #[.string f.name, .int .i64 f.cut, .int .i64 f.deliver] 168 := hw2 ▸ Blk.new _ _ _
                  have HI2 := hide (HI.out.next hb2)
                  have hO := clsP_of (HSn.out.cls i hlt)
                  rw [getD_some hf] at hO
                  have o1 := hO.cut; have o2 := hO.deliver
                  have z0 := k2.cell (k := 0) rfl; have z1 := k2.cell (k := 1) rfl; have z2 := k2.cell (k := 2) rfl
                  have HI3 := HI2
                  clear hf hF hO hb2 k2
                  rw [hp]
                  clear hp
                  go_wp2_with (go_at_call 151; refine Stop.out ?_)
                  clear hw2
                  refine Stop.go (iminute_c f.cut o1 _ _ ?_)
                  go_wp2_with (go_at_call 151; refine Stop.out ?_)
                  refine Stop.go (iminute_c f.deliver o2 _ _ ?_)
                  clear c0 c1 c2 z0 z1 z2
                  go_wp2
                  go_roundw
                  case rel => exact ⟨i + 1, by have := Hlt.out; omega, by go_num, HI3⟩
                  case measure => have := Hlt.out; simp [intOf]; omega
                · have q1 : ¬ (i : Int) < (N.clss.length : Int) := by omega
                  have HF := hide (HR.out wr HI.out.below)
                  go_wp2
                  exact HF.out
end Go.Proofs.YtgfhcmidnbahjaaGreatDoor
namespace Go.Proofs.YtgfhcmidnbahjaaGreatDoor
open Go.RowKit Go.Shelf
attribute [local go_sem] Oper.semAt_some run_store_func
set_option maxRecDepth 100000 in
set_option maxHeartbeats 8000000 in
theorem fits_c (N : Net) (P : Pln) (nx : Mat) (gn gp : Nat) (w : World) (R) (hN : Blk w gn N.cells 29) (hP : Blk w gp P.cells.toArray 39) (hNt : NetAt w N) (hM : MatAt w P.np N.offs.length nx) (hF : Formed N nx) (h12 : N.offs.length ≤ 12) (hnn : P.nn = N.offs.length) (hdn : P.dn = N.clss.length)
    (hR : ∀ w', Below w.heap.size w w' → R (.returned (.bool true)) w') :
    Calls Tryz.prog 102 #[.pointer (some ⟨gn, 0, none⟩), .pointer (some ⟨gp, 0, none⟩)] w R := by
  have HR := hide hR; have HN := hide hN; have HP := hide hP; have HNt := hide hNt; have HM := hide hM; have HF := hide hF
  have x3 := hN.cell (k := 3) (v := .slice N.fp N.offs.length N.fc) rfl; have x5 := hN.cell (k := 5) (v := .slice N.kp N.clss.length N.kc) rfl
  have p2 := hP.cell (k := 2) (v := .slice P.np P.nn P.nc) rfl; have p3 := hP.cell (k := 3) (v := .slice P.dp P.dn P.dc) rfl
  rw [hnn] at p2; rw [hdn] at p3
  have Hnn := hide hnn
  clear hR hN hP hNt hM hF hnn hdn
  go_enter Tryz.func102, Tryz.ntmps102
  go_wp2
  go_quiet (fail)
  have hb1 : Below w.heap.size w (w.drewN nq) := below_drewN' (Below.refl _ _) _
  have p2' := cell_later hb1 p2
  have HB1 := hide hb1
  clear x3 x5 p2 p3 hb1
  generalize w.drewN nq = w1 at *
  have hnl := (HNt.out).len.2.1
  go_wp2
  clear p2'
  go_loopw [38] (fun si wr => ∃ i : Nat, i ≤ N.offs.length ∧ si = .int .i64 (i : Int) ∧ Hid (Below w.heap.size w wr)) (fun si _ => N.offs.length - (intOf si).toNat)
  case atStart => exact ⟨0, Nat.zero_le _, rfl, HB1⟩
  case round =>
    clear HB1
    obtain ⟨i, hi, rfl, HB⟩ := hrel
    by_cases hlt : i < N.offs.length
    · obtain ⟨b, bo, b', o', c', hnp, hrw, hcl⟩ := (HM.out.next HB.out) i hlt
      have q1 : (0 : Int) ≤ (i : Int) := by omega
      have q2 : (i : Int) < (N.offs.length : Int) := by omega
      have Hlt := hide hlt; have Hcl := hide hcl
      rw [hnp]
      clear hnp hcl
      go_wp2
      clear hrw
      go_loopw [45] (fun sj wq => ∃ j : Nat, j ≤ N.offs.length ∧ sj = .int .i64 (j : Int) ∧ Hid (Below wr.heap.size wr wq)) (fun sj _ => N.offs.length - (intOf sj).toNat)
      case atStart => exact ⟨0, Nat.zero_le _, rfl, hide (Below.refl _ _)⟩
      case round =>
        obtain ⟨j, hj, rfl, HBj⟩ := hrel
        by_cases hlj : j < N.offs.length
        · have m1 := cell_later HBj.out (Hcl.out j hlj)
          have HBB := hide (bseq HB.out HBj.out)
          have q3 : (0 : Int) ≤ (j : Int) := by omega
          have q4 : (j : Int) < (N.offs.length : Int) := by omega
          have Hlj := hide hlj
          by_cases hnx : nx i j = -1
          · rw [hnx] at m1
            clear hnx
            go_wp2
            go_roundw
            case rel => exact ⟨j + 1, by have := Hlj.out; omega, by go_num, HBj⟩
            case measure => have := Hlj.out; simp [intOf]; omega
          · obtain ⟨k, hk, hkl, hsrc⟩ : ∃ k : Nat, nx i j = (k : Int) ∧ k < N.lins.length ∧ (linOf N (nx i j)).src = i := by
              rcases HF.out i j hlt hlj with h | ⟨h1, h2, h3⟩
              · exact absurd h hnx
              · exact ⟨(nx i j).toNat, by omega, by omega, h3⟩
            rw [hk] at m1 hsrc
            obtain ⟨b1, o1, ln, hp1, hln, hlr, l0, l1, l2, l3, l4, l5⟩ := (HNt.out.next HBB.out).lin_ hkl
            have hlo : linOf N (k : Int) = ln := by unfold linOf; rw [show ((k : Int)).toNat = k by omega, getD_some hln]
            rw [hlo] at hsrc
            rw [hsrc] at l1
            have x4 := (HN.out.next HBB.out).cell (k := 4) (v := .slice N.lp N.lins.length N.lc) rfl
            rw [hp1] at x4
            have q5 : (0 : Int) ≤ (k : Int) := by omega
            have q6 : (k : Int) < (N.lins.length : Int) := by omega
            have t1 : ((k : Int) != (-1 : Int)) = true := by simp
            have t2 : ¬ (N.lins.length : Int) ≤ (k : Int) := by omega
            clear hnx hk hkl hsrc hp1 hln hlr hlo
            go_wp2
            go_roundw
            case rel => exact ⟨j + 1, by have := Hlj.out; omega, by go_num, HBj⟩
            case measure => have := Hlj.out; simp [intOf]; omega
        · have q3 : ¬ (j : Int) < (N.offs.length : Int) := by omega
          have HBB := hide (bseq HB.out HBj.out)
          go_wp2
          go_roundw
          case rel => exact ⟨i + 1, by have := Hlt.out; omega, by go_num, HBB⟩
          case measure => have := Hlt.out; simp [intOf]; omega
    · have q1 : ¬ (i : Int) < (N.offs.length : Int) := by omega
      have HFn := hide (HR.out wr HB.out)
      go_wp2
      exact HFn.out
end Go.Proofs.YtgfhcmidnbahjaaGreatDoor
