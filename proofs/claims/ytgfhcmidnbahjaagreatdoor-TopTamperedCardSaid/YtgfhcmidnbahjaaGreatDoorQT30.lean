/- The inspector: what the prover holds; an office's calendar; when an item is ready; working days. The inspector: seals; reading tables. -/
import Derived.Test.YtgfhcmidnbahjaaGreatDoorQT29
import Derived.Test.YtgfhcmidnbahjaaGreatDoorQT14
import Derived.Test.YtgfhcmidnbahjaaGreatDoorQT15
set_option linter.unusedVariables false
set_option linter.unusedSimpArgs false
namespace Go.Proofs.YtgfhcmidnbahjaaGreatDoor
open Go.RowKit Go.Shelf
attribute [local go_sem] Oper.semAt_some run_store_func
structure PvI (N : Net) (P : Pln) (nx : Mat) (C : Cube) (gv gn gp gr : Nat) (W : World) : Prop where
  pv : Blk W gv #[.pointer (some ⟨gn, 0, none⟩), .pointer (some ⟨gp, 0, none⟩), .pointer (some ⟨gr, 0, none⟩)] 154
  net : Blk W gn N.cells 29
  pln : Blk W gp P.cells.toArray 39
  nn : NetAt W N
  mat : MatAt W P.np N.offs.length nx
  cube : CubeAt W P.dp N.clss.length N.offs.length C
  nb : ∀ k, NetBlk N k → k ≠ gr
  ne : gv ≠ gr ∧ gn ≠ gr ∧ gp ≠ gr
def PvW (N : Net) (P : Pln) (nx : Mat) (C : Cube) (gv gn gp gr : Nat) (w : World) : Prop := ∀ W, Sc gr w W → PvI N P nx C gv gn gp gr W
def IcW (gr b o : Nat) (c : Cal) (w : World) : Prop := ∀ W, Sc gr w W → IcAt b o c W
section
variable {N : Net} {P : Pln} {nx : Mat} {C : Cube} {gv gn gp gr : Nat} {w w' : World}
theorem PvW.here (h : PvW N P nx C gv gn gp gr w) : PvI N P nx C gv gn gp gr w := h w (Sc.refl _ _)
theorem PvW.sc (h : PvW N P nx C gv gn gp gr w) (hs : Sc gr w w') : PvW N P nx C gv gn gp gr w' := fun W hW => h W (hs.trans hW)
theorem PvW.sb (h : PvW N P nx C gv gn gp gr w) (hs : Sb gr w w') : PvW N P nx C gv gn gp gr w' := h.sc (.of_sb hs)
theorem PvW.next (h : PvW N P nx C gv gn gp gr w) (hb : Below w.heap.size w w') : PvW N P nx C gv gn gp gr w' := h.sb (Sb.of_below hb)
theorem IcW.here {b o : Nat} {c : Cal} (h : IcW gr b o c w) : IcAt b o c w := h w (Sc.refl _ _)
theorem IcW.sb {b o : Nat} {c : Cal} (h : IcW gr b o c w) (hs : Sb gr w w') : IcW gr b o c w' := fun W hW => h W ((Sc.of_sb hs).trans hW)
theorem IcW.next {b o : Nat} {c : Cal} (h : IcW gr b o c w) (hb : Below w.heap.size w w') : IcW gr b o c w' := h.sb (Sb.of_below hb)
end
def IcN (gr b : Nat) (c : Cal) : Prop := b ≠ gr ∧ ∀ k, CalBlk c k → k ≠ gr
set_option maxRecDepth 100000 in
set_option maxHeartbeats 2000000 in
theorem icalOf_c (N : Net) (P : Pln) (nx : Mat) (C : Cube) (gv gn gp gr s ci : Nat) (of : Off) (c : Cal) (w : World) (R) (hP : PvW N P nx C gv gn gp gr w) (hX : OffX N s ci of c)
    (hR : ∀ b o w', Below w.heap.size w w' → IcW gr b o c w' → IcN gr b c → R (.returned (.pointer (some ⟨b, o, none⟩))) w') : Calls Tryz.prog 156 #[.pointer (some ⟨gv, 0, none⟩), .int .i64 (s : Int)] w R := by
  have HR := hide hR
  have hI := hP.here
  have hs := (List.getElem?_eq_some_iff.1 hX.off).1
  have hk := (List.getElem?_eq_some_iff.1 hX.c).1
  obtain ⟨b2, o2, o', hp2, ho', _, _, _, m2, _⟩ := hI.nn.off_ hs
  rw [hX.off] at ho'; injection ho' with ho'; subst ho'
  obtain ⟨b3, o3, c', hp3, hc', _, _⟩ := hI.nn.cal_ hk
  have HC : Hid (IcW gr b3 (o3 + ci * 3) c w) := hide (fun W hW => by
    obtain ⟨b3', o3', c', hp', hc', hd, d0, d1, d2⟩ := (hP W hW).nn.cal_ hk
    rw [hp3] at hp'; injection hp' with hp'; injection hp' with e1 e2; subst e1; subst e2
    rw [hX.c] at hc'; injection hc' with hc'; subst hc'
    exact ⟨d0, d1, d2, hd⟩)
  have HN : Hid (IcN gr b3 c) := hide ⟨hI.nb _ (.inl ⟨by omega, o3, hp3⟩), fun k h => hI.nb _ (.inr (.inl ⟨c, List.mem_of_getElem? hX.c, h⟩))⟩
  rw [hX.cal] at m2
  have v0 := hI.pv.cell (k := 0) rfl
  have x0 := hI.net.cell (k := 0) (v := .slice N.cp N.cals.length N.cc) rfl; have x3 := hI.net.cell (k := 3) (v := .slice N.fp N.offs.length N.fc) rfl
  rw [hp3] at x0; rw [hp2] at x3
  have q3 : (0 : Int) ≤ (s : Int) := by omega
  have q4 : (s : Int) < (N.offs.length : Int) := by omega
  have q5 : (0 : Int) ≤ (ci : Int) := by omega
  have q6 : (ci : Int) < (N.cals.length : Int) := by omega
  clear hR hP hI hs hk hX hp2 hp3 hc'
  go_enter Tryz.func156, Tryz.ntmps156
  go_wp2
  go_quiet (fail)
  go_wp2
  exact HR.out _ _ _ (below_drewN' (Below.refl _ _) _) (HC.out.next (below_drewN' (Below.refl _ _) _)) HN.out
set_option maxRecDepth 100000 in
set_option maxHeartbeats 2000000 in
theorem iready_c (N : Net) (P : Pln) (nx : Mat) (C : Cube) (gv gn gp gr s : Nat) (t : Int) (w : World) (R) (hP : PvI N P nx C gv gn gp gr w) (hS : Snd N) (hs : s < N.offs.length) (h1 : -100000000 ≤ t) (h2 : t ≤ 100000000) (hR : ∀ w', Below w.heap.size w w' → R (.returned (.int .i64 (readyF N (s : Int) t))) w') :
    Calls Tryz.prog 161 #[.pointer (some ⟨gv, 0, none⟩), .int .i64 (s : Int), .int .i64 t] w R := by
  have HR := hide hR
  obtain ⟨b2, o2, o', hp2, ho', _, _, _, _, _, m4, m5, _⟩ := hP.nn.off_ hs
  have hof : offOf N (s : Int) = o' := by unfold offOf; rw [show ((s : Int)).toNat = s by omega, getD_some ho']
  have hO := hS.offP (o := (s : Int)) (by omega) (by omega)
  rw [hof] at hO
  have hmul := mul_small hO.passes.1 hO.passes.2 hO.minutes.1 hO.minutes.2
  have e1 : IntKind.i64.wrap (o'.passes * o'.minutes) = o'.passes * o'.minutes := IntWalk.i64_in _ (by omega)
  have e2 : IntKind.i64.wrap (t + o'.passes * o'.minutes) = t + o'.passes * o'.minutes := IntWalk.i64_in _ (by omega)
  have hE : readyF N (s : Int) t = t + o'.passes * o'.minutes := by unfold readyF; rw [hof]
  rw [hE] at HR
  have v0 := hP.pv.cell (k := 0) rfl
  have x3 := hP.net.cell (k := 3) (v := .slice N.fp N.offs.length N.fc) rfl
  rw [hp2] at x3
  have q3 : (0 : Int) ≤ (s : Int) := by omega
  have q4 : (s : Int) < (N.offs.length : Int) := by omega
  clear hR hP hS hs hof hO hmul hE hp2 ho'
  go_enter Tryz.func161, Tryz.ntmps161
  go_wp2
  go_quiet (fail)
  go_wp2
  exact HR.out _ (below_drewN' (Below.refl _ _) _)
set_option maxRecDepth 100000 in
set_option maxHeartbeats 2000000 in
theorem isearch_c (l : List Int) (p : Option Addr) (cap : Nat) (d : Int) (w : World) (R) (hH : IntsAt .i64 w p l) (hl : l.length ≤ 40) (hi : incr l = true) (hR : ∀ (r : Nat) w', Below w.heap.size w w' → R (.returned (.tuple #[.int .i64 (r : Int), .bool (l.contains d)])) w') :
    Calls Tryz.prog 273 #[.slice p l.length cap, .int .i64 d] w R := by
  have HR := hide hR; have H := hide hH; have Hi := hide hi
  obtain ⟨n, hn⟩ : ∃ n, l.length = n := ⟨_, rfl⟩
  have Hn := hide hn
  rw [hn] at hl ⊢
  clear hR hH hi hn
  go_enter Tryz.func273, Tryz.ntmps273
  go_wp2
  go_loopw [7, 8] (fun s5 s6 wr => ∃ i j : Nat, s5 = .int .i64 i ∧ s6 = .int .i64 j ∧ Hid (Cut l d i j) ∧ Hid (Below w.heap.size w wr)) (fun s5 s6 _ => (intOf s6).toNat - (intOf s5).toNat)
  case atStart => exact ⟨0, n, rfl, rfl, hide ⟨Nat.zero_le _, by rw [Hn.out]; exact Nat.le_refl _, .inl rfl, .inl Hn.out.symm⟩, hide (Below.refl _ _)⟩
  case round =>
    obtain ⟨i, j, rfl, rfl, HC, HB⟩ := hrel
    have hjt : j ≤ n := by have := HC.out.top; rw [Hn.out] at this; exact this
    by_cases hlt : i < j
    · have em : ((i : Int) + (j : Int)) / 2 = (((i + j) / 2 : Nat) : Int) := by omega
      obtain ⟨m, hm⟩ : ∃ m, (i + j) / 2 = m := ⟨_, rfl⟩
      rw [hm] at em
      have m1 : i ≤ m := by omega
      have m2 : m < j := by omega
      obtain ⟨x, hx⟩ : ∃ x, l[m]? = some x := ⟨_, List.getElem?_eq_getElem (by rw [Hn.out]; omega)⟩
      obtain ⟨b, o, y, hp, hy, c0⟩ := (H.out.keep (Keeps.of_below HB.out)).at_ (i := m) (by rw [Hn.out]; omega)
      rw [hx] at hy; injection hy with hy; subst hy
      subst hp
      have Hx := hide hx
      have q1 : (0 : Int) ≤ (m : Int) := by omega
      have q2 : (m : Int) < (n : Int) := by omega
      clear hx hm
      by_cases hv : x < d
      · have HC2 := hide (show Cut l d (m + 1) j from ⟨m2, HC.out.top, .inr ⟨x, Hx.out, hv⟩, HC.out.high⟩)
        have t1 : decide (x < d) = true := by simpa using hv
        go_wp2
        go_roundw
        case rel => exact ⟨m + 1, j, by go_num, rfl, HC2, HB⟩
        case measure => simp [intOf]; omega
      · have HC2 := hide (show Cut l d i m from ⟨m1, by have := HC.out.top; omega, HC.out.low, .inr ⟨x, Hx.out, by omega⟩⟩)
        have t1 : decide (x < d) = false := by simpa using hv
        go_wp2
        go_roundw
        case rel => exact ⟨i, m, rfl, rfl, HC2, HB⟩
        case measure => simp [intOf]; omega
    · obtain rfl : i = j := by have := HC.out.le; omega
      have hmem := cut_mem Hi.out HC.out
      have hF := HR.out i wr HB.out
      by_cases hr : i = n
      · have hnot : l.contains d = false := by
          cases hh : l.contains d with
          | false => rfl
          | true =>
            have := hmem.1 (by simpa using hh)
            rw [List.getElem?_eq_none (by rw [Hn.out]; omega)] at this; cases this
        rw [hnot, hr] at hF
        have HF := hide hF
        have q3 : ¬ (i : Int) < (n : Int) := by omega
        clear hF hnot hmem
        go_wp2
        exact HF.out
      · obtain ⟨b, o, x, hp, hx, c0⟩ := (H.out.keep (Keeps.of_below HB.out)).at_ (i := i) (by rw [Hn.out]; omega)
        rw [hx] at hmem
        subst hp
        have q3 : (0 : Int) ≤ (i : Int) := by omega
        have q4 : (i : Int) < (n : Int) := by omega
        by_cases hxd : x = d
        · have hyes : l.contains d = true := by rw [List.contains_iff_mem]; exact hmem.2 (by rw [hxd])
          rw [hyes] at hF
          have HF := hide hF
          have t2 : (x == d) = true := by simpa using hxd
          clear hF hyes hmem hxd
          go_wp2
          exact HF.out
        · have hnot : l.contains d = false := by
            cases hh : l.contains d with
            | false => rfl
            | true =>
              have := hmem.1 (by simpa using hh)
              injection this with this; exact absurd this hxd
          rw [hnot] at hF
          have HF := hide hF
          have t2 : (x == d) = false := by simpa using hxd
          clear hF hnot hmem hxd
          go_wp2
          exact HF.out
set_option maxRecDepth 100000 in
set_option maxHeartbeats 2000000 in
theorem works_c (b o : Nat) (c : Cal) (d : Int) (w : World) (R) (hC : IcAt b o c w) (hok : calOk c = true) (h1 : -2000000 ≤ d) (h2 : d ≤ 2000000) (hR : ∀ w', Below w.heap.size w w' → R (.returned (.bool (workB c d))) w') :
    Calls Tryz.prog 210 #[.pointer (some ⟨b, o, none⟩), .int .i64 d] w R := by
  have HR := hide hR; have HC := hide hC
  have hP := calP_of hok
  have HP := hide hP
  have ht := tmod_7 d
  obtain ⟨r, hr⟩ : ∃ r, d.tmod 7 = r := ⟨_, rfl⟩
  rw [hr] at ht
  obtain ⟨t1, t2, t3, t4⟩ := ht
  obtain ⟨m, hm⟩ : ∃ m : Nat, d % 7 = (m : Int) := ⟨(d % 7).toNat, by omega⟩
  have hm7 : m < 7 := by omega
  have hmm : (r + 7).tmod 7 = (m : Int) := by
    rw [Int.tmod_eq_emod_of_nonneg (by omega)]
    by_cases h0 : 0 ≤ r
    · have := t1 h0; omega
    · have := t2 (by omega); omega
  obtain ⟨bb, hb⟩ : ∃ bb, c.week[m]? = some bb := ⟨_, List.getElem?_eq_getElem (by rw [hP.week]; exact hm7)⟩
  have hwb : workB c d = (bb && !c.hol.contains d) := by
    unfold workB; rw [show (d % 7).toNat = m by omega, getD_some hb]
  obtain ⟨b2, o2, x, hp, hx, c0⟩ := hC.data.week.bool (i := m) (by rw [hP.week]; exact hm7)
  rw [hb] at hx; injection hx with hx; subst hx
  have x1 := hC.wk
  rw [hp, hP.week] at x1
  have x2 := hC.hl
  have q1 : (0 : Int) ≤ (m : Int) := by omega
  have q2 : (m : Int) < 7 := by omega
  have hF := HR.out
  rw [hwb] at hF
  have HF := hide hF
  clear hR hC hP hok t1 t2 hm hb hp hwb hF HR
  go_enter Tryz.func210, Tryz.ntmps210
  cases bb with
  | false =>
    go_wp2
    have := HF.out w (Below.refl _ _)
    simpa using this
  | true =>
    go_wp2_with (go_at_call 273; refine Stop.out ?_)
    refine Stop.go (isearch_c c.hol c.hp c.hc d w _ HC.out.data.hol HP.out.hol HP.out.inc ?_)
    intro r' w' hb
    have HF2 := hide (HF.out w' hb)
    clear hb x1 x2 c0
    cases hh : c.hol.contains d with
    | true =>
      rw [hh] at HF2
      go_wp2
      exact HF2.out
    | false =>
      rw [hh] at HF2
      go_wp2
      exact HF2.out
structure IwI (c : Cal) (b o : Nat) (lo hi : Int) (g : Nat) (W : World) : Prop where
  cal : Blk W g #[.pointer (some ⟨b, o, none⟩)] 212
  lo : Blk W (g + 1) #[.int .i64 lo] 3
  hi : Blk W (g + 2) #[.int .i64 hi] 3
  data : IcAt b o c W
theorem IwI.next {c : Cal} {b o : Nat} {lo hi : Int} {g : Nat} {W W' : World} (h : IwI c b o lo hi g W) (hb : Below W.heap.size W W') : IwI c b o lo hi g W' := ⟨h.cal.next hb, h.lo.next hb, h.hi.next hb, h.data.next hb⟩
def IwK (c : Cal) (b g : Nat) (k : Nat) : Prop := (g ≤ k ∧ k ≤ g + 2) ∨ k = b ∨ CalBlk c k
theorem cell_kpb {bad : World → Nat → Prop} {W W' : World} {a : Addr} {v : Value} (h : W.cell? a = some v) (hk : Kpb bad W W') (hb : ¬ bad W a.block) : W'.cell? a = some v :=
  (World.cell?_of_block (hk.2 a.block (block_lt h) hb).1).trans h
theorem IwI.kpb {bad : World → Nat → Prop} {c : Cal} {b o : Nat} {lo hi : Int} {g : Nat} {W W' : World} (h : IwI c b o lo hi g W) (hk : Kpb bad W W') (hb : ∀ k, IwK c b g k → ¬ bad W k) : IwI c b o lo hi g W' :=
  ⟨h.cal.kpb hk (hb _ (.inl ⟨by omega, by omega⟩)), h.lo.kpb hk (hb _ (.inl ⟨by omega, by omega⟩)), h.hi.kpb hk (hb _ (.inl ⟨by omega, by omega⟩)),
   ⟨cell_kpb h.data.z hk (hb _ (.inr (.inl rfl))), cell_kpb h.data.wk hk (hb _ (.inr (.inl rfl))), cell_kpb h.data.hl hk (hb _ (.inr (.inl rfl))), h.data.data.kpb hk (fun k h => hb k (.inr (.inr h)))⟩⟩
theorem IwI.lt {c : Cal} {b o : Nat} {lo hi : Int} {g : Nat} {W : World} (h : IwI c b o lo hi g W) {k : Nat} (hk : IwK c b g k) : k < W.heap.size := by
  rcases hk with ⟨h1, h2⟩ | rfl | hk
  · have := h.hi.lt; omega
  · exact block_lt h.data.z
  · exact h.data.data.lt hk
set_option maxRecDepth 100000 in
set_option maxHeartbeats 4000000 in
theorem iworkdays_c (c : Cal) (b o : Nat) (lo hi : Int) (w : World) (R) (hC : IcAt b o c w)
    (hR : ∀ w', Below w.heap.size w w' → IwI c b o lo hi w.heap.size w' → w'.heap.size = w.heap.size + 3 → R (.returned (.func (.func 209) #[] #[.pointer (some ⟨w.heap.size + 1, 0, none⟩), .pointer (some ⟨w.heap.size + 2, 0, none⟩), .pointer (some ⟨w.heap.size, 0, none⟩)])) w') :
    Calls Tryz.prog 157 #[.pointer (some ⟨b, o, none⟩), .int .i64 lo, .int .i64 hi] w R := by
  obtain ⟨w1, hw1⟩ : ∃ w1, ((w.alloc (.cells #[.pointer (some ⟨b, o, none⟩)] 212)).alloc (.cells #[.int .i64 lo] 3)).alloc (.cells #[.int .i64 hi] 3) = w1 := ⟨_, rfl⟩
  have hb1 : Below w.heap.size w w1 := hw1 ▸ balloc (balloc (balloc (Below.refl _ _) _) _) _
  have k0 : Blk w1 w.heap.size #[.pointer (some ⟨b, o, none⟩)] 212 := by rw [← hw1]; repeat (first | exact Blk.new_at (by simp) | refine Blk.alloc ?_ _)
  have k1 : Blk w1 (w.heap.size + 1) #[.int .i64 lo] 3 := by rw [← hw1]; exact Blk.alloc (Blk.new_at (by simp)) _
  have k2 : Blk w1 (w.heap.size + 2) #[.int .i64 hi] 3 := by rw [← hw1]; exact Blk.new_at (by simp)
  have hs1 : w1.heap.size = w.heap.size + 3 := by rw [← hw1]; simp
  have HF := hide (hR w1 hb1 ⟨k0, k1, k2, hC.next hb1⟩ hs1)
  clear hR hC hb1 k0 k1 k2 hs1
  go_enter Tryz.func157, Tryz.ntmps157
  go_wp2
  exact HF.out
set_option maxRecDepth 100000 in
set_option maxHeartbeats 4000000 in
theorem iworkdays_it (c : Cal) (b o : Nat) (lo hi : Int) (n g : Nat) (w : World) (hI : IwI c b o lo hi g w) (hok : calOk c = true) (h1 : -900000 ≤ lo) (h2 : lo ≤ 900000) (h3 : n ≤ 3000) (hn : hi + 1 = lo + (n : Int)) :
    IterAt Tryz.prog 209 #[.pointer (some ⟨g + 1, 0, none⟩), .pointer (some ⟨g + 2, 0, none⟩), .pointer (some ⟨g, 0, none⟩)] (fun d : Int => #[.int .i64 d]) (daysF c lo n) (IwK c b g) w := by
  intro l J T Pn bad W hbW hJs hK hY h0
  have HJs := hide hJs; have HY := hide hY; have HJ0 := hide h0; have HK := hide hK; have Hok := hide hok
  have HI := hide (hI.next hbW)
  have x1 := HI.out.lo.cell (k := 0) (v := .int .i64 lo) rfl
  clear hJs hY h0 hK hok hI hbW
  refine (callsIn_wide (n := 8)).1 ?_
  refine callsIn_of_wp Tryz.func209 rfl trivial ?_ rfl
  simp only [Tryz.ntmps209, List.size_toArray, List.length_cons, List.length_nil, Nat.reduceAdd, Nat.reduceSub, Array.replicate_succ, Array.replicate_zero, List.push_toArray, List.append_toArray, List.nil_append, List.cons_append]
  refine wpIn_wide.2 ?_
  go_wp2
  refine (wpIn_wide (n := 8)).1 ?_
  clear x1
  gi_loopw [5] (fun sv wq => ∃ i : Nat, i ≤ n ∧ sv = .int .i64 (lo + i) ∧ Hid (J (daysF c lo i) wq) ∧ Hid (IwI c b o lo hi g wq) ∧ Hid (∀ k, IwK c b g k → ¬ bad wq k)) (fun sv _ => n - (intOf sv - lo).toNat)
  case atStart => exact ⟨0, Nat.zero_le _, by simp, HJ0, HI, HK⟩
  case round =>
    clear HI HK HJ0
    obtain ⟨i, hin, rfl, HJ, HI, HK⟩ := hrel
    have x2 := HI.out.hi.cell (k := 0) (v := .int .i64 hi) rfl
    have y0 := HI.out.cal.cell (k := 0) rfl
    by_cases hlt : i < n
    · have q1 : lo + (i : Int) ≤ hi := by omega
      have q2 : -900000 ≤ lo + (i : Int) := by omega
      have q3 : lo + (i : Int) ≤ 903000 := by omega
      have HE : Hid ((lo + (i : Int)) + 1 = lo + ((i + 1 : Nat) : Int)) := hide (by omega)
      have HS := hide (daysF_split c lo hlt)
      have Hyes := hide (daysF_yes c lo i); have Hno := hide (daysF_no c lo i)
      obtain ⟨d, hd⟩ : ∃ d, lo + (i : Int) = d := ⟨_, rfl⟩
      have Hd := hide hd
      rw [hd] at q1 q2 q3 HE HS Hyes Hno
      rw [hd]
      clear hd hn
      cases hwb : workB c d with
      | false =>
        have HJ2 : Hid (∀ wq, Below wr.heap.size wr wq → J (daysF c lo (i + 1)) wq) := hide (fun wq hb => by rw [Hno.out hwb]; exact (HJs.out _ _ _ HJ.out hb).1)
        gi_wp2_with (gi_at_call 210; refine Stop.out ?_)
        refine Stop.go ⟨trivial, callsIn_wide.2 (works_c b o c d _ _ HI.out.data Hok.out (by omega) (by omega) ?_)⟩
        rw [hwb]
        intro W1 hb
        have HJ3 := hide (HJ2.out W1 hb); have HI3 := hide (HI.out.next hb)
        have HK3 : Hid (∀ k, IwK c b g k → ¬ bad W1 k) := hide (fun k hk e => HK.out k hk ((HJs.out _ _ _ HJ.out hb).2 k e).1)
        clear hb x2 y0 HJ2 q1 hwb
        gi_wp2
        all_goals
          try refine ⟨(fun f e => by cases e), ?_⟩
          try apply_assumption
          try gi_wp2
        all_goals
          go_roundw
          case rel => exact ⟨i + 1, by omega, by rw [← HE.out], HJ3, HI3, HK3⟩
          case measure => have := Hd.out; simp [intOf]; omega
      | true =>
        gi_wp2_with (gi_at_call 210; refine Stop.out ?_)
        refine Stop.go ⟨trivial, callsIn_wide.2 (works_c b o c d _ _ HI.out.data Hok.out (by omega) (by omega) ?_)⟩
        rw [hwb]
        intro W1 hb
        have HJ3 := hide ((HJs.out _ _ _ HJ.out hb).1); have HI3 := hide (HI.out.next hb)
        have HK3 : Hid (∀ k, IwK c b g k → ¬ bad W1 k) := hide (fun k hk e => HK.out k hk ((HJs.out _ _ _ HJ.out hb).2 k e).1)
        obtain ⟨fn, tmps, assign, body, hy, hRd⟩ := HY.out (daysF c lo i) d _ (by rw [HS.out, if_pos hwb]; rfl) W1 HJ3.out
        have HRd := hide hRd
        have Hy9 := hide (Hyes.out hwb)
        clear hb x2 y0 q1 hwb hRd
        gi_wp2
        refine HRd.out.mono ?_
        intro e W3 h3
        cases e with
        | outgrown => exact h3.elim
        | panicked ch => exact ⟨rfl, h3⟩
        | returned v =>
          rcases h3 with ⟨rfl, hj, hk⟩ | ⟨rfl, hT⟩
          · have HJ4 : Hid (J (daysF c lo (i + 1)) W3) := hide (by rw [Hy9.out]; exact hj)
            have HI4 := hide (HI3.out.kpb hk HK3.out)
            have HK4 : Hid (∀ k, IwK c b g k → ¬ bad W3 k) := hide (fun k hk' => (hk.2 k (HI3.out.lt hk') (HK3.out k hk')).2)
            clear hj hk
            gi_wp2
            go_roundw
            case rel => exact ⟨i + 1, by omega, by rw [← HE.out], HJ4, HI4, HK4⟩
            case measure => have := Hd.out; simp [intOf]; omega
          · have HT := hide hT
            clear hT
            gi_wp2
            refine bodyPost_ret (results_none Tryz.results209 _ _ _) rfl ?_
            exact .inr HT.out
    · have q1 : ¬ lo + (i : Int) ≤ hi := by omega
      obtain rfl : i = n := by omega
      gi_wp2
      exact bodyPost_end (results_none Tryz.results209 _ _ _) rfl (.inl HJ.out)
end Go.Proofs.YtgfhcmidnbahjaaGreatDoor
namespace Go.Proofs.YtgfhcmidnbahjaaGreatDoor
open Go.RowKit Go.Shelf
attribute [local go_sem] Oper.semAt_some run_store_func
def cnumB (x : Int) : Bool := decide (0 ≤ x) && decide (x ≤ 65519)
def sealedB (l : List Int) (s : Int) : Bool := l.all cnumB && decide (s = sealF l)
set_option maxRecDepth 100000 in
set_option maxHeartbeats 2000000 in
theorem sealed_c (xs : List Int) (q : Option Addr) (c : Nat) (s : Int) (w : World) (R) (hy : IntsAt .i64 w q xs) (hl : xs.length ≤ 1000000) (hR : ∀ w', Below w.heap.size w w' → R (.returned (.bool (sealedB xs s))) w') :
    Calls Tryz.prog 149 #[.agg #[.slice q xs.length c, .int .i64 s]] w R := by
  have HR := hide hR; have HY := hide hy
  obtain ⟨w1, hw1⟩ : ∃ w1, w.alloc (.cells #[.slice q xs.length c, .int .i64 s] 42) = w1 := ⟨_, rfl⟩
  have hb1 : Below w.heap.size w w1 := hw1 ▸ balloc (Below.refl _ _) _
  have k1 : Blk w1 w.heap.size #[.slice q xs.length c, .int .i64 s] 42 := hw1 ▸ Blk.new _ _ _
  have HB1 := hide hb1; have K1 := hide k1
  have x0 := k1.cell (k := 0) rfl
  clear hR hy hb1 k1
  go_enter Tryz.func149, Tryz.ntmps149
  go_wp2
  clear x0 hw1
  go_loopw [3, 4, 10] (fun sp ss si wr => ∃ k : Nat, k ≤ xs.length ∧ si = .int .i64 k ∧ sp = .int .i64 (sealS (xs.take k) (1, 0)).1 ∧ ss = .int .i64 (sealS (xs.take k) (1, 0)).2 ∧ Hid ((xs.take k).all cnumB = true) ∧ wr = w1) (fun _ _ si _ => xs.length - (intOf si).toNat)
  case atStart => exact ⟨0, Nat.zero_le _, rfl, rfl, rfl, hide (by simp), rfl⟩
  case round =>
    obtain ⟨k, hk, rfl, rfl, rfl, HA, hw⟩ := hrel
    subst hw
    have hsr := sealS_range (xs.take k) (1, 0) (by decide)
    by_cases hlt : k < xs.length
    · obtain ⟨bb, oo, x, hp, hx, hc0⟩ := HY.out.at_ hlt
      have hc := cell_later HB1.out hc0
      have hst := seal_take hx (1, 0)
      have Hst := hide hst; have Hx := hide hx
      have q1 : (0 : Int) ≤ (k : Int) := by omega
      have q2 : (k : Int) < (xs.length : Int) := by omega
      have Hlt := hide hlt
      obtain ⟨s1, s2⟩ : ∃ s, sealS (xs.take k) (1, 0) = s := ⟨_, rfl⟩
      generalize sealS (xs.take k) (1, 0) = s at *
      obtain ⟨p, m⟩ := s
      simp only at hsr
      obtain ⟨r1, r2, r3, r4⟩ := hsr
      subst hp
      clear hx hst hlt s2 hc0
      by_cases hin : 0 ≤ x ∧ x ≤ 65519
      · have hsm : cnumB x = true := by unfold cnumB; simp [hin.1, hin.2]
        have Hsm := hide hsm
        have hm := mul_lt_seal (a := x) (b := p * 3 % 65521) hin.1 (by omega) (by omega) (by omega)
        have e0 : (p * 3).tmod 65521 = p * 3 % 65521 := Int.tmod_eq_emod_of_nonneg (by omega)
        obtain ⟨pp, hpp⟩ : ∃ pp, p * 3 % 65521 = pp := ⟨_, rfl⟩
        rw [hpp] at hm e0
        have hpr : 0 ≤ pp ∧ pp < 65521 := by omega
        obtain ⟨xp, hxp⟩ : ∃ xp, x * pp = xp := ⟨_, rfl⟩
        rw [hxp] at hm
        have e1 : IntKind.i64.wrap (x * pp) = xp := by rw [hxp]; exact IntWalk.i64_in _ (by omega)
        have e2 : (m + xp).tmod 65521 = (m + xp) % 65521 := Int.tmod_eq_emod_of_nonneg (by omega)
        have Hpp := hide hpp; have Hxp := hide hxp
        clear hsm hpp hxp
        go_wp2_with (go_at_call 152; refine Stop.out ?_)
        refine Stop.go (between_c x 0 65519 true (by simp; omega) _ _ ?_)
        go_wp2
        go_roundw
        case rel =>
          refine ⟨k + 1, Hlt.out, by go_num, ?_, ?_, hide ?_, by trivial⟩
          · rw [Hst.out]; show _ = Value.int .i64 (p * 3 % 65521); rw [Hpp.out]
          · rw [Hst.out]
            show _ = Value.int .i64 ((m + x % 65521 * (p * 3 % 65521)) % 65521)
            rw [Hpp.out, Int.emod_eq_of_lt hin.1 (by omega), Hxp.out]
          · rw [List.take_add_one, Hx.out, List.all_append, HA.out]; simp [Hsm.out]
        case measure => have := Hlt.out; simp [intOf]; omega
      · have hf : sealedB xs s = false := by
          unfold sealedB
          have : xs.all cnumB = false := by
            rw [Bool.eq_false_iff]
            intro h
            have := List.all_eq_true.1 h x (List.mem_of_getElem? Hx.out)
            unfold cnumB at this
            simp at this
            exact hin this
          rw [this]; rfl
        have HF := hide (HR.out _ HB1.out)
        rw [hf] at HF
        clear hf
        go_wp2_with (go_at_call 152; refine Stop.out ?_)
        refine Stop.go (between_c x 0 65519 false (by simp; omega) _ _ ?_)
        go_wp2
        exact HF.out
    · have q1 : ¬ (k : Int) < (xs.length : Int) := by omega
      obtain rfl : k = xs.length := by omega
      have HE := hide (HR.out _ HB1.out)
      rw [List.take_length] at HA ⊢
      have x1 := K1.out.cell (k := 1) rfl
      have hsb : sealedB xs s = decide (s = sealF xs) := by unfold sealedB; rw [HA.out]; rfl
      rw [hsb] at HE
      unfold sealF at HE
      obtain ⟨sm, hsm⟩ : ∃ sm, (sealS xs (1, 0)).2 = sm := ⟨_, rfl⟩
      rw [hsm] at HE ⊢
      clear hsm hsb
      by_cases hss : s = sm
      · have t1 : (s == sm) = true := by simpa using hss
        have t2 : decide (s = sm) = true := by simpa using hss
        rw [t2] at HE
        clear hss t2
        go_wp2
        exact HE.out
      · have t1 : (s == sm) = false := by simpa using hss
        have t2 : decide (s = sm) = false := by simpa using hss
        rw [t2] at HE
        clear hss t2
        go_wp2
        exact HE.out
end Go.Proofs.YtgfhcmidnbahjaaGreatDoor
