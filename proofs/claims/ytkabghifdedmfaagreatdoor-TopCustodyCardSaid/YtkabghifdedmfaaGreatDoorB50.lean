/- Any few tracks: what is not well-formed does not pass. -/
import Derived.Test.YtkabghifdedmfaaGreatDoorB18
set_option linter.unusedVariables false
set_option linter.unusedSimpArgs false
namespace Go.Proofs.YtkabghifdedmfaaGreatDoor
open Go.RowKit

/-- Few stops and times of labels. -/
def FewT (t : Trk) : Prop := t.stops.length ≤ 20 ∧ t.since.length ≤ 10 ∧ t.label.length ≤ 10 ∧ t.seals.length ≤ 20
/-- The stops are as they have to be. -/
structure SOk (t : Trk) : Prop where
  stops : 0 < t.stops.length
  seals : t.seals.length + 1 = t.stops.length
  each : ∀ (i : Nat) (s : Stp), t.stops[i]? = some s → StpOk t.stops.length i s t.stops[i + 1]?
set_option maxRecDepth 100000 in
set_option maxHeartbeats 4000000 in
theorem stopsB_c (t : Trk) (w : World) (R) (h : TrkAt w t) (hf : FewT t) (hR : ∀ b w', Below w.heap.size w w' → (b = true → SOk t) → R (.returned (.bool b)) w') : Calls Tryz.prog 46 #[t.val] w R := by
  have HR := hide hR
  have H := hide h
  have Hno := hide (show ∀ w', Below w.heap.size w w' → R (.returned (.bool false)) w' from fun w' hb => hR false w' hb (fun e => by cases e))
  obtain ⟨w1, hw1⟩ : ∃ w1, w.alloc (.cells t.cells.toArray 43) = w1 := ⟨_, rfl⟩
  have HW := hide hw1
  have HB1 := hide (show Below w.heap.size w w1 from hw1 ▸ balloc (Below.refl _ _) _)
  obtain ⟨f1, f2, f3, f4⟩ := hf
  obtain ⟨n, hM⟩ : ∃ n, t.seals.length = n := ⟨_, rfl⟩
  obtain ⟨N, hN⟩ : ∃ N, t.stops.length = N := ⟨_, rfl⟩
  have HM := hide hM
  have HL := hide hN
  rw [hN] at f1
  rw [hM] at f4
  have hv : Hid (Trk.val t = .agg #[.string t.label0, .int .i64 t.from0, .int .i64 t.to0, .int .i64 t.class0, .int .i64 t.accept, .slice t.sp N t.sc, .bool t.lost, .slice t.np t.since.length t.nc, .slice t.lp t.label.length t.lc, .slice t.ep n t.ec]) := hide (by rw [← hN, ← hM]; rfl)
  unfold Trk.cells at HW
  rw [hN, hM] at HW
  clear hR h hw1 hN hM
  rw [hv.out]
  by_cases h0 : N = 0
  · subst h0
    go_enter Tryz.func46, Tryz.ntmps46
    go_wp2
    exact Hno.out _ (by rw [HW.out]; exact HB1.out)
  have hN1 : 0 < N := by omega
  have hN0 : ((N : Int) == 0) = false := by simp; omega
  by_cases hse : (n : Int) = (N : Int) - 1
  rotate_left
  · have hz : IntKind.i64.wrap ((N : Int) - 1) = ((N - 1 : Nat) : Int) := by rw [IntWalk.i64_in _ (by omega)]; omega
    obtain ⟨m, hm⟩ : ∃ m, N - 1 = m := ⟨_, rfl⟩
    rw [hm] at hz
    have q1 : ¬ (n : Int) = (m : Int) := by omega
    clear hse hm
    go_enter Tryz.func46, Tryz.ntmps46
    go_wp2
    exact Hno.out _ (by rw [HW.out]; exact HB1.out)
  have HN := hide (show n + 1 = N by omega)
  have hz : IntKind.i64.wrap ((N : Int) - 1) = (n : Int) := by rw [IntWalk.i64_in _ (by omega)]; omega
  clear hse
  obtain ⟨b, o, s0, hp, hs0, x0, x1, x2, x3⟩ := H.out.stops.stp (by rw [HL.out]; exact hN1)
  have Hsp := hide hp
  have Hs0 := hide hs0
  rw [hp]
  rw [hp] at HW
  rw [Nat.zero_mul, Nat.add_zero] at x0 x1 x2 x3
  have y1 := cell_later HB1.out x1
  rw [← HW.out] at y1
  clear hp hs0 x0 x1 x2 x3
  by_cases ha : s0.arrive < 0
  · generalize s0.arrive = ar at *
    go_enter Tryz.func46, Tryz.ntmps46
    go_wp2
    exact Hno.out _ (by rw [HW.out]; exact HB1.out)
  have Ha := hide (show 0 ≤ s0.arrive by omega)
  generalize s0.arrive = ar at ha y1
  go_enter Tryz.func46, Tryz.ntmps46
  go_wp2
  clear y1 ha hz hN0
  go_loopw [30] (fun si wr => ∃ i : Nat, i ≤ N ∧ si = .int .i64 i ∧ Hid (Below w1.heap.size w1 wr) ∧ Hid ((∀ (j : Nat) (s : Stp), j < i → t.stops[j]? = some s → StpOk N j s t.stops[j + 1]?) ∧ (∀ s, t.stops[i]? = some s → 0 ≤ s.arrive) ∧ i < N)) (fun si _ => N - (intOf si).toNat)
  case atStart => exact ⟨0, Nat.zero_le _, rfl, hide (by rw [← HW.out]; exact Below.refl _ _), hide ⟨fun j s hj => absurd hj (by omega), fun s hs => by rw [Hs0.out] at hs; injection hs with hs; rw [← hs]; exact Ha.out, hN1⟩⟩
  case round =>
    obtain ⟨i, hi, rfl, HB, HI⟩ := hrel
    have hlt : i < N := HI.out.2.2
    have c5 : wr.cell? ⟨w.heap.size, 5, none⟩ = some (.slice (some ⟨b, o, none⟩) N t.sc) := cell_later HB.out (by rw [← HW.out]; exact cell_new.trans rfl)
    obtain ⟨b', o', s, hp, hs, x0, x1, x2, x3⟩ := (H.out.stops.keep (Keeps.of_below (bseq HB1.out HB.out))).stp (i := i) (by rw [HL.out]; exact hlt)
    obtain ⟨rfl, rfl⟩ : b = b' ∧ o = o' := by rw [Hsp.out] at hp; injection hp with hp; injection hp with h1 h2; exact ⟨h1, h2⟩
    have hpos := HI.out.2.1 s hs
    obtain ⟨so, sa, sd, sl⟩ := s
    have hpos : 0 ≤ sa := hpos
    have Hs := hide hs
    have HBn := hide (balloc HB.out (.cells #[.int .i64 so, .int .i64 sa, .int .i64 sd, .int .i64 sl] 142))
    have HF := hide (Hno.out _ (bseq HB1.out HBn.out))
    have c5' := cell_later (balloc (Below.refl wr.heap.size wr) (.cells #[.int .i64 so, .int .i64 sa, .int .i64 sd, .int .i64 sl] 142)) c5
    clear hs hp
    by_cases k0 : so < 0
    · clear hpos
      go_wp2
      exact HF.out
    by_cases k1 : 1000000000 < sa
    · clear hpos
      go_wp2
      exact HF.out
    by_cases k3 : 1000000000 < sd
    · clear hpos
      go_wp2
      exact HF.out
    have Hk := hide (And.intro (show 0 ≤ so by omega) (And.intro hpos (And.intro (show sa ≤ 1000000000 by omega) (show sd ≤ 1000000000 by omega))))
    clear hpos
    by_cases hlast : i + 1 = N
    · obtain rfl : n = i := by have := HN.out; omega
      have hz' : IntKind.i64.wrap ((N : Int) - 1) = (n : Int) := by rw [IntWalk.i64_in _ (by omega)]; omega
      have Hlast := hide hlast
      clear hlast hi
      by_cases m1 : sd = -1
      · subst m1
        by_cases m2 : sl = -1
        · subst m2
          have HR1 := hide (HR.out true _ (bseq HB1.out HBn.out) (fun _ => ⟨by rw [HL.out]; exact hN1, by rw [HM.out, HL.out]; exact HN.out, fun j s hs => by
            rw [HL.out]
            by_cases hj : j < n
            · exact HI.out.1 j s hj hs
            · have hjn : j < N := by have := (List.getElem?_eq_some_iff.1 hs).1; rw [HL.out] at this; exact this
              obtain rfl : j = n := by have := HN.out; omega
              rw [Hs.out] at hs
              injection hs with hs; subst hs
              exact ⟨Hk.out.1, ⟨Hk.out.2.1, Hk.out.2.2.1⟩, fun _ => ⟨rfl, rfl⟩, fun h => by have := HN.out; omega, fun h => by have := HN.out; omega⟩⟩))
          go_wp2
          simpa using HR1.out
        · have q2 : (sl == -1) = false := by simpa using m2
          clear m2
          go_wp2
          simpa [q2] using HF.out
      · have q2 : (sd == -1) = false := by simpa using m1
        clear m1
        go_wp2
        simpa [q2] using HF.out
    · have hi1 : i + 1 < N := by omega
      obtain ⟨b', o', s', hp', hs', z0, z1, z2, z3⟩ := (H.out.stops.keep (Keeps.of_below (bseq HB1.out HB.out))).stp (i := i + 1) (by rw [HL.out]; exact hi1)
      obtain ⟨rfl, rfl⟩ : b = b' ∧ o = o' := by rw [Hsp.out] at hp'; injection hp' with hp'; injection hp' with h1 h2; exact ⟨h1, h2⟩
      have z1' := cell_later (balloc (Below.refl wr.heap.size wr) (.cells #[.int .i64 so, .int .i64 sa, .int .i64 sd, .int .i64 sl] 142)) z1
      have Hs' := hide hs'
      obtain ⟨na, hna⟩ : ∃ na, s'.arrive = na := ⟨_, rfl⟩
      rw [hna] at z1'
      have Hna := hide hna
      have hne : ((i : Int) == (n : Int)) = false := by simp; have := HN.out; omega
      have hz' : IntKind.i64.wrap ((N : Int) - 1) = (n : Int) := by rw [IntWalk.i64_in _ (by omega)]; have := HN.out; omega
      have w1' : IntKind.i64.wrap ((i : Int) + 1) = ((i + 1 : Nat) : Int) := by rw [IntWalk.i64_in _ (by omega)]; omega
      obtain ⟨i1, hi1'⟩ : ∃ i1, i + 1 = i1 := ⟨_, rfl⟩
      have Hi1 := hide hi1'
      rw [hi1'] at w1' z1' hi1
      have HFd := hide (fun k => Hno.out _ (below_drewN' (bseq HB1.out HBn.out) k))
      clear hp' hs' z0 z2 z3 z1 hi1' hna hlast hi
      by_cases m1 : sd < sa
      · have d1 : decide (sd < sa) = true := by simpa using m1
        clear m1
        go_wp2
        go_quiet (fail)
        go_wp2
        exact HFd.out _
      have d1 : decide (sd < sa) = false := by simpa using m1
      by_cases m2 : na < sd
      · have d2 : decide (na < sd) = true := by simpa using m2
        clear m1 m2
        go_wp2
        go_quiet (fail)
        go_wp2
        exact HFd.out _
      have d2 : decide (na < sd) = false := by simpa using m2
      by_cases m3 : sl < 0
      · have d3 : decide (sl < 0) = true := by simpa using m3
        clear m1 m2 m3
        go_wp2
        go_quiet (fail)
        go_wp2
        exact HFd.out _
      have d3 : decide (sl < 0) = false := by simpa using m3
      have HI2 := hide (show (∀ (j : Nat) (s : Stp), j < i1 → t.stops[j]? = some s → StpOk N j s t.stops[j + 1]?) ∧ (∀ s, t.stops[i1]? = some s → 0 ≤ s.arrive) ∧ i1 < N from by
        have h1 := Hi1.out
        have h2 := Hna.out
        subst h1
        refine ⟨fun j s hj hs => ?_, fun s hs => ?_, hi1⟩
        · by_cases hj2 : j < i
          · exact HI.out.1 j s hj2 hs
          · obtain rfl : j = i := by omega
            rw [Hs.out] at hs
            injection hs with hs; subst hs
            refine ⟨Hk.out.1, ⟨Hk.out.2.1, Hk.out.2.2.1⟩, fun h => by omega, fun _ => ⟨by show sa ≤ sd; omega, Hk.out.2.2.2, by show 0 ≤ sl; omega⟩, fun _ u hu => ?_⟩
            rw [Hs'.out] at hu
            injection hu with hu; subst hu
            show sd ≤ s'.arrive
            omega
        · rw [Hs'.out] at hs
          injection hs with hs; subst hs
          have := Hk.out.2.1
          omega)
      clear m1 m2 m3
      go_wp2
      go_quiet (fail)
      go_wp2
      go_roundw
      case rel => exact ⟨i1, by omega, by have := Hi1.out; first | rfl | (congr 1; omega), hide (by exact below_drewN' HBn.out _), HI2⟩
      case measure => have := Hi1.out; simp [intOf]; omega
theorem sortedV_c (p : Option Addr) (c N : Nat) (v : Bool) (l : List Int) (w : World) (hN : l.length = N) (hl : N ≤ 1000000) (h : IntsAt .i64 w p l) (ha : v = true ↔ adjP l 0) : Calls Tryz.prog 85 #[.slice p N c] w fun e w' => e = .returned (.bool v) ∧ Dr w w' := by
  subst hN
  refine sorted_c p c l w _ hl h ?_
  intro u w' hd hu
  refine ⟨?_, hd⟩
  have : u = v := by
    by_cases h : adjP l 0
    · rw [hu.2 h, ha.2 h]
    · cases u <;> cases v <;> simp_all
  rw [this]
set_option maxRecDepth 100000 in
set_option maxHeartbeats 4000000 in
theorem labelsB_c (t : Trk) (w : World) (R) (h : TrkAt w t) (hf : FewT t) (hs : SOk t) (hR : ∀ b w', Below w.heap.size w w' → (b = true → TkOk t.tk) → R (.returned (.bool b)) w') : Calls Tryz.prog 47 #[t.val] w R := by
  have HR := hide hR
  have H := hide h
  have Hno := hide (show ∀ w', Below w.heap.size w w' → R (.returned (.bool false)) w' from fun w' hb => hR false w' hb (fun e => by cases e))
  obtain ⟨w1, hw1⟩ : ∃ w1, w.alloc (.cells t.cells.toArray 43) = w1 := ⟨_, rfl⟩
  have HW := hide hw1
  have HB1 := hide (show Below w.heap.size w w1 from hw1 ▸ balloc (Below.refl _ _) _)
  have hlen : 0 < t.stops.length := hs.stops
  have Hs := hide hs
  have Hf := hide hf
  obtain ⟨f1, f2, f3, f4⟩ := hf
  clear hR h hs hw1
  obtain ⟨N, hN⟩ : ∃ N, t.since.length = N := ⟨_, rfl⟩
  obtain ⟨L, hL⟩ : ∃ L, t.label.length = L := ⟨_, rfl⟩
  obtain ⟨M, hM⟩ : ∃ M, t.stops.length = M := ⟨_, rfl⟩
  have HN := hide hN; have HL := hide hL
  have hv : Hid (Trk.val t = .agg #[.string t.label0, .int .i64 t.from0, .int .i64 t.to0, .int .i64 t.class0, .int .i64 t.accept, .slice t.sp M t.sc, .bool t.lost, .slice t.np N t.nc, .slice t.lp L t.lc, .slice t.ep t.seals.length t.ec]) := hide (by rw [← hN, ← hM, ← hL]; rfl)
  unfold Trk.cells at HW
  rw [hN, hM, hL] at HW
  obtain ⟨b, o, s0, hp, hs0, x0, x1, x2, x3⟩ := H.out.stops.stp hlen
  rw [hp] at HW hv
  rw [Nat.zero_mul, Nat.add_zero] at x1
  have y1 := cell_later HB1.out x1
  rw [← HW.out] at y1
  have Hs0 := hide hs0
  rw [hN] at f2
  rw [hL] at f3
  obtain ⟨ar, har⟩ : ∃ ar, s0.arrive = ar := ⟨_, rfl⟩
  rw [har] at y1
  have Har := hide har
  rw [hM] at hlen
  clear x0 x1 x2 x3 hp hs0 hN hL har
  rw [hv.out]
  by_cases h0 : N = 0
  · subst h0
    clear hM
    go_enter Tryz.func47, Tryz.ntmps47
    go_wp2
    exact Hno.out _ (by rw [HW.out]; exact HB1.out)
  have hN1 : 0 < N := by omega
  have hn0 : ((N : Int) == 0) = false := by simp; omega
  by_cases hNL : N = L
  rotate_left
  · have q1 : ¬ (N : Int) = (L : Int) := by omega
    clear hNL hM
    go_enter Tryz.func47, Tryz.ntmps47
    go_wp2
    exact Hno.out _ (by rw [HW.out]; exact HB1.out)
  subst hNL
  obtain ⟨b2, o2, a0, hp2, hx0, y0⟩ := H.out.since.at_ (i := 0) (by rw [HN.out]; exact hN1)
  rw [Nat.add_zero] at y0
  have HI := hide H.out.since
  rw [hp2] at HW hv HI ⊢
  have y2 := cell_later HB1.out y0
  rw [← HW.out] at y2
  have HB2 := HB1
  unfold Hid at HB2
  rw [← HW.out] at HB2
  rw [hp2] at y1
  have Hx0 := hide hx0
  have hd := HI.out.keep (Keeps.of_below HB2)
  obtain ⟨v, hvv⟩ : ∃ v : Bool, v = true ↔ adjP t.since 0 := by
    by_cases h : adjP t.since 0
    · exact ⟨true, by simp [h]⟩
    · exact ⟨false, by simp [h]⟩
  have Hv := hide hvv
  clear y0 hp2 hx0 hvv hM h0 f1 f4
  cases v with
  | false =>
    have h2 := hide (fun k => Hno.out _ (below_drewN' HB2 k))
    go_enter Tryz.func47, Tryz.ntmps47
    go_wp2
    go_quiet ((go_at_call 85; exact quiet_dr (sortedV_c _ _ N false t.since _ HN.out (by omega) (hd.keep (Keeps.drewN _ _)) Hv.out)))
    go_wp2
    exact h2.out _
  | true =>
    have Hv' := hide (Hv.out.1 rfl)
    clear Hv
    by_cases hle : a0 ≤ ar
    · have h2 := hide (fun k => HR.out true _ (below_drewN' HB2 k) (fun _ => ⟨Hs.out.stops, Hs.out.seals, by show t.since.length = t.label.length; rw [HN.out, HL.out], by show 0 < t.since.length; rw [HN.out]; exact hN1,
        fun x s hx hs => by
          rw [show t.tk.since[0]? = some a0 from Hx0.out] at hx
          rw [show t.tk.stops[0]? = some s0 from Hs0.out] at hs
          injection hx with hx; injection hs with hs; subst hx; subst hs
          rw [Har.out]; exact hle, fun m x y hx hy => Hv'.out m x y (Nat.zero_le _) hx hy, Hs.out.each, ⟨Hf.out.1, Hf.out.2.1⟩⟩))
      go_enter Tryz.func47, Tryz.ntmps47
      go_wp2
      go_quiet ((go_at_call 85; exact quiet_dr (sortedV_c _ _ N true t.since _ HN.out (by omega) (hd.keep (Keeps.drewN _ _)) ⟨fun _ => Hv'.out, fun _ => rfl⟩)))
      go_wp2
      exact h2.out _
    · have h2 := hide (fun k => Hno.out _ (below_drewN' HB2 k))
      go_enter Tryz.func47, Tryz.ntmps47
      go_wp2
      go_quiet ((go_at_call 85; exact quiet_dr (sortedV_c _ _ N true t.since _ HN.out (by omega) (hd.keep (Keeps.drewN _ _)) ⟨fun _ => Hv'.out, fun _ => rfl⟩)))
      go_wp2
      have hd1 : decide (a0 ≤ ar) = false := by simpa using hle
      have h3 := h2.out
      simpa [hd1] using h3 _
set_option maxHeartbeats 1000000 in
theorem badTrkB_c (t : Trk) (w : World) (R) (h : TrkAt w t) (hf : FewT t) (hR : ∀ b w', Below w.heap.size w w' → (b = false → TkOk t.tk) → R (.returned (.bool b)) w') : Calls Tryz.prog 45 #[t.val] w R := by
  have HR := hide hR; have H := hide h; have Hf := hide hf
  have Hno := hide (show ∀ w', Below w.heap.size w w' → R (.returned (.bool true)) w' from fun w' hb => hR true w' hb (fun e => by cases e))
  obtain ⟨w1, hw1⟩ : ∃ w1, w.alloc (.cells t.cells.toArray 43) = w1 := ⟨_, rfl⟩
  have HW := hide hw1
  have HB1 := hide (show Below w.heap.size w w1 from hw1 ▸ balloc (Below.refl _ _) _)
  unfold Trk.cells at HW
  have hv := hide t.val_eq
  clear hR h hf hw1
  rw [hv.out]
  go_enter Tryz.func45, Tryz.ntmps45
  go_wp2_with (go_at_call 46; rw [← hv.out, HW.out]; refine Stop.out ?_)
  refine Stop.go (stopsB_c t _ _ (H.out.keep (Keeps.of_below HB1.out)) Hf.out ?_)
  intro b w2 hb hok
  have HB2 := hide (bseq HB1.out hb)
  cases b with
  | false =>
    clear hb hok
    go_wp2
    exact Hno.out _ HB2.out
  | true =>
  have Hok := hide (hok rfl)
  have hc : ∀ (i : Nat) (v : Value), t.cells[i]? = some v → w2.cell? ⟨w.heap.size, i, none⟩ = some v := fun i v hv => cell_later hb (by rw [← HW.out]; exact cell_new.trans (by rw [List.getElem?_toArray]; exact hv))
  have z0 := hc 0 _ rfl; have z1 := hc 1 _ rfl; have z2 := hc 2 _ rfl; have z3 := hc 3 _ rfl; have z4 := hc 4 _ rfl; have z5 := hc 5 _ rfl; have z6 := hc 6 _ rfl; have z7 := hc 7 _ rfl; have z8 := hc 8 _ rfl; have z9 := hc 9 _ rfl
  clear hc hb hok
  go_wp2_with (go_at_call 47; rw [← hv.out]; refine Stop.out ?_)
  refine Stop.go (labelsB_c t _ _ (H.out.keep (Keeps.of_below HB2.out)) Hf.out Hok.out ?_)
  intro b w3 hb hok
  have HF := hide (HR.out (!b) w3 (bseq HB2.out hb) (fun e => hok (by cases b <;> simp_all)))
  clear hb hok z0 z1 z2 z3 z4 z5 z6 z7 z8 z9
  cases b with
  | false =>
    go_wp2
    exact HF.out
  | true =>
    go_wp2
    exact HF.out
set_option maxHeartbeats 1000000 in
theorem idxTrkB_c (p : Option Addr) (c n : Nat) (l : List Trk) (w : World) (R) (hn : l.length = n) (hl : n ≤ 1000) (h : TrksAt w p l) (hk : ∀ t ∈ l, FewT t) (hR : ∀ (r : Int) w', Below w.heap.size w w' → (r < 0 → ∀ t ∈ l, TkOk t.tk) → R (.returned (.int .i64 r)) w') : Calls Tryz.prog 84 #[.slice p n c, .func (.func 45) #[] #[]] w R := by
  have HR := hide hR; have H := hide h; have Hk := hide hk; have Hn := hide hn
  clear hR h hk hn
  go_enter Tryz.func84, Tryz.ntmps84
  go_wp2
  go_loopw [8] (fun si wr => ∃ k : Nat, k ≤ n ∧ si = .int .i64 k ∧ Hid (Below w.heap.size w wr) ∧ Hid (∀ t ∈ l.take k, TkOk t.tk)) (fun si _ => n - (intOf si).toNat)
  case atStart => exact ⟨0, Nat.zero_le _, rfl, hide (Below.refl _ _), hide (by simp)⟩
  case round =>
    obtain ⟨k, hk, rfl, HB, HA⟩ := hrel
    by_cases hlt : k < n
    · obtain ⟨b, o, t, rfl, hx, ht, x0, x1, x2, x3, x4, x5, x6, x7, x8, x9⟩ := (H.out.keep (Keeps.of_below HB.out)).trk (i := k) (by rw [Hn.out]; exact hlt)
      have Ht := hide ht
      have Hf := hide (Hk.out t (List.mem_of_getElem? hx))
      have Hx := hide hx
      have hv := hide t.val_eq
      clear hx ht
      go_wp2_with (go_at_call 45; rw [← hv.out]; refine Stop.out ?_)
      refine Stop.go (badTrkB_c t _ _ Ht.out Hf.out ?_)
      intro b w2 hb hok
      have HB2 := hide (bseq HB.out hb)
      cases b with
      | true =>
        have HF := hide (HR.out (k : Int) w2 HB2.out (fun e => absurd e (by omega)))
        clear hb hok x0 x1 x2 x3 x4 x5 x6 x7 x8 x9
        go_wp2
        exact HF.out
      | false =>
        have HA2 := hide (show ∀ t ∈ l.take (k + 1), TkOk t.tk from fun u hu => by
          rw [List.take_add_one, Hx.out] at hu
          rcases List.mem_append.1 hu with hu | hu
          · exact HA.out u hu
          · simp at hu; rw [hu]; exact hok rfl)
        clear hb hok x0 x1 x2 x3 x4 x5 x6 x7 x8 x9
        go_wp2
        go_roundw
        case rel => exact ⟨k + 1, by omega, by go_num, HB2, HA2⟩
        case measure => simp [intOf]; omega
    · obtain rfl : k = n := by omega
      have HF := hide (HR.out (-1) _ HB.out (fun _ => by have := HA.out; rw [List.take_of_length_le (by rw [Hn.out]; exact Nat.le_refl _)] at this; exact this))
      go_wp2
      exact HF.out
theorem wellAny_c (p : Option Addr) (c n : Nat) (l : List Trk) (w : World) (R) (hn : l.length = n) (hl : n ≤ 8) (h : TrksAt w p l) (hk : ∀ t ∈ l, FewT t) (hR : ∀ b w', Below w.heap.size w w' → (b = true → TksOk (l.map Trk.tk)) → R (.returned (.bool b)) w') : Calls Tryz.prog 19 #[.slice p n c] w R := by
  have HR := hide hR; have H := hide h; have Hn := hide hn; have Hk := hide hk
  clear hR h hk hn
  have hl' : ¬ (60 : Int) < (n : Int) := by omega
  go_enter Tryz.func19, Tryz.ntmps19
  go_wp2_with (go_at_call 44; refine Stop.out ?_)
  refine Stop.go ?_
  go_enter Tryz.func44, Tryz.ntmps44
  go_wp2_with (go_at_call 84; refine Stop.out ?_)
  refine Stop.go (idxTrkB_c p c n l _ _ Hn.out (by omega) H.out Hk.out ?_)
  intro r w2 hb hok
  by_cases hr : 0 ≤ r
  · have HF := hide (HR.out false w2 hb (fun e => by cases e))
    clear hb hok
    go_wp2
    exact HF.out
  · have HF := hide (HR.out true w2 hb (fun _ => ⟨by rw [List.length_map, Hn.out]; exact hl, fun t ht => by
      obtain ⟨u, hu, rfl⟩ := List.mem_map.1 ht
      exact hok (by omega) u hu⟩))
    have hd : decide (0 ≤ r) = false := by simpa using hr
    clear hb hok
    go_wp2
    simpa [hd] using HF.out
set_option maxRecDepth 100000 in
set_option maxHeartbeats 4000000 in
/-- Records on any few input: as it should, or nothing. -/
theorem recordsAny_c (sp : Option Addr) (n cap : Nat) (sl : List Scn) (p : Option Addr) (m cap2 : Nat) (ts : List Trk) (w : World) (R) (hn : sl.length = n) (hn1 : n ≤ 1000) (hS : ScnsAt w sp sl) (hm : ts.length = m) (hm8 : m ≤ 8) (hT : TrksAt w p ts) (hf : ∀ t ∈ ts, FewT t)
    (hN : ∀ w', Below w.heap.size w w' → R (.returned (.slice none 0 0)) w')
    (hR : ScnsOk sl → TksOk (ts.map Trk.tk) → ∀ w' q c (rl : List Rec), Below w.heap.size w w' → RecsAt w' q rl → rl.map Rec.rp = recordsP sl (ts.map Trk.tk) → R (.returned (.slice q rl.length c)) w') : Calls Tryz.prog 7 #[.slice sp n cap, .slice p m cap2] w R := by
  by_cases hso : ScnsOk sl
  · by_cases hto : TksOk (ts.map Trk.tk)
    · exact records_c sp n cap sl p m cap2 ts w R hn hS hso hm hT hto (hR hso hto)
    · have HN := hide hN; have HT := hide hT; have Hm := hide hm; have Hf := hide hf; have HS := hide hS; have Hn := hide hn; have Hso := hide hso; have Hto := hide hto
      clear hN hR hn hS hso hm hT hto hf
      refine (callsIn_wide (n := 5)).1 ?_
      refine callsIn_of_wp_marks Tryz.func7 rfl trivial ?_ rfl
      simp only [Tryz.ntmps7, List.size_toArray, List.length_cons, List.length_nil, Nat.reduceAdd, Nat.reduceSub, Array.replicate_succ, Array.replicate_zero, List.push_toArray, List.append_toArray, List.nil_append, List.cons_append]
      refine wpIn_wide.2 ?_
      go_wp2_with (go_at_call 18; refine Stop.out ?_)
      refine Stop.go (scannersT_c sp cap n sl _ _ Hn.out HS.out Hso.out ?_)
      intro w1 hb1
      have HB1 := hide hb1
      clear hb1
      go_wp2_with (go_at_call 19; refine Stop.out ?_)
      refine Stop.go (wellAny_c p cap2 m ts _ _ Hm.out hm8 (HT.out.keep (Keeps.of_below HB1.out)) Hf.out ?_)
      intro b w2 hb2 hok
      cases b with
      | true => exact absurd (hok rfl) Hto.out
      | false =>
        have HF := hide (HN.out _ (bseq HB1.out hb2))
        clear hb2 hok
        go_wp2
        refine ⟨_, results_tmp rfl _ _ _, ?_⟩
        exact HF.out
  · have HN := hide hN; have HS := hide hS; have Hn := hide hn; have Hso := hide hso
    clear hN hR hn hS hso hm hT hf
    refine (callsIn_wide (n := 5)).1 ?_
    refine callsIn_of_wp_marks Tryz.func7 rfl trivial ?_ rfl
    simp only [Tryz.ntmps7, List.size_toArray, List.length_cons, List.length_nil, Nat.reduceAdd, Nat.reduceSub, Array.replicate_succ, Array.replicate_zero, List.push_toArray, List.append_toArray, List.nil_append, List.cons_append]
    refine wpIn_wide.2 ?_
    go_wp2_with (go_at_call 18; refine Stop.out ?_)
    rw [← Hn.out]
    refine Stop.go (scanners_c sp cap sl _ _ (by rw [Hn.out]; exact hn1) HS.out ?_)
    rw [Hn.out]
    intro w1 hb1
    rw [show scnsB sl = false by
      cases h : scnsB sl with
      | false => rfl
      | true =>
        unfold scnsB at h
        rw [Bool.and_eq_true] at h
        exact absurd ⟨of_decide_eq_true h.1, List.all_eq_true.1 h.2⟩ Hso.out]
    have HF := hide (HN.out _ hb1)
    clear hb1
    go_wp2
    refine ⟨_, results_tmp rfl _ _ _, ?_⟩
    exact HF.out
end Go.Proofs.YtkabghifdedmfaaGreatDoor
