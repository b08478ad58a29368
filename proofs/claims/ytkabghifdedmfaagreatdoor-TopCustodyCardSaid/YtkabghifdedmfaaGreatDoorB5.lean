/- Well-formed tracks pass. Well-formed tracks pass: the list. -/
import Derived.Test.YtkabghifdedmfaaGreatDoorB4
set_option linter.unusedVariables false
set_option linter.unusedSimpArgs false
namespace Go.Proofs.YtkabghifdedmfaaGreatDoor
open Go.RowKit

theorem box_cell {w wr : World} {cs : Array Value} {T : TypeId} (hb : Below (w.alloc (.cells cs T)).heap.size (w.alloc (.cells cs T)) wr) {i : Nat} {v : Value} (hv : cs[i]? = some v) : wr.cell? ⟨w.heap.size, i, none⟩ = some v :=
  cell_later hb (cell_new.trans hv)
set_option maxRecDepth 100000 in
set_option maxHeartbeats 2000000 in
theorem stops_c (t : Trk) (w : World) (R) (h : TrkAt w t) (hk : TkOk t.tk) (hR : ∀ w', Below w.heap.size w w' → R (.returned (.bool true)) w') : Calls Tryz.prog 46 #[t.val] w R := by
  have HR := hide hR
  have H := hide h
  have Hk := hide hk
  have hlen : 0 < t.stops.length := hk.stops
  have hlm : t.stops.length ≤ 20 := hk.few.1
  have hse : t.seals.length + 1 = t.stops.length := hk.seals
  obtain ⟨w1, hw1⟩ : ∃ w1, w.alloc (.cells t.cells.toArray 43) = w1 := ⟨_, rfl⟩
  have HW := hide hw1
  have HB1 := hide (show Below w.heap.size w w1 from hw1 ▸ balloc (Below.refl _ _) _)
  clear hR h hk hw1
  obtain ⟨b, o, s0, hp, hs0, x0, x1, x2, x3⟩ := H.out.stops.stp hlen
  have ok0 := Hk.out.each 0 s0 hs0
  have a0 := ok0.arrive.1
  have Hsp := hide hp
  have l1 : (t.stops.length : Int) ≠ 0 := by omega
  have l2 : (t.seals.length : Int) = (t.stops.length : Int) - 1 := by omega
  obtain ⟨n, hn⟩ : ∃ n, t.seals.length = n := ⟨_, rfl⟩
  have hn2 : t.stops.length = n + 1 := by omega
  have Hn2 := hide hn2
  have Hn := hide hn
  have hv : Hid (Trk.val t = .agg #[.string t.label0, .int .i64 t.from0, .int .i64 t.to0, .int .i64 t.class0, .int .i64 t.accept, .slice t.sp t.stops.length t.sc, .bool t.lost, .slice t.np t.since.length t.nc, .slice t.lp t.label.length t.lc, .slice t.ep t.seals.length t.ec]) := hide rfl
  unfold Trk.cells at HW
  obtain ⟨N, hN⟩ : ∃ N, n + 1 = N := ⟨_, rfl⟩
  have HN := hide hN
  have hNm : N ≤ 21 := by omega
  have HL : Hid (t.stops.length = N) := hide (by omega)
  have hz : IntKind.i64.wrap ((N : Int) - 1) = (n : Int) := by rw [IntWalk.i64_in _ (by omega)]; omega
  have hN0 : ((N : Int) == 0) = false := by simp; omega
  have hN1 : 0 < N := by omega
  rw [hv.out, hp, hn2, hn, hN]
  rw [hp, hn2, hn, hN] at HW
  rw [Nat.zero_mul, Nat.add_zero] at x0 x1 x2 x3
  have y1 := cell_later HB1.out x1
  rw [← HW.out] at y1
  generalize s0.arrive = ar at *
  clear hp hs0 ok0 hse l1 l2 hn2 hn hlm hN hlen Hn2 Hn x0 x1 x2 x3
  go_enter Tryz.func46, Tryz.ntmps46
  go_wp2
  clear y1 a0 hz hN0
  go_loopw [30] (fun si wr => ∃ i : Nat, i ≤ N ∧ si = .int .i64 i ∧ Hid (Below w1.heap.size w1 wr)) (fun si _ => N - (intOf si).toNat)
  case atStart => exact ⟨0, Nat.zero_le _, rfl, hide (by rw [← HW.out]; exact Below.refl _ _)⟩
  case round =>
    obtain ⟨i, hi, rfl, HB⟩ := hrel
    by_cases hlt : i < N
    · have c5 : wr.cell? ⟨w.heap.size, 5, none⟩ = some (.slice (some ⟨b, o, none⟩) N t.sc) := cell_later HB.out (by rw [← HW.out]; exact cell_new.trans rfl)
      obtain ⟨b', o', s, hp, hs, x0, x1, x2, x3⟩ := (H.out.stops.keep (Keeps.of_below (bseq HB1.out HB.out))).stp (i := i) (by rw [HL.out]; exact hlt)
      obtain ⟨rfl, rfl⟩ : b = b' ∧ o = o' := by rw [Hsp.out] at hp; injection hp with hp; injection hp with h1 h2; exact ⟨h1, h2⟩
      have ok := Hk.out.each i s hs
      obtain ⟨so, sa, sd, sl⟩ := s
      have k0 : 0 ≤ so := ok.office
      have k1 : sa ≤ 1000000000 := ok.arrive.2
      have eL : t.tk.stops.length = N := HL.out
      by_cases hlast : i + 1 = N
      · obtain ⟨rfl, rfl⟩ : sd = -1 ∧ sl = -1 := ok.last (hlast.trans eL.symm)
        obtain rfl : n = i := by have := HN.out; omega
        have hz' : IntKind.i64.wrap ((N : Int) - 1) = (n : Int) := by rw [IntWalk.i64_in _ (by omega)]; omega
        have HR1 := hide (HR.out _ (balloc (bseq HB1.out HB.out) (.cells #[.int .i64 so, .int .i64 sa, .int .i64 (-1), .int .i64 (-1)] 142)))
        have c5' := cell_later (balloc (Below.refl wr.heap.size wr) (.cells #[.int .i64 so, .int .i64 sa, .int .i64 (-1), .int .i64 (-1)] 142)) c5
        clear hs hp ok hi eL hlast
        go_wp2
        simpa using HR1.out
      · have k2 : sa ≤ sd := (ok.mid (by rw [eL]; omega)).1
        have k3 : sd ≤ 1000000000 := (ok.mid (by rw [eL]; omega)).2.1
        have k4 : 0 ≤ sl := (ok.mid (by rw [eL]; omega)).2.2
        have hi1 : i + 1 < N := by omega
        obtain ⟨b', o', s', hp', hs', z0, z1, z2, z3⟩ := (H.out.stops.keep (Keeps.of_below (bseq HB1.out HB.out))).stp (i := i + 1) (by rw [HL.out]; exact hi1)
        obtain ⟨rfl, rfl⟩ : b = b' ∧ o = o' := by rw [Hsp.out] at hp'; injection hp' with hp'; injection hp' with h1 h2; exact ⟨h1, h2⟩
        have k5 : sd ≤ s'.arrive := ok.next (by rw [eL]; exact hi1) s' hs'
        have HBn := hide (balloc HB.out (.cells #[.int .i64 so, .int .i64 sa, .int .i64 sd, .int .i64 sl] 142))
        have z1' := cell_later (balloc (Below.refl wr.heap.size wr) (.cells #[.int .i64 so, .int .i64 sa, .int .i64 sd, .int .i64 sl] 142)) z1
        have c5' := cell_later (balloc (Below.refl wr.heap.size wr) (.cells #[.int .i64 so, .int .i64 sa, .int .i64 sd, .int .i64 sl] 142)) c5
        generalize s'.arrive = na at *
        have hne : ((i : Int) == (n : Int)) = false := by simp; have := HN.out; omega
        have hz' : IntKind.i64.wrap ((N : Int) - 1) = (n : Int) := by rw [IntWalk.i64_in _ (by omega)]; have := HN.out; omega
        have w1' : IntKind.i64.wrap ((i : Int) + 1) = ((i + 1 : Nat) : Int) := by rw [IntWalk.i64_in _ (by omega)]; omega
        obtain ⟨i1, hi1'⟩ : ∃ i1, i + 1 = i1 := ⟨_, rfl⟩
        have Hi1 := hide hi1'
        rw [hi1'] at w1' z1' hi1
        have d1 : decide (sd < sa) = false := by simpa using k2
        have d2 : decide (na < sd) = false := by simpa using k5
        have d3 : decide (sl < 0) = false := by simpa using k4
        clear hs hp ok hi eL hlast hp' hs' z0 z2 z3 z1 hi1'
        go_wp2
        go_quiet (fail)
        go_wp2
        go_roundw
        case rel => exact ⟨i1, by omega, by have := Hi1.out; first | rfl | (congr 1; omega), hide (by exact below_drewN' HBn.out _)⟩
        case measure => have := Hi1.out; simp [intOf]; omega
    · obtain rfl : i = N := by omega
      go_wp2
      exact HR.out _ (bseq HB1.out HB.out)
theorem sortedT_c (p : Option Addr) (c N : Nat) (l : List Int) (w : World) (hN : l.length = N) (hl : N ≤ 1000000) (h : IntsAt .i64 w p l) (ha : AscI l) : Calls Tryz.prog 85 #[.slice p N c] w fun e w' => e = .returned (.bool true) ∧ Dr w w' := by
  subst hN
  refine sorted_c p c l w _ hl h ?_
  intro v w' hd hv
  refine ⟨?_, hd⟩
  rw [hv.2 (fun m x y _ hx hy => ha m x y hx hy)]
set_option maxHeartbeats 1000000 in
theorem labels_c (t : Trk) (w : World) (R) (h : TrkAt w t) (hk : TkOk t.tk) (hR : ∀ w', Below w.heap.size w w' → R (.returned (.bool true)) w') : Calls Tryz.prog 47 #[t.val] w R := by
  have HR := hide hR
  have H := hide h
  have Hk := hide hk
  obtain ⟨w1, hw1⟩ : ∃ w1, w.alloc (.cells t.cells.toArray 43) = w1 := ⟨_, rfl⟩
  have HW := hide hw1
  have HB1 := hide (show Below w.heap.size w w1 from hw1 ▸ balloc (Below.refl _ _) _)
  have hlen : 0 < t.stops.length := hk.stops
  have hsl : 0 < t.since.length := hk.since
  have hsm : t.since.length ≤ 10 := hk.few.2
  have hll : t.since.length = t.label.length := hk.labels
  have HA := hide (show AscI t.since from hk.asc)
  clear hR h hk hw1
  obtain ⟨b, o, s0, hp, hs0, x0, x1, x2, x3⟩ := H.out.stops.stp hlen
  obtain ⟨b2, o2, a0, hp2, hx0, y0⟩ := H.out.since.at_ hsl
  have hle : a0 ≤ s0.arrive := Hk.out.first a0 s0 hx0 hs0
  have hv : Hid (Trk.val t = .agg #[.string t.label0, .int .i64 t.from0, .int .i64 t.to0, .int .i64 t.class0, .int .i64 t.accept, .slice t.sp t.stops.length t.sc, .bool t.lost, .slice t.np t.since.length t.nc, .slice t.lp t.label.length t.lc, .slice t.ep t.seals.length t.ec]) := hide rfl
  unfold Trk.cells at HW
  rw [Nat.zero_mul, Nat.add_zero] at x1
  rw [Nat.add_zero] at y0
  have y1 := cell_later HB1.out x1
  have y2 := cell_later HB1.out y0
  rw [← HW.out] at y1 y2
  rw [hv.out]
  generalize s0.arrive = ar at *
  obtain ⟨N, hN⟩ : ∃ N, t.since.length = N := ⟨_, rfl⟩
  obtain ⟨M, hM⟩ : ∃ M, t.stops.length = M := ⟨_, rfl⟩
  have HN := hide hN
  have HI := hide H.out.since
  rw [← hll, hN, hM, hp, hp2]
  rw [← hll, hN, hM, hp, hp2] at y1 y2
  rw [hN] at hsl
  rw [hM] at hlen
  have HB2 := HB1
  unfold Hid at HB2
  rw [← HW.out, ← hll, hN, hM, hp, hp2] at HB2
  rw [hp2] at HI
  have hn0 : ((N : Int) == 0) = false := by simp; omega
  have hd := HI.out.keep (Keeps.of_below HB2)
  have hsort : ∀ (n : Nat) (R : Ending → World → Prop), True := fun _ _ => trivial
  clear hs0 x0 x1 x2 x3 hx0 y0 hll hM hp hp2 hsort
  go_enter Tryz.func47, Tryz.ntmps47
  go_wp2
  go_quiet ((go_at_call 85; exact quiet_dr (sortedT_c _ _ N t.since _ HN.out (by omega) (hd.keep (Keeps.drewN _ _)) HA.out)))
  go_wp2
  have h2 := fun k => HR.out _ (below_drewN' HB2 k)
  simpa using h2 _
end Go.Proofs.YtkabghifdedmfaaGreatDoor

namespace Go.Proofs.YtkabghifdedmfaaGreatDoor
open Go.RowKit

theorem TrksAt.trk {w : World} {p : Option Addr} {l : List Trk} (h : TrksAt w p l) {i : Nat} (hi : i < l.length) : ∃ b o t, p = some ⟨b, o, none⟩ ∧ l[i]? = some t ∧ TrkAt w t ∧
    w.cell? ⟨b, o + i * 10, none⟩ = some (.string t.label0) ∧ w.cell? ⟨b, o + i * 10 + 1, none⟩ = some (.int .i64 t.from0) ∧ w.cell? ⟨b, o + i * 10 + 2, none⟩ = some (.int .i64 t.to0) ∧ w.cell? ⟨b, o + i * 10 + 3, none⟩ = some (.int .i64 t.class0) ∧
    w.cell? ⟨b, o + i * 10 + 4, none⟩ = some (.int .i64 t.accept) ∧ w.cell? ⟨b, o + i * 10 + 5, none⟩ = some (.slice t.sp t.stops.length t.sc) ∧ w.cell? ⟨b, o + i * 10 + 6, none⟩ = some (.bool t.lost) ∧ w.cell? ⟨b, o + i * 10 + 7, none⟩ = some (.slice t.np t.since.length t.nc) ∧
    w.cell? ⟨b, o + i * 10 + 8, none⟩ = some (.slice t.lp t.label.length t.lc) ∧ w.cell? ⟨b, o + i * 10 + 9, none⟩ = some (.slice t.ep t.seals.length t.ec) := by
  obtain ⟨b, o, x, hp, hx, hc⟩ := h.1.at_ hi
  exact ⟨b, o, x, hp, hx, h.2 x (List.mem_of_getElem? hx), hc 0 _ rfl, hc 1 _ rfl, hc 2 _ rfl, hc 3 _ rfl, hc 4 _ rfl, hc 5 _ rfl, hc 6 _ rfl, hc 7 _ rfl, hc 8 _ rfl, hc 9 _ rfl⟩
theorem Trk.val_eq (t : Trk) : t.val = .agg #[.string t.label0, .int .i64 t.from0, .int .i64 t.to0, .int .i64 t.class0, .int .i64 t.accept, .slice t.sp t.stops.length t.sc, .bool t.lost, .slice t.np t.since.length t.nc, .slice t.lp t.label.length t.lc, .slice t.ep t.seals.length t.ec] := rfl
set_option maxHeartbeats 1000000 in
theorem badTrk_c (t : Trk) (w : World) (R) (h : TrkAt w t) (hk : TkOk t.tk) (hR : ∀ w', Below w.heap.size w w' → R (.returned (.bool false)) w') : Calls Tryz.prog 45 #[t.val] w R := by
  have HR := hide hR; have H := hide h; have Hk := hide hk
  obtain ⟨w1, hw1⟩ : ∃ w1, w.alloc (.cells t.cells.toArray 43) = w1 := ⟨_, rfl⟩
  have HW := hide hw1
  have HB1 := hide (show Below w.heap.size w w1 from hw1 ▸ balloc (Below.refl _ _) _)
  unfold Trk.cells at HW
  have hv := hide t.val_eq
  clear hR h hk hw1
  rw [hv.out]
  go_enter Tryz.func45, Tryz.ntmps45
  go_wp2_with (go_at_call 46; rw [← hv.out, HW.out]; refine Stop.out ?_)
  refine Stop.go (stops_c t _ _ (H.out.keep (Keeps.of_below HB1.out)) Hk.out ?_)
  intro w2 hb
  have HB2 := hide (bseq HB1.out hb)
  have hc : ∀ (i : Nat) (v : Value), t.cells[i]? = some v → w2.cell? ⟨w.heap.size, i, none⟩ = some v := fun i v hv => cell_later hb (by rw [← HW.out]; exact cell_new.trans (by rw [List.getElem?_toArray]; exact hv))
  have z0 := hc 0 _ rfl; have z1 := hc 1 _ rfl; have z2 := hc 2 _ rfl; have z3 := hc 3 _ rfl; have z4 := hc 4 _ rfl; have z5 := hc 5 _ rfl; have z6 := hc 6 _ rfl; have z7 := hc 7 _ rfl; have z8 := hc 8 _ rfl; have z9 := hc 9 _ rfl
  clear hc hb
  go_wp2_with (go_at_call 47; rw [← hv.out]; refine Stop.out ?_)
  refine Stop.go (labels_c t _ _ (H.out.keep (Keeps.of_below HB2.out)) Hk.out ?_)
  intro w3 hb
  have HB3 := hide (bseq HB2.out hb)
  clear hb z0 z1 z2 z3 z4 z5 z6 z7 z8 z9
  go_wp2
  exact HR.out _ HB3.out
set_option maxHeartbeats 1000000 in
theorem idxTrk_c (p : Option Addr) (c n : Nat) (l : List Trk) (w : World) (R) (hn : l.length = n) (hl : n ≤ 1000) (h : TrksAt w p l) (hk : ∀ t ∈ l, TkOk t.tk) (hR : ∀ w', Below w.heap.size w w' → R (.returned (.int .i64 (-1))) w') : Calls Tryz.prog 84 #[.slice p n c, .func (.func 45) #[] #[]] w R := by
  have HR := hide hR; have H := hide h; have Hk := hide hk; have Hn := hide hn
  clear hR h hk hn
  go_enter Tryz.func84, Tryz.ntmps84
  go_wp2
  go_loopw [8] (fun si wr => ∃ k : Nat, k ≤ n ∧ si = .int .i64 k ∧ Hid (Below w.heap.size w wr)) (fun si _ => n - (intOf si).toNat)
  case atStart => exact ⟨0, Nat.zero_le _, rfl, hide (Below.refl _ _)⟩
  case round =>
    obtain ⟨k, hk, rfl, HB⟩ := hrel
    by_cases hlt : k < n
    · obtain ⟨b, o, t, rfl, hx, ht, x0, x1, x2, x3, x4, x5, x6, x7, x8, x9⟩ := (H.out.keep (Keeps.of_below HB.out)).trk (i := k) (by rw [Hn.out]; exact hlt)
      have Ht := hide ht
      have Hok := hide (Hk.out t (List.mem_of_getElem? hx))
      have hv := hide t.val_eq
      clear hx ht
      go_wp2_with (go_at_call 45; rw [← hv.out]; refine Stop.out ?_)
      refine Stop.go (badTrk_c t _ _ Ht.out Hok.out ?_)
      intro w2 hb
      have HB2 := hide (bseq HB.out hb)
      clear hb x0 x1 x2 x3 x4 x5 x6 x7 x8 x9
      go_wp2
      go_roundw
      case rel => exact ⟨k + 1, by omega, by go_num, HB2⟩
      case measure => simp [intOf]; omega
    · obtain rfl : k = n := by omega
      go_wp2
      exact HR.out _ HB.out
theorem wellFormed_c (p : Option Addr) (c n : Nat) (l : List Trk) (w : World) (R) (hn : l.length = n) (h : TrksAt w p l) (hk : TksOk (l.map Trk.tk)) (hR : ∀ w', Below w.heap.size w w' → R (.returned (.bool true)) w') : Calls Tryz.prog 19 #[.slice p n c] w R := by
  have hl : n ≤ 8 := by have := hk.1; simpa [hn] using this
  have HR := hide hR; have H := hide h; have Hn := hide hn
  have Hk := hide (show ∀ t ∈ l, TkOk t.tk from fun t ht => hk.2 _ (List.mem_map_of_mem ht))
  clear hR h hk hn
  have hl' : ¬ (60 : Int) < (n : Int) := by omega
  go_enter Tryz.func19, Tryz.ntmps19
  go_wp2_with (go_at_call 44; refine Stop.out ?_)
  refine Stop.go ?_
  go_enter Tryz.func44, Tryz.ntmps44
  go_wp2_with (go_at_call 84; refine Stop.out ?_)
  refine Stop.go (idxTrk_c p c n l _ _ Hn.out (by omega) H.out Hk.out ?_)
  intro w2 hb
  have HB := hide hb
  clear hb
  go_wp2
  exact HR.out _ HB.out
theorem scannersT_c (p : Option Addr) (c n : Nat) (l : List Scn) (w : World) (R) (hn : l.length = n) (h : ScnsAt w p l) (hk : ScnsOk l) (hR : ∀ w', Below w.heap.size w w' → R (.returned (.bool true)) w') : Calls Tryz.prog 18 #[.slice p n c] w R := by
  subst hn
  refine scanners_c p c l w R (by have := hk.1; omega) h fun w' hb => ?_
  rw [show scnsB l = true by unfold scnsB; rw [decide_eq_true hk.1, List.all_eq_true.2 hk.2]; rfl]
  exact hR w' hb
end Go.Proofs.YtkabghifdedmfaaGreatDoor
