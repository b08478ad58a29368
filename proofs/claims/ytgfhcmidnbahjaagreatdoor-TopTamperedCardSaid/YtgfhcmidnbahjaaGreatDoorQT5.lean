/- Survey: calendars, offices, lines and classes are right. Survey: offices, lines and classes are right. Survey: the names of a network's things, and whether they are right, as closures. -/
import Derived.Test.YtgfhcmidnbahjaaGreatDoorQT4
import Derived.StillTailTactics
set_option linter.unusedVariables false
set_option linter.unusedSimpArgs false
namespace Go.Proofs.YtgfhcmidnbahjaaGreatDoor
open Go.RowKit
theorem incr_spec : ∀ {l : List Int}, incr l = true ↔ ∀ i x y, l[i]? = some x → l[i + 1]? = some y → x < y
  | [] => by simp [incr]
  | [a] => by
    simp only [incr, Bool.and_true, true_iff]
    intro i x y h1 h2; simp at h2
  | a :: b :: l => by
    rw [incr, Bool.and_eq_true, incr_spec (l := b :: l)]
    simp only [decide_eq_true_eq]
    constructor
    · rintro ⟨h1, h2⟩ i x y hx hy
      cases i with
      | zero => simp at hx hy; omega
      | succ i => exact h2 i x y (by simpa using hx) (by simpa using hy)
    · intro h
      exact ⟨h 0 a b rfl rfl, fun i x y hx hy => h (i + 1) x y (by simpa using hx) (by simpa using hy)⟩
set_option maxRecDepth 100000 in
set_option maxHeartbeats 4000000 in
theorem valid_c (c : Cal) (w : World) (R) (hC : CalAt w c) (hR : ∀ w', Below w.heap.size w w' → R (.returned (.bool (calOk c))) w') : Calls Tryz.prog 227 #[.agg c.cells.toArray] w R := by
  have hwl := hC.wl; have hhl := hC.hl
  unfold maxLen at hwl hhl
  have hc1 : ∀ (i : Nat) (v : Value), c.cells[i]? = some v → (w.alloc (.cells c.cells.toArray 164)).cell? ⟨w.heap.size, i, none⟩ = some v := fun i v hv => cell_new.trans (by simpa using hv)
  have x0 := hc1 0 _ rfl; have x1 := hc1 1 _ rfl; have x2 := hc1 2 _ rfl
  have HB1 := hide (balloc (Below.refl w.heap.size w) (.cells c.cells.toArray 164))
  have HBk := hide (Blk.new w 164 c.cells.toArray)
  have HR := hide hR; have HC := hide hC
  have Hvl : Hid (c.cells.toArray = #[.int .i64 c.zone, .slice c.wp c.week.length c.wc, .slice c.hp c.hol.length c.hc]) := hide rfl
  clear hc1 hR hC
  obtain ⟨nw, hnw⟩ : ∃ nw, c.week.length = nw := ⟨_, rfl⟩
  obtain ⟨n, hn⟩ : ∃ n, c.hol.length = n := ⟨_, rfl⟩
  have Hn := hide hn
  have Hnw := hide hnw
  rw [Hvl.out] at x0 x1 x2 HB1 HBk ⊢
  rw [hnw] at x0 x1 x2 HB1 HBk hwl ⊢
  rw [hn] at x0 x1 x2 HB1 HBk hhl ⊢
  clear hn hnw
  obtain ⟨z, hz⟩ : ∃ z, c.zone = z := ⟨_, rfl⟩
  have Hz := hide hz
  rw [hz] at x0 x1 x2 HB1 HBk ⊢
  clear hz
  obtain ⟨w1, hw1⟩ : ∃ w1, w.alloc (.cells #[.int .i64 z, .slice c.wp nw c.wc, .slice c.hp n c.hc] 164) = w1 := ⟨_, rfl⟩
  have HW1 := hide hw1
  rw [hw1] at x0 x1 x2
  rw [HW1.out] at HB1 HBk
  clear HW1
  have fin : calOk c = false → Hid (R (.returned (.bool false)) w1) := fun e => hide (by rw [← e]; exact HR.out _ HB1.out)
  by_cases h1 : z < -720
  · have HF := fin (by unfold calOk; rw [Hz.out, decide_eq_false (show ¬ (-720 ≤ z) by omega)]; rfl)
    clear fin
    go_enter Tryz.func227, Tryz.ntmps227
    go_wp2
    exact HF.out
  by_cases h2 : 840 < z
  · have HF := fin (by unfold calOk; rw [Hz.out, decide_eq_false (show ¬ (z ≤ 840) by omega)]; simp)
    clear fin
    go_enter Tryz.func227, Tryz.ntmps227
    go_wp2
    exact HF.out
  by_cases h3 : ¬ nw = 7
  · have HF := fin (by unfold calOk; rw [Hnw.out, decide_eq_false (show ¬ (nw = 7) by omega)]; simp)
    clear fin
    have t1 : ((nw : Int) == 7) = false := by simp; omega
    have t2 : ((nw : Int) != 7) = true := by simp; omega
    clear h3
    go_enter Tryz.func227, Tryz.ntmps227
    go_wp2
    exact HF.out
  replace h3 : nw = 7 := by omega
  have t1 : ((nw : Int) == 7) = true := by simp; omega
  have t2 : ((nw : Int) != 7) = false := by simp; omega
  have Hn7 := hide h3
  clear h3
  by_cases h4 : (40 : Int) < (n : Int)
  · have HF := fin (by unfold calOk; rw [Hn.out, decide_eq_false (show ¬ (n ≤ 40) by omega)]; simp)
    clear fin
    go_enter Tryz.func227, Tryz.ntmps227
    go_wp2
    exact HF.out
  have Hok : Hid (calOk c = incr c.hol) := hide (by
    unfold calOk
    rw [Hz.out, Hnw.out, Hn.out, Hn7.out, decide_eq_true (show -720 ≤ z by omega), decide_eq_true (show z ≤ 840 by omega), decide_eq_true (show n ≤ 40 by omega)]; simp)
  have hn40 : n ≤ 40 := by omega
  clear fin
  have HH := hide (HC.out.hol.keep (Keeps.of_below HB1.out))
  go_enter Tryz.func227, Tryz.ntmps227
  go_wp2
  clear x0 x1 x2 hw1 t1 t2
  go_loopw [3] (fun si wr => ∃ j : Nat, (j = 0 ∨ j < n) ∧ si = .int .i64 ((j + 1 : Nat) : Int) ∧ Hid (∀ i x y, i < j → c.hol[i]? = some x → c.hol[i + 1]? = some y → x < y) ∧ Hid (Below w1.heap.size w1 wr)) (fun si _ => n - (intOf si).toNat)
  case atStart => exact ⟨0, .inl rfl, rfl, hide (fun i x y h => by omega), hide (Below.refl _ _)⟩
  case round =>
    obtain ⟨j, hj, rfl, HA, HB⟩ := hrel
    have x2 : wr.cell? ⟨w.heap.size, 2, none⟩ = some (.slice c.hp n c.hc) := (HBk.out.next HB.out).cell rfl
    by_cases hlt : j + 1 < n
    · obtain ⟨b, o, x, hp, hx, c0⟩ := (HH.out.keep (Keeps.of_below HB.out)).at_ (i := j) (by rw [Hn.out]; omega)
      obtain ⟨b', o', y, hp', hy, c1⟩ := (HH.out.keep (Keeps.of_below HB.out)).at_ (i := j + 1) (by rw [Hn.out]; omega)
      obtain ⟨rfl, rfl⟩ : b = b' ∧ o = o' := by rw [hp] at hp'; injection hp' with hp'; injection hp' with e1 e2; exact ⟨e1, e2⟩
      rw [hp] at x2
      have Hx := hide hx; have Hy := hide hy
      obtain ⟨k, hk⟩ : ∃ k, j + 1 = k := ⟨_, rfl⟩
      have Hk := hide hk
      rw [hk] at c1 hlt ⊢
      have hwz : IntKind.i64.wrap ((k : Int) - 1) = (j : Int) := by rw [IntWalk.i64_in _ (by omega)]; omega
      have q1 : (0 : Int) ≤ (k : Int) := by omega
      have q2 : (k : Int) < (n : Int) := by omega
      have q3 : (0 : Int) ≤ (j : Int) := by omega
      have q4 : (j : Int) < (n : Int) := by omega
      clear hx hy hp hp' hk hj
      by_cases hxy : y ≤ x
      · have e : calOk c = false := by
          rw [Hok.out]
          cases hi : incr c.hol with
          | false => rfl
          | true =>
            have := incr_spec.1 hi j x y Hx.out Hy.out
            omega
        have HF : Hid (∀ d, R (.returned (.bool false)) (wr.drewN d)) := hide (fun d => by rw [← e]; exact HR.out _ (below_drewN' (bseq HB1.out HB.out) d))
        clear e
        go_wp2
        go_quiet (fail)
        go_wp2
        exact HF.out _
      · have hxy' : x < y := by omega
        have HA' : Hid (∀ i x y, i < j + 1 → c.hol[i]? = some x → c.hol[i + 1]? = some y → x < y) := hide (fun i x' y' hi h1 h2 => by
          by_cases hij : i < j
          · exact HA.out i x' y' hij h1 h2
          · obtain rfl : i = j := by omega
            rw [Hx.out] at h1; rw [Hy.out] at h2
            injection h1 with h1; injection h2 with h2; omega)
        have HB' : Hid (∀ d, Below w1.heap.size w1 (wr.drewN d)) := hide (fun d => below_drewN' HB.out d)
        have hjk : j + 1 = k := Hk.out
        clear hxy
        go_wp2
        go_quiet (fail)
        go_wp2
        go_roundw
        case rel => exact ⟨j + 1, .inr (by omega), by rw [Hk.out]; go_num, HA', hide (HB'.out _)⟩
        case measure => simp [intOf]; omega
    · have hjI : ¬ ((j + 1 : Nat) : Int) < (n : Int) := by omega
      have e : calOk c = true := by
        rw [Hok.out, incr_spec]
        intro i x y h1 h2
        have h3 := (List.getElem?_eq_some_iff.1 h2).1
        rw [Hn.out] at h3
        exact HA.out i x y (by omega) h1 h2
      have HF : Hid (R (.returned (.bool true)) wr) := hide (by rw [← e]; exact HR.out _ (bseq HB1.out HB.out))
      clear e hj hlt
      generalize ((j + 1 : Nat) : Int) = jj at *
      go_wp2
      exact HF.out
end Go.Proofs.YtgfhcmidnbahjaaGreatDoor
namespace Go.Proofs.YtgfhcmidnbahjaaGreatDoor
open Go.RowKit
set_option maxRecDepth 100000 in
set_option maxHeartbeats 2000000 in
theorem goodCls_c (c : Cls) (w : World) (R) (hR : ∀ w', Below w.heap.size w w' → R (.returned (.bool (clsOk c))) w') : Calls Tryz.prog 241 #[.agg c.cells.toArray] w R := by
  have HR := hide (hR _ (balloc (Below.refl _ _) (.cells c.cells.toArray 168)))
  clear hR
  unfold Cls.cells at HR ⊢
  cases h1 : fromB c.cut 0 1439
  · have e : clsOk c = false := by unfold clsOk; rw [h1]; rfl
    rw [e] at HR
    clear e
    go_enter Tryz.func241, Tryz.ntmps241
    go_wp2_with (go_at_call 242; refine Stop.out ?_)
    refine Stop.go (isMinute_c _ _ _ ?_)
    rw [h1]
    go_wp2
    exact HR.out
  · have e : clsOk c = fromB c.deliver 0 1439 := by unfold clsOk; rw [h1]; rfl
    rw [e] at HR
    clear e
    go_enter Tryz.func241, Tryz.ntmps241
    go_wp2_with (go_at_call 242; refine Stop.out ?_)
    refine Stop.go (isMinute_c _ _ _ ?_)
    rw [h1]
    go_wp2_with (go_at_call 242; refine Stop.out ?_)
    refine Stop.go (isMinute_c _ _ _ ?_)
    go_wp2
    exact HR.out
set_option maxRecDepth 100000 in
set_option maxHeartbeats 4000000 in
theorem goodLin_c (N : Net) (l : Lin) (w : World) (R) (hm : N.offs.length ≤ maxLen) (hR : ∀ w', Below w.heap.size w w' → R (.returned (.bool (linOk N l))) w') : Calls Tryz.prog 238 #[.agg N.cells, .agg l.cells.toArray] w R := by
  have HR := hide (hR _ (balloc (balloc (Below.refl _ _) (.cells N.cells 29)) (.cells l.cells.toArray 55)))
  have Hm := hide hm
  clear hR hm
  unfold Net.cells Lin.cells at HR ⊢
  have Hl : Hid (linOk N l = (indexB l.src N.offs.length && indexB l.dst N.offs.length && !decide (l.src = l.dst) && fromB l.at_ 0 1439 && fromB l.travel 1 5000 && fromB l.load 1 40)) := hide rfl
  rw [Hl.out] at HR
  cases h1 : indexB l.src N.offs.length
  · rw [h1] at HR
    simp only [Bool.false_and] at HR
    go_enter Tryz.func238, Tryz.ntmps238
    go_wp2_with (go_at_call 299; refine Stop.out ?_)
    refine Stop.go (isIndexOff_c _ _ _ _ _ _ Hm.out ?_)
    rw [h1]
    go_wp2
    exact HR.out
  rw [h1] at HR
  cases h2 : indexB l.dst N.offs.length
  · rw [h2] at HR
    simp only [Bool.true_and, Bool.false_and] at HR
    go_enter Tryz.func238, Tryz.ntmps238
    go_wp2_with (go_at_call 299; refine Stop.out ?_)
    refine Stop.go (isIndexOff_c _ _ _ _ _ _ Hm.out ?_)
    rw [h1]
    go_wp2_with (go_at_call 299; refine Stop.out ?_)
    refine Stop.go (isIndexOff_c _ _ _ _ _ _ Hm.out ?_)
    rw [h2]
    go_wp2
    exact HR.out
  rw [h2] at HR
  by_cases h3 : l.src = l.dst
  · rw [show (!decide (l.src = l.dst)) = false by simp [h3]] at HR
    simp only [Bool.true_and, Bool.false_and] at HR
    have t3 : (l.src == l.dst) = true := by simp [h3]
    clear h3
    go_enter Tryz.func238, Tryz.ntmps238
    go_wp2_with (go_at_call 299; refine Stop.out ?_)
    refine Stop.go (isIndexOff_c _ _ _ _ _ _ Hm.out ?_)
    rw [h1]
    go_wp2_with (go_at_call 299; refine Stop.out ?_)
    refine Stop.go (isIndexOff_c _ _ _ _ _ _ Hm.out ?_)
    rw [h2]
    go_wp2
    exact HR.out
  rw [show (!decide (l.src = l.dst)) = true by simp [h3]] at HR
  simp only [Bool.true_and] at HR
  have t3 : (l.src == l.dst) = false := by simp [h3]
  clear h3
  cases h4 : fromB l.at_ 0 1439
  · rw [h4] at HR
    simp only [Bool.false_and] at HR
    go_enter Tryz.func238, Tryz.ntmps238
    go_wp2_with (go_at_call 299; refine Stop.out ?_)
    refine Stop.go (isIndexOff_c _ _ _ _ _ _ Hm.out ?_)
    rw [h1]
    go_wp2_with (go_at_call 299; refine Stop.out ?_)
    refine Stop.go (isIndexOff_c _ _ _ _ _ _ Hm.out ?_)
    rw [h2]
    go_wp2_with (go_at_call 242; refine Stop.out ?_)
    refine Stop.go (isMinute_c _ _ _ ?_)
    rw [h4]
    go_wp2
    exact HR.out
  rw [h4] at HR
  simp only [Bool.true_and] at HR
  cases h5 : fromB l.travel 1 5000
  · rw [h5] at HR
    simp only [Bool.false_and] at HR
    go_enter Tryz.func238, Tryz.ntmps238
    go_wp2_with (go_at_call 299; refine Stop.out ?_)
    refine Stop.go (isIndexOff_c _ _ _ _ _ _ Hm.out ?_)
    rw [h1]
    go_wp2_with (go_at_call 299; refine Stop.out ?_)
    refine Stop.go (isIndexOff_c _ _ _ _ _ _ Hm.out ?_)
    rw [h2]
    go_wp2_with (go_at_call 242; refine Stop.out ?_)
    refine Stop.go (isMinute_c _ _ _ ?_)
    rw [h4]
    go_wp2_with (go_at_call 295; refine Stop.out ?_)
    refine Stop.go (isFrom_c _ _ _ _ _ ?_)
    rw [h5]
    go_wp2
    exact HR.out
  rw [h5] at HR
  simp only [Bool.true_and] at HR
  go_enter Tryz.func238, Tryz.ntmps238
  go_wp2_with (go_at_call 299; refine Stop.out ?_)
  refine Stop.go (isIndexOff_c _ _ _ _ _ _ Hm.out ?_)
  rw [h1]
  go_wp2_with (go_at_call 299; refine Stop.out ?_)
  refine Stop.go (isIndexOff_c _ _ _ _ _ _ Hm.out ?_)
  rw [h2]
  go_wp2_with (go_at_call 242; refine Stop.out ?_)
  refine Stop.go (isMinute_c _ _ _ ?_)
  rw [h4]
  go_wp2_with (go_at_call 295; refine Stop.out ?_)
  refine Stop.go (isFrom_c _ _ _ _ _ ?_)
  rw [h5]
  go_wp2_with (go_at_call 295; refine Stop.out ?_)
  refine Stop.go (isFrom_c _ _ _ _ _ ?_)
  go_wp2
  exact HR.out
set_option maxRecDepth 100000 in
set_option maxHeartbeats 4000000 in
theorem goodOff_c (N : Net) (o : Off) (w : World) (R) (hm : N.oprs.length ≤ maxLen ∧ N.cals.length ≤ maxLen) (ho : OffAt w o) (hR : ∀ w', Below w.heap.size w w' → R (.returned (.bool (offOk N o))) w') : Calls Tryz.prog 234 #[.agg N.cells, .agg o.cells.toArray] w R := by
  have Hm := hide hm
  obtain ⟨w1, hw1⟩ : ∃ w1, (w.alloc (.cells N.cells 29)).alloc (.cells o.cells.toArray 65) = w1 := ⟨_, rfl⟩
  have hb1 : Below w.heap.size w w1 := hw1 ▸ balloc (balloc (Below.refl _ _) _) _
  have HB1 := hide hb1
  have HBk : Hid (Blk w1 (w.heap.size + 1) o.cells.toArray 65) := hide (hw1 ▸ Blk.new_at (by simp))
  have HO := hide (ho.keep (Keeps.of_below hb1))
  have HR := hide hR
  have hcl : o.codes.length ≤ maxLen := ho.codes.2.2
  unfold maxLen at hcl
  clear hR ho hb1 hm
  obtain ⟨n, hn⟩ : ∃ n, o.codes.length = n := ⟨_, rfl⟩
  have Hn := hide hn
  unfold Net.cells Off.cells at hw1 ⊢
  unfold Off.cells at HBk
  rw [hn] at hw1 HBk hcl ⊢
  have Hl : Hid (offOk N o = (indexB o.operator N.oprs.length && indexB o.calendar N.cals.length && decide (n ≤ 20) && o.codes.all codeB && fromB o.pockets 2 64 && fromB o.passes 1 4 && fromB o.minutes 1 240)) := hide (by rw [← hn]; rfl)
  clear hn
  have fin : offOk N o = false → Hid (R (.returned (.bool false)) w1) := fun e => hide (by rw [← e]; exact HR.out _ HB1.out)
  cases h1 : indexB o.operator N.oprs.length
  · have HF := fin (by rw [Hl.out, h1]; rfl)
    clear fin
    rw [← hw1] at HF
    clear hw1
    go_enter Tryz.func234, Tryz.ntmps234
    go_wp2_with (go_at_call 292; refine Stop.out ?_)
    refine Stop.go (isIndexOpr_c _ _ _ _ _ _ Hm.out.1 ?_)
    rw [h1]
    go_wp2
    exact HF.out
  cases h2 : indexB o.calendar N.cals.length
  · have HF := fin (by rw [Hl.out, h1, h2]; rfl)
    clear fin
    rw [← hw1] at HF
    clear hw1
    go_enter Tryz.func234, Tryz.ntmps234
    go_wp2_with (go_at_call 292; refine Stop.out ?_)
    refine Stop.go (isIndexOpr_c _ _ _ _ _ _ Hm.out.1 ?_)
    rw [h1]
    go_wp2_with (go_at_call 293; refine Stop.out ?_)
    refine Stop.go (isIndexCal_c _ _ _ _ _ _ Hm.out.2 ?_)
    rw [h2]
    go_wp2
    exact HF.out
  by_cases h3 : (20 : Int) < (n : Int)
  · have HF := fin (by rw [Hl.out, h1, h2, decide_eq_false (show ¬ (n ≤ 20) by omega)]; rfl)
    clear fin
    rw [← hw1] at HF
    clear hw1
    go_enter Tryz.func234, Tryz.ntmps234
    go_wp2_with (go_at_call 292; refine Stop.out ?_)
    refine Stop.go (isIndexOpr_c _ _ _ _ _ _ Hm.out.1 ?_)
    rw [h1]
    go_wp2_with (go_at_call 293; refine Stop.out ?_)
    refine Stop.go (isIndexCal_c _ _ _ _ _ _ Hm.out.2 ?_)
    rw [h2]
    go_wp2
    exact HF.out
  have hn20 : n ≤ 20 := by omega
  have Hl2 : Hid (offOk N o = (o.codes.all codeB && fromB o.pockets 2 64 && fromB o.passes 1 4 && fromB o.minutes 1 240)) := hide (by rw [Hl.out, h1, h2, decide_eq_true (show n ≤ 20 by omega)]; simp)
  clear fin Hl
  have x6 := HBk.out.cell (k := 6) rfl
  have HW1 := hide hw1
  clear hw1
  go_enter Tryz.func234, Tryz.ntmps234
  go_wp2_with (go_at_call 292; refine Stop.out ?_)
  refine Stop.go (isIndexOpr_c _ _ _ _ _ _ Hm.out.1 ?_)
  rw [h1]
  go_wp2_with (go_at_call 293; refine Stop.out ?_)
  refine Stop.go (isIndexCal_c _ _ _ _ _ _ Hm.out.2 ?_)
  rw [h2]
  go_wp2
  clear x6
  rw [HW1.out]
  go_loopw [30] (fun si wr => ∃ i : Nat, i ≤ n ∧ si = .int .i64 i ∧ Hid (∀ s ∈ o.codes.take i, codeB s = true) ∧ Hid (Below w1.heap.size w1 wr)) (fun si _ => n - (intOf si).toNat)
  case atStart => exact ⟨0, Nat.zero_le _, rfl, hide (by simp), hide (Below.refl _ _)⟩
  case round =>
    obtain ⟨i, hi, rfl, HA, HB⟩ := hrel
    by_cases hlt : i < n
    · obtain ⟨b, oo, s, hp, hs, c0, hsm⟩ := (HO.out.codes.keep (Keeps.of_below HB.out)).at_ (i := i) (by rw [Hn.out]; exact hlt)
      rw [hp]
      have Hs := hide hs; have Hsm := hide hsm
      clear hs hp hsm
      cases hcd : codeB s
      · have e : offOk N o = false := by
          have : o.codes.all codeB = false := by rw [List.all_eq_false]; exact ⟨s, List.mem_of_getElem? Hs.out, by rw [hcd]; simp⟩
          rw [Hl2.out, this]; rfl
        go_wp2_with (go_at_call 294; refine Stop.out ?_)
        refine Stop.go (isCode_c s _ _ Hsm.out ?_)
        rw [hcd]
        intro w2 hb2
        have HF := hide (HR.out _ (bseq (bseq HB1.out HB.out) hb2))
        rw [e] at HF
        clear e hb2
        go_wp2
        exact HF.out
      · have HA' : Hid (∀ s ∈ o.codes.take (i + 1), codeB s = true) := hide (fun x hx => by
          rw [List.take_add_one, Hs.out] at hx
          rcases List.mem_append.1 hx with hx | hx
          · exact HA.out x hx
          · simp at hx; subst hx; exact hcd)
        go_wp2_with (go_at_call 294; refine Stop.out ?_)
        refine Stop.go (isCode_c s _ _ Hsm.out ?_)
        rw [hcd]
        intro w2 hb2
        have HB2 := hide (bseq HB.out hb2)
        clear hb2
        go_wp2
        go_roundw
        case rel => exact ⟨i + 1, by omega, by go_num, HA', HB2⟩
        case measure => simp [intOf]; omega
    · have hiI : ¬ (i : Int) < (n : Int) := by omega
      have hall : o.codes.all codeB = true := by
        rw [List.all_eq_true]
        intro x hx
        exact HA.out x (by rw [List.take_of_length_le (by rw [Hn.out]; omega)]; exact hx)
      have HF := hide (HR.out _ (bseq HB1.out HB.out))
      rw [Hl2.out, hall] at HF
      simp only [Bool.true_and] at HF
      have k2 := HBk.out.next HB.out
      have x3 := k2.cell (k := 3) rfl; have x4 := k2.cell (k := 4) rfl; have x5 := k2.cell (k := 5) rfl
      clear hall k2 hi hlt
      cases h4 : fromB o.pockets 2 64
      · rw [h4] at HF
        simp only [Bool.false_and] at HF
        go_wp2_with (go_at_call 295; refine Stop.out ?_)
        refine Stop.go (isFrom_c _ _ _ _ _ ?_)
        rw [h4]
        go_wp2
        exact HF.out
      rw [h4] at HF
      simp only [Bool.true_and] at HF
      cases h5 : fromB o.passes 1 4
      · rw [h5] at HF
        simp only [Bool.false_and] at HF
        go_wp2_with (go_at_call 295; refine Stop.out ?_)
        refine Stop.go (isFrom_c _ _ _ _ _ ?_)
        rw [h4]
        go_wp2_with (go_at_call 295; refine Stop.out ?_)
        refine Stop.go (isFrom_c _ _ _ _ _ ?_)
        rw [h5]
        go_wp2
        exact HF.out
      rw [h5] at HF
      simp only [Bool.true_and] at HF
      go_wp2_with (go_at_call 295; refine Stop.out ?_)
      refine Stop.go (isFrom_c _ _ _ _ _ ?_)
      rw [h4]
      go_wp2_with (go_at_call 295; refine Stop.out ?_)
      refine Stop.go (isFrom_c _ _ _ _ _ ?_)
      rw [h5]
      go_wp2_with (go_at_call 295; refine Stop.out ?_)
      refine Stop.go (isFrom_c _ _ _ _ _ ?_)
      go_wp2
      exact HF.out
end Go.Proofs.YtgfhcmidnbahjaaGreatDoor
namespace Go.Proofs.YtgfhcmidnbahjaaGreatDoor
open Go.RowKit
theorem NetAt.lens {w : World} {N : Net} (h : NetAt w N) : N.cals.length ≤ 9223372036854775807 ∧ N.names.length ≤ 9223372036854775807 ∧ N.oprs.length ≤ 9223372036854775807 ∧ N.offs.length ≤ 9223372036854775807 ∧ N.lins.length ≤ 9223372036854775807 ∧ N.clss.length ≤ 9223372036854775807 := by
  have h1 := h.len; have h2 := h.names.2.2; have h3 := h.oprs.2.2
  unfold maxLen at h1 h2 h3
  omega
set_option maxRecDepth 100000 in
theorem nmCal_c (N : Net) (gn i : Nat) (w : World) (R) (hB : Blk w gn N.cells 29) (hN : NetAt w N) (hi : i < N.cals.length) (hR : R (.returned (.string (calNm N i))) w) : Calls Tryz.prog 225 #[.int .i64 (i : Int), .pointer (some ⟨gn, 0, none⟩)] w R := by
  have hl := hN.lens
  have b1 := hB.cell (k := 1) (v := .slice N.np N.names.length N.nc) rfl
  by_cases hlt : i < N.names.length
  · obtain ⟨b, o, s, hp, hs, c0, _⟩ := hN.names.at_ hlt
    rw [show calNm N i = s from getD_some hs] at hR
    rw [hp] at b1
    have HR := hide hR
    obtain ⟨n, hn⟩ : ∃ n, N.names.length = n := ⟨_, rfl⟩
    rw [hn] at b1 hlt hl
    clear hR hB hN hs hp hn
    go_enter Tryz.func225, Tryz.ntmps225
    go_wp2
    exact HR.out
  · rw [show calNm N i = ⟨#[]⟩ from by unfold calNm; rw [List.getD_eq_getElem?_getD, List.getElem?_eq_none (by omega)]; rfl] at hR
    have HR := hide hR
    obtain ⟨n, hn⟩ : ∃ n, N.names.length = n := ⟨_, rfl⟩
    rw [hn] at b1 hlt hl
    have hge : ¬ (i : Int) < (n : Int) := by omega
    clear hR hB hN hn
    go_enter Tryz.func225, Tryz.ntmps225
    go_wp2
    exact HR.out
theorem szCal {w : World} {N : Net} (hN : NetAt w N) {i : Nat} (hi : i < N.cals.length) : (calNm N i).size ≤ maxLen := by
  unfold calNm
  rw [List.getD_eq_getElem?_getD]
  cases h : N.names[i]? with
  | none => show (0 : Nat) ≤ maxLen; decide
  | some s => exact hN.names.2.1 s (List.mem_of_getElem? h)
theorem nmCal_q (N : Net) (gn i : Nat) (w : World) (hB : Blk w gn N.cells 29) (hN : NetAt w N) (hi : i < N.cals.length) : Calls Tryz.prog 225 #[.int .i64 (i : Int), .pointer (some ⟨gn, 0, none⟩)] w fun e w' => e = .returned (.string (calNm N i)) ∧ Dr w w' :=
  nmCal_c N gn i w _ hB hN hi ⟨rfl, 0, rfl⟩
set_option maxRecDepth 100000 in
theorem nmOpr_c (N : Net) (gn i : Nat) (w : World) (R) (hB : Blk w gn N.cells 29) (hN : NetAt w N) (hi : i < N.oprs.length) (hR : R (.returned (.string (oprNm N i))) w) : Calls Tryz.prog 228 #[.int .i64 (i : Int), .pointer (some ⟨gn, 0, none⟩)] w R := by
  have hl := hN.lens
  have b1 := hB.cell (k := 2) (v := .slice N.op N.oprs.length N.oc) rfl
  obtain ⟨b, o, s, hp, hs, c0, _⟩ := hN.oprs.at_ hi
  rw [show oprNm N i = s from getD_some hs] at hR
  rw [hp] at b1
  have HR := hide hR
  obtain ⟨n, hn⟩ : ∃ n, N.oprs.length = n := ⟨_, rfl⟩
  rw [hn] at b1 hi hl
  clear hR hB hN hs hp hn
  go_enter Tryz.func228, Tryz.ntmps228
  go_wp2
  exact HR.out
theorem szOpr {w : World} {N : Net} (hN : NetAt w N) {i : Nat} (hi : i < N.oprs.length) : (oprNm N i).size ≤ maxLen := by
  unfold oprNm
  rw [List.getD_eq_getElem?_getD]
  cases h : N.oprs[i]? with
  | none => show (0 : Nat) ≤ maxLen; decide
  | some s => exact hN.oprs.2.1 s (List.mem_of_getElem? h)
theorem nmOpr_q (N : Net) (gn i : Nat) (w : World) (hB : Blk w gn N.cells 29) (hN : NetAt w N) (hi : i < N.oprs.length) : Calls Tryz.prog 228 #[.int .i64 (i : Int), .pointer (some ⟨gn, 0, none⟩)] w fun e w' => e = .returned (.string (oprNm N i)) ∧ Dr w w' :=
  nmOpr_c N gn i w _ hB hN hi ⟨rfl, 0, rfl⟩
set_option maxRecDepth 100000 in
theorem nmOff_c (N : Net) (gn i : Nat) (w : World) (R) (hB : Blk w gn N.cells 29) (hN : NetAt w N) (hi : i < N.offs.length) (hR : R (.returned (.string (offNm N i))) w) : Calls Tryz.prog 231 #[.int .i64 (i : Int), .pointer (some ⟨gn, 0, none⟩)] w R := by
  have hl := hN.lens
  have b1 := hB.cell (k := 3) (v := .slice N.fp N.offs.length N.fc) rfl
  obtain ⟨b, o, x, hp, hx, _, c0, _⟩ := hN.off_ hi
  rw [show offNm N i = x.name from by unfold offNm; rw [getD_some hx]] at hR
  rw [hp] at b1
  have HR := hide hR
  obtain ⟨n, hn⟩ : ∃ n, N.offs.length = n := ⟨_, rfl⟩
  rw [hn] at b1 hi hl
  clear hR hB hN hx hp hn
  go_enter Tryz.func231, Tryz.ntmps231
  go_wp2
  exact HR.out
theorem szOff {w : World} {N : Net} (hN : NetAt w N) {i : Nat} (hi : i < N.offs.length) : (offNm N i).size ≤ maxLen := by
  unfold offNm
  have hx : N.offs[i]? = some N.offs[i] := List.getElem?_eq_getElem hi
  rw [getD_some hx]
  exact (hN.off _ (List.mem_of_getElem? hx)).name
theorem nmOff_q (N : Net) (gn i : Nat) (w : World) (hB : Blk w gn N.cells 29) (hN : NetAt w N) (hi : i < N.offs.length) : Calls Tryz.prog 231 #[.int .i64 (i : Int), .pointer (some ⟨gn, 0, none⟩)] w fun e w' => e = .returned (.string (offNm N i)) ∧ Dr w w' :=
  nmOff_c N gn i w _ hB hN hi ⟨rfl, 0, rfl⟩
set_option maxRecDepth 100000 in
theorem nmLin_c (N : Net) (gn i : Nat) (w : World) (R) (hB : Blk w gn N.cells 29) (hN : NetAt w N) (hi : i < N.lins.length) (hR : R (.returned (.string (linNm N i))) w) : Calls Tryz.prog 235 #[.int .i64 (i : Int), .pointer (some ⟨gn, 0, none⟩)] w R := by
  have hl := hN.lens
  have b1 := hB.cell (k := 4) (v := .slice N.lp N.lins.length N.lc) rfl
  obtain ⟨b, o, x, hp, hx, _, c0, _⟩ := hN.lin_ hi
  rw [show linNm N i = x.name from by unfold linNm; rw [getD_some hx]] at hR
  rw [hp] at b1
  have HR := hide hR
  obtain ⟨n, hn⟩ : ∃ n, N.lins.length = n := ⟨_, rfl⟩
  rw [hn] at b1 hi hl
  clear hR hB hN hx hp hn
  go_enter Tryz.func235, Tryz.ntmps235
  go_wp2
  exact HR.out
theorem szLin {w : World} {N : Net} (hN : NetAt w N) {i : Nat} (hi : i < N.lins.length) : (linNm N i).size ≤ maxLen := by
  unfold linNm
  have hx : N.lins[i]? = some N.lins[i] := List.getElem?_eq_getElem hi
  rw [getD_some hx]
  exact (hN.lin _ (List.mem_of_getElem? hx)).1
theorem nmLin_q (N : Net) (gn i : Nat) (w : World) (hB : Blk w gn N.cells 29) (hN : NetAt w N) (hi : i < N.lins.length) : Calls Tryz.prog 235 #[.int .i64 (i : Int), .pointer (some ⟨gn, 0, none⟩)] w fun e w' => e = .returned (.string (linNm N i)) ∧ Dr w w' :=
  nmLin_c N gn i w _ hB hN hi ⟨rfl, 0, rfl⟩
set_option maxRecDepth 100000 in
theorem nmCls_c (N : Net) (gn i : Nat) (w : World) (R) (hB : Blk w gn N.cells 29) (hN : NetAt w N) (hi : i < N.clss.length) (hR : R (.returned (.string (clsNm N i))) w) : Calls Tryz.prog 239 #[.int .i64 (i : Int), .pointer (some ⟨gn, 0, none⟩)] w R := by
  have hl := hN.lens
  have b1 := hB.cell (k := 5) (v := .slice N.kp N.clss.length N.kc) rfl
  obtain ⟨b, o, x, hp, hx, _, c0, _⟩ := hN.cls_ hi
  rw [show clsNm N i = x.name from by unfold clsNm; rw [getD_some hx]] at hR
  rw [hp] at b1
  have HR := hide hR
  obtain ⟨n, hn⟩ : ∃ n, N.clss.length = n := ⟨_, rfl⟩
  rw [hn] at b1 hi hl
  clear hR hB hN hx hp hn
  go_enter Tryz.func239, Tryz.ntmps239
  go_wp2
  exact HR.out
theorem szCls {w : World} {N : Net} (hN : NetAt w N) {i : Nat} (hi : i < N.clss.length) : (clsNm N i).size ≤ maxLen := by
  unfold clsNm
  have hx : N.clss[i]? = some N.clss[i] := List.getElem?_eq_getElem hi
  rw [getD_some hx]
  exact (hN.cls _ (List.mem_of_getElem? hx)).1
theorem nmCls_q (N : Net) (gn i : Nat) (w : World) (hB : Blk w gn N.cells 29) (hN : NetAt w N) (hi : i < N.clss.length) : Calls Tryz.prog 239 #[.int .i64 (i : Int), .pointer (some ⟨gn, 0, none⟩)] w fun e w' => e = .returned (.string (clsNm N i)) ∧ Dr w w' :=
  nmCls_c N gn i w _ hB hN hi ⟨rfl, 0, rfl⟩
theorem gdOpr_c (s : ByteArray) (w : World) (R) (hR : ∀ w', Below w.heap.size w w' → R (.returned (.bool true)) w') : Calls Tryz.prog 230 #[.agg #[.string s]] w R := by
  have HR := hide (hR _ (balloc (Below.refl _ _) (.cells #[.string s] 166)))
  clear hR
  go_enter Tryz.func230, Tryz.ntmps230
  go_wp2
  exact HR.out
set_option maxRecDepth 100000 in
set_option maxHeartbeats 2000000 in
theorem gdOff_c (N : Net) (gn : Nat) (x : Off) (w : World) (R) (hB : Blk w gn N.cells 29) (hN : NetAt w N) (ho : OffAt w x) (hR : ∀ w', Below w.heap.size w w' → R (.returned (.bool (offOk N x))) w') : Calls Tryz.prog 233 #[.agg x.cells.toArray, .pointer (some ⟨gn, 0, none⟩)] w R := by
  have HR := hide hR
  obtain ⟨w1, hw1⟩ : ∃ w1, w.alloc (.cells x.cells.toArray 65) = w1 := ⟨_, rfl⟩
  have hb1 : Below w.heap.size w w1 := hw1 ▸ balloc (Below.refl _ _) _
  have HB1 := hide hb1
  have HK : Blk w1 w.heap.size x.cells.toArray 65 := hw1 ▸ Blk.new _ _ _
  have HBN := hB.next hb1
  have Hc := hide (And.intro (show N.oprs.length ≤ maxLen ∧ N.cals.length ≤ maxLen from ⟨hN.oprs.2.2, hN.len.1⟩) (ho.keep (Keeps.of_below hb1)))
  have y0 := HK.cell (k := 0) (v := .string x.name) rfl; have y1 := HK.cell (k := 1) (v := .int .i64 x.operator) rfl; have y2 := HK.cell (k := 2) (v := .int .i64 x.calendar) rfl; have y3 := HK.cell (k := 3) (v := .int .i64 x.pockets) rfl; have y4 := HK.cell (k := 4) (v := .int .i64 x.passes) rfl; have y5 := HK.cell (k := 5) (v := .int .i64 x.minutes) rfl; have y6 := HK.cell (k := 6) (v := .slice x.cp x.codes.length x.cc) rfl
  have z0 := HBN.cell (k := 0) (v := .slice N.cp N.cals.length N.cc) rfl; have z1 := HBN.cell (k := 1) (v := .slice N.np N.names.length N.nc) rfl; have z2 := HBN.cell (k := 2) (v := .slice N.op N.oprs.length N.oc) rfl; have z3 := HBN.cell (k := 3) (v := .slice N.fp N.offs.length N.fc) rfl; have z4 := HBN.cell (k := 4) (v := .slice N.lp N.lins.length N.lc) rfl; have z5 := HBN.cell (k := 5) (v := .slice N.kp N.clss.length N.kc) rfl
  unfold Off.cells at hw1 ⊢
  clear hR hb1 hB hN HK HBN ho
  go_enter Tryz.func233, Tryz.ntmps233
  go_wp2_with (go_at_call 234; refine Stop.out ?_)
  refine Stop.go (goodOff_c N x _ _ Hc.out.1 Hc.out.2 ?_)
  intro w2 hb2
  have HF := hide (HR.out _ (bseq HB1.out hb2))
  clear hb2
  go_wp2
  exact HF.out
set_option maxRecDepth 100000 in
set_option maxHeartbeats 2000000 in
theorem gdLin_c (N : Net) (gn : Nat) (x : Lin) (w : World) (R) (hB : Blk w gn N.cells 29) (hN : NetAt w N) (hR : ∀ w', Below w.heap.size w w' → R (.returned (.bool (linOk N x))) w') : Calls Tryz.prog 237 #[.agg x.cells.toArray, .pointer (some ⟨gn, 0, none⟩)] w R := by
  have HR := hide hR
  obtain ⟨w1, hw1⟩ : ∃ w1, w.alloc (.cells x.cells.toArray 55) = w1 := ⟨_, rfl⟩
  have hb1 : Below w.heap.size w w1 := hw1 ▸ balloc (Below.refl _ _) _
  have HB1 := hide hb1
  have HK : Blk w1 w.heap.size x.cells.toArray 55 := hw1 ▸ Blk.new _ _ _
  have HBN := hB.next hb1
  have Hc := hide (show N.offs.length ≤ maxLen from hN.len.2.1)
  have y0 := HK.cell (k := 0) (v := .string x.name) rfl; have y1 := HK.cell (k := 1) (v := .int .i64 x.src) rfl; have y2 := HK.cell (k := 2) (v := .int .i64 x.dst) rfl; have y3 := HK.cell (k := 3) (v := .int .i64 x.at_) rfl; have y4 := HK.cell (k := 4) (v := .int .i64 x.travel) rfl; have y5 := HK.cell (k := 5) (v := .int .i64 x.load) rfl
  have z0 := HBN.cell (k := 0) (v := .slice N.cp N.cals.length N.cc) rfl; have z1 := HBN.cell (k := 1) (v := .slice N.np N.names.length N.nc) rfl; have z2 := HBN.cell (k := 2) (v := .slice N.op N.oprs.length N.oc) rfl; have z3 := HBN.cell (k := 3) (v := .slice N.fp N.offs.length N.fc) rfl; have z4 := HBN.cell (k := 4) (v := .slice N.lp N.lins.length N.lc) rfl; have z5 := HBN.cell (k := 5) (v := .slice N.kp N.clss.length N.kc) rfl
  unfold Lin.cells at hw1 ⊢
  clear hR hb1 hB hN HK HBN
  go_enter Tryz.func237, Tryz.ntmps237
  go_wp2_with (go_at_call 238; refine Stop.out ?_)
  refine Stop.go (goodLin_c N x _ _ Hc.out ?_)
  intro w2 hb2
  have HF := hide (HR.out _ (bseq HB1.out hb2))
  clear hb2
  go_wp2
  exact HF.out
end Go.Proofs.YtgfhcmidnbahjaaGreatDoor
