import Derived.Test.YtkbdkkllfaljlaaR3
import Derived.Test.YtkbdkkllfaljlaaR4
import Derived.Test.YtkbdkkllfaljlaaL8b
import Derived.Test.YtkbdkkllfaljlaaL6p
set_option linter.unusedVariables false
set_option linter.unusedSimpArgs false
namespace Go.Proofs.Ytkbdkkllfaljlaa
open Go.RowKit Go.Sort

/-! ### the reference: the cost -/
theorem distV_small {a b : ByteArray} (ha : a.size ≤ 200) (hb : b.size ≤ 200) : distV a b = (bdist a b : Int) := by unfold distV; rw [if_neg (by omega)]
theorem rfolded_c (a b : ByteArray) (w : World) (R) (ha : a.size ≤ 60) (hb : b.size ≤ 60) (hR : ∀ w', Below w.heap.size w w' → R (.returned (.int .i64 (bdist (foldB a) (foldB b) : Int))) w') : Calls Try.prog 46 #[.string a, .string b] w R := by
  have HR := hide hR; clear hR
  have h1 : ¬ (200 : Int) < (a.size : Int) := by omega
  have h2 : ¬ (200 : Int) < (b.size : Int) := by omega
  have hd := hide (distV_small (Nat.le_trans (foldB_size a) (by omega)) (Nat.le_trans (foldB_size b) (by omega)))
  go_enter Try.func46, Try.ntmps46
  go_wp2_with (go_at_call_of 17 (Value.string a); refine Stop.out ?_)
  refine Stop.go (rfold_c a _ _ (by omega) ?_)
  intro w1 hb1
  have B1 := hide hb1; clear hb1
  go_wp2_with (go_at_call 17; refine Stop.out ?_)
  refine Stop.go (rfold_c b _ _ (by omega) ?_)
  intro w2 hb2
  have B2 := hide (bseq B1.out hb2); clear hb2
  go_wp2_with (go_at_call 15; refine Stop.out ?_)
  refine Stop.go (rdist_c (foldB a) (foldB b) _ _ ?_)
  rw [hd.out]
  intro w3 hb3
  have B3 := hide (bseq B2.out hb3); clear hb3
  go_wp2_with fail
  exact HR.out _ B3.out
def bestL (s : Sv) (a : Av) (k : Nat) : Int := leastL (bdist (foldB a.street) (foldB s.name)) ((s.al.take k).map fun x => (bdist (foldB a.street) (foldB x) : Int))
def codeN (s : Sv) (a : Av) : Int := if a.code.toList.isEmpty then 0 else (bdist a.code s.code : Int)
def townN (s : Sv) (a : Av) : Int := if a.town.toList.isEmpty then 0 else (bdist (foldB a.town) (foldB s.town) : Int)
def costN (s : Sv) (a : Av) : Int := bestL s a s.al.length + codeN s a + townN s a
theorem costP_small {s : Sv} {a : Av} (hs : okS s = true) (ha : shortA a = true) : costP s a = some (costN s a) := by
  obtain ⟨h1, h2, h3, h4, h5⟩ := (okS_iff s).1 hs
  unfold shortA okT at ha
  simp only [Bool.and_eq_true, decide_eq_true_eq] at ha
  have l4 : s.al.any longB = false := by rw [List.any_eq_false]; intro t ht; simp [longB_60 (h5 t ht)]
  unfold costP costN bestL codeN townN
  rw [List.take_length]
  simp [longB_60 h1, longB_60 h2, longB_60 h3, l4, longB_60 ha.1.1.2, longB_60 ha.1.2, longB_60 ha.2]
theorem best_bounds (s : Sv) (a : Av) (k : Nat) (hs : s.name.size ≤ 60) (ha : a.street.size ≤ 60) : 0 ≤ bestL s a k ∧ bestL s a k ≤ 400 := by
  have l1 := bdist_le (Nat.le_trans (foldB_size a.street) (by omega : a.street.size ≤ 200)) (Nat.le_trans (foldB_size s.name) (by omega : s.name.size ≤ 200))
  have g1 := leastL_ge 0 ((s.al.take k).map fun x => (bdist (foldB a.street) (foldB x) : Int)) (bdist (foldB a.street) (foldB s.name)) (by omega) (by intro y hy; obtain ⟨z, _, rfl⟩ := List.mem_map.1 hy; omega)
  have g2 := leastL_le ((s.al.take k).map fun x => (bdist (foldB a.street) (foldB x) : Int)) (bdist (foldB a.street) (foldB s.name))
  unfold bestL; omega
theorem bestL_succ {s : Sv} {a : Av} {k : Nat} {y : ByteArray} (h : s.al[k]? = some y) : bestL s a (k + 1) = min (bestL s a k) (bdist (foldB a.street) (foldB y) : Int) := by
  unfold bestL
  rw [List.take_add_one, h, List.map_append]
  exact leastL_snoc _ _ _
set_option maxRecDepth 100000 in
set_option maxHeartbeats 1000000 in
theorem rcost_c (s : Sv) (a : Av) (w : World) (R) (hal : StrsAt w s.ap s.al) (hs : okS s = true) (ha : shortA a = true) (hR : ∀ w', Below w.heap.size w w' → R (.returned (.int .i64 (costN s a))) w') :
    Calls Try.prog 39 #[.agg s.cells.toArray, .agg a.cells.toArray] w R := by
  have HR := hide hR; clear hR
  obtain ⟨h1, h2, h3, h4, h5⟩ := (okS_iff s).1 hs
  have ha' := ha
  unfold shortA okT at ha'
  simp only [Bool.and_eq_true, decide_eq_true_eq] at ha'
  have k1 : a.street.size ≤ 60 := ha'.1.1.2
  have k2 : a.code.size ≤ 60 := ha'.1.2
  have k3 : a.town.size ≤ 60 := ha'.2
  have H5 := hide h5
  clear h5 ha'
  have K0 := hide (Bx.new s a w)
  have Bz := hide (show Below w.heap.size w ((w.alloc (.cells s.cells.toArray 49)).alloc (.cells a.cells.toArray 24)) from balloc (balloc (Below.refl _ _) _) _)
  unfold Sv.cells Av.cells at *
  have hb0 := hide (fun k => best_bounds s a k h1 k1)
  obtain ⟨s0, s1, s2, s3, s4, s5, s6, s7, a0, a1, a2, a3, a4⟩ := K0.out
  go_enter Try.func39, Try.ntmps39
  go_wp2_with (go_at_call 46; refine Stop.out ?_)
  generalize (w.alloc (.cells [.string s.code, .string s.town, .string s.name, .slice s.ap s.al.length s.ac, .int .i64 s.low, .int .i64 s.high, .int .i64 s.shift, .bool s.opn].toArray 49)).alloc (.cells [.string a.person, .string a.street, .int .i64 a.number, .string a.code, .string a.town].toArray 24) = w0 at *
  refine Stop.go (rfolded_c a.street s.name _ _ k1 h1 ?_)
  intro w1 hb
  have K1 := hide (K0.out.later hb)
  have B1 := hide (bseq Bz.out hb)
  have A1 := hide (hal.keep (Keeps.of_below B1.out))
  clear hb K0 Bz s0 s1 s2 s3 s4 s5 s6 s7 a0 a1 a2 a3 a4 hal
  have hb00 : (bdist (foldB a.street) (foldB s.name) : Int) = bestL s a 0 := rfl
  rw [hb00]
  clear hb00
  go_wp2_with fail
  go_loopw [5, 6] (fun v i wr => ∃ k : Nat, k ≤ s.al.length ∧ i = .int .i64 k ∧ v = .int .i64 (bestL s a k) ∧ Hid (Below w1.heap.size w1 wr)) (fun _ i _ => s.al.length - (intOf i).toNat)
  case atStart => exact ⟨0, Nat.zero_le _, rfl, rfl, hide (Below.refl _ _)⟩
  case round =>
    obtain ⟨k, hk, rfl, rfl, hbw⟩ := hrel
    have hbk := hb0.out k
    have hge : (0 : Int) ≤ bestL s a k := hbk.1
    have K2 := hide (K1.out.later hbw.out)
    obtain ⟨s0, s1, s2, s3, s4, s5, s6, s7, a0, a1, a2, a3, a4⟩ := K2.out
    by_cases hlt : k < s.al.length
    · obtain ⟨b, o, y, hap, hy, hc⟩ := (A1.out.keep (Keeps.of_below hbw.out)).at_ hlt
      have hys := H5.out y (List.mem_of_getElem? hy)
      have hstep := hide (bestL_succ (a := a) hy)
      rw [hap] at s3
      clear hap hy
      have hyn : ¬ (bdist (foldB a.street) (foldB y) : Int) < 0 := by omega
      have hb00 : Below wr.heap.size wr wr.drew := (Below.refl _ _).drew
      go_wp2
      go_region_held3 (fun w' => Below wr.heap.size wr w' ∧ w'.cell? ⟨w.heap.size + 1, 1, none⟩ = some (.string a.street) ∧ w'.cell? ⟨w.heap.size, 3, none⟩ = some (.slice (some ⟨b, o, none⟩) s.al.length s.ac) ∧ w'.cell? ⟨b, o + k, none⟩ = some (.string y))
        (first | exact ⟨hb00, a1, s3, hc⟩ | (go_split_ands; exact ⟨bseq (by assumption) hb5, cell_later hb5 (by assumption), cell_later hb5 (by assumption), cell_later hb5 (by assumption)⟩))
        (first | (go_at_call 46; refine rfolded_c a.street y _ _ k1 hys ?_; intro w5 hb5))
      rename_i hS
      have KK := hide (bseq hbw.out hS.1)
      clear hS hb00 s0 s1 s2 s3 s4 s5 s6 s7 a0 a1 a2 a3 a4 K2 hc
      have hs2 := hstep.out
      go_wp2_with fail
      go_roundw
      case rel => exact ⟨k + 1, by omega, by go_num, by rw [hstep.out], KK⟩
      case measure => simp [intOf]; omega
    · have hkl : k = s.al.length := by omega
      subst hkl
      have B2 := hide (bseq B1.out hbw.out)
      clear hbw
      cases hce : a.code.toList.isEmpty with
      | true =>
        have hcode := hide (show codeN s a = 0 by unfold codeN; rw [hce]; rfl)
        cases hte : a.town.toList.isEmpty with
        | true =>
          have hfin := HR.out wr B2.out
          unfold costN at hfin
          rw [hcode.out, show townN s a = 0 by unfold townN; rw [hte]; rfl, Int.add_zero, Int.add_zero] at hfin
          have hfin := hide hfin
          have hw0 : IntKind.i64.wrap (bestL s a s.al.length) = bestL s a s.al.length := IntWalk.i64_in _ (by omega)
          go_wp2
          exact hfin.out
        | false =>
          have htl := bdist_le (Nat.le_trans (foldB_size a.town) (by omega : a.town.size ≤ 200)) (Nat.le_trans (foldB_size s.town) (by omega : s.town.size ≤ 200))
          have hw0 : IntKind.i64.wrap (bestL s a s.al.length) = bestL s a s.al.length := IntWalk.i64_in _ (by omega)
          have hw1 : IntKind.i64.wrap (bestL s a s.al.length + (bdist (foldB a.town) (foldB s.town) : Int)) = bestL s a s.al.length + (bdist (foldB a.town) (foldB s.town) : Int) := IntWalk.i64_in _ (by omega)
          have hcost := hide (show costN s a = bestL s a s.al.length + (bdist (foldB a.town) (foldB s.town) : Int) by
            unfold costN; rw [hcode.out, Int.add_zero]; unfold townN; rw [hte]; rfl)
          go_wp2_with (go_at_call 46; refine Stop.out ?_)
          refine Stop.go (rfolded_c a.town s.town _ _ k3 h3 ?_)
          intro w5 hb5
          have hfin := HR.out w5 (bseq B2.out hb5)
          rw [hcost.out] at hfin
          have hfin := hide hfin
          clear hb5
          go_wp2
          exact hfin.out
      | false =>
        have hcl := bdist_le (by omega : a.code.size ≤ 200) (by omega : s.code.size ≤ 200)
        have hdv := hide (distV_small (by omega : a.code.size ≤ 200) (by omega : s.code.size ≤ 200))
        have hcode := hide (show codeN s a = (bdist a.code s.code : Int) by unfold codeN; rw [hce]; rfl)
        have hw0 : IntKind.i64.wrap (bestL s a s.al.length + (bdist a.code s.code : Int)) = bestL s a s.al.length + (bdist a.code s.code : Int) := IntWalk.i64_in _ (by omega)
        go_wp2_with (go_at_call 15; refine Stop.out ?_)
        refine Stop.go (rdist_c a.code s.code _ _ ?_)
        rw [hdv.out]
        intro w4 hb4
        have K4 := hide (K2.out.later hb4)
        have B4 := hide (bseq B2.out hb4)
        clear hb4 s0 s1 s2 s3 s4 s5 s6 s7 a0 a1 a2 a3 a4 K2 B2
        obtain ⟨s0, s1, s2, s3, s4, s5, s6, s7, a0, a1, a2, a3, a4⟩ := K4.out
        cases hte : a.town.toList.isEmpty with
        | true =>
          have hfin := HR.out w4 B4.out
          unfold costN at hfin
          rw [hcode.out, show townN s a = 0 by unfold townN; rw [hte]; rfl, Int.add_zero] at hfin
          have hfin := hide hfin
          go_wp2
          exact hfin.out
        | false =>
          have htl := bdist_le (Nat.le_trans (foldB_size a.town) (by omega : a.town.size ≤ 200)) (Nat.le_trans (foldB_size s.town) (by omega : s.town.size ≤ 200))
          have hw1 : IntKind.i64.wrap (bestL s a s.al.length + (bdist a.code s.code : Int) + (bdist (foldB a.town) (foldB s.town) : Int)) = bestL s a s.al.length + (bdist a.code s.code : Int) + (bdist (foldB a.town) (foldB s.town) : Int) := IntWalk.i64_in _ (by omega)
          have hcost := hide (show costN s a = bestL s a s.al.length + (bdist a.code s.code : Int) + (bdist (foldB a.town) (foldB s.town) : Int) by
            unfold costN; rw [hcode.out]; unfold townN; rw [hte]; rfl)
          go_wp2_with (go_at_call 46; refine Stop.out ?_)
          refine Stop.go (rfolded_c a.town s.town _ _ k3 h3 ?_)
          intro w5 hb5
          have hfin := HR.out w5 (bseq B4.out hb5)
          rw [hcost.out] at hfin
          have hfin := hide hfin
          clear hb5
          go_wp2
          exact hfin.out
end Go.Proofs.Ytkbdkkllfaljlaa
