/- ScannerTruth: each record that the scanners make of the tracks is a true one. Conditions: those that the law tests itself (scanners and tracks well-formed and few: at most 8 tracks); at any other input the law asks its fixed examples alone. Parts of this text: ScannerTruth. -/
import Derived.Test.YtihdpkeclmpehaaA22
import Derived.Test.YtihdpkeclmpehaaA23
set_option linter.unusedVariables false
set_option linter.unusedSimpArgs false
namespace Go.Proofs.Ytihdpkeclmpehaa
open Go.ChangeShapes Go.WideShapes Go.ChangeAt Go.RowKit Go.Deep

set_option maxHeartbeats 1000000 in
theorem truth_c (sp : Option Addr) (n cap : Nat) (sl : List Scn) (p : Option Addr) (m cap2 : Nat) (ts : List Trk) (w : World) (R) (hn : n ≤ maxLen) (hm : m ≤ maxLen) (hsl : sl.length = n) (hS : ScnsAt w sp sl) (hts : ts.length = m) (hT : TrksAt w p ts)
    (hR : ∀ w', Below w.heap.size w w' → R (.returned (.bool true)) w') : Calls Try.prog 3 #[.slice sp n cap, .slice p m cap2] w R := by
  have HR := hide hR; have HS := hide hS; have HT := hide hT; have Hn := hide hsl; have Hm := hide hts
  clear hR hS hT hsl hts
  go_enter Try.func3, Try.ntmps3
  go_wp2_with (go_at_call 10; refine Stop.out ?_)
  refine Stop.go (head_c _ _ ?_)
  intro w1 hb1
  have HB1 := hide hb1
  clear hb1
  go_wp2_with (go_at_call 11; refine Stop.out ?_)
  refine Stop.go (right_c sp n cap sl p m cap2 ts w1 _ hn hm Hn.out (HS.out.keep (Keeps.of_below HB1.out)) Hm.out (HT.out.keep (Keeps.of_below HB1.out)) ?_)
  intro b w2 hb2 hok
  have HB2 := hide (bseq HB1.out hb2)
  clear hb2
  cases b with
  | false =>
    clear hok
    go_wp2
    exact HR.out _ HB2.out
  | true =>
    have HO := hide (hok rfl)
    clear hok
    go_wp2_with (go_at_call 12; refine Stop.out ?_)
    refine Stop.go (records_c sp n cap sl p m cap2 ts w2 _ Hn.out (HS.out.keep (Keeps.of_below HB2.out)) HO.out.1 Hm.out (HT.out.keep (Keeps.of_below HB2.out)) HO.out.2 ?_)
    intro w3 q c rl hb3 hrs hrp
    have HB3 := hide (bseq HB2.out hb3)
    have HRs := hide hrs; have HRp := hide hrp
    have hN : rl.length ≤ 480 := by have := recs_len (l := sl) HO.out.2; rw [← hrp, List.length_map] at this; exact this
    obtain ⟨N, hNe⟩ : ∃ N, rl.length = N := ⟨_, rfl⟩
    have HN := hide hNe
    rw [hNe] at hN
    rw [hNe]
    clear hb3 hrs hrp hNe
    go_wp2
    go_loopw [7] (fun si wr => ∃ i : Nat, i ≤ N ∧ si = .int .i64 i ∧ Hid (Below w3.heap.size w3 wr)) (fun si _ => N - (intOf si).toNat)
    case atStart => exact ⟨0, Nat.zero_le _, rfl, hide (Below.refl _ _)⟩
    case round =>
      obtain ⟨i, hi, rfl, HB⟩ := hrel
      by_cases hlt : i < N
      · obtain ⟨b, o, r, rfl, hr, hst, x0, x1, x2, x3, x4, x5⟩ := (HRs.out.keep (Keeps.of_below HB.out)).rec_ (i := i) (by rw [HN.out]; exact hlt)
        have Hr := hide hr; have Hst := hide hst
        have hmem : r.rp ∈ recordsP sl (ts.map Trk.tk) := by rw [← HRp.out]; exact List.mem_map_of_mem (List.mem_of_getElem? hr)
        have Htr := hide (rec_true HO.out.1 HO.out.2 hmem)
        have hcl : r.contents.length ≤ maxLen := by have := rec_few HO.out.2 hmem; have h2 : r.rp.contents = r.contents := rfl; rw [h2] at this; unfold maxLen; omega
        have hBw := bseq HB3.out HB.out
        have HBw := hide hBw
        clear hr hst hmem hBw
        go_wp2_with (go_at_call 13; refine Stop.out ?_)
        refine Stop.go (true_c sp n cap sl p m cap2 ts r _ _ Hn.out (HS.out.keep (Keeps.of_below HBw.out)) HO.out.1 Hm.out (HT.out.keep (Keeps.of_below HBw.out)) HO.out.2 Hst.out hcl ?_)
        intro v w4 hb4 hiff
        obtain rfl : v = true := hiff.2 Htr.out
        have HB4 := hide (bseq HB.out hb4)
        clear hb4 hiff x0 x1 x2 x3 x4 x5
        go_wp2
        go_roundw
        case rel => exact ⟨i + 1, by omega, by go_num, HB4⟩
        case measure => simp [intOf]; omega
      · obtain rfl : i = N := by omega
        have HF := hide (HR.out _ (bseq HB3.out HB.out))
        go_wp2
        exact HF.out
theorem truth_w (a0 : Option Addr) (n0 c0 : Nat) (l0 : List Scn) (a1 : Option Addr) (n1 c1 : Nat) (l1 : List Trk) (w : World) (R : Ending → World → Prop) (hl0 : l0.length = n0) (hm0 : n0 ≤ maxLen) (hi0 : ScnsAt w a0 l0) (hz0 : n0 ≤ c0) (hw0 : True) (hl1 : l1.length = n1) (hm1 : n1 ≤ maxLen) (hi1 : TrksAt w a1 l1) (hz1 : n1 ≤ c1) (hw1 : True)
    (hR : ∀ w', Below w.heap.size w w' → R (.returned (.bool true)) w') : Calls Try.prog 3 #[.slice a0 n0 c0, .slice a1 n1 c1] w R :=
  truth_c a0 n0 c0 l0 a1 n1 c1 l1 w R hm0 hm1 hl0 hi0 hl1 hi1 hR

set_option maxRecDepth 100000 in
theorem scannerTruth_holds_lifted (os : Os) (started : os.Started) (H : Type) (enc : TypeId × Value → H) :
    ReturnsInHanded {} Try.checked os 3 .any (Rows.scannerTruthSpec.pre6 enc Try.prog Try.f3 Rows.scannerTruthRow.domain false) (Rows.scannerTruthSpec.post enc Try.prog Try.f3 false true false false) := by
  refine returnsInHanded_of_change (C := Try.checked) Try.own started (by kernel_rfl) Try.func3
    (ChangeSpec.witness6 (enc := enc) (C := Try.checked) false ⟨#[], #[.slice none 0 0, .slice none 0 0], []⟩ 8 (by kernel_rfl) (by kernel_rfl) (by kernel_rfl) (by kernel_rfl)) ?_
  intro W base args ds gs before hval0 hW hcnd _
  have hval : ∀ (j : Nat) t v, Try.f3.params[j]? = some t → args[j]? = some v → Value.okWide Try.prog W .any base t v := hval0
  have hW' := hW
  obtain ⟨p, q, hA0, hV, rfl, hfz, hnd⟩ := hW
  have hA : DataW.TrodAll enc Try.prog W 0 (fun _ => true) true Try.f3.params.toList args.toList ds p := hA0
  have hA1 := hA
  rw [Try.params3] at hA hval
  obtain ⟨v0, vs0, d0, ds0, p0, q0, hargs, rfl, rfl, h0, r0⟩ := trodAll_cons hA
  obtain ⟨v1, vs1, d1, ds1, p1, q1, rfl, rfl, rfl, h1, r1⟩ := trodAll_cons r0
  obtain ⟨rfl, rfl, rfl⟩ := trodAll_nil r1
  obtain rfl : args = #[v0, v1] := by cases args; simp_all
  obtain ⟨rfl, rfl⟩ := trodVars_none hV
  obtain ⟨a0, n0, c0, l0, rfl, hl0, hm0, hi0, hz0, hw0⟩ := open_scns (hval 0 22 v0 rfl rfl) h0
  obtain ⟨a1, n1, c1, l1, rfl, hl1, hm1, hi1, hz1, hw1⟩ := open_trks (hval 1 23 v1 rfl rfl) h1
  refine truth_w a0 n0 c0 l0 a1 n1 c1 l1 W _ hl0 hm0 hi0 hz0 hw0 hl1 hm1 hi1 hz1 hw1 fun W' bel => ?_
  exact ⟨_, rfl, law_post Try.laidOut bel rfl hW' hA1 (by kernel_rfl) rfl Try.underlying4 rfl rfl rfl⟩

theorem scannerTruth_holds : Rows.ScannerTruthSaid :=
  OpenClaim.holds_of_wide 3 Try.f3 rfl rfl rfl rfl rfl rfl rfl ⟨rfl, rfl, rfl, rfl, rfl⟩ rfl rfl rfl rfl rfl (by kernel_rfl) Try.func3 (by kernel_rfl)
    (of_decide_eq_true (by kernel_rfl)) (by unfold Func.isWrapper; rw [if_neg (of_decide_eq_false (by kernel_rfl))]; exact ⟨rfl, rfl⟩)
    (fun os started H enc _ => scannerTruth_holds_lifted os started H enc)

end Go.Proofs.Ytihdpkeclmpehaa
