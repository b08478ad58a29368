/- The laws' fixed examples hold. Plain: records are true. -/
import Derived.Test.YtihdpkeclmpehaaA21
import Derived.Test.YtihdpkeclmpehaaA17
set_option linter.unusedVariables false
set_option linter.unusedSimpArgs false
namespace Go.Proofs.Ytihdpkeclmpehaa
open Go.RowKit

set_option maxRecDepth 100000 in
set_option maxHeartbeats 4000000 in
theorem head_c (w : World) (R) (hR : ∀ w', Below w.heap.size w w' → R (.returned (.bool true)) w') : Calls Try.prog 10 #[] w R := by
  have HR := hide hR
  clear hR
  go_enter Try.func10, Try.ntmps10
  go_wp2_with (go_at_call 20; refine Stop.out ?_)
  refine Stop.go (exS_c _ _ ?_)
  intro w1 q1 hb1 hs1
  have HB1 := hide hb1; have HS1 := hide hs1
  clear hb1 hs1
  go_wp2_with (go_at_call 21; refine Stop.out ?_)
  refine Stop.go (exT_c _ _ ?_)
  intro w2 q2 t2 hb2 ht2 he2
  have HB2 := hide (bseq HB1.out hb2); have HT2 := hide ht2; have HE2 := hide he2
  have HS2 := hide (HS1.out.keep (Keeps.of_below hb2))
  clear hb2 ht2 he2 HS1 HB1
  go_wp2_with (go_at_call 12; refine Stop.out ?_)
  refine Stop.go (records_c q1 2 2 exS q2 1 1 [t2] w2 _ rfl HS2.out exS_ok rfl HT2.out (by rw [List.map_singleton, HE2.out]; exact exT_ok) ?_)
  intro w3 q3 c3 rl hb3 hr3 hp3
  rw [List.map_singleton, HE2.out, ex_records] at hp3
  have hl3 : rl.length = 4 := by have := congrArg List.length hp3; simpa using this
  have HB3 := hide (bseq HB2.out hb3); have HR3 := hide hr3; have HP3 := hide hp3; have HL3 := hide hl3
  rw [hl3]
  clear hb3 hr3 hp3 hl3 HS2 HT2 HE2 HB2
  go_wp2_with (go_at_call 20; refine Stop.out ?_)
  refine Stop.go ?_
  obtain ⟨g, hg⟩ : ∃ g, w3.heap.size = g := ⟨_, rfl⟩
  obtain ⟨W1, hW1⟩ : ∃ W1, w3.alloc (.cells #[.int .i64 0, .int .i64 0, .int .i64 1, .int .i64 100, .string exA, .slice none 0 0] 31) = W1 := ⟨_, rfl⟩
  obtain ⟨W2, hW2⟩ : ∃ W2, W1.alloc (.cells #[.string exA] 9) = W2 := ⟨_, rfl⟩
  obtain ⟨W3, hW3⟩ : ∃ W3, W2.alloc (.cells #[.int .i64 0, .int .i64 1, .int .i64 2, .int .i64 160, .string exC, .slice (some ⟨g + 1, 0, none⟩) 1 1] 31) = W3 := ⟨_, rfl⟩
  obtain ⟨W4, hW4⟩ : ∃ W4, W3.alloc (.cells #[.int .i64 1, .int .i64 0, .int .i64 1, .int .i64 220, .string exC, .slice none 0 0] 31) = W4 := ⟨_, rfl⟩
  obtain ⟨W5, hW5⟩ : ∃ W5, W4.alloc (.cells #[.int .i64 1, .int .i64 1, .int .i64 1, .int .i64 220, .string exA, .slice none 0 0] 31) = W5 := ⟨_, rfl⟩
  have s1 : W1.heap.size = g + 1 := by rw [← hW1, ← hg]; simp
  have s2 : W2.heap.size = g + 1 + 1 := by rw [← hW2, ← s1]; simp
  have s3 : W3.heap.size = g + 1 + 1 + 1 := by rw [← hW3, ← s2]; simp
  have s4 : W4.heap.size = g + 1 + 1 + 1 + 1 := by rw [← hW4, ← s3]; simp
  have b1 : Below W1.heap.size W1 W2 := by rw [← hW2]; exact balloc (Below.refl _ _) _
  have b2 : Below W2.heap.size W2 W3 := by rw [← hW3]; exact balloc (Below.refl _ _) _
  have b3 : Below W3.heap.size W3 W4 := by rw [← hW4]; exact balloc (Below.refl _ _) _
  have b4 : Below W4.heap.size W4 W5 := by rw [← hW5]; exact balloc (Below.refl _ _) _
  have b0 : Below w3.heap.size w3 W1 := by rw [← hW1]; exact balloc (Below.refl _ _) _
  have HX5 : Hid (HX w g W5) := hide ⟨bseq (bseq (bseq (bseq (bseq HB3.out b0) b1) b2) b3) b4, ((((show Blk W1 g _ 31 by rw [← hg, ← hW1]; exact Blk.new _ _ _).next b1).next b2).next b3).next b4, (((show Blk W2 (g + 1) _ 9 by rw [← s1, ← hW2]; exact Blk.new _ _ _).next b2).next b3).next b4,
    ((show Blk W3 (g + 1 + 1) _ 31 by rw [← s2, ← hW3]; exact Blk.new _ _ _).next b3).next b4, (show Blk W4 (g + 1 + 1 + 1) _ 31 by rw [← s3, ← hW4]; exact Blk.new _ _ _).next b4, (show Blk W5 (g + 1 + 1 + 1 + 1) _ 31 by rw [← s4, ← hW5]; exact Blk.new _ _ _)⟩
  have HR5 := hide ((HR3.out.keep (Keeps.of_below (bseq (bseq (bseq (bseq b0 b1) b2) b3) b4))))
  have Hgw := hide (show w.heap.size ≤ g by rw [← hg]; exact HB3.out.size)
  rw [hg]
  unfold exA at hW1 hW2 hW5
  unfold exC at hW3 hW4
  rw [hW1, hW2, hW3, hW4, hW5]
  clear hW1 hW2 hW3 hW4 hW5 s1 s2 s3 s4 b0 b1 b2 b3 b4 hg HB3 HR3
  refine exS_c _ _ ?_
  intro w1 q1 hb1 hs1
  have HB1 := hide hb1; have HS1 := hide hs1
  clear hb1 hs1
  go_wp2_with (go_at_call 21; refine Stop.out ?_)
  refine Stop.go (exT_c _ _ ?_)
  intro w2 q2 t2 hb2 ht2 he2
  have HB2 := hide (bseq HB1.out hb2); have HT2 := hide ht2; have HE2 := hide he2
  have HS2 := hide (HS1.out.keep (Keeps.of_below hb2))
  clear hb2 ht2 he2 HS1 HB1
  go_wp2_with (go_at_call 18; refine Stop.out ?_)
  refine Stop.go ?_
  refine deliver_c q1 2 2 exS q2 1 1 [t2] (some ⟨w2.heap.size, 0, none⟩) 1 1 [exSl 6 0 2] _ _ rfl (HS2.out.keep (Keeps.alloc _ _)) exS_ok rfl (HT2.out.keep (Keeps.alloc _ _)) (by rw [List.map_singleton, HE2.out]; exact exT_ok) rfl (by decide) (exSls _ [exSl 6 0 2] _ (exSl0 _ (by simp [exSl]))) (few0 _ (exSl0 _ (by simp [exSl]))) ?_
  intro w6 q6 c6 rl6 hb6 hr6 hp6
  rw [List.map_singleton, HE2.out, show List.map Sl.sp [exSl 6 0 2] = [⟨6, 0, 2, ⟨#[]⟩, _⟩] from rfl, ex_late] at hp6
  have hl6 : rl6.length = 4 := by have := congrArg List.length hp6; simpa using this
  have hB6 := bseq (bseq HB2.out (balloc (Below.refl _ _) _)) hb6
  have HX6 := hide (HX5.out.next hB6); have HR5' := hide (HR5.out.keep (Keeps.of_below hB6))
  have HR6 := hide hr6; have HP6 := hide hp6; have HL6 := hide hl6
  rw [hl6]
  clear hb6 hr6 hp6 hl6 hB6 HS2 HT2 HE2 HB2 HX5 HR5
  go_wp2_with (go_at_call 20; refine Stop.out ?_)
  refine Stop.go (exS_c _ _ ?_)
  intro w1 q1 hb1 hs1
  have HB1 := hide hb1; have HS1 := hide hs1
  clear hb1 hs1
  go_wp2_with (go_at_call 21; refine Stop.out ?_)
  refine Stop.go (exT_c _ _ ?_)
  intro w2 q2 t2 hb2 ht2 he2
  have HB2 := hide (bseq HB1.out hb2); have HT2 := hide ht2; have HE2 := hide he2
  have HS2 := hide (HS1.out.keep (Keeps.of_below hb2))
  clear hb2 ht2 he2 HS1 HB1
  go_wp2_with (go_at_call 18; refine Stop.out ?_)
  refine Stop.go ?_
  refine deliver_c q1 2 2 exS q2 1 1 [t2] (some ⟨w2.heap.size, 0, none⟩) 2 2 [exSl 1 1 0, exSl 5 0 0] _ _ rfl (HS2.out.keep (Keeps.alloc _ _)) exS_ok rfl (HT2.out.keep (Keeps.alloc _ _)) (by rw [List.map_singleton, HE2.out]; exact exT_ok) rfl (by decide) (exSls _ [exSl 1 1 0, exSl 5 0 0] _ (exSl0 _ (by simp [exSl]))) (few0 _ (exSl0 _ (by simp [exSl]))) ?_
  intro w7 q7 c7 rl7 hb7 hr7 hp7
  rw [List.map_singleton, HE2.out, show List.map Sl.sp [exSl 1 1 0, exSl 5 0 0] = [⟨1, 1, 0, ⟨#[]⟩, _⟩, ⟨5, 0, 0, ⟨#[]⟩, _⟩] from rfl, ex_miss] at hp7
  have hl7 : rl7.length = 4 := by have := congrArg List.length hp7; simpa using this
  have hB7 := bseq (bseq HB2.out (balloc (Below.refl _ _) _)) hb7
  have HX7 := hide (HX6.out.next hB7); have HR5'' := hide (HR5'.out.keep (Keeps.of_below hB7)); have HR6' := hide (HR6.out.keep (Keeps.of_below hB7))
  have HR7 := hide hr7; have HP7 := hide hp7; have HL7 := hide hl7
  rw [hl7]
  clear hb7 hr7 hp7 hl7 hB7 HS2 HT2 HE2 HB2 HX6 HR5' HR6
  have hcell := HX7.out.cells
  unfold HXC at hcell
  obtain ⟨a0, a1, a2, a3, a4, a5, b0, b1, b2, b3, b4, b5, c0, c1, c2, c3, c4, c5, d0, d1, d2, d3, d4, d5⟩ := hcell
  go_wp2_with (go_at_call 17; refine Stop.out ?_)
  refine Stop.go ?_
  refine same_c _ _ 4 4 _ _ _ [exRecA, exRecB g, exRecC, exRecD] _ _ HL3.out rfl (by decide) (HR5''.out.keep (Keeps.alloc _ _)) (HX7.out.recs [exRecA, exRecB g, exRecC, exRecD] _ (by simp)) (few_of HP3.out (by simp [exRa, exRb, exRc, exRd, maxLen])) ?_
  intro w8 hb
  rw [show decide (_ = [exRecA, exRecB g, exRecC, exRecD].map Rec.rp) = true by rw [HP3.out]; exact decide_eq_true rfl]
  have hB := bseq (balloc (Below.refl w7.heap.size w7) _) hb
  have HX8 := hide (HX7.out.next hB)
  have HR6a := hide (HR6'.out.keep (Keeps.of_below hB))
  have HR7a := hide (HR7.out.keep (Keeps.of_below hB))
  clear hb hB a0 a1 a2 a3 a4 a5 b0 b1 b2 b3 b4 b5 c0 c1 c2 c3 c4 c5 d0 d1 d2 d3 d4 d5 HX7
  have hcell := HX8.out.cells
  unfold HXC at hcell
  obtain ⟨a0, a1, a2, a3, a4, a5, b0, b1, b2, b3, b4, b5, c0, c1, c2, c3, c4, c5, d0, d1, d2, d3, d4, d5⟩ := hcell
  go_wp2_with (go_at_call 17; refine Stop.out ?_)
  refine Stop.go ?_
  refine same_c _ _ 4 4 _ _ _ [exRecB g, exRecA, exRecC, exRecD] _ _ HL6.out rfl (by decide) (HR6a.out.keep (Keeps.alloc _ _)) (HX8.out.recs [exRecB g, exRecA, exRecC, exRecD] _ (by simp)) (few_of HP6.out (by simp [exRa, exRb, exRc, exRd, maxLen])) ?_
  intro w9 hb
  rw [show decide (_ = [exRecB g, exRecA, exRecC, exRecD].map Rec.rp) = true by rw [HP6.out]; exact decide_eq_true rfl]
  have hB := bseq (balloc (Below.refl w8.heap.size w8) _) hb
  have HX9 := hide (HX8.out.next hB)
  have HR7b := hide (HR7a.out.keep (Keeps.of_below hB))
  clear hb hB a0 a1 a2 a3 a4 a5 b0 b1 b2 b3 b4 b5 c0 c1 c2 c3 c4 c5 d0 d1 d2 d3 d4 d5 HX8
  have hcell := HX9.out.cells
  unfold HXC at hcell
  obtain ⟨a0, a1, a2, a3, a4, a5, b0, b1, b2, b3, b4, b5, c0, c1, c2, c3, c4, c5, d0, d1, d2, d3, d4, d5⟩ := hcell
  go_wp2_with (go_at_call 17; refine Stop.out ?_)
  refine Stop.go ?_
  refine same_c _ _ 4 4 _ _ _ [exRecA, exRecA, exRecC, exRecD] _ _ HL7.out rfl (by decide) (HR7b.out.keep (Keeps.alloc _ _)) (HX9.out.recs [exRecA, exRecA, exRecC, exRecD] _ (by simp)) (few_of HP7.out (by simp [exRa, exRb, exRc, exRd, maxLen])) ?_
  intro w10 hb
  rw [show decide (_ = [exRecA, exRecA, exRecC, exRecD].map Rec.rp) = true by rw [HP7.out]; exact decide_eq_true rfl]
  have hB := bseq (balloc (Below.refl w9.heap.size w9) _) hb
  have HX10 := hide (HX9.out.next hB)
  clear hb hB a0 a1 a2 a3 a4 a5 b0 b1 b2 b3 b4 b5 c0 c1 c2 c3 c4 c5 d0 d1 d2 d3 d4 d5 HX9
  go_wp2
  refine head_reg9 _ g w w10 HX10.out ?_
  refine hide (fun W v54 v55 v56 v57 v58 v59 v60 v61 v62 v63 v64 v65 v66 v67 v68 v69 v70 v71 v72 v73 v74 v75 v76 v77 v78 v79 v80 v81 v82 hX => ?_)
  have HX11 := hide hX
  have hB := balloc (Below.refl W.heap.size W) (.cells #[.string ⟨#[66]⟩] 9)
  have kb := hX.b.next hB
  have kc := hX.c.next hB
  have fb2 := kb.free 5
  have fc2 := kc.free 3
  have cb2 : (W.alloc (.cells #[.string ⟨#[66]⟩] 9)).cell? ⟨g + 1 + 1, 5, none⟩ = some (.slice (some ⟨g + 1, 0, none⟩) 1 1) := kb.cell (k := 5) rfl
  have cc2 : (W.alloc (.cells #[.string ⟨#[66]⟩] 9)).cell? ⟨g + 1 + 1 + 1, 3, none⟩ = some (.int .i64 220) := kc.cell (k := 3) rfl
  have hlt : g + 1 + 1 + 1 < W.heap.size := hX.c.lt
  have hy : HY w g W.heap.size (((W.alloc (.cells #[.string ⟨#[66]⟩] 9)).setCell ⟨g + 1 + 1, 5, none⟩ (.slice (some ⟨W.heap.size, 0, none⟩) 1 1)).setCell ⟨g + 1 + 1 + 1, 3, none⟩ (.int .i64 221)) :=
    ⟨((balloc hX.below _).setCell (p := ⟨g + 1 + 1, 5, none⟩) (by have := Hgw.out; show w.heap.size ≤ g + 1 + 1; omega) _).setCell (p := ⟨g + 1 + 1 + 1, 3, none⟩) (by have := Hgw.out; show w.heap.size ≤ g + 1 + 1 + 1; omega) _,
      ((Blk.new W _ 9).set_other (a := ⟨g + 1 + 1, 5, none⟩) (by show g + 1 + 1 ≠ W.heap.size; omega) _).set_other (a := ⟨g + 1 + 1 + 1, 3, none⟩) (by show g + 1 + 1 + 1 ≠ W.heap.size; omega) _,
      (kb.set 5 (.slice (some ⟨W.heap.size, 0, none⟩) 1 1)).set_other (a := ⟨g + 1 + 1 + 1, 3, none⟩) (by show g + 1 + 1 + 1 ≠ g + 1 + 1; omega) _,
      (kc.set_other (a := ⟨g + 1 + 1, 5, none⟩) (by show g + 1 + 1 ≠ g + 1 + 1 + 1; omega) _).set 3 (.int .i64 221)⟩
  have HY0 := hide hy
  clear hX hB kb kc hlt hy
  go_wp2
  refine head_reg12 _ g W.heap.size w _ HY0.out ?_
  refine hide (fun W2 v86 v87 v88 v89 v90 v91 v92 v93 v94 v95 v96 v97 v98 v99 v100 v101 v102 v103 hX => ?_)
  have HF := hide (HR.out W2 hX.below)
  clear hX fb2 fc2 cb2 cc2
  go_wp2
  exact HF.out
end Go.Proofs.Ytihdpkeclmpehaa

namespace Go.Proofs.Ytihdpkeclmpehaa

theorem scanP_some {l : List Scn} {o : Int} {i : Nat} (h : scanP l o = some i) : ∃ c, l[i]? = some c ∧ c.office = o := by
  unfold scanP at h
  rw [List.findIdx?_eq_some_iff_getElem] at h
  obtain ⟨hi, h1, _⟩ := h
  exact ⟨l[i], List.getElem?_eq_getElem hi, by simpa using h1⟩
/-- A record whose time is changed by at most its scanner's error is true. -/
theorem rec_near {l : List Scn} {ts : List Tk} (hl : ScnsOk l) (hts : TksOk ts) {r : RP} (h : r ∈ recordsP l ts) : ∃ i c, r.scanner = ((i : Nat) : Int) ∧ l[i]? = some c ∧ ∀ d : Int, -c.error ≤ d → d ≤ c.error → TrueP l ts { r with time := r.time + d } := by
  obtain ⟨o, ho, i, hsc, htm, e1, e2, e3, e4, e5⟩ := rec_obs h
  obtain ⟨c, hc, hoff⟩ := scanP_some hsc
  refine ⟨i, c, e1, hc, fun d hd1 hd2 => ?_⟩
  have hok := scnOk_iff.1 (hl.2 c (List.mem_of_getElem? hc))
  have h0 := (obs_time hts ho).1
  refine ⟨by show 0 ≤ r.scanner; omega, by show -2000000000 ≤ r.time + d; omega, by show r.time + d ≤ 2000000000; omega, c, by show l[r.scanner.toNat]? = some c; rw [e1]; exact hc, ?_⟩
  show (r.kind = 1 ∧ r.contents = [] ∧ _) ∨ (r.kind = 2 ∧ _)
  obtain ⟨k, t, j, s, ht, hs, hcs⟩ := obs_cases ho
  have hk := hts.2 t (List.mem_of_getElem? ht)
  have ks := hk.each j s hs
  rcases hcs with rfl | ⟨e, n, he, hn, hf, rfl | rfl⟩
  · refine .inl ⟨e2, e5, .inl ⟨t, List.mem_of_getElem? ht, j, s, s.arrive, hs, hoff.symm, Int.le_refl _, ?_, ?_, ?_, ?_⟩⟩
    · show r.time + d - c.error ≤ s.arrive
      have : r.time = s.arrive := e3
      omega
    · show s.arrive ≤ r.time + d + c.error
      have : r.time = s.arrive := e3
      omega
    · have hjl := (List.getElem?_eq_some_iff.1 hs).1
      by_cases hj : j + 1 = t.stops.length
      · exact .inl (ks.last hj).1
      · exact .inr (ks.mid (by omega)).1
    · exact e4.symm
  · refine .inr ⟨e2, s, n, ?_, ⟨hoff.symm, ?_, ?_⟩, ?_⟩
    · show ContP ts r.label s n
      rw [e4]
      exact ⟨k, j, t, hf, ht, hs, hn⟩
    · show r.time + d - c.error ≤ s.depart
      have : r.time = s.depart := e3
      omega
    · show s.depart ≤ r.time + d + c.error
      have : r.time = s.depart := e3
      omega
    · show r.contents = contentsP ts r.label s.depart
      rw [e4, e5]
  · refine .inl ⟨e2, e5, .inr ⟨s, n, ?_, .inr ⟨hoff.symm, ?_, ?_⟩⟩⟩
    · show ContP ts r.label s n
      rw [e4]
      exact ⟨k, j, t, hf, ht, hs, hn⟩
    · show r.time + d - c.error ≤ n.arrive
      have : r.time = n.arrive := e3
      omega
    · show n.arrive ≤ r.time + d + c.error
      have : r.time = n.arrive := e3
      omega
theorem rec_true {l : List Scn} {ts : List Tk} (hl : ScnsOk l) (hts : TksOk ts) {r : RP} (h : r ∈ recordsP l ts) : TrueP l ts r := by
  obtain ⟨i, c, e1, hc, hn⟩ := rec_near hl hts h
  have hok := scnOk_iff.1 (hl.2 c (List.mem_of_getElem? hc))
  have := hn 0 (by omega) (by omega)
  rwa [Int.add_zero] at this
end Go.Proofs.Ytihdpkeclmpehaa
