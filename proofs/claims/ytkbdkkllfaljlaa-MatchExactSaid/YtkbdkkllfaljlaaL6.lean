/- MatchExact: an open street with one of its numbers, addressed by its name or an alias, its code and its town, is a candidate at cost 0 under each limit; and a candidate at cost 0 has the folded name of the address as its own or as an alias's, and its code and town where the address has them. Conditions: those that the law tests itself (sizes: 12 streets with 6 aliases each and an address, texts of at most 60 bytes); at any other input the law asks its fixed examples alone. Parts of this text: MatchExact: exact addresses have the cost 0, and only such. -/
import Derived.Test.YtkbdkkllfaljlaaH
import Derived.Test.YtkbdkkllfaljlaaL6r
import Derived.Test.YtkbdkkllfaljlaaL6q
import Derived.Test.YtkbdkkllfaljlaaL7
import Derived.Deep.RegionHeld3
import Derived.BigRegion
set_option linter.unusedVariables false
set_option linter.unusedSimpArgs false
namespace Go.Proofs.Ytkbdkkllfaljlaa
open Go.ChangeShapes Go.WideShapes Go.ChangeAt Go.RowKit Go.Sort

theorem AB.street {a : Av} {w wr : World} (h : AB a w wr) (y : ByteArray) : AB ⟨a.person, y, a.number, a.code, a.town⟩ w (wr.setCell ⟨w.heap.size, 1, none⟩ (.string y)) :=
  ⟨h.below.setCell (p := ⟨w.heap.size, 1, none⟩) (Nat.le_refl _) _, by have := h.lt; simp only [World.setCell]; split <;> simp [this],
    store_other h.a0 (by intro e; injection e with _ e; cases e), World.cell?_setCell_same _ _ _ h.a1, store_other h.a2 (by intro e; injection e with _ e; cases e), store_other h.a3 (by intro e; injection e with _ e; cases e), store_other h.a4 (by intro e; injection e with _ e; cases e)⟩
theorem exact_in {a : Av} {most : Int} {l : List Sv} {D : List Cnd} {s : Sv} {k : Nat} (hD : isCnds a most l D) (hs : l[k]? = some s) (hc : costP s a = some 0) (hf : fits s a = true) (hm : 0 ≤ most) : ∃ (j : Nat) (y : Cnd), D[j]? = some y ∧ y.i = k := by
  have h := (hD.mem ⟨k, wrap64 (a.number - s.shift), 0⟩).2 ⟨s, hs, rfl, hc, hf, hm⟩
  obtain ⟨j, hj⟩ := List.getElem?_of_mem h
  exact ⟨j, _, hj, rfl⟩
theorem exact_cost {a : Av} {most : Int} {l : List Sv} {D : List Cnd} {s : Sv} {k j : Nat} {y : Cnd} (hD : isCnds a most l D) (hs : l[k]? = some s) (hc : costP s a = some 0) (hy : D[j]? = some y) (hk : y.i = k) : y.cost = 0 := by
  obtain ⟨s', h1, _, h2, _⟩ := (hD.mem y).1 (List.mem_of_getElem? hy)
  rw [hk, hs] at h1
  injection h1 with h1
  subst h1
  rw [hc] at h2
  injection h2 with h2
  exact h2.symm
set_option maxRecDepth 100000 in
set_option maxHeartbeats 2000000 in
theorem exact_c (p : Option Addr) (n cap : Nat) (l : List Sv) (a : Av) (wh al nu mo : Int) (w : World) (R) (hn : l.length = n) (hl : n ≤ maxLen) (h : StsAt w p l) (hz : p = none → n = 0) (hw : ∀ s ∈ l, SWf s) (ha : AWf a)
    (hwh : (Lit.int .u8 wh).wf = true) (hal8 : (Lit.int .u8 al).wf = true) (hnu : (Lit.int .u8 nu).wf = true) (hmo : (Lit.int .u8 mo).wf = true)
    (hR : ∀ w', Below w.heap.size w w' → R (.returned (.bool true)) w') : Calls Try.prog 8 #[.slice p n cap, .agg a.cells.toArray, .int .u8 wh, .int .u8 al, .int .u8 nu, .int .u8 mo] w R := by
  have HR := hide hR; clear hR
  have A0 := hide (AB.new a w)
  unfold Av.cells at *
  go_enter Try.func8, Try.ntmps8
  go_wp2_with (go_at_call 11; refine Stop.out ?_)
  refine Stop.go (head_c _ _ ?_)
  intro w1 hb1
  have A := hide (A0.out.later hb1); clear A0 hb1
  have H := hide (h.keep (Keeps.of_below A.out.below))
  clear h
  cases hf : fewS l with
  | false =>
    go_wp2_with (go_at_call 12; refine few_c p n cap l _ _ hn hl H.out ?_; rw [hf])
    exact HR.out _ A.out.below
  | true =>
    obtain ⟨_, _, a0, a1, a2, a3, a4⟩ := A.out
    obtain ⟨hn12, hfa⟩ := few_le hf
    have hnn : n ≤ 12 := by omega
    go_wp2_with (first | (go_at_call 12; refine few_c p n cap l _ _ hn hl H.out ?_; rw [hf]) | (go_at_call 13; refine Stop.out ?_))
    refine Stop.go (short_c a _ _ ?_)
    intro w2 hb
    replace A := hide (A.out.later hb)
    replace H := hide (H.out.keep (Keeps.of_below hb))
    clear hb a0 a1 a2 a3 a4
    obtain ⟨_, hlt2, a0, a1, a2, a3, a4⟩ := A.out
    cases hs : shortA a with
    | false =>
      go_wp2
      exact HR.out _ A.out.below
    | true =>
      have Hal := hide (fun s (hs : s ∈ l) => (hfa s hs).1)
      have Hok := hide (fun s (hs : s ∈ l) => (hfa s hs).2)
      have HN := hide hn
      have hsa : a.street.size ≤ 60 ∧ a.town.size ≤ 60 := by
        unfold shortA okT at hs
        simp only [Bool.and_eq_true, decide_eq_true_eq] at hs
        exact ⟨hs.1.1.2, hs.2⟩
      have hsa1 := hsa.1
      have hsa2 := hsa.2
      clear hn12 hfa hs hf hn hsa
      obtain ⟨m, hm6, em⟩ := tmod7 mo hmo
      have hm64 : IntKind.i64.wrap (m : Int) = m := IntWalk.i64_in _ (by omega)
      have hu8 : ∀ x : Int, (Lit.int .u8 x).wf = true → 0 ≤ x ∧ x ≤ 255 := fun x hx => by
        simp [Lit.wf, show IntKind.min .u8 = 0 from rfl, show IntKind.max .u8 = 255 from rfl] at hx; omega
      have r1 := hu8 wh hwh; have r2 := hu8 al hal8; have r3 := hu8 nu hnu; have r4 := hu8 mo hmo
      clear hu8
      have e1 : IntKind.i64.wrap wh = wh := IntWalk.i64_in _ (by omega)
      have e2 : IntKind.i64.wrap al = al := IntWalk.i64_in _ (by omega)
      have e3 : IntKind.i64.wrap nu = nu := IntWalk.i64_in _ (by omega)
      have e4 : IntKind.i64.wrap mo = mo := IntWalk.i64_in _ (by omega)
      go_wp2_with (go_at_call 19; refine Stop.out ?_)
      refine Stop.go (candS_c p n cap l a m _ _ HN.out (by omega) H.out Hal.out (by omega) (by omega) ?_)
      intro q c M w3 hb hC hMl hM
      replace A := hide (A.out.later hb)
      replace H := hide (H.out.keep (Keeps.of_below hb))
      have C := hide hC
      have HM := hide hM
      clear hb hC hM a0 a1 a2 a3 a4 hlt2
      go_wp2_with fail
      go_loopw [16, 17] (fun i v wr => ∃ i0 : Nat, i0 ≤ M.length ∧ i = .int .i64 i0 ∧ Hid (Below w3.heap.size w3 wr)) (fun i _ _ => M.length - (intOf i).toNat)
      case atStart => exact ⟨0, Nat.zero_le _, rfl, hide (Below.refl _ _)⟩
      case round =>
        obtain ⟨i, hi, rfl, hbw⟩ := hrel
        by_cases hlt : i < M.length
        · obtain ⟨bM, oM, x, rfl, hx, hc0, hc1, hc2⟩ := (C.out.keep (Keeps.of_below hbw.out)).at_ hlt
          obtain ⟨s, hs, _, hcs, _, _⟩ := (HM.out.mem x).1 (List.mem_of_getElem? hx)
          obtain ⟨bS, oS, rfl, q0, q1, q2, q3, q4, q5, q6, q7, hal⟩ := (H.out.keep (Keeps.of_below hbw.out)).at_ hs
          have hxi : x.i < n := by rw [← HN.out]; exact (List.getElem?_eq_some_iff.1 hs).1
          have hok := Hok.out s (List.mem_of_getElem? hs)
          have hsz := (okS_iff s).1 hok
          have hst : s.town.size ≤ 60 := hsz.2.2.1
          have h0 : ¬ (x.i : Int) < 0 := by omega
          have h1 : ¬ (n : Int) ≤ (x.i : Int) := by omega
          obtain ⟨_, hltA, a0, a1, a2, a3, a4⟩ := (A.out.later hbw.out)
          clear hs hx hsz
          by_cases hcz : x.cost = 0
          · have Hz := hide (cost_zero (s := s) (a := a) (by rw [hcs, hcz]))
            rw [hcz] at hc2
            have HAL := hide (show ∀ W, Below wr.heap.size wr W → StrsAt W s.ap s.al from fun W hW => hal.keep (Keeps.of_below hW))
            have KX : Kx s a bS oS x.i w.heap.size bM oM i wr := ⟨q0, q1, q2, q3, q4, q5, q6, q7, a0, a1, a2, a3, a4, hc2⟩
            clear hal hcs hcz q0 q1 q2 q3 q4 q5 q6 q7 a0 a1 a2 a3 a4 hc1 hc2
            cases hce : a.code.toList.isEmpty with
            | true =>
              cases hte : a.town.toList.isEmpty with
              | true =>
                go_wp2_with fail
                refine ex_reg11 _ n cap bS oS x.i w.heap.size bM oM M.length c i s a wr hnn hxi hlt hok hsa1 hsa2 HAL (hide Hz.out.1) KX hce hte _ _ _ _ _ _ _ _ _ _ _ _ _ _ _ _ _ _ _ _ _ _ _ _ _ _ _ _ _ _ _ _ _ _ _ _ _ _ _ _ _ _ _ _ _ _ _ _ _ _ _ _ _ _ _ _ _ _ _ _ _ _ _ _ _ _ _ _ _ _ _ _ _ _ _ _ _ _ _ _ _ _ _ _ _ _ _ _ _ _ _ _ _ _ _ _ _ _ _ _ _ _ _ _ _ _ _ _ _ _ _ _ _ _ _ _ _ _ _ _ _ _ _ _ _ _ _ _ _ _ _ _ _ _ _ _ _ _ _ _ _ _ _ _ _ _ _ _ _ _ _ _ _ _ _ _ _ _ _ _ _ _ _ _ _ _ _ _ _ _ _ _ _ _ _ _ _ _ _ _ _ _ _ _ _ _ _ _ _ _ _ _ _ _ _ _ _ _ _ _ _ _ _ _ _ _ _ _ _ _ _ _ _ _ _ _ _ _ _ _ _ _ _ _ _ _ _ _ _ _ _ _ _ _ _ _ _ _ _ _ _ (hide ?_)
                intro w7 v59 v60 v61 v62 v63 v64 v65 v66 v67 v68 v69 v70 v71 v72 v73 v74 v75 v76 v77 v78 v79 v80 v81 v82 v83 v84 v85 v86 v87 v88 v89 v90 v91 v92 v93 v94 v95 v96 v97 v98 v99 v100 v101 v102 v103 v104 v105 v106 hb7
                have hbw7 := hide (bseq hbw.out hb7)
                clear hb7 KX
                go_wp2_with fail
                go_roundw
                case rel => exact ⟨i + 1, by omega, by go_num, hbw7⟩
                case measure => simp [intOf]; omega

              | false =>
                have Htw := hide (show foldB a.town = foldB s.town from (Hz.out.2.2).resolve_left (by rw [hte]; decide))
                go_wp2_with fail
                refine ex_reg10 _ n cap bS oS x.i w.heap.size bM oM M.length c i s a wr hnn hxi hlt hok hsa1 hsa2 HAL (hide Hz.out.1) KX hce hte Htw _ _ _ _ _ _ _ _ _ _ _ _ _ _ _ _ _ _ _ _ _ _ _ _ _ _ _ _ _ _ _ _ _ _ _ _ _ _ _ _ _ _ _ _ _ _ _ _ _ _ _ _ _ _ _ _ _ _ _ _ _ _ _ _ _ _ _ _ _ _ _ _ _ _ _ _ _ _ _ _ _ _ _ _ _ _ _ _ _ _ _ _ _ _ _ _ _ _ _ _ _ _ _ _ _ _ _ _ _ _ _ _ _ _ _ _ _ _ _ _ _ _ _ _ _ _ _ _ _ _ _ _ _ _ _ _ _ _ _ _ _ _ _ _ _ _ _ _ _ _ _ _ _ _ _ _ _ _ _ _ _ _ _ _ _ _ _ _ _ _ _ _ _ _ _ _ _ _ _ _ _ _ _ _ _ _ _ _ _ _ _ _ _ _ _ _ _ _ _ _ _ _ _ _ _ _ _ _ _ _ _ _ _ _ _ _ _ _ _ _ _ _ _ _ _ _ _ _ _ _ _ _ _ _ _ _ _ _ _ _ _ (hide ?_)
                intro w7 v59 v60 v61 v62 v63 v64 v65 v66 v67 v68 v69 v70 v71 v72 v73 v74 v75 v76 v77 v78 v79 v80 v81 v82 v83 v84 v85 v86 v87 v88 v89 v90 v91 v92 v93 v94 v95 v96 v97 v98 v99 v100 v101 v102 v103 v104 v105 v106 hb7
                have hbw7 := hide (bseq hbw.out hb7)
                clear hb7 KX
                go_wp2_with fail
                go_roundw
                case rel => exact ⟨i + 1, by omega, by go_num, hbw7⟩
                case measure => simp [intOf]; omega

            | false =>
              have hqc : (a.code.toList == s.code.toList) = true := by rw [beq_toList, decide_eq_true_eq]; exact (Hz.out.2.1).resolve_left (by rw [hce]; decide)
              cases hte : a.town.toList.isEmpty with
              | true =>
                go_wp2_with fail
                refine ex_reg01 _ n cap bS oS x.i w.heap.size bM oM M.length c i s a wr hnn hxi hlt hok hsa1 hsa2 HAL (hide Hz.out.1) KX hce hte hqc _ _ _ _ _ _ _ _ _ _ _ _ _ _ _ _ _ _ _ _ _ _ _ _ _ _ _ _ _ _ _ _ _ _ _ _ _ _ _ _ _ _ _ _ _ _ _ _ _ _ _ _ _ _ _ _ _ _ _ _ _ _ _ _ _ _ _ _ _ _ _ _ _ _ _ _ _ _ _ _ _ _ _ _ _ _ _ _ _ _ _ _ _ _ _ _ _ _ _ _ _ _ _ _ _ _ _ _ _ _ _ _ _ _ _ _ _ _ _ _ _ _ _ _ _ _ _ _ _ _ _ _ _ _ _ _ _ _ _ _ _ _ _ _ _ _ _ _ _ _ _ _ _ _ _ _ _ _ _ _ _ _ _ _ _ _ _ _ _ _ _ _ _ _ _ _ _ _ _ _ _ _ _ _ _ _ _ _ _ _ _ _ _ _ _ _ _ _ _ _ _ _ _ _ _ _ _ _ _ _ _ _ _ _ _ _ _ _ _ _ _ _ _ _ _ _ _ _ _ _ _ _ _ _ _ _ _ _ _ _ _ (hide ?_)
                intro w7 v59 v60 v61 v62 v63 v64 v65 v66 v67 v68 v69 v70 v71 v72 v73 v74 v75 v76 v77 v78 v79 v80 v81 v82 v83 v84 v85 v86 v87 v88 v89 v90 v91 v92 v93 v94 v95 v96 v97 v98 v99 v100 v101 v102 v103 v104 v105 v106 hb7
                have hbw7 := hide (bseq hbw.out hb7)
                clear hb7 KX
                go_wp2_with fail
                go_roundw
                case rel => exact ⟨i + 1, by omega, by go_num, hbw7⟩
                case measure => simp [intOf]; omega

              | false =>
                have Htw := hide (show foldB a.town = foldB s.town from (Hz.out.2.2).resolve_left (by rw [hte]; decide))
                go_wp2_with fail
                refine ex_reg00 _ n cap bS oS x.i w.heap.size bM oM M.length c i s a wr hnn hxi hlt hok hsa1 hsa2 HAL (hide Hz.out.1) KX hce hte hqc Htw _ _ _ _ _ _ _ _ _ _ _ _ _ _ _ _ _ _ _ _ _ _ _ _ _ _ _ _ _ _ _ _ _ _ _ _ _ _ _ _ _ _ _ _ _ _ _ _ _ _ _ _ _ _ _ _ _ _ _ _ _ _ _ _ _ _ _ _ _ _ _ _ _ _ _ _ _ _ _ _ _ _ _ _ _ _ _ _ _ _ _ _ _ _ _ _ _ _ _ _ _ _ _ _ _ _ _ _ _ _ _ _ _ _ _ _ _ _ _ _ _ _ _ _ _ _ _ _ _ _ _ _ _ _ _ _ _ _ _ _ _ _ _ _ _ _ _ _ _ _ _ _ _ _ _ _ _ _ _ _ _ _ _ _ _ _ _ _ _ _ _ _ _ _ _ _ _ _ _ _ _ _ _ _ _ _ _ _ _ _ _ _ _ _ _ _ _ _ _ _ _ _ _ _ _ _ _ _ _ _ _ _ _ _ _ _ _ _ _ _ _ _ _ _ _ _ _ _ _ _ _ _ _ _ _ _ _ _ _ _ _ (hide ?_)
                intro w7 v59 v60 v61 v62 v63 v64 v65 v66 v67 v68 v69 v70 v71 v72 v73 v74 v75 v76 v77 v78 v79 v80 v81 v82 v83 v84 v85 v86 v87 v88 v89 v90 v91 v92 v93 v94 v95 v96 v97 v98 v99 v100 v101 v102 v103 v104 v105 v106 hb7
                have hbw7 := hide (bseq hbw.out hb7)
                clear hb7 KX
                go_wp2_with fail
                go_roundw
                case rel => exact ⟨i + 1, by omega, by go_num, hbw7⟩
                case measure => simp [intOf]; omega

          · have hcz' : (x.cost == 0) = false := by rw [beq_eq_false_iff_ne]; exact hcz
            clear hcz hcs
            go_wp2
            go_quiet (fail)
            go_wp2
            go_roundw
            case rel => exact ⟨i + 1, by omega, by go_num, hide (below_drewN' hbw.out _)⟩
            case measure => simp [intOf]; omega
        · have Aw := hide (A.out.later hbw.out)
          have Hw := hide (H.out.keep (Keeps.of_below hbw.out))
          clear A H hbw C HM
          by_cases hn0 : n = 0
          · have hnz : ((n : Int) == 0) = true := by rw [hn0]; rfl
            have Hn0 := hide hn0
            clear hn0
            go_wp2
            exact HR.out _ Aw.out.below
          · have hnz : ((n : Int) == 0) = false := by rw [beq_eq_false_iff_ne]; omega
            have hnz2 : ¬ ((n : Int) = 0) := by omega
            obtain ⟨k, hk, ek⟩ : ∃ k : Nat, k < n ∧ wh.tmod (n : Int) = (k : Int) := by
              have h6 := Int.emod_nonneg wh (show ((n : Int)) ≠ 0 by omega)
              have h7 := Int.emod_lt_of_pos wh (show (0 : Int) < (n : Int) by omega)
              exact ⟨(wh % (n : Int)).toNat, by omega, by rw [Int.tmod_eq_emod_of_nonneg r1.1]; omega⟩
            have hk64 : IntKind.i64.wrap (k : Int) = k := IntWalk.i64_in _ (by omega)
            have Hn0 := hide hn0
            clear hn0
            obtain ⟨s, hs⟩ : ∃ s, l[k]? = some s := ⟨l[k]'(by rw [HN.out]; exact hk), List.getElem?_eq_getElem (by rw [HN.out]; exact hk)⟩
            obtain ⟨bS, oS, rfl, q0, q1, q2, q3, q4, q5, q6, q7, hal⟩ := Hw.out.at_ hs
            have hok := Hok.out s (List.mem_of_getElem? hs)
            have HSk := hide hs
            clear hs
            cases ho : s.opn with
            | false =>
              rw [ho] at q7
              go_wp2
              go_quiet (fail)
              go_wp2
              exact HR.out _ (below_drewN' Aw.out.below _)
            | true =>
              rw [ho] at q7
              by_cases c1 : s.high < s.low
              · have d1 : decide (s.high < s.low) = true := decide_eq_true c1
                clear c1
                go_wp2
                go_quiet (fail)
                go_wp2
                exact HR.out _ (below_drewN' Aw.out.below _)
              · have d1 : decide (s.high < s.low) = false := decide_eq_false c1
                by_cases c2 : s.low < 0
                · have d2 : decide (s.low < 0) = true := decide_eq_true c2
                  clear c1 c2
                  go_wp2
                  go_quiet (fail)
                  go_wp2
                  exact HR.out _ (below_drewN' Aw.out.below _)
                · have d2 : decide (s.low < 0) = false := decide_eq_false c2
                  by_cases c3 : 100000 < s.high
                  · have d3 : decide (100000 < s.high) = true := decide_eq_true c3
                    clear c1 c2 c3
                    go_wp2
                    go_quiet (fail)
                    go_wp2
                    exact HR.out _ (below_drewN' Aw.out.below _)
                  · have d3 : decide (100000 < s.high) = false := decide_eq_false c3
                    have CC := hide (And.intro c1 (And.intro c2 c3))
                    clear c1 c2 c3
                    go_wp2
                    go_quiet (fail)
                    go_wp2
                    have hw1 : IntKind.i64.wrap (s.high - s.low) = s.high - s.low := IntWalk.i64_in _ (by have := CC.out; omega)
                    have hw2 : IntKind.i64.wrap (s.high - s.low + 1) = s.high - s.low + 1 := IntWalk.i64_in _ (by have := CC.out; omega)
                    have hz1 : (s.high - s.low + 1 == 0) = false := by rw [beq_eq_false_iff_ne]; have := CC.out; omega
                    have hz2 : ¬ (s.high - s.low + 1 = 0) := by have := CC.out; omega
                    obtain ⟨r, er, hr0, hr1⟩ : ∃ r : Int, nu.tmod (s.high - s.low + 1) = r ∧ 0 ≤ r ∧ r ≤ s.high - s.low := by
                      have h6 := Int.emod_nonneg nu hz2
                      have h7 := Int.emod_lt_of_pos nu (show (0 : Int) < s.high - s.low + 1 by have := CC.out; omega)
                      exact ⟨_, rfl, by rw [Int.tmod_eq_emod_of_nonneg r3.1]; exact h6, by rw [Int.tmod_eq_emod_of_nonneg r3.1]; omega⟩
                    have hw3 : IntKind.i64.wrap r = r := IntWalk.i64_in _ (by have := CC.out; omega)
                    have hw4 : IntKind.i64.wrap (s.low + r) = s.low + r := IntWalk.i64_in _ (by have := CC.out; omega)
                    have A5 := hide (show AB a w (wr.drewN nq) from Aw.out.later (below_drewN' (Below.refl _ _) _))
                    have H5 := hide (show StsAt (wr.drewN nq) (some ⟨bS, oS, none⟩) l from Hw.out)
                    have g0 : (wr.drewN nq).cell? ⟨bS, oS + k * 8, none⟩ = some (.string s.code) := q0
                    have g1 : (wr.drewN nq).cell? ⟨bS, oS + k * 8 + 1, none⟩ = some (.string s.town) := q1
                    have g2 : (wr.drewN nq).cell? ⟨bS, oS + k * 8 + 2, none⟩ = some (.string s.name) := q2
                    have g3 : (wr.drewN nq).cell? ⟨bS, oS + k * 8 + 3, none⟩ = some (.slice s.ap s.al.length s.ac) := q3
                    have g4 : (wr.drewN nq).cell? ⟨bS, oS + k * 8 + 4, none⟩ = some (.int .i64 s.low) := q4
                    have g5 : (wr.drewN nq).cell? ⟨bS, oS + k * 8 + 5, none⟩ = some (.int .i64 s.high) := q5
                    have gal := hide (show StrsAt (wr.drewN nq) s.ap s.al from hal)
                    clear q0 q1 q2 q3 q4 q5 q6 q7 hal Aw Hw d1 d2 d3
                    generalize wr.drewN nq = w4 at *
                    refine ex_reg19 _ n cap bS oS k nu r s w4 hk ⟨g0, g1, g2, g4, g5⟩ e3 hw1 hw2 hz1 hz2 er hw3 hw4 _ _ _ _ _ _ _ _ _ _ _ _ _ _ _ _ _ _ _ _ _ _ _ _ _ _ _ _ _ _ _ _ _ _ _ _ _ _ _ _ _ _ _ _ _ _ _ _ _ _ _ _ _ _ _ _ _ _ _ _ _ _ _ _ _ _ _ _ _ _ _ _ _ _ _ _ _ _ _ _ _ _ _ _ _ _ _ _ _ _ _ _ _ _ _ _ _ _ _ _ _ _ _ _ _ _ _ _ _ _ _ _ _ _ _ _ _ _ _ _ _ _ _ _ _ _ _ _ _ _ _ _ _ _ _ _ _ _ _ _ _ _ _ _ _ _ _ _ _ _ _ _ _ _ _ _ _ _ _ _ _ _ _ _ _ _ _ _ _ _ _ _ _ _ _ _ _ _ _ _ _ _ _ _ _ _ _ _ _ _ _ _ _ _ _ _ _ _ _ _ _ _ _ _ _ _ _ _ _ _ _ _ _ _ _ _ _ _ _ _ _ _ _ _ _ _ _ _ _ _ _ _ _ _ _ _ _ _ _ _ _ _ _ (hide ?_)
                    intro v153 v154 v155 v156 v157 v158 v159 v160 v161 v162 v163 v164 v165 v166 v167 v168 v169 v170 v171 v172 v173 v174 v175 v176 v177 v178 v179 v180 v181 v182 v183 v184 v185 v186 v187 v188 v189
                    have hS1 : bS ≠ w4.heap.size := Nat.ne_of_lt (block_lt g0)
                    obtain ⟨xa0, hxa⟩ : ∃ xa : Av, xa = ⟨⟨#[]⟩, s.name, s.low + r, s.code, s.town⟩ := ⟨_, rfl⟩
                    have BW := hide A5.out.below
                    have b5 : Below w4.heap.size w4 (w4.alloc (.cells #[.string ⟨#[]⟩, .string s.name, .int .i64 (s.low + r), .string s.code, .string s.town] 24)).drew := (balloc (Below.refl _ _) _).drew
                    have AX0 := hide (show AB xa0 w4 (w4.alloc (.cells #[.string ⟨#[]⟩, .string s.name, .int .i64 (s.low + r), .string s.code, .string s.town] 24)).drew from by
                      subst hxa
                      exact (AB.new ⟨⟨#[]⟩, s.name, s.low + r, s.code, s.town⟩ w4).later (Below.refl _ _).drew)
                    have H4 := H5
                    have HX := hide (H5.out.keep (Keeps.of_below b5))
                    have p3 := cell_later b5 g3
                    have B5 := hide b5
                    have hxs : xa0.street = s.name := by rw [hxa]
                    have HX0 := hide (show xa0.code = s.code ∧ xa0.town = s.town ∧ xa0.number = s.low + r from by rw [hxa]; exact ⟨rfl, rfl, rfl⟩)
                    have HXs := hide hxs
                    have HFx := hide (show ∀ x : Av, x.number = s.low + r → fits s x = true from fun x hx => by
                      unfold fits; rw [ho, hx]
                      have := CC.out
                      rw [decide_eq_false (by omega), decide_eq_false (by omega)]; rfl)
                    have hfr : ∀ i, (w4.alloc (.cells #[.string ⟨#[]⟩, .string s.name, .int .i64 (s.low + r), .string s.code, .string s.town] 24)).drew.frozen? ⟨w4.heap.size, i, none⟩ = false := fun i => by
                      show (w4.alloc (.cells #[.string ⟨#[]⟩, .string s.name, .int .i64 (s.low + r), .string s.code, .string s.town] 24)).frozen? _ = false
                      simp
                    clear g0 g1 g2 g3 g4 g5 H5 A5 b5 hxs hxa hw1 hw2 hz1 hz2 er hw3 hw4
                    generalize (w4.alloc (.cells #[.string ⟨#[]⟩, .string s.name, .int .i64 (s.low + r), .string s.code, .string s.town] 24)).drew = w5 at *
                    obtain ⟨bt, eb, hb01⟩ : ∃ bt : Int, al.tmod 2 = bt ∧ (bt = 0 ∨ bt = 1) := by
                      have h6 := Int.emod_nonneg al (show (2 : Int) ≠ 0 by omega)
                      have h7 := Int.emod_lt_of_pos al (show (0 : Int) < 2 by omega)
                      exact ⟨_, rfl, by rw [Int.tmod_eq_emod_of_nonneg r2.1]; omega⟩
                    have hwb : IntKind.u8.wrap bt = bt := IntWalk.u8_in _ (by omega)
                    by_cases hch : 0 < s.al.length ∧ bt = 1
                    · obtain ⟨hpos, hb1⟩ := hch
                      have hposI : (0 : Int) < (s.al.length : Int) := by omega
                      have hbt : (bt == 1) = true := by rw [hb1]; rfl
                      have Hb1 := hide hb1
                      clear hb1 hb01
                      obtain ⟨j, hj, ej⟩ : ∃ j : Nat, j < s.al.length ∧ al.tmod (s.al.length : Int) = (j : Int) := by
                        have h6 := Int.emod_nonneg al (show ((s.al.length : Int)) ≠ 0 by omega)
                        have h7 := Int.emod_lt_of_pos al hposI
                        exact ⟨(al % (s.al.length : Int)).toNat, by omega, by rw [Int.tmod_eq_emod_of_nonneg r2.1]; omega⟩
                      have hj64 : IntKind.i64.wrap (j : Int) = j := IntWalk.i64_in _ (by have := ((okS_iff s).1 hok).2.2.2.1; omega)
                      have hjz : ((s.al.length : Int) == 0) = false := by rw [beq_eq_false_iff_ne]; omega
                      have hjz2 : ¬ ((s.al.length : Int) = 0) := by omega
                      have hjl : (j : Int) < (s.al.length : Int) := by omega
                      have hjl0 : (0 : Int) ≤ (j : Int) := by omega
                      obtain ⟨bj, oj, y, hap, hy, hcy4⟩ := gal.out.at_ hj
                      have hcy := cell_later B5.out hcy4
                      have hS2 : bj ≠ w4.heap.size := Nat.ne_of_lt (block_lt hcy4)
                      rw [hap] at p3
                      clear hap
                      obtain ⟨_, hltX, x0, x1, x2, x3, x4⟩ := AX0.out
                      go_wp2_with fail
                      refine ex_reg21 _ n cap bS oS k bj oj j s.al.length s.ac w4.heap.size al y xa0.street w5 hk hj ⟨p3, hcy⟩ x1 (hfr 1) hS1 hS2 e2 hjz hjz2 ej hj64 _ _ _ _ _ _ _ _ _ _ _ _ _ _ _ _ _ _ _ _ _ _ _ _ _ _ _ _ _ _ _ _ _ _ _ _ _ _ _ _ _ _ _ _ _ _ _ _ _ _ _ _ _ _ _ _ _ _ _ _ _ _ _ _ _ _ _ _ _ _ _ _ _ _ _ _ _ _ _ _ _ _ _ _ _ _ _ _ _ _ _ _ _ _ _ _ _ _ _ _ _ _ _ _ _ _ _ _ _ _ _ _ _ _ _ _ _ _ _ _ _ _ _ _ _ _ _ _ _ _ _ _ _ _ _ _ _ _ _ _ _ _ _ _ _ _ _ _ _ _ _ _ _ _ _ _ _ _ _ _ _ _ _ _ _ _ _ _ _ _ _ _ _ _ _ _ _ _ _ _ _ _ _ _ _ _ _ _ _ _ _ _ _ _ _ _ _ _ _ _ _ _ _ _ _ _ _ _ _ _ _ _ _ _ _ _ _ _ _ _ _ _ _ _ _ _ _ _ _ _ _ _ _ _ _ _ _ _ _ _ _ _ (hide ?_)
                      intro v202 v203 v204 v205 v206 v207 v208 v209 v210 v211 v212 v213 v214 v215 v216 v217 v218
                      have b6 : Below w4.heap.size w4 (w5.setCell ⟨w4.heap.size, 1, none⟩ (.string y)).drew := (B5.out.setCell (p := ⟨w4.heap.size, 1, none⟩) (Nat.le_refl _) (.string y)).drew
                      obtain ⟨xa, hxa⟩ : ∃ xa : Av, xa = ⟨xa0.person, y, xa0.number, xa0.code, xa0.town⟩ := ⟨_, rfl⟩
                      have AX := hide (show AB xa w4 (w5.setCell ⟨w4.heap.size, 1, none⟩ (.string y)).drew from by
                        subst hxa
                        exact (AX0.out.street y).later (Below.refl _ _).drew)
                      have HX1 := hide (H4.out.keep (Keeps.of_below b6))
                      have HXc := hide (show costP s xa = some 0 from by
                        subst hxa
                        exact cost_exact hok (.inr (List.mem_of_getElem? hy)) HX0.out.1 HX0.out.2.1)
                      have hfx := hide (show fits s xa = true from HFx.out xa (by rw [hxa]; exact HX0.out.2.2))
                      clear hxa hy hcy hltX x0 x1 x2 x3 x4 AX0 HX b6 B5 hfr gal p3 HX0 HXs ej hj64 hjz hjz2 hjl hjl0
                      generalize (w5.setCell ⟨w4.heap.size, 1, none⟩ (.string y)).drew = w6 at *
                      have HX := HX1
                      clear HX1
                      obtain ⟨_, hltA, a0, a1, a2, a3, a4⟩ := AX.out
                      go_wp2_with (go_at_call 19; refine Stop.out ?_)
                      refine Stop.go (candS_c (some ⟨bS, oS, none⟩) n cap l xa m _ _ HN.out (by omega) HX.out Hal.out (by omega) (by omega) ?_)
                      intro qd cd D w7 hb hD hDl hDD
                      have A7 := hide (AX.out.later hb)
                      have D7 := hide hD
                      have HD := hide hDD
                      clear hb hD hDD a0 a1 a2 a3 a4 hltA AX HX
                      have Hin := hide (show ∃ (j : Nat) (y : Cnd), D[j]? = some y ∧ y.i = k from exact_in HD.out HSk.out HXc.out hfx.out (by omega))
                      go_wp2_with fail
                      go_loopw [21] (fun i wr => ∃ j : Nat, j ≤ D.length ∧ i = .int .i64 j ∧ Hid (∀ t y, t < j → D[t]? = some y → y.i ≠ k) ∧ wr = w7) (fun i _ => D.length - (intOf i).toNat)
                      case atStart => exact ⟨0, Nat.zero_le _, rfl, hide (fun t y h => by omega), rfl⟩
                      case round =>
                        obtain ⟨j, hj, rfl, hno, rfl⟩ := hrel
                        by_cases hlt : j < D.length
                        · obtain ⟨bD, oD, y, rfl, hy, hc0, hc1, hc2⟩ := D7.out.at_ hlt
                          have Hy := hide hy
                          clear hy
                          by_cases hyk : y.i = k
                          · have hyc := exact_cost HD.out HSk.out HXc.out Hy.out hyk
                            have ht : ((y.i : Int) == (k : Int)) = true := by rw [hyk]; simp
                            rw [hyc] at hc2
                            clear hyk hyc
                            go_wp2
                            exact HR.out _ (bseq BW.out A7.out.below)
                          · have ht : ((y.i : Int) == (k : Int)) = false := by rw [beq_eq_false_iff_ne]; omega
                            have hno2 := hide (show ∀ t z, t < j + 1 → D[t]? = some z → z.i ≠ k from fun t z h1 h2 => by
                              rcases Nat.lt_or_ge t j with h3 | h3
                              · exact hno.out t z h3 h2
                              · obtain rfl : t = j := by omega
                                rw [Hy.out] at h2; injection h2 with h2; subst h2; exact hyk)
                            clear hyk
                            go_wp2
                            go_roundw
                            case rel => exact ⟨j + 1, by omega, by go_num, hno2, by first | trivial | rfl⟩
                            case measure => simp [intOf]; omega
                        · exfalso
                          obtain ⟨t, y, h1, h2⟩ := Hin.out
                          exact hno.out t y (by have := (List.getElem?_eq_some_iff.1 h1).1; omega) h1 h2
                    · have HXc := hide (show costP s xa0 = some 0 from cost_exact hok (.inl HXs.out) HX0.out.1 HX0.out.2.1)
                      have hfx := hide (show fits s xa0 = true from HFx.out xa0 HX0.out.2.2)
                      have AX := AX0
                      clear AX0 HX0 HXs hfr gal B5
                      generalize xa0 = xa at *
                      by_cases hpos : (0 : Int) < (s.al.length : Int)
                      · have hbt : (bt == 1) = false := by
                          rw [beq_eq_false_iff_ne]; intro e; exact hch ⟨by omega, e⟩
                        clear hch hb01
                        obtain ⟨_, hltA, a0, a1, a2, a3, a4⟩ := AX.out
                        go_wp2_with (go_at_call 19; refine Stop.out ?_)
                        refine Stop.go (candS_c (some ⟨bS, oS, none⟩) n cap l xa m _ _ HN.out (by omega) HX.out Hal.out (by omega) (by omega) ?_)
                        intro qd cd D w7 hb hD hDl hDD
                        have A7 := hide (AX.out.later hb)
                        have D7 := hide hD
                        have HD := hide hDD
                        clear hb hD hDD a0 a1 a2 a3 a4 hltA AX HX
                        have Hin := hide (show ∃ (j : Nat) (y : Cnd), D[j]? = some y ∧ y.i = k from exact_in HD.out HSk.out HXc.out hfx.out (by omega))
                        go_wp2_with fail
                        go_loopw [21] (fun i wr => ∃ j : Nat, j ≤ D.length ∧ i = .int .i64 j ∧ Hid (∀ t y, t < j → D[t]? = some y → y.i ≠ k) ∧ wr = w7) (fun i _ => D.length - (intOf i).toNat)
                        case atStart => exact ⟨0, Nat.zero_le _, rfl, hide (fun t y h => by omega), rfl⟩
                        case round =>
                          obtain ⟨j, hj, rfl, hno, rfl⟩ := hrel
                          by_cases hlt : j < D.length
                          · obtain ⟨bD, oD, y, rfl, hy, hc0, hc1, hc2⟩ := D7.out.at_ hlt
                            have Hy := hide hy
                            clear hy
                            by_cases hyk : y.i = k
                            · have hyc := exact_cost HD.out HSk.out HXc.out Hy.out hyk
                              have ht : ((y.i : Int) == (k : Int)) = true := by rw [hyk]; simp
                              rw [hyc] at hc2
                              clear hyk hyc
                              go_wp2
                              exact HR.out _ (bseq BW.out A7.out.below)
                            · have ht : ((y.i : Int) == (k : Int)) = false := by rw [beq_eq_false_iff_ne]; omega
                              have hno2 := hide (show ∀ t z, t < j + 1 → D[t]? = some z → z.i ≠ k from fun t z h1 h2 => by
                                rcases Nat.lt_or_ge t j with h3 | h3
                                · exact hno.out t z h3 h2
                                · obtain rfl : t = j := by omega
                                  rw [Hy.out] at h2; injection h2 with h2; subst h2; exact hyk)
                              clear hyk
                              go_wp2
                              go_roundw
                              case rel => exact ⟨j + 1, by omega, by go_num, hno2, by first | trivial | rfl⟩
                              case measure => simp [intOf]; omega
                          · exfalso
                            obtain ⟨t, y, h1, h2⟩ := Hin.out
                            exact hno.out t y (by have := (List.getElem?_eq_some_iff.1 h1).1; omega) h1 h2
                      · clear hch hb01
                        obtain ⟨_, hltA, a0, a1, a2, a3, a4⟩ := AX.out
                        go_wp2_with (go_at_call 19; refine Stop.out ?_)
                        refine Stop.go (candS_c (some ⟨bS, oS, none⟩) n cap l xa m _ _ HN.out (by omega) HX.out Hal.out (by omega) (by omega) ?_)
                        intro qd cd D w7 hb hD hDl hDD
                        have A7 := hide (AX.out.later hb)
                        have D7 := hide hD
                        have HD := hide hDD
                        clear hb hD hDD a0 a1 a2 a3 a4 hltA AX HX
                        have Hin := hide (show ∃ (j : Nat) (y : Cnd), D[j]? = some y ∧ y.i = k from exact_in HD.out HSk.out HXc.out hfx.out (by omega))
                        go_wp2_with fail
                        go_loopw [21] (fun i wr => ∃ j : Nat, j ≤ D.length ∧ i = .int .i64 j ∧ Hid (∀ t y, t < j → D[t]? = some y → y.i ≠ k) ∧ wr = w7) (fun i _ => D.length - (intOf i).toNat)
                        case atStart => exact ⟨0, Nat.zero_le _, rfl, hide (fun t y h => by omega), rfl⟩
                        case round =>
                          obtain ⟨j, hj, rfl, hno, rfl⟩ := hrel
                          by_cases hlt : j < D.length
                          · obtain ⟨bD, oD, y, rfl, hy, hc0, hc1, hc2⟩ := D7.out.at_ hlt
                            have Hy := hide hy
                            clear hy
                            by_cases hyk : y.i = k
                            · have hyc := exact_cost HD.out HSk.out HXc.out Hy.out hyk
                              have ht : ((y.i : Int) == (k : Int)) = true := by rw [hyk]; simp
                              rw [hyc] at hc2
                              clear hyk hyc
                              go_wp2
                              exact HR.out _ (bseq BW.out A7.out.below)
                            · have ht : ((y.i : Int) == (k : Int)) = false := by rw [beq_eq_false_iff_ne]; omega
                              have hno2 := hide (show ∀ t z, t < j + 1 → D[t]? = some z → z.i ≠ k from fun t z h1 h2 => by
                                rcases Nat.lt_or_ge t j with h3 | h3
                                · exact hno.out t z h3 h2
                                · obtain rfl : t = j := by omega
                                  rw [Hy.out] at h2; injection h2 with h2; subst h2; exact hyk)
                              clear hyk
                              go_wp2
                              go_roundw
                              case rel => exact ⟨j + 1, by omega, by go_num, hno2, by first | trivial | rfl⟩
                              case measure => simp [intOf]; omega
                          · exfalso
                            obtain ⟨t, y, h1, h2⟩ := Hin.out
                            exact hno.out t y (by have := (List.getElem?_eq_some_iff.1 h1).1; omega) h1 h2

set_option maxRecDepth 100000 in
theorem exact_holds_lifted (os : Os) (started : os.Started) (H : Type) (enc : TypeId × Value → H) :
    ReturnsInHanded {} Try.checked os 8 .any (Rows.matchExactSpec.pre6 enc Try.prog Try.f8 Rows.matchExactRow.domain false) (Rows.matchExactSpec.post enc Try.prog Try.f8 false true false false) := by
  refine returnsInHanded_of_change (C := Try.checked) Try.own started (by kernel_rfl) Try.func8
    (ChangeSpec.witness6 (enc := enc) (C := Try.checked) false ⟨#[], #[.slice none 0 0, .agg #[.string ⟨#[]⟩, .string ⟨#[]⟩, .int .i64 0, .string ⟨#[]⟩, .string ⟨#[]⟩], .int .u8 0, .int .u8 0, .int .u8 0, .int .u8 0], []⟩ 8 (by kernel_rfl) (by kernel_rfl) (by kernel_rfl) (by kernel_rfl)) ?_
  intro W base args ds gs before hval0 hW hcnd _
  have hval : ∀ (j : Nat) t v, Try.f8.params[j]? = some t → args[j]? = some v → Value.okWide Try.prog W .any base t v := hval0
  have hW' := hW
  obtain ⟨p, q, hA0, hV, rfl, hfz, hnd⟩ := hW
  have hA : DataW.TrodAll enc Try.prog W 0 (fun _ => true) true Try.f8.params.toList args.toList ds p := hA0
  have hA1 := hA
  rw [Try.params8] at hA hval
  obtain ⟨v0, vs0, d0, ds0, p0, q0, hargs, rfl, rfl, h0, r0⟩ := trodAll_cons hA
  obtain ⟨v1, vs1, d1, ds1, p1, q1, rfl, rfl, rfl, h1, r1⟩ := trodAll_cons r0
  obtain ⟨v2, vs2, d2, ds2, p2, q2, rfl, rfl, rfl, h2, r2⟩ := trodAll_cons r1
  obtain ⟨v3, vs3, d3, ds3, p3, q3, rfl, rfl, rfl, h3, r3⟩ := trodAll_cons r2
  obtain ⟨v4, vs4, d4, ds4, p4, q4, rfl, rfl, rfl, h4, r4⟩ := trodAll_cons r3
  obtain ⟨v5, vs5, d5, ds5, p5, q5, rfl, rfl, rfl, h5, r5⟩ := trodAll_cons r4
  obtain ⟨rfl, rfl, rfl⟩ := trodAll_nil r5
  obtain rfl : args = #[v0, v1, v2, v3, v4, v5] := by cases args; simp_all
  obtain ⟨rfl, rfl⟩ := trodVars_none hV
  obtain ⟨a0, n0, c0, l0, rfl, hl0, hm0, hi0, hz0, hw0⟩ := open_sts (hval 0 22 v0 rfl rfl) h0
  obtain ⟨x1, rfl, hw1⟩ := open_adr (hval 1 24 v1 rfl rfl) h1
  obtain ⟨x2, rfl, _, _, hw2⟩ := open_int Try.underlying5 (hval 2 5 v2 rfl rfl) h2
  obtain ⟨x3, rfl, _, _, hw3⟩ := open_int Try.underlying5 (hval 3 5 v3 rfl rfl) h3
  obtain ⟨x4, rfl, _, _, hw4⟩ := open_int Try.underlying5 (hval 4 5 v4 rfl rfl) h4
  obtain ⟨x5, rfl, _, _, hw5⟩ := open_int Try.underlying5 (hval 5 5 v5 rfl rfl) h5
  refine exact_c a0 n0 c0 l0 x1 x2 x3 x4 x5 W _ hl0 hm0 hi0 hz0 hw0 hw1 hw2 hw3 hw4 hw5 fun W' bel => ?_
  exact ⟨_, rfl, law_post Try.laidOut bel rfl hW' hA1 (by kernel_rfl) rfl Try.underlying4 rfl rfl rfl⟩

theorem exact_holds : Rows.MatchExactSaid :=
  OpenClaim.holds_of_wide 8 Try.f8 rfl rfl rfl rfl rfl rfl rfl ⟨rfl, rfl, rfl, rfl, rfl⟩ rfl rfl rfl rfl rfl (by kernel_rfl) Try.func8 (by kernel_rfl)
    (of_decide_eq_true (by kernel_rfl)) (by unfold Func.isWrapper; rw [if_neg (of_decide_eq_false (by kernel_rfl))]; exact ⟨rfl, rfl⟩)
    (fun os started H enc _ => exact_holds_lifted os started H enc)

end Go.Proofs.Ytkbdkkllfaljlaa
