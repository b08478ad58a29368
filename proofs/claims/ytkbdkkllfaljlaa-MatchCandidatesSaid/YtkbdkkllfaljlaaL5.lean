/- MatchCandidates: the candidates are open streets that have the house number, at costs from 0 to the limit, ordered by cost and street, none twice, and their house numbers are those of the opening. Conditions: those that the law tests itself (sizes: 12 streets with 6 aliases each and an address, texts of at most 60 bytes); at any other input the law asks its fixed examples alone. -/
import Derived.Test.YtkbdkkllfaljlaaH
import Derived.Test.YtkbdkkllfaljlaaF2
import Derived.Test.YtkbdkkllfaljlaaQ1
set_option linter.unusedVariables false
set_option linter.unusedSimpArgs false
namespace Go.Proofs.Ytkbdkkllfaljlaa
open Go.ChangeShapes Go.WideShapes Go.ChangeAt Go.RowKit Go.Sort

theorem wrap_back (n s : Int) (h : (Lit.int .i64 n).wf = true) : IntKind.i64.wrap (wrap64 (n - s) + s) = n := by
  rw [wf_i64] at h
  rw [IntWalk.i64_left]
  unfold wrap64; omega
set_option maxRecDepth 100000 in
set_option maxHeartbeats 4000000 in
theorem cands_c (p : Option Addr) (n cap : Nat) (l : List Sv) (a : Av) (most : Int) (w : World) (R) (hn : l.length = n) (hl : n ≤ maxLen) (h : StsAt w p l) (hz : p = none → n = 0) (hw : ∀ s ∈ l, SWf s) (ha : AWf a) (hm : (Lit.int .i64 most).wf = true)
    (hR : ∀ w', Below w.heap.size w w' → R (.returned (.bool true)) w') : Calls Try.prog 7 #[.slice p n cap, .agg a.cells.toArray, .int .i64 most] w R := by
  have HR := hide hR; clear hR
  have A0 := hide (AB.new a w)
  unfold Av.cells at *
  go_enter Try.func7, Try.ntmps7
  go_wp2_with (go_at_call 11; refine Stop.out ?_)
  refine Stop.go (head_c _ _ ?_)
  intro w1 hb1
  have A := hide (A0.out.later hb1); clear A0 hb1
  have H := hide (h.keep (Keeps.of_below A.out.below))
  clear h
  cases hf : fewS l with
  | false =>
    go_wp2_with (go_at_call 12; refine few_c p n cap l _ _ hn hl H.out ?_; rw [hf])
    exact HR.out _ A.out.below
  | true =>
    obtain ⟨_, _, a0, a1, a2, a3, a4⟩ := A.out
    obtain ⟨hn12, hfa⟩ := few_le hf
    have hnn : n ≤ 12 := by omega
    go_wp2_with (first | (go_at_call 12; refine few_c p n cap l _ _ hn hl H.out ?_; rw [hf]) | (go_at_call 13; refine Stop.out ?_))
    refine Stop.go (short_c a _ _ ?_)
    intro w2 hb
    replace A := hide (A.out.later hb)
    replace H := hide (H.out.keep (Keeps.of_below hb))
    clear hb a0 a1 a2 a3 a4
    obtain ⟨_, hlt2, a0, a1, a2, a3, a4⟩ := A.out
    cases hs : shortA a with
    | false =>
      go_wp2
      exact HR.out _ A.out.below
    | true =>
      have Hal := hide (fun s (hs : s ∈ l) => (hfa s hs).1)
      have HN := hide hn
      clear hn12 hfa hs hf hn
      go_wp2_with (go_at_call 19; refine Stop.out ?_)
      by_cases hmm : most < 0 ∨ 6 < most
      · refine Stop.go (candidates_c p n cap l a most _ _ HN.out (by omega) H.out Hal.out hm ?_)
        intro q c M w3 hb ho hM _
        obtain rfl := hM hmm
        have B := hide (bseq A.out.below hb)
        clear hb ho
        rcases hmm with hmm | hmm
        · go_wp2
          exact HR.out _ B.out
        · have hm0 : ¬ most < 0 := by omega
          go_wp2
          exact HR.out _ B.out
      · have hm0 : ¬ most < 0 := by omega
        have hm6 : ¬ 6 < most := by omega
        refine Stop.go (candS_c p n cap l a most _ _ HN.out (by omega) H.out Hal.out (by omega) (by omega) ?_)
        intro q c M w3 hb hC hMl hM
        replace A := hide (A.out.later hb)
        replace H := hide (H.out.keep (Keeps.of_below hb))
        have C := hide hC
        have HM := hide hM
        clear hb hC hM a0 a1 a2 a3 a4 hlt2
        obtain ⟨_, hlt3, a0, a1, a2, a3, a4⟩ := A.out
        go_wp2
        go_loopw [9, 10] (fun i v wr => ∃ k d : Nat, k ≤ M.length ∧ i = .int .i64 k ∧ wr = w3.drewN d) (fun i _ _ => M.length - (intOf i).toNat)
        case atStart => exact ⟨0, 0, Nat.zero_le _, rfl, rfl⟩
        case round =>
          obtain ⟨k, d, hk, rfl, rfl⟩ := hrel
          by_cases hlt : k < M.length
          · obtain ⟨bM, oM, x, rfl, hx, hc0, hc1, hc2⟩ := C.out.at_ hlt
            obtain ⟨s, hs, e1, e2, e3, e4⟩ := (HM.out.mem x).1 (List.mem_of_getElem? hx)
            obtain ⟨bS, oS, rfl, q0, q1, q2, q3, q4, q5, q6, q7, hal⟩ := H.out.at_ hs
            have hi : x.i < n := by rw [← HN.out]; exact (List.getElem?_eq_some_iff.1 hs).1
            have h0 : ¬ (x.i : Int) < 0 := by omega
            have h1 : ¬ (n : Int) ≤ (x.i : Int) := by omega
            unfold fits at e3
            simp only [Bool.and_eq_true, Bool.not_eq_true', decide_eq_false_iff_not] at e3
            obtain ⟨⟨e5, e6⟩, e7⟩ := e3
            rw [e5] at q7
            have hwr : IntKind.i64.wrap (x.num + s.shift) = a.number := by rw [e1]; exact wrap_back _ _ ha
            have hcr := cost_range e2
            have h8 : ¬ x.cost < 0 := by omega
            have h9 : ¬ most < x.cost := by omega
            have Hx := hide hx
            clear hs e1 e2 hx hal
            by_cases hk0 : (0 : Int) < (k : Int)
            · obtain ⟨m, hm1⟩ : ∃ m : Nat, (m : Int) = (k : Int) - 1 := ⟨k - 1, by omega⟩
              have hm2 : m + 1 = k := by omega
              have hml : m < M.length := by omega
              have hw1 : IntKind.i64.wrap ((k : Int) - 1) = (m : Int) := by rw [IntWalk.i64_in _ (by omega), hm1]
              obtain ⟨bM', oM', y, hpe, hy, hd0, hd1, hd2⟩ := C.out.at_ hml
              injection hpe with hpe
              injection hpe with hpe1 hpe2
              subst hpe1; subst hpe2
              obtain ⟨sy, hsy, ey1, ey2, ey3, ey4⟩ := (HM.out.mem y).1 (List.mem_of_getElem? hy)
              have hcy := cost_range ey2
              have hlt2 := List.pairwise_iff_getElem.1 HM.out.2 m k hml hlt (by omega)
              rw [(List.getElem?_eq_some_iff.1 hy).2, (List.getElem?_eq_some_iff.1 Hx.out).2] at hlt2
              unfold LtT Cnd.key Cnd.tag at hlt2
              clear hsy ey1 ey2 ey3 hm1 hy
              have hm1 := hide hm2
              clear hm2
              have hle : decide (x.cost < y.cost) = false := by rw [decide_eq_false_iff_not]; omega
              have hkd : decide (0 < k) = true := by rw [decide_eq_true_eq]; omega
              by_cases hce : y.cost = x.cost
              · have hty : decide (x.i ≤ y.i) = false := by rw [decide_eq_false_iff_not]; omega
                have Hce := hide hce
                have hcb : (y.cost == x.cost) = true := by simpa using hce
                clear hce hlt2
                go_wp2
                go_quiet (fail)
                go_wp2
                go_quiet (fail)
                go_wp2
                go_roundw
                case rel => exact ⟨k + 1, _, by omega, by go_num, (by first | rfl | exact World.drewN_drewN _ _ _)⟩
                case measure => simp [intOf]; omega
              · have hcb : (y.cost == x.cost) = false := by simpa using hce
                have Hce := hide hce
                clear hce hlt2
                go_wp2
                go_quiet (fail)
                go_wp2
                go_quiet (fail)
                go_wp2
                go_roundw
                case rel => exact ⟨k + 1, _, by omega, by go_num, (by first | rfl | exact World.drewN_drewN _ _ _)⟩
                case measure => simp [intOf]; omega
            · have hkd : decide (0 < k) = false := by rw [decide_eq_false_iff_not]; omega
              go_wp2
              go_quiet (fail)
              go_wp2
              go_quiet (fail)
              go_wp2
              go_roundw
              case rel => exact ⟨k + 1, _, by omega, by go_num, (by first | rfl | exact World.drewN_drewN _ _ _)⟩
              case measure => simp [intOf]; omega
          · go_wp2
            exact HR.out _ (below_drewN' A.out.below d)

set_option maxRecDepth 100000 in
theorem candidates_holds_lifted (os : Os) (started : os.Started) (H : Type) (enc : TypeId × Value → H) :
    ReturnsInHanded {} Try.checked os 7 .any (Rows.matchCandidatesSpec.pre6 enc Try.prog Try.f7 Rows.matchCandidatesRow.domain false) (Rows.matchCandidatesSpec.post enc Try.prog Try.f7 false true false false) := by
  refine returnsInHanded_of_change (C := Try.checked) Try.own started (by kernel_rfl) Try.func7
    (ChangeSpec.witness6 (enc := enc) (C := Try.checked) false ⟨#[], #[.slice none 0 0, .agg #[.string ⟨#[]⟩, .string ⟨#[]⟩, .int .i64 0, .string ⟨#[]⟩, .string ⟨#[]⟩], .int .i64 0], []⟩ 8 (by kernel_rfl) (by kernel_rfl) (by kernel_rfl) (by kernel_rfl)) ?_
  intro W base args ds gs before hval0 hW hcnd _
  have hval : ∀ (j : Nat) t v, Try.f7.params[j]? = some t → args[j]? = some v → Value.okWide Try.prog W .any base t v := hval0
  have hW' := hW
  obtain ⟨p, q, hA0, hV, rfl, hfz, hnd⟩ := hW
  have hA : DataW.TrodAll enc Try.prog W 0 (fun _ => true) true Try.f7.params.toList args.toList ds p := hA0
  have hA1 := hA
  rw [Try.params7] at hA hval
  obtain ⟨v0, vs0, d0, ds0, p0, q0, hargs, rfl, rfl, h0, r0⟩ := trodAll_cons hA
  obtain ⟨v1, vs1, d1, ds1, p1, q1, rfl, rfl, rfl, h1, r1⟩ := trodAll_cons r0
  obtain ⟨v2, vs2, d2, ds2, p2, q2, rfl, rfl, rfl, h2, r2⟩ := trodAll_cons r1
  obtain ⟨rfl, rfl, rfl⟩ := trodAll_nil r2
  obtain rfl : args = #[v0, v1, v2] := by cases args; simp_all
  obtain ⟨rfl, rfl⟩ := trodVars_none hV
  obtain ⟨a0, n0, c0, l0, rfl, hl0, hm0, hi0, hz0, hw0⟩ := open_sts (hval 0 22 v0 rfl rfl) h0
  obtain ⟨x1, rfl, hw1⟩ := open_adr (hval 1 24 v1 rfl rfl) h1
  obtain ⟨x2, rfl, _, _, hw2⟩ := open_int Try.underlying3 (hval 2 3 v2 rfl rfl) h2
  refine cands_c a0 n0 c0 l0 x1 x2 W _ hl0 hm0 hi0 hz0 hw0 hw1 hw2 fun W' bel => ?_
  exact ⟨_, rfl, law_post Try.laidOut bel rfl hW' hA1 (by kernel_rfl) rfl Try.underlying4 rfl rfl rfl⟩

theorem candidates_holds : Rows.MatchCandidatesSaid :=
  OpenClaim.holds_of_wide 7 Try.f7 rfl rfl rfl rfl rfl rfl rfl ⟨rfl, rfl, rfl, rfl, rfl⟩ rfl rfl rfl rfl rfl (by kernel_rfl) Try.func7 (by kernel_rfl)
    (of_decide_eq_true (by kernel_rfl)) (by unfold Func.isWrapper; rw [if_neg (of_decide_eq_false (by kernel_rfl))]; exact ⟨rfl, rfl⟩)
    (fun os started H enc _ => candidates_holds_lifted os started H enc)

end Go.Proofs.Ytkbdkkllfaljlaa
