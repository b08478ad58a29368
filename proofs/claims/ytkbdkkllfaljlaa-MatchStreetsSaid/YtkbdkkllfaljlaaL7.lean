/- MatchLimits: the candidates under the smaller of two limits are the first ones under the greater, namely those whose cost is within the smaller one. Conditions: those that the law tests itself (sizes: 12 streets with 6 aliases each and an address, texts of at most 60 bytes); at any other input the law asks its fixed examples alone. Parts of this text: MatchLimits: a greater limit adds candidates behind. -/
import Derived.Test.YtkbdkkllfaljlaaH
import Derived.Test.YtkbdkkllfaljlaaF2
import Derived.Test.YtkbdkkllfaljlaaQ1
set_option linter.unusedVariables false
set_option linter.unusedSimpArgs false
namespace Go.Proofs.Ytkbdkkllfaljlaa
open Go.ChangeShapes Go.WideShapes Go.ChangeAt Go.RowKit Go.Sort

theorem CndsAt.take {w : World} {p : Option Addr} {l : List Cnd} (h : CndsAt w p l) (j : Nat) : CndsAt w p (l.take j) := fun h0 => by
  obtain ⟨b, o, hp, hc⟩ := h (by rw [List.length_take] at h0; omega)
  refine ⟨b, o, hp, fun i x hx => hc i x ?_⟩
  rw [List.getElem?_take] at hx
  split at hx
  · exact hx
  · cases hx
theorem limit_parts {a : Av} {lo hi : Int} {l : List Sv} {M N : List Cnd} (h : lo ≤ hi) (hM : isCnds a lo l M) (hN : isCnds a hi l N) :
    M.length ≤ N.length ∧ N.take M.length = M ∧ ∀ x, N[M.length]? = some x → lo < x.cost := by
  have e1 := isCnds.low h hM hN
  have e2 := filter_split hN.2 lo
  rw [← e1] at e2
  refine ⟨?_, ?_, fun x hx => ?_⟩
  · rw [e2, List.length_append]; omega
  · rw [e2, List.take_left']; rfl
  · rw [e2, List.getElem?_append_right (Nat.le_refl _)] at hx
    have := List.mem_of_getElem? hx
    rw [List.mem_filter] at this
    simpa using this.2
theorem tmod7 (x : Int) (h : (Lit.int .u8 x).wf = true) : ∃ m : Nat, m ≤ 6 ∧ x.tmod 7 = (m : Int) := by
  have h0 : 0 ≤ x := by
    simp [Lit.wf, show IntKind.min .u8 = 0 from rfl, show IntKind.max .u8 = 255 from rfl] at h; omega
  refine ⟨(x.tmod 7).toNat, ?_, ?_⟩
  · rw [Int.tmod_eq_emod_of_nonneg h0]; omega
  · rw [Int.tmod_eq_emod_of_nonneg h0]; omega
theorem own_cap {w : World} {base e size n cap : Nat} {q : Option Addr} {xs : List Value} (h : w.ownsRow base e size (.slice q n cap) n xs) : n ≤ cap := by
  rcases h.2 with ⟨hv, h0⟩ | ⟨g, cap', cur, hv, _, _, hnc, _⟩
  · omega
  · injection hv with h1 h2 h3; omega
theorem candC_c (p : Option Addr) (n cap : Nat) (l : List Sv) (a : Av) (most : Int) (w : World) (R) (hn : l.length = n) (hl : n ≤ 100000) (h : StsAt w p l) (hal' : ∀ s ∈ l, s.al.length ≤ 100000) (h0 : 0 ≤ most) (h6 : most ≤ 6)
    (hR : ∀ q c M w', Below w.heap.size w w' → CndsAt w' q M → M.length ≤ n → M.length ≤ c → isCnds a most l M → R (.returned (.slice q M.length c)) w') :
    Calls Try.prog 19 #[.slice p n cap, .agg a.cells.toArray, .int .i64 most] w R := by
  refine candidates_c p n cap l a most w R hn hl h hal' (wf_i64.2 (by omega)) fun q c M w' hb ho _ h2 => ?_
  have h3 := h2 ⟨h0, h6⟩
  exact hR q c M w' hb (CndsAt.of_own ho) (by rw [h3.1.length_eq]; have := found_len a most l 0; omega) (own_cap ho) h3
set_option maxRecDepth 100000 in
set_option maxHeartbeats 4000000 in
theorem limits_c (p : Option Addr) (n cap : Nat) (l : List Sv) (a : Av) (x y : Int) (w : World) (R) (hn : l.length = n) (hl : n ≤ maxLen) (h : StsAt w p l) (hz : p = none → n = 0) (hw : ∀ s ∈ l, SWf s) (ha : AWf a) (hx : (Lit.int .u8 x).wf = true) (hy : (Lit.int .u8 y).wf = true)
    (hR : ∀ w', Below w.heap.size w w' → R (.returned (.bool true)) w') : Calls Try.prog 9 #[.slice p n cap, .agg a.cells.toArray, .int .u8 x, .int .u8 y] w R := by
  have HR := hide hR; clear hR
  have A0 := hide (AB.new a w)
  unfold Av.cells at *
  go_enter Try.func9, Try.ntmps9
  go_wp2_with (go_at_call 11; refine Stop.out ?_)
  refine Stop.go (head_c _ _ ?_)
  intro w1 hb1
  have A := hide (A0.out.later hb1); clear A0 hb1
  have H := hide (h.keep (Keeps.of_below A.out.below))
  clear h
  cases hf : fewS l with
  | false =>
    go_wp2_with (go_at_call 12; refine few_c p n cap l _ _ hn hl H.out ?_; rw [hf])
    exact HR.out _ A.out.below
  | true =>
    obtain ⟨_, _, a0, a1, a2, a3, a4⟩ := A.out
    obtain ⟨hn12, hfa⟩ := few_le hf
    have hnn : n ≤ 12 := by omega
    go_wp2_with (first | (go_at_call 12; refine few_c p n cap l _ _ hn hl H.out ?_; rw [hf]) | (go_at_call 13; refine Stop.out ?_))
    refine Stop.go (short_c a _ _ ?_)
    intro w2 hb
    replace A := hide (A.out.later hb)
    replace H := hide (H.out.keep (Keeps.of_below hb))
    clear hb a0 a1 a2 a3 a4
    obtain ⟨_, hlt2, a0, a1, a2, a3, a4⟩ := A.out
    cases hs : shortA a with
    | false =>
      go_wp2
      exact HR.out _ A.out.below
    | true =>
      have Hal := hide (fun s (hs : s ∈ l) => (hfa s hs).1)
      have HN := hide hn
      clear hn12 hfa hs hf hn
      obtain ⟨mx, hmx, ex⟩ := tmod7 x hx
      obtain ⟨my, hmy, ey⟩ := tmod7 y hy
      have hx64 : IntKind.i64.wrap x = x := by
        simp [Lit.wf, show IntKind.min .u8 = 0 from rfl, show IntKind.max .u8 = 255 from rfl] at hx
        exact IntWalk.i64_in _ (by omega)
      have hy64 : IntKind.i64.wrap y = y := by
        simp [Lit.wf, show IntKind.min .u8 = 0 from rfl, show IntKind.max .u8 = 255 from rfl] at hy
        exact IntWalk.i64_in _ (by omega)
      have hxm : IntKind.i64.wrap (mx : Int) = mx := IntWalk.i64_in _ (by omega)
      have hym : IntKind.i64.wrap (my : Int) = my := IntWalk.i64_in _ (by omega)
      obtain ⟨lo, hlo⟩ : ∃ lo : Int, min (mx : Int) (my : Int) = lo := ⟨_, rfl⟩
      obtain ⟨hi, hhi⟩ : ∃ hi : Int, max (mx : Int) (my : Int) = hi := ⟨_, rfl⟩
      have hlh : lo ≤ hi := by omega
      have hl0 : 0 ≤ lo := by omega
      have hh6 : hi ≤ 6 := by omega
      have Hlo := hide hlo
      have Hhi := hide hhi
      clear hlo hhi
      go_wp2_with (go_at_call 19; refine Stop.out ?_)
      rw [Hlo.out]
      refine Stop.go (candC_c p n cap l a lo _ _ HN.out (by omega) H.out Hal.out hl0 (by omega) ?_)
      intro q c M w3 hb hC hMl hMc hM
      replace A := hide (A.out.later hb)
      replace H := hide (H.out.keep (Keeps.of_below hb))
      have C := hide hC
      have HM := hide hM
      clear hb hC hM a0 a1 a2 a3 a4 hlt2
      obtain ⟨_, hlt3, a0, a1, a2, a3, a4⟩ := A.out
      go_wp2_with (go_at_call 19; refine Stop.out ?_)
      rw [Hhi.out]
      refine Stop.go (candC_c p n cap l a hi _ _ HN.out (by omega) H.out Hal.out (by omega) hh6 ?_)
      intro q' c' N w4 hb hD hNl hNc hN
      have B := hide (bseq A.out.below hb)
      replace C := hide (C.out.keep (Keeps.of_below hb))
      have D := hide hD
      obtain ⟨hle, htk, hnx⟩ := limit_parts hlh HM.out hN
      have Htk := hide htk
      have Hnx := hide hnx
      clear hb hD hN htk hnx a0 a1 a2 a3 a4 hlt3 A H HM Hal Hlo Hhi hlh hl0 hh6
      have hle' : ¬ (N.length : Int) < (M.length : Int) := by omega
      have hsl : Sem.run Try.prog (Instr.slice 31 (.slice q' N.length c') none (some (.int .i64 (M.length : Int))) none) w4 = .ok (.slice q' M.length c') w4 := run_slice_to w4 31 47 Try.underlying31 (info_parts Try.info47).choose (info_parts Try.info47).choose_spec.1 q' N.length c' M.length (by omega)
      go_wp2_with (go_at_call 18; refine Stop.out ?_)
      refine Stop.go (same_c q q' M.length M.length c c' M (N.take M.length) _ _ rfl (by rw [List.length_take]; omega) (by omega) (by omega) C.out (D.out.take _) ?_)
      intro w5 hd
      rw [decide_eq_true Htk.out.symm]
      replace B := hide (B.out.trans hd.below)
      replace D := hide (D.out.keep hd.keeps)
      clear hd hsl C
      by_cases hln : M.length = N.length
      · have hln' : ((M.length : Int) == (N.length : Int)) = true := by rw [hln]; simp
        have Hln := hide hln
        clear hln
        go_wp2
        exact HR.out _ B.out
      · have hln' : ((M.length : Int) == (N.length : Int)) = false := by
          rw [beq_eq_false_iff_ne]; omega
        obtain ⟨b, o, z, rfl, hz', hc0, hc1, hc2⟩ := D.out.at_ (i := M.length) (by omega)
        have hzc := Hnx.out z hz'
        have hltn : M.length < N.length := by omega
        clear hz'
        have Hln := hide hln
        clear hln
        go_wp2
        exact HR.out _ B.out

set_option maxRecDepth 100000 in
theorem limits_holds_lifted (os : Os) (started : os.Started) (H : Type) (enc : TypeId × Value → H) :
    ReturnsInHanded {} Try.checked os 9 .any (Rows.matchLimitsSpec.pre6 enc Try.prog Try.f9 Rows.matchLimitsRow.domain false) (Rows.matchLimitsSpec.post enc Try.prog Try.f9 false true false false) := by
  refine returnsInHanded_of_change (C := Try.checked) Try.own started (by kernel_rfl) Try.func9
    (ChangeSpec.witness6 (enc := enc) (C := Try.checked) false ⟨#[], #[.slice none 0 0, .agg #[.string ⟨#[]⟩, .string ⟨#[]⟩, .int .i64 0, .string ⟨#[]⟩, .string ⟨#[]⟩], .int .u8 0, .int .u8 0], []⟩ 8 (by kernel_rfl) (by kernel_rfl) (by kernel_rfl) (by kernel_rfl)) ?_
  intro W base args ds gs before hval0 hW hcnd _
  have hval : ∀ (j : Nat) t v, Try.f9.params[j]? = some t → args[j]? = some v → Value.okWide Try.prog W .any base t v := hval0
  have hW' := hW
  obtain ⟨p, q, hA0, hV, rfl, hfz, hnd⟩ := hW
  have hA : DataW.TrodAll enc Try.prog W 0 (fun _ => true) true Try.f9.params.toList args.toList ds p := hA0
  have hA1 := hA
  rw [Try.params9] at hA hval
  obtain ⟨v0, vs0, d0, ds0, p0, q0, hargs, rfl, rfl, h0, r0⟩ := trodAll_cons hA
  obtain ⟨v1, vs1, d1, ds1, p1, q1, rfl, rfl, rfl, h1, r1⟩ := trodAll_cons r0
  obtain ⟨v2, vs2, d2, ds2, p2, q2, rfl, rfl, rfl, h2, r2⟩ := trodAll_cons r1
  obtain ⟨v3, vs3, d3, ds3, p3, q3, rfl, rfl, rfl, h3, r3⟩ := trodAll_cons r2
  obtain ⟨rfl, rfl, rfl⟩ := trodAll_nil r3
  obtain rfl : args = #[v0, v1, v2, v3] := by cases args; simp_all
  obtain ⟨rfl, rfl⟩ := trodVars_none hV
  obtain ⟨a0, n0, c0, l0, rfl, hl0, hm0, hi0, hz0, hw0⟩ := open_sts (hval 0 22 v0 rfl rfl) h0
  obtain ⟨x1, rfl, hw1⟩ := open_adr (hval 1 24 v1 rfl rfl) h1
  obtain ⟨x2, rfl, _, _, hw2⟩ := open_int Try.underlying5 (hval 2 5 v2 rfl rfl) h2
  obtain ⟨x3, rfl, _, _, hw3⟩ := open_int Try.underlying5 (hval 3 5 v3 rfl rfl) h3
  refine limits_c a0 n0 c0 l0 x1 x2 x3 W _ hl0 hm0 hi0 hz0 hw0 hw1 hw2 hw3 fun W' bel => ?_
  exact ⟨_, rfl, law_post Try.laidOut bel rfl hW' hA1 (by kernel_rfl) rfl Try.underlying4 rfl rfl rfl⟩

theorem limits_holds : Rows.MatchLimitsSaid :=
  OpenClaim.holds_of_wide 9 Try.f9 rfl rfl rfl rfl rfl rfl rfl ⟨rfl, rfl, rfl, rfl, rfl⟩ rfl rfl rfl rfl rfl (by kernel_rfl) Try.func9 (by kernel_rfl)
    (of_decide_eq_true (by kernel_rfl)) (by unfold Func.isWrapper; rw [if_neg (of_decide_eq_false (by kernel_rfl))]; exact ⟨rfl, rfl⟩)
    (fun os started H enc _ => limits_holds_lifted os started H enc)

end Go.Proofs.Ytkbdkkllfaljlaa
