import Derived.Test.YtkbdkkllfaljlaaR6r
set_option linter.unusedVariables false
set_option linter.unusedSimpArgs false
namespace Go.Proofs.Ytkbdkkllfaljlaa
open Go.RowKit Go.Sort

/-! ### the reference: the candidates -/
def ofCost (a : Av) (m : Int) (l : List Sv) (c : Nat) : List Cnd := (found a m 0 l).filter (fun x => x.cost == (c : Int))
def partR (a : Av) (m : Int) (l : List Sv) (c k : Nat) : List Cnd := (List.range c).flatMap (ofCost a m l) ++ ofCost a m (l.take k) c
def refL (a : Av) (m : Nat) (l : List Sv) : List Cnd := (List.range (m + 1)).flatMap (ofCost a m l)
theorem partR_zero (a : Av) (m : Int) (l : List Sv) (c : Nat) : partR a m l c 0 = (List.range c).flatMap (ofCost a m l) := by unfold partR ofCost; simp [found]
theorem partR_next (a : Av) (m : Int) (l : List Sv) (c k : Nat) (h : l.length ≤ k) : partR a m l c k = partR a m l (c + 1) 0 := by
  rw [partR_zero]
  unfold partR
  rw [List.take_of_length_le h, List.range_succ, List.flatMap_append]; simp
theorem partR_step {a : Av} {m : Int} {l : List Sv} {c k : Nat} {s : Sv} (h : l[k]? = some s) : partR a m l c (k + 1) = partR a m l c k ++ (one a m k s).filter (fun x => x.cost == (c : Int)) := by
  have hk := (List.getElem?_eq_some_iff.1 h).1
  unfold partR ofCost
  rw [List.take_add_one, h, show (l.take k ++ (some s).toList) = l.take k ++ [s] from rfl, found_snoc, List.filter_append, List.length_take, Nat.zero_add, show min k l.length = k by omega, List.append_assoc]
theorem one_no {a : Av} {m : Int} {k : Nat} {s : Sv} (h : fits s a = false) : one a m k s = [] := by
  unfold one
  cases costP s a with
  | none => rfl
  | some n => simp [h]
theorem one_yes {a : Av} {m : Int} {k c : Nat} {s : Sv} (h : fits s a = true) (hc : costP s a = some (c : Int)) (hm : (c : Int) ≤ m) : (one a m k s).filter (fun x => x.cost == (c : Int)) = [⟨k, wrap64 (a.number - s.shift), c⟩] := by
  unfold one; rw [hc]; simp [h, hm]
theorem one_other {a : Av} {m : Int} {k c : Nat} {s : Sv} {n : Int} (hc : costP s a = some n) (hn : n ≠ (c : Int)) : (one a m k s).filter (fun x => x.cost == (c : Int)) = [] := by
  rw [List.filter_eq_nil_iff]
  intro x hx
  have := (mem_one.1 hx).2.2.1
  rw [hc] at this
  injection this with this
  rw [← this]; simpa using hn
theorem cost_flat (M : List Cnd) (h : Srt Cnd.key Cnd.tag M) (h0 : ∀ x ∈ M, 0 ≤ x.cost) : ∀ n : Nat, M.filter (fun x => decide (x.cost ≤ (n : Int))) = (List.range (n + 1)).flatMap (fun (c : Nat) => M.filter (fun x => x.cost == (c : Int)))
  | 0 => by
    rw [List.range_one]
    simp only [List.flatMap_cons, List.flatMap_nil, List.append_nil]
    apply List.filter_congr
    intro x hx
    have := h0 x hx
    rw [Bool.eq_iff_iff]; simp; omega
  | n + 1 => by
    rw [List.range_succ, List.flatMap_append, ← cost_flat M h h0 n]
    have e := filter_split (Srt.filter h (fun x => decide (x.cost ≤ ((n + 1 : Nat) : Int)))) (n : Int)
    rw [e, List.filter_filter, List.filter_filter]
    congr 1
    · apply List.filter_congr
      intro x hx
      rw [Bool.eq_iff_iff]; simp; omega
    · simp only [List.flatMap_cons, List.flatMap_nil, List.append_nil]
      apply List.filter_congr
      intro x hx
      rw [Bool.eq_iff_iff]; simp; omega
/-- The candidates are the reference's. -/
theorem refL_eq {a : Av} {m : Nat} {l : List Sv} {M : List Cnd} (hM : isCnds a m l M) : refL a m l = M := by
  have h0 : ∀ x ∈ M, 0 ≤ x.cost := fun x hx => by
    obtain ⟨s, _, _, hc, _⟩ := (hM.mem x).1 hx
    exact (cost_range hc).1
  have h1 : M.filter (fun x => decide (x.cost ≤ (m : Int))) = M := by
    rw [List.filter_eq_self]
    intro x hx
    obtain ⟨s, _, _, _, _, hc⟩ := (hM.mem x).1 hx
    simpa using hc
  rw [← h1, cost_flat M hM.2 h0 m]
  unfold refL
  have key : ofCost a (m : Int) l = fun (c : Nat) => M.filter (fun x => x.cost == (c : Int)) := funext fun c => by
    unfold ofCost
    have hp := (hM.1.filter (fun x => x.cost == (c : Int)))
    refine (srt_eq (Srt.filter hM.2 _) ?_ hp).symm
    have ht := found_tags a (m : Int) l 0
    refine (List.Pairwise.filter _ ht).imp_of_mem ?_
    intro x y hx hy hxy
    have ex := (List.mem_filter.1 hx).2
    have ey := (List.mem_filter.1 hy).2
    simp only [beq_iff_eq] at ex ey
    unfold LtT Cnd.key Cnd.tag
    omega
  rw [key]
set_option maxRecDepth 100000 in
set_option maxHeartbeats 1000000 in
theorem rcands_c (p : Option Addr) (n cap : Nat) (l : List Sv) (a : Av) (m : Nat) (w : World) (R) (hn : l.length = n) (hl : n ≤ 12) (h : StsAt w p l) (hok : Hid (∀ s ∈ l, okS s = true)) (ha : shortA a = true) (hm6 : m ≤ 6)
    (hR : ∀ q c w', Below w.heap.size w w' → CndsAt w' q (refL a m l) → R (.returned (.slice q (refL a m l).length c)) w') :
    Calls Try.prog 20 #[.slice p n cap, .agg a.cells.toArray, .int .i64 (m : Int)] w R := by
  have HR := hide hR; clear hR
  obtain ⟨i0, hi, hz0, hz1, hz2⟩ := info_parts Try.info47
  have A0 := hide (AB.new a w)
  have HN := hide hn
  clear hn
  unfold Av.cells at *
  go_enter Try.func20, Try.ntmps20
  go_wp2
  generalize w.alloc (.cells [.string a.person, .string a.street, .int .i64 a.number, .string a.code, .string a.town].toArray 24) = w1 at *
  go_loopw [7, 8] (fun v c wr => ∃ (cc : Nat) (vp : Option Addr) (vc : Nat), cc ≤ m + 1 ∧ c = .int .i64 cc ∧ v = .slice vp (partR a m l cc 0).length vc ∧ Hid (wr.ownsRow (w.heap.size + 1) 47 3 (.slice vp (partR a m l cc 0).length vc) (partR a m l cc 0).length ((partR a m l cc 0).flatMap Cnd.cells)) ∧ Hid (AB a w wr)) (fun _ c _ => m + 1 - (intOf c).toNat)
  case atStart => exact ⟨0, none, 0, Nat.zero_le _, rfl, rfl, hide (World.ownsRow_nil _ _ _ _), A0⟩
  case round =>
    clear A0
    obtain ⟨cc, vp, vc, hcc, rfl, rfl, P, A⟩ := hrel
    by_cases hcm : cc ≤ m
    · have t1 : (cc : Int) ≤ (m : Int) := by omega
      have t2 : (m : Int) ≤ 6 := by omega
      go_wp2
      go_loopw [7, 9] (fun v i wr => ∃ (k : Nat) (vp : Option Addr) (vc : Nat), k ≤ n ∧ i = .int .i64 k ∧ v = .slice vp (partR a m l cc k).length vc ∧ Hid (wr.ownsRow (w.heap.size + 1) 47 3 (.slice vp (partR a m l cc k).length vc) (partR a m l cc k).length ((partR a m l cc k).flatMap Cnd.cells)) ∧ Hid (AB a w wr)) (fun _ i _ => n - (intOf i).toNat)
      case atStart => exact ⟨0, vp, vc, Nat.zero_le _, rfl, rfl, P, A⟩
      case round =>
        clear P A
        obtain ⟨k, vp, vc, hk, rfl, rfl, P, A⟩ := hrel
        by_cases hlt : k < n
        · obtain ⟨s, hs⟩ : ∃ s, l[k]? = some s := ⟨l[k]'(by rw [HN.out]; exact hlt), List.getElem?_eq_getElem (by rw [HN.out]; exact hlt)⟩
          obtain ⟨bS, oB, rfl, q0, q1, q2, q3, q4, q5, q6, q7, hal⟩ := (h.keep (Keeps.of_below A.out.below)).at_ hs
          have hoks := hok.out s (List.mem_of_getElem? hs)
          have hst := hide (partR_step (a := a) (m := (m : Int)) (c := cc) hs)
          have hcp := hide (costP_small hoks ha)
          obtain ⟨_, hltA, a0, a1, a2, a3, a4⟩ := A.out
          have Hh := hide h
          clear hs h
          have no := hide (show fits s a = false → partR a m l cc (k + 1) = partR a m l cc k from fun hf => by rw [hst.out, one_no hf]; simp)
          cases ho : s.opn with
          | false =>
            rw [ho] at q7
            have e := no.out (by unfold fits; rw [ho]; rfl)
            have E := hide e
            clear e hal
            go_wp2
            go_quiet (fail)
            go_wp2
            go_roundw
            case rel => exact ⟨k + 1, vp, vc, by omega, by go_num, by rw [E.out], by rw [E.out]; exact hide P.out, hide (A.out.later (below_drewN' (Below.refl _ _) _))⟩
            case measure => simp [intOf]; omega
          | true =>
            rw [ho] at q7
            by_cases c1 : s.low ≤ a.number
            · by_cases c2 : a.number ≤ s.high
              · have hfit : fits s a = true := by unfold fits; rw [ho, decide_eq_false (by omega), decide_eq_false (by omega)]; rfl
                have Hfit := hide hfit
                have KX : Ky s a bS oB k w.heap.size wr := ⟨q0, q1, q2, q3, q4, q5, q6, by rw [ho]; exact q7, a0, a1, a2, a3, a4⟩
                have HAL := hide (show ∀ W, Below wr.heap.size wr W → StrsAt W s.ap s.al from fun W hW => hal.keep (Keeps.of_below hW))
                have d1 : decide (s.low ≤ a.number) = true := decide_eq_true c1
                have d2 : decide (a.number ≤ s.high) = true := decide_eq_true c2
                clear hfit no hal
                go_wp2
                refine rc_reg8 _ n cap bS oB k w.heap.size cc s a wr hlt hoks ha HAL KX ho d1 d2 _ _ _ _ _ _ _ _ _ _ _ _ _ _ _ _ _ _ _ _ _ _ _ _ _ _ _ _ _ _ _ _ _ _ _ _ _ _ _ _ _ _ _ _ _ _ _ _ _ _ _ _ _ _ _ _ _ _ _ _ _ _ _ _ _ _ _ _ _ _ _ _ (hide ?_)
                intro w5 v25 v26 v27 v28 v29 v30 v31 v32 v33 v34 v35 v36 v37 v38 v39 v40 v41 v42 v43 v44 v45 v46 v47 v48 v49 v50 v51 v52 v53 v54 v55 v56 v57 v58 hb5
                have KK := hide hb5
                have K5 := hide (KX.later KK.out)
                have P5 := hide (own_later P.out KK.out)
                have A5 := hide (A.out.later KK.out)
                clear hb5 q0 q1 q2 q3 q4 q5 q6 q7 a0 a1 a2 a3 a4 KX hltA P A d1 d2
                by_cases hcost : costN s a = (cc : Int)
                · have htc : (costN s a == (cc : Int)) = true := by rw [hcost]; simp
                  have hst2 := hide (show partR a m l cc (k + 1) = partR a m l cc k ++ [⟨k, wrap64 (a.number - s.shift), cc⟩] by
                    rw [hst.out, one_yes Hfit.out (by rw [hcp.out, hcost]) (by omega)])
                  have hlen : (partR a m l cc k).length ≤ 1000 := by
                    have e1 : ∀ c' l', l'.length ≤ 12 → (ofCost a m l' c').length ≤ 12 := fun c' l' h' => by
                      unfold ofCost
                      exact Nat.le_trans (List.length_filter_le _ _) (Nat.le_trans (found_len _ _ _ _) h')
                    have e2 : ∀ c' : Nat, ((List.range c').flatMap (ofCost a m l)).length ≤ 12 * c' := by
                      intro c'
                      induction c' with
                      | zero => simp
                      | succ c' ih =>
                        rw [List.range_succ, List.flatMap_append, List.length_append]
                        have := e1 c' l (by rw [HN.out]; exact hl)
                        simp only [List.flatMap_cons, List.flatMap_nil, List.append_nil]
                        omega
                    unfold partR
                    rw [List.length_append]
                    have := e1 cc (l.take k) (by rw [List.length_take, HN.out]; omega)
                    have := e2 cc
                    omega
                  obtain ⟨s0, s1, s2, s3, s4, s5, s6, s7, a0, a1, a2, a3, a4⟩ := K5.out
                  have hz5 := A5.out.below.size
                  have hz6 := A5.out.lt
                  clear hcost
                  have hnum : IntKind.i64.wrap (a.number - s.shift) = wrap64 (a.number - s.shift) := IntWalk.i64_left _
                  go_wp2
                  go_region_law (refine step_app rfl (.tmp 60) (.tmp 73) 31 rfl (w.heap.size + 1) 47 i0 _ 3 24 Try.underlying31 hi hz0 hz1 hz2 rfl (by omega) (.slice vp (partR a m l cc k).length vc) (partR a m l cc k).length ((partR a m l cc k).flatMap Cnd.cells) rfl (World.ownsRow.alloc (w := w5.drew) P5.out _) (some ⟨w5.heap.size, 0, none⟩) 1 1 (Cnd.cells ⟨k, wrap64 (a.number - s.shift), cc⟩) rfl ⟨rfl, fun _ => ⟨_, rfl, cnd_src w5 ⟨k, wrap64 (a.number - s.shift), cc⟩ 47⟩⟩ (cnd_one _) (by unfold maxLen; omega) (by omega) (by simp; omega) ?_; intro v1 w7 hown1 hg1)
                  all_goals
                    have P7 : Hid (w7.ownsRow (w.heap.size + 1) 47 3 v1 (partR a m l cc (k + 1)).length ((partR a m l cc (k + 1)).flatMap Cnd.cells)) := hide (by
                      rw [hst2.out, List.length_append, List.flatMap_append]; simpa using hown1)
                    have A7 := hide ((A5.out.later (((Below.refl _ _).drew).alloc (Nat.le_refl _) _)).grown hg1 (fun j hj => (P5.out.lt j hj).1))
                    obtain ⟨v1p, v1c, rfl, _⟩ := own_val P7.out
                    clear hown1 hg1 s0 s1 s2 s3 s4 s5 s6 s7 a0 a1 a2 a3 a4 K5 P5 A5
                    go_wp2_with fail
                    go_roundw
                    case rel => exact ⟨k + 1, v1p, v1c, by omega, by go_num, rfl, P7, A7⟩
                    case measure => simp [intOf]; omega
                · have htc : (costN s a == (cc : Int)) = false := by rw [beq_eq_false_iff_ne]; exact hcost
                  have E := hide (show partR a m l cc (k + 1) = partR a m l cc k by
                    rw [hst.out, one_other hcp.out hcost]; simp)
                  clear hcost
                  go_wp2
                  go_roundw
                  case rel => exact ⟨k + 1, vp, vc, by omega, by go_num, by rw [E.out], by rw [E.out]; exact P5, A5⟩
                  case measure => simp [intOf]; omega
              · have d1 : decide (s.low ≤ a.number) = true := decide_eq_true c1
                have d2 : decide (a.number ≤ s.high) = false := decide_eq_false c2
                have e := no.out (by unfold fits; rw [decide_eq_true (show s.high < a.number by omega)]; simp)
                have E := hide e
                clear e hal c1 c2
                go_wp2
                go_quiet (fail)
                go_wp2
                go_roundw
                case rel => exact ⟨k + 1, vp, vc, by omega, by go_num, by rw [E.out], by rw [E.out]; exact hide P.out, hide (A.out.later (below_drewN' (Below.refl _ _) _))⟩
                case measure => simp [intOf]; omega
            · have d1 : decide (s.low ≤ a.number) = false := decide_eq_false c1
              have e := no.out (by unfold fits; rw [decide_eq_true (show a.number < s.low by omega)]; simp)
              have E := hide e
              clear e hal c1
              go_wp2
              go_quiet (fail)
              go_wp2
              go_roundw
              case rel => exact ⟨k + 1, vp, vc, by omega, by go_num, by rw [E.out], by rw [E.out]; exact hide P.out, hide (A.out.later (below_drewN' (Below.refl _ _) _))⟩
              case measure => simp [intOf]; omega
        · have E := hide (partR_next a (m : Int) l cc k (by rw [HN.out]; omega))
          go_wp2
          go_roundw
          case rel => exact ⟨cc + 1, vp, vc, by omega, by go_num, by rw [E.out], by rw [← E.out]; exact P, A⟩
          case measure => simp [intOf]; omega
    · have hcm2 : cc = m + 1 := by omega
      subst hcm2
      have t1 : ¬ ((m + 1 : Nat) : Int) ≤ (m : Int) := by omega
      have e : partR a m l (m + 1) 0 = refL a m l := by rw [partR_zero]; rfl
      have hfin := HR.out vp vc wr A.out.below (by have := CndsAt.of_own P.out; rw [e] at this; exact this)
      rw [← e] at hfin
      have hfin := hide hfin
      clear e
      go_wp2
      exact hfin.out
end Go.Proofs.Ytkbdkkllfaljlaa
