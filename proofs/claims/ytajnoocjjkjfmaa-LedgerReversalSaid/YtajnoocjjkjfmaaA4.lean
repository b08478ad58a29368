import Derived.Test.YtajnoocjjkjfmaaA3
set_option linter.unusedVariables false
set_option linter.unusedSimpArgs false
namespace Go.Proofs.Ytajnoocjjkjfmaa
open Go.RowKit Go.Shelf
attribute [local go_sem] Oper.semAt_some

set_option maxRecDepth 100000 in
set_option maxHeartbeats 4000000 in
theorem adjust_c (p q : Option Addr) (n m cap cap' : Nat) (a b : List Int) (ref : ByteArray) (w : World) (R) (hn : a.length = n) (hm : b.length = m) (hl : n ≤ maxLen) (hl' : m ≤ maxLen) (h : IntsAt .i64 w p a) (h' : IntsAt .i64 w q b) (hr : ref.size ≤ maxLen)
    (hR : ∀ v w', Below w.heap.size w w' → w'.ownsRow w.heap.size 34 4 v (adjL a b ref).length ((adjL a b ref).flatMap entCells) → R (.returned (.tuple #[v, .int .i64 (adjE a b ref)])) w') :
    Calls Try.prog 17 #[.slice p n cap, .slice q m cap', .string ref] w R := by
  unfold maxLen at hl hl' hr
  have Hn := hide hn; have Hm := hide hm; have H := hide h; have H' := hide h'; have HR := hide hR
  clear hn hm h h' hR
  refine (callsIn_wide (n := 9)).1 ?_
  refine callsIn_of_wp_marks Try.func17 rfl trivial ?_ rfl
  simp only [Try.ntmps17, List.size_toArray, List.length_cons, List.length_nil, Nat.reduceAdd, Nat.reduceSub, Array.replicate_succ, Array.replicate_zero, List.push_toArray, List.append_toArray, List.nil_append, List.cons_append]
  have Hbad := hide (fun (hb : adjE a b ref = 1) w' (B : Below w.heap.size w w') => (show R (.returned (.tuple #[.slice none 0 0, .int .i64 1])) w' by
    have := HR.out (.slice none 0 0) w' B (by unfold adjL; rw [if_neg (by rw [hb]; decide)]; exact World.ownsRow_nil ..)
    rw [hb] at this; exact this))
  have BR := hide (((Below.refl w.heap.size w).alloc (Nat.le_refl _) (.cells #[.slice none 0 0] 22)).alloc (by simp) (.cells #[.int .i64 0] 26))
  by_cases hs1 : n = m
  · subst hs1
    have hnn : ((n : Int) != (n : Int)) = false := by simp
    cases hs2 : inB (n : Int) 1 100 with
    | false =>
      have hb1 := hide (Hbad.out (by unfold adjE adjShape; rw [Hn.out, hs2]; simp))
      have Hs2 := hide hs2; clear hs2
      gi_wp2_with (refine ⟨trivial, ?_⟩; gi_at_call 24; refine callsIn_wide.2 (within_c _ _ _ _ _ ?_); rw [Hs2.out])
      exact ⟨_, adj_results (b6 := w.heap.size) (b7 := w.heap.size + 1) rfl rfl (by simp) (by simp), hb1.out _ (((Below.refl w.heap.size w).alloc (Nat.le_refl _) _).alloc (by simp) _)⟩
    | true =>
      have hb1 := hide (fun (h : ¬ ref.size ≤ 60) => Hbad.out (by unfold adjE adjShape; rw [decide_eq_false h]; simp))
      have Hs2 := hide hs2
      have hnb := inB_true hs2
      clear hs2
      by_cases hr60 : ref.size ≤ 60
      · have hr60' : ¬ ((60 : Int) < (ref.size : Int)) := by omega
        obtain ⟨j0, hj0, hjz0, hjz1, hjz2⟩ := info_parts Try.info3
        obtain ⟨w1, hmk, o1, g1⟩ := run_make_full (P := Try.prog) ((w.alloc (.cells #[.slice none 0 0] 22)).alloc (.cells #[.int .i64 0] 26)) w.heap.size 23 3 j0 (.int .i64 0) 1 Try.underlying23 hj0 hjz0 hjz1 .i64 .i64 n (by rw [hjz2]; omega) (by unfold maxLen; omega) (by simp; omega)
        have hsz : ((w.alloc (.cells #[.slice none 0 0] 22)).alloc (.cells #[.int .i64 0] 26)).heap.size = w.heap.size + 2 := by simp
        rw [hsz] at hmk o1
        gi_wp2_with (refine ⟨trivial, ?_⟩; gi_at_call 24; refine callsIn_wide.2 (within_c _ _ _ _ _ ?_); rw [Hs2.out])
        have Ho1 : Hid (w1.ownsRow w.heap.size 3 1 (.slice (some ⟨w.heap.size + 2, 0, none⟩) n n) n ((difK (diffL a b) 0).map (Value.int .i64))) := hide (by
          have e := zeros_int n (fun i => (diffL a b).getD i 0)
          unfold difK
          rw [diff_len (by rw [Hn.out, Hm.out]), Hn.out, ← e]
          exact o1)
        have hsh : Hid (adjShape a b ref = true) := hide (by unfold adjShape; rw [Hn.out, Hm.out, Hs2.out, decide_eq_true rfl, decide_eq_true hr60]; rfl)
        have hb2 := hide (fun (h : adjE a b ref = 1) => Hbad.out h)
        have HB1 : Hid (Below w.heap.size w w1) := hide (BR.out.grown g1 (by simp; omega) (fun k e => by cases e))
        refine adj_loop1 _ p q n cap cap' a b ref w w1 (by omega) Hn Hm H H' HB1 Ho1 (hide ?b6) (hide ?b7) _ _ _ _ _ _ _ _ _ _ _ _ _ _ _ _ _ _ _ _ _ _ _ _ _ _ _ _ _ _ _ _ _ _ _ _ _ _ _ _ _ _ _ _ _ _ _ _ _ _ _ _ _ _ _ _ _ _ _ _ _ _ _ _ _ _ _ _ _ _ _ _ _ _ _ _ _ (hide ?n1) (hide ?n2)
        case b6 => exact ((Boxed.new w 22 (.slice none 0 0)).alloc _).kept g1 (by simp)
        case b7 =>
          have h := Boxed.new (w.alloc (.cells #[.slice none 0 0] 22)) 26 (.int .i64 0)
          rw [World.size_alloc] at h
          exact h.kept g1 (by simp)
        case n2 =>
          intro wr tm hany hB h6 h7 t6 t7
          have := hb2.out (by unfold adjE; rw [if_neg (by rw [hsh.out]; decide), if_pos hany]) wr hB
          exact ⟨_, adj_results (b6 := w.heap.size) (b7 := w.heap.size + 1) t6 t7 h6.cell h7.cell, this⟩
        case n1 =>
          intro wr v11 v36 v37 v38 v39 v40 v41 v42 v43 v44 v45 v46 v47 v48 v49 v50 v51 v52 v53 v54 v55 v56 v57 v58 v59 v60 v61 v62 v63 v64 v65 v66 v67 v68 v69 v70 v71 v72 ha hb hB hO h6 h7
          have hdl : (diffL a b).length = n := by rw [diff_len (by rw [Hn.out, Hm.out]), Hn.out]
          have hany : (a.any wrongA || b.any wrongA) = false := by rw [ha, hb]; rfl
          have hbd : ∀ t, -2000000000 ≤ (diffL a b).getD t 0 ∧ (diffL a b).getD t 0 ≤ 2000000000 := fun t => by
            rcases Nat.lt_or_ge t (diffL a b).length with h | h
            · rw [List.getD_eq_getElem?_getD, List.getElem?_eq_getElem h]
              exact diff_bd a b (by rw [any_wrong] at ha; simpa using ha) (by rw [any_wrong] at hb; simpa using hb) _ (List.getElem_mem h)
            · rw [List.getD_eq_getElem?_getD, List.getElem?_eq_none h]; simp
          have hgs := (hO.lt _ rfl).2
          show (_ : Act → World → Prop) _ _
          apply_assumption
          have nany : ¬ (a.any wrongA || b.any wrongA) = true := by rw [hany]; decide
          have nsh : ¬ adjShape a b ref = false := by rw [hsh.out]; decide
          refine adj_tail _ n (diffL a b) ref w wr (by omega) (hide hdl) (hide hbd) (hide hB) (hide hO) (hide h6) (hide h7) hgs _ _ _ _ _ _ _ _ _ _ _ _ _ _ _ _ _ _ _ _ _ _ _ _ _ _ _ _ _ _ _ _ _ _ _ _ _ _ _ _ _ _ _ _ _ _ _ _ _ _ _ _ _ _ _ _ _ _ _ _ _ _ _ _ _ _ _ _ _ _ _ _ _ _ _ _ _ _ _ _ _ _ (hide ?t3) (hide ?t2) (hide ?t0)
          case t3 =>
            intro hs W tm hB' h6' h7' e6 e7
            have hE : adjE a b ref = 380 := by unfold adjE; rw [if_neg nsh, if_neg nany, if_pos hs]
            have := HR.out (.slice none 0 0) W hB' (by unfold adjL; rw [if_neg (by rw [hE]; decide)]; exact World.ownsRow_nil ..)
            rw [hE] at this
            exact ⟨_, adj_results (b6 := w.heap.size) (b7 := w.heap.size + 1) e6 e7 h6'.cell h7'.cell, this⟩
          case t2 =>
            intro hs hbig D W tm hD hB' h6' h7' hd e6 e7
            have hE : adjE a b ref = 2 := by unfold adjE; rw [if_neg nsh, if_neg nany, if_neg (fun h => h hs), if_pos hbig]
            have hB2 := hB'.trans (belowK_b (w := w) (Nat.le_refl _) W D _ (.deferred none) (by omega) hd rfl rfl)
            have := HR.out (.slice none 0 0) _ hB2 (by unfold adjL; rw [if_neg (by rw [hE]; decide)]; exact World.ownsRow_nil ..)
            rw [hE] at this
            refine ⟨by simp, .inl ⟨_, _, rfl, run_takeDeferred hd, ?_⟩⟩
            exact ⟨_, adj_results (b6 := w.heap.size) (b7 := w.heap.size + 1) e6 e7 (h6'.kept (grownBy_putObj' W D _) (by simp; omega)).cell (h7'.kept (grownBy_putObj' W D _) (by simp; omega)).cell, this⟩
          case t0 =>
            intro hs hbig D W v tm hD hB' h6' hown h7' hd e6 e7
            have hE : adjE a b ref = 0 := by unfold adjE; rw [if_neg nsh, if_neg nany, if_neg (fun h => h hs), if_neg (by rw [hbig]; decide)]
            have hL : adjL a b ref = settleL ref (diffL a b) := by unfold adjL; rw [if_pos hE]
            have hB2 := hB'.trans (belowK_b (w := w) (Nat.le_refl _) W D _ (.deferred none) (by omega) hd rfl rfl)
            have := HR.out v _ hB2 (by rw [hL]; exact ownsRow_putObj (own_monoE hown (by omega)) _ hd rfl)
            rw [hE] at this
            refine ⟨by simp, .inl ⟨_, _, rfl, run_takeDeferred hd, ?_⟩⟩
            exact ⟨_, adj_results (b6 := w.heap.size) (b7 := w.heap.size + 1) e6 e7 (h6'.kept (grownBy_putObj' W D _) (by simp; omega)).cell (h7'.kept (grownBy_putObj' W D _) (by simp; omega)).cell, this⟩
      · have hr60' : (60 : Int) < (ref.size : Int) := by omega
        have hb2 := hide (hb1.out hr60)
        clear hr60
        gi_wp2_with (refine ⟨trivial, ?_⟩; gi_at_call 24; refine callsIn_wide.2 (within_c _ _ _ _ _ ?_); rw [Hs2.out])
        exact ⟨_, adj_results (b6 := w.heap.size) (b7 := w.heap.size + 1) rfl rfl (by simp) (by simp), hb2.out _ (((Below.refl w.heap.size w).alloc (Nat.le_refl _) _).alloc (by simp) _)⟩
  · have hb1 := hide (Hbad.out (by unfold adjE adjShape; rw [Hn.out, Hm.out, decide_eq_false hs1]; simp))
    have hnn : ((n : Int) != (m : Int)) = true := by simp; omega
    clear hs1
    gi_wp2_with (refine ⟨trivial, ?_⟩; gi_at_call 24; refine callsIn_wide.2 (within_c _ _ _ _ _ ?_); fail)
    refine ⟨trivial, ?_⟩
    apply_assumption
    gi_wp2
    all_goals exact ⟨_, adj_results (b6 := w.heap.size) (b7 := w.heap.size + 1) rfl rfl (by simp) (by simp), hb1.out _ (((Below.refl w.heap.size w).alloc (Nat.le_refl _) _).alloc (by simp) _)⟩
end Go.Proofs.Ytajnoocjjkjfmaa
