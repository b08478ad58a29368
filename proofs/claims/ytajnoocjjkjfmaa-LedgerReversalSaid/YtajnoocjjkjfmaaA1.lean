import Derived.Test.YtajnoocjjkjfmaaA1r
set_option linter.unusedVariables false
set_option linter.unusedSimpArgs false
namespace Go.Proofs.Ytajnoocjjkjfmaa
open Go.RowKit Go.Shelf
attribute [local go_sem] Oper.semAt_some

theorem own_drew {w : World} {base e size n : Nat} {v : Value} {xs : List Value} (h : w.ownsRow base e size v n xs) : w.drew.ownsRow base e size v n xs := h
set_option maxRecDepth 100000 in
set_option maxHeartbeats 4000000 in
theorem adj_loop1 (Q : Exit → Act → World → Prop) (p q : Option Addr) (n cap cap' : Nat) (a b : List Int) (ref : ByteArray) (w w1 : World) (hl : n ≤ 100) (Hn : Hid (a.length = n)) (Hm : Hid (b.length = n)) (H : Hid (IntsAt .i64 w p a)) (H' : Hid (IntsAt .i64 w q b))
    (B1 : Hid (Below w.heap.size w w1)) (O1 : Hid (w1.ownsRow w.heap.size 3 1 (.slice (some ⟨w.heap.size + 2, 0, none⟩) n n) n ((difK (diffL a b) 0).map (Value.int .i64)))) (b6 : Hid (Boxed w1 w.heap.size 22 (.slice none 0 0))) (b7 : Hid (Boxed w1 (w.heap.size + 1) 26 (.int .i64 0)))
    (u3 u4 u5 u11 u12 u13 u14 u15 u16 u17 u18 u19 u20 u21 u22 u23 u24 u25 u26 u27 u28 u29 u30 u31 u32 u33 u36 u37 u38 u39 u40 u41 u42 u43 u44 u45 u46 u47 u48 u49 u50 u51 u52 u53 u54 u55 u56 u57 u58 u59 u60 u61 u62 u63 u64 u65 u66 u67 u68 u69 u70 u71 u72 u73 u74 u75 u76 u77 u78 u79 u80 u81 u82 u83 u84 u85 u86 : Value)
    (HN : Hid (∀ wr v11 v36 v37 v38 v39 v40 v41 v42 v43 v44 v45 v46 v47 v48 v49 v50 v51 v52 v53 v54 v55 v56 v57 v58 v59 v60 v61 v62 v63 v64 v65 v66 v67 v68 v69 v70 v71 v72, a.any wrongA = false → b.any wrongA = false → Below w.heap.size w wr → wr.ownsRow w.heap.size 3 1 (.slice (some ⟨w.heap.size + 2, 0, none⟩) n n) n ((diffL a b).map (Value.int .i64)) → Boxed wr w.heap.size 22 (.slice none 0 0) → Boxed wr (w.heap.size + 1) 26 (.int .i64 0) → Q (.exit 0) { tmps := #[.slice p n cap, .slice q n cap', .string ref, u3, u4, u5, .pointer (some ⟨w.heap.size, 0, none⟩), .pointer (some ⟨w.heap.size + 1, 0, none⟩), .func (.func 30) #[] #[], .int .i64 (diffL a b).sum, .slice (some ⟨w.heap.size + 2, 0, none⟩) n n, v11, u12, u13, u14, u15, u16, u17, u18, u19, u20, u21, u22, u23, u24, u25, u26, u27, u28, u29, u30, u31, u32, u33, .int .i64 n, .int .i64 n, v36, v37, v38, v39, v40, v41, v42, v43, v44, v45, v46, v47, v48, v49, v50, v51, v52, v53, v54, v55, v56, v57, v58, v59, v60, v61, v62, v63, v64, v65, v66, v67, v68, v69, v70, v71, v72, u73, u74, u75, u76, u77, u78, u79, u80, u81, u82, u83, u84, u85, u86], defers := [] } wr))
    (HRt : Hid (∀ wr tm, (a.any wrongA || b.any wrongA) = true → Below w.heap.size w wr → Boxed wr w.heap.size 22 (.slice none 0 0) → Boxed wr (w.heap.size + 1) 26 (.int .i64 1) → tm.getD 6 undef = .pointer (some ⟨w.heap.size, 0, none⟩) → tm.getD 7 undef = .pointer (some ⟨w.heap.size + 1, 0, none⟩) → Q .ret { tmps := tm, defers := [] } wr)) :
    adjLoop.wpIn Fence.wide 9 Try.prog Q { tmps := #[.slice p n cap, .slice q n cap', .string ref, u3, u4, u5, .pointer (some ⟨w.heap.size, 0, none⟩), .pointer (some ⟨w.heap.size + 1, 0, none⟩), .func (.func 30) #[] #[], .int .i64 0, .slice (some ⟨w.heap.size + 2, 0, none⟩) n n, u11, u12, u13, u14, u15, u16, u17, u18, u19, u20, u21, u22, u23, u24, u25, u26, u27, u28, u29, u30, u31, u32, u33, .int .i64 n, .int .i64 0, u36, u37, u38, u39, u40, u41, u42, u43, u44, u45, u46, u47, u48, u49, u50, u51, u52, u53, u54, u55, u56, u57, u58, u59, u60, u61, u62, u63, u64, u65, u66, u67, u68, u69, u70, u71, u72, u73, u74, u75, u76, u77, u78, u79, u80, u81, u82, u83, u84, u85, u86], defers := [] } w1 := by
  simp only [adjLoop, Try.f17, Option.getD, loopsOf, List.nil_append, List.append_nil, List.cons_append, List.headD]
  gi_loopw [9, 35] (fun t i wr => ∃ k : Nat, k ≤ n ∧ i = .int .i64 k ∧ t = .int .i64 ((diffL a b).take k).sum ∧ Hid ((a.take k).all (fun s => inB s (-1000000000) 1000000000) = true) ∧ Hid ((b.take k).all (fun s => inB s (-1000000000) 1000000000) = true) ∧
      Hid (wr.ownsRow w.heap.size 3 1 (.slice (some ⟨w.heap.size + 2, 0, none⟩) n n) n ((difK (diffL a b) k).map (Value.int .i64))) ∧ Hid (Below w.heap.size w wr) ∧ Hid (Boxed wr w.heap.size 22 (.slice none 0 0)) ∧ Hid (Boxed wr (w.heap.size + 1) 26 (.int .i64 0))) (fun _ i _ => n - (intOf i).toNat)
  case atStart => exact ⟨0, Nat.zero_le _, rfl, rfl, hide (by simp), hide (by simp), O1, B1, b6, b7⟩
  case round =>
    clear O1 B1 b6 b7
    obtain ⟨k, hk, rfl, rfl, ha, hb, P, Hb, b6, b7⟩ := hrel
    have hsb := sum_bd (M := 2000000000) (l := (diffL a b).take k) (by rw [diff_take]; exact diff_bd _ _ ha.out hb.out)
    have hlk : ((diffL a b).take k).length ≤ k := List.length_take_le _ _
    generalize hsk : ((diffL a b).take k).sum = sk at *
    have Hsk := hide hsk; clear hsk
    have hskb : -1000000000000 ≤ sk ∧ sk ≤ 1000000000000 := by omega
    clear hsb hlk
    have c6 := b6.out.cell; have c7 := b7.out.cell
    have f6 := b6.out.frozen; have f7 := b7.out.frozen
    by_cases hlt : k < n
    · obtain ⟨ba, oa, x, rfl, hx, hcx⟩ := (H.out.keep (Keeps.of_below Hb.out)).at_ (i := k) (by rw [Hn.out]; exact hlt)
      obtain ⟨bb, ob, y, rfl, hy, hcy⟩ := (H'.out.keep (Keeps.of_below Hb.out)).at_ (i := k) (by rw [Hm.out]; exact hlt)
      cases hxi : inB x (-1000000000) 1000000000 with
      | false =>
        have Hxi := hide hxi
        have hany := hide (show (a.any wrongA || b.any wrongA) = true by
          have h1 : a.any wrongA = true := by rw [any_wrong, all_false_of _ _ _ _ hx hxi]; rfl
          rw [h1]; rfl)
        clear hx hy hxi
        gi_wp2_with (refine ⟨trivial, ?_⟩; gi_at_call 30; refine callsIn_wide.2 (permitted_c _ _ _ ?_); rw [Hxi.out])
        all_goals first | (refine ⟨(fun f e => by cases e), ?_⟩; apply_assumption) | apply_assumption
        all_goals gi_wp2
        all_goals exact HRt.out _ _ hany.out (below_set (below_set Hb.out _ 0 _ (Nat.le_refl _)) _ 0 _ (by omega)) ((b6.out.set _).other (by omega) _) ((b7.out.other (by omega) _).set _) rfl rfl
      | true =>
        have Hxi := hide hxi
        have hxb := inB_true hxi
        cases hyi : inB y (-1000000000) 1000000000 with
        | false =>
          have Hyi := hide hyi
          have hany := hide (show (a.any wrongA || b.any wrongA) = true by
            have h1 : b.any wrongA = true := by rw [any_wrong, all_false_of _ _ _ _ hy hyi]; rfl
            rw [h1, Bool.or_true])
          clear hx hy hxi hyi
          gi_wp2_with (refine ⟨trivial, ?_⟩; gi_at_call 30; first | (refine callsIn_wide.2 (permitted_c x _ _ ?_); rw [Hxi.out]) | (refine callsIn_wide.2 (permitted_c y _ _ ?_); rw [Hyi.out]))
          exact HRt.out _ _ hany.out (below_set (below_set Hb.out _ 0 _ (Nat.le_refl _)) _ 0 _ (by omega)) ((b6.out.set _).other (by omega) _) ((b7.out.other (by omega) _).set _) rfl rfl
        | true =>
          have Hyi := hide hyi
          have hyb := inB_true hyi
          have ha2 := hide (show (a.take (k + 1)).all (fun s => inB s (-1000000000) 1000000000) = true by rw [all_take_succ _ _ _ _ hx, ha.out, hxi]; rfl)
          have hb2 := hide (show (b.take (k + 1)).all (fun s => inB s (-1000000000) 1000000000) = true by rw [all_take_succ _ _ _ _ hy, hb.out, hyi]; rfl)
          have hz := hide (diff_at hx hy)
          have hcd := owni_cell P.out (i := k) hlt
          have hfd := P.out.frozenAt k
          generalize (difK (diffL a b) k).getD k 0 = z0 at *
          clear hx hy hxi hyi
          gi_wp2_with (refine ⟨trivial, ?_⟩; gi_at_call 30; first | (refine callsIn_wide.2 (permitted_c x _ _ ?_); rw [Hxi.out]) | (refine callsIn_wide.2 (permitted_c y _ _ ?_); rw [Hyi.out]))
          refine adj_region11 _ ba bb oa ob (w.heap.size + 2) n cap cap' k x y z0 wr hl hlt hxb hyb hcx hcy hcd hfd _ _ _ _ _ _ _ _ _ _ _ _ _ _ _ _ _ _ _ _ _ _ _ _ _ _ _ _ _ _ _ _ _ _ _ _ _ _ _ _ _ _ _ _ _ _ _ _ _ _ _ _ _ _ _ _ _ _ _ _ _ _ _ _ _ _ _ _ _ _ _ _ _ _ _ _ _ _ _ _ _ _ _ (hide ?_)
          intro w54 w55 w56 w57 w58 w59 w60 w61 w62 w63 w64 w65
          have P2 := hide (owni_set P.out k (y - x))
          rw [difK_set hz.out] at P2
          have Hb2 := hide (below_set Hb.out (w.heap.size + 2) k (.int .i64 (y - x)) (by omega))
          have b62 := hide (b6.out.kept (grownBy_set (World.grownBy.refl wr (some (w.heap.size + 2))) k (.int .i64 (y - x))) (by simp))
          have b72 := hide (b7.out.kept (grownBy_set (World.grownBy.refl wr (some (w.heap.size + 2))) k (.int .i64 (y - x))) (by simp))
          have hz2 := hide (show sk + (y - x) = ((diffL a b).take (k + 1)).sum by rw [List.take_add_one, List.sum_append_int, hz.out, Hsk.out]; simp)
          clear hcx hcy hfd P Hb b6 b7 c6 c7 f6 f7
          gi_wp2
          go_roundw
          case rel => exact ⟨k + 1, by omega, by go_num, by rw [hz2.out], ha2, hb2, hide (own_drew P2.out), hide (Hb2.out.drew), hide (show Boxed _ _ _ _ from b62.out), hide (show Boxed _ _ _ _ from b72.out)⟩
          case measure => simp [intOf]; omega
    · have hkn : k = n := by omega
      have hdl : (diffL a b).length = n := by rw [diff_len (by rw [Hn.out, Hm.out]), Hn.out]
      subst hkn
      have e1 := Hsk.out
      rw [List.take_of_length_le (by omega)] at e1
      have e2 := P.out
      rw [← hdl, difK_all, hdl] at e2
      have E2 := hide e2
      have a2 := ha.out; have b2 := hb.out
      rw [List.take_of_length_le (by rw [Hn.out]; omega)] at a2
      rw [List.take_of_length_le (by rw [Hm.out]; omega)] at b2
      have A2 := hide (show a.any wrongA = false by rw [any_wrong, a2]; rfl)
      have B2 := hide (show b.any wrongA = false by rw [any_wrong, b2]; rfl)
      have HN1 := hide HN.out
      rw [e1] at HN1
      clear e1 e2 a2 b2 hdl hlt
      gi_wp2
      exact HN1.out _ _ _ _ _ _ _ _ _ _ _ _ _ _ _ _ _ _ _ _ _ _ _ _ _ _ _ _ _ _ _ _ _ _ _ _ _ _ _ A2.out B2.out Hb.out E2.out b6.out b7.out
end Go.Proofs.Ytajnoocjjkjfmaa
