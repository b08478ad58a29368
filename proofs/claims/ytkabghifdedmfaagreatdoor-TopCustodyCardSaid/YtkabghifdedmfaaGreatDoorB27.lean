/- Handover: whether a signed document is malformed or forged. -/
import Derived.Test.YtkabghifdedmfaaGreatDoorB26
set_option linter.unusedVariables false
set_option linter.unusedSimpArgs false
namespace Go.Proofs.YtkabghifdedmfaaGreatDoor
open Go.RowKit Go.Sort Go.Shelf

/-- All but the label is as it has to be. -/
def DocOk (n : Nat) (d : DocV) : Prop := d.sl.size ≤ maxLen ∧ (0 ≤ d.frm ∧ d.frm < (n : Int)) ∧ (0 ≤ d.to_ ∧ d.to_ < (n : Int)) ∧ (0 ≤ d.time ∧ d.time ≤ 1000000) ∧ (1 ≤ d.count ∧ d.count ≤ 40) ∧ Rem d.root ∧ Rem d.give ∧ Rem d.take
set_option maxRecDepth 100000 in
set_option maxHeartbeats 2000000 in
theorem malformed_c (kb ko n c : Nat) (keys : List Int) (d : DocV) (w : World) (R) (hn : 1 ≤ n ∧ n ≤ 6) (hl : keys.length = n) (hK : ∀ x ∈ keys, Rem x) (h : IntsAt .i64 w (some ⟨kb, ko, none⟩) keys) (hd : DocOk n d)
    (hR : ∀ w', Below w.heap.size w w' → R (.returned (.bool (!isLabB d.sl))) w') : Calls Tryz.prog 27 #[.agg #[.string d.sl, .int .i64 d.frm, .int .i64 d.to_, .int .i64 d.time, .int .i64 d.count, .int .i64 d.root, .int .i64 d.give, .int .i64 d.take, .slice (some ⟨kb, ko, none⟩) n c]] w R := by
  have HR := hide hR; have H := hide h; have HL := hide hl; have HK := hide hK
  obtain ⟨d0, d1, d2, d3, d4, d5, d6, d7⟩ := hd
  obtain ⟨w1, hw1⟩ : ∃ w1, w.alloc (.cells #[.string d.sl, .int .i64 d.frm, .int .i64 d.to_, .int .i64 d.time, .int .i64 d.count, .int .i64 d.root, .int .i64 d.give, .int .i64 d.take, .slice (some ⟨kb, ko, none⟩) n c] 93) = w1 := ⟨_, rfl⟩
  have hb1 : Below w.heap.size w w1 := hw1 ▸ balloc (Below.refl _ _) _
  have HB1 := hide hb1
  have k1 : Blk w1 w.heap.size #[.string d.sl, .int .i64 d.frm, .int .i64 d.to_, .int .i64 d.time, .int .i64 d.count, .int .i64 d.root, .int .i64 d.give, .int .i64 d.take, .slice (some ⟨kb, ko, none⟩) n c] 93 := hw1 ▸ Blk.new _ _ _
  have HK1 := hide k1
  have x0 : w1.cell? ⟨w.heap.size, 0, none⟩ = some (.string d.sl) ∧ w1.cell? ⟨w.heap.size, 1, none⟩ = some (.int .i64 d.frm) ∧ w1.cell? ⟨w.heap.size, 2, none⟩ = some (.int .i64 d.to_) ∧ w1.cell? ⟨w.heap.size, 3, none⟩ = some (.int .i64 d.time) ∧ w1.cell? ⟨w.heap.size, 4, none⟩ = some (.int .i64 d.count) ∧ w1.cell? ⟨w.heap.size, 5, none⟩ = some (.int .i64 d.root) ∧ w1.cell? ⟨w.heap.size, 6, none⟩ = some (.int .i64 d.give) ∧ w1.cell? ⟨w.heap.size, 7, none⟩ = some (.int .i64 d.take) ∧ w1.cell? ⟨w.heap.size, 8, none⟩ = some (.slice (some ⟨kb, ko, none⟩) n c) := ⟨k1.cell (k := 0) rfl, k1.cell (k := 1) rfl, k1.cell (k := 2) rfl, k1.cell (k := 3) rfl, k1.cell (k := 4) rfl, k1.cell (k := 5) rfl, k1.cell (k := 6) rfl, k1.cell (k := 7) rfl, k1.cell (k := 8) rfl⟩
  obtain ⟨x0, x1, x2, x3, x4, x5, x6, x7, x8⟩ := x0
  clear hR h hl hK hb1 k1
  go_enter Tryz.func27, Tryz.ntmps27
  simp only [List.append_eq, List.nil_append, List.append_nil, List.cons_append]
  go_wp2_with (go_at_call 59; refine Stop.out ?_)
  refine Stop.go (areKeys_c (some ⟨kb, ko, none⟩) n c keys _ _ HL.out hn (H.out.keep (Keeps.of_below HB1.out)) HK.out ?_)
  go_wp2_with (go_at_call 58; refine Stop.out ?_)
  refine Stop.go (isLabelH_c d.sl _ _ d0 ?_)
  intro w2 hb2
  have HB2 := hide (bseq HB1.out hb2)
  have k2 := HK1.out.next hb2
  clear hw1 x0 x1 x2 x3 x4 x5 x6 x7 x8
  have x0 : w2.cell? ⟨w.heap.size, 0, none⟩ = some (.string d.sl) ∧ w2.cell? ⟨w.heap.size, 1, none⟩ = some (.int .i64 d.frm) ∧ w2.cell? ⟨w.heap.size, 2, none⟩ = some (.int .i64 d.to_) ∧ w2.cell? ⟨w.heap.size, 3, none⟩ = some (.int .i64 d.time) ∧ w2.cell? ⟨w.heap.size, 4, none⟩ = some (.int .i64 d.count) ∧ w2.cell? ⟨w.heap.size, 5, none⟩ = some (.int .i64 d.root) ∧ w2.cell? ⟨w.heap.size, 6, none⟩ = some (.int .i64 d.give) ∧ w2.cell? ⟨w.heap.size, 7, none⟩ = some (.int .i64 d.take) ∧ w2.cell? ⟨w.heap.size, 8, none⟩ = some (.slice (some ⟨kb, ko, none⟩) n c) := ⟨k2.cell (k := 0) rfl, k2.cell (k := 1) rfl, k2.cell (k := 2) rfl, k2.cell (k := 3) rfl, k2.cell (k := 4) rfl, k2.cell (k := 5) rfl, k2.cell (k := 6) rfl, k2.cell (k := 7) rfl, k2.cell (k := 8) rfl⟩
  obtain ⟨x0, x1, x2, x3, x4, x5, x6, x7, x8⟩ := x0
  have HF := hide (HR.out _ HB2.out)
  clear hb2 k2
  cases hb : isLabB d.sl with
  | false =>
    rw [hb] at HF
    clear x0 x1 x2 x3 x4 x5 x6 x7 x8
    go_wp2
    exact HF.out
  | true =>
    rw [hb] at HF
    clear HF
    go_wp2_with (go_at_call 32; refine Stop.out ?_)
    refine Stop.go (below_c d.frm (n : Int) _ _ ?_)
    rw [decide_eq_true d1]
    go_wp2_with (go_at_call 32; refine Stop.out ?_)
    refine Stop.go (below_c d.to_ (n : Int) _ _ ?_)
    rw [decide_eq_true d2]
    go_wp2_with (go_at_call 32; refine Stop.out ?_)
    refine Stop.go (below_c d.time 1000001 _ _ ?_)
    rw [decide_eq_true (show 0 ≤ d.time ∧ d.time < 1000001 by omega)]
    obtain ⟨d41, d42⟩ := d4
    have q1 : ¬ d.count < 1 := by omega
    have q2 : ¬ 40 < d.count := by omega
    go_wp2_with (go_at_call 60; refine Stop.out ?_)
    refine Stop.go (allI_c (some ⟨w2.heap.size, 0, none⟩) 3 3 [d.root, d.give, d.take] _ _ rfl (by decide) (IntsAt.lit [d.root, d.give, d.take]) (by intro x hx; simp at hx; rcases hx with rfl | rfl | rfl; exact d5; exact d6; exact d7) ?_)
    have hF := HR.out _ (balloc HB2.out (.cells #[.int .i64 d.root, .int .i64 d.give, .int .i64 d.take] 3))
    rw [hb, show (!true) = (decide (d.count < 1) || decide (40 < d.count)) by rw [decide_eq_false (show ¬ d.count < 1 by omega), decide_eq_false (show ¬ 40 < d.count by omega)]; rfl] at hF
    have HF := hide hF
    clear hF x0 x1 x2 x3 x4 x5 x6 x7 x8
    go_wp2
    exact HF.out
theorem keepF {wr W W' : World} {g kb ko n c : Nat} {d : DocV} (h : Below wr.heap.size wr W ∧ W.cell? ⟨g, 0, none⟩ = some (.string d.sl) ∧ W.cell? ⟨g, 1, none⟩ = some (.int .i64 d.frm) ∧ W.cell? ⟨g, 2, none⟩ = some (.int .i64 d.to_) ∧ W.cell? ⟨g, 3, none⟩ = some (.int .i64 d.time) ∧ W.cell? ⟨g, 4, none⟩ = some (.int .i64 d.count) ∧ W.cell? ⟨g, 5, none⟩ = some (.int .i64 d.root) ∧ W.cell? ⟨g, 6, none⟩ = some (.int .i64 d.give) ∧ W.cell? ⟨g, 7, none⟩ = some (.int .i64 d.take) ∧ W.cell? ⟨g, 8, none⟩ = some (.slice (some ⟨kb, ko, none⟩) n c)) (hb : Below W.heap.size W W') : Below wr.heap.size wr W' ∧ W'.cell? ⟨g, 0, none⟩ = some (.string d.sl) ∧ W'.cell? ⟨g, 1, none⟩ = some (.int .i64 d.frm) ∧ W'.cell? ⟨g, 2, none⟩ = some (.int .i64 d.to_) ∧ W'.cell? ⟨g, 3, none⟩ = some (.int .i64 d.time) ∧ W'.cell? ⟨g, 4, none⟩ = some (.int .i64 d.count) ∧ W'.cell? ⟨g, 5, none⟩ = some (.int .i64 d.root) ∧ W'.cell? ⟨g, 6, none⟩ = some (.int .i64 d.give) ∧ W'.cell? ⟨g, 7, none⟩ = some (.int .i64 d.take) ∧ W'.cell? ⟨g, 8, none⟩ = some (.slice (some ⟨kb, ko, none⟩) n c) :=
  ⟨bseq h.1 hb, cell_later hb h.2.1, cell_later hb h.2.2.1, cell_later hb h.2.2.2.1, cell_later hb h.2.2.2.2.1, cell_later hb h.2.2.2.2.2.1, cell_later hb h.2.2.2.2.2.2.1, cell_later hb h.2.2.2.2.2.2.2.1, cell_later hb h.2.2.2.2.2.2.2.2.1, cell_later hb h.2.2.2.2.2.2.2.2.2⟩
noncomputable def forgReg : Code := (regionsOf (Tryz.f31.body.getD .skip)).getD 1 .skip
set_option maxRecDepth 100000 in
set_option maxHeartbeats 4000000 in
theorem forg_reg (Q : Exit → Act → World → Prop) (g kb ko n c : Nat) (keys : List Int) (d : DocV) (wr : World) (hsz : d.sl.size ≤ 100000) (hn : n ≤ 6) (Hl : Hid (keys.length = n)) (d1 : 0 ≤ d.frm ∧ d.frm < (n : Int)) (d2 : 0 ≤ d.to_ ∧ d.to_ < (n : Int)) (HI : Hid (IntsAt .i64 wr (some ⟨kb, ko, none⟩) keys))
    (Hy1 : Hid (sumP (dFirst keys d) = d.give)) (Hy2 : Hid (sumP (dSecond keys d) = d.take)) (hS : wr.cell? ⟨g, 0, none⟩ = some (.string d.sl) ∧ wr.cell? ⟨g, 1, none⟩ = some (.int .i64 d.frm) ∧ wr.cell? ⟨g, 2, none⟩ = some (.int .i64 d.to_) ∧ wr.cell? ⟨g, 3, none⟩ = some (.int .i64 d.time) ∧ wr.cell? ⟨g, 4, none⟩ = some (.int .i64 d.count) ∧ wr.cell? ⟨g, 5, none⟩ = some (.int .i64 d.root) ∧ wr.cell? ⟨g, 6, none⟩ = some (.int .i64 d.give) ∧ wr.cell? ⟨g, 7, none⟩ = some (.int .i64 d.take) ∧ wr.cell? ⟨g, 8, none⟩ = some (.slice (some ⟨kb, ko, none⟩) n c)) {u0 u2 u3 u4 u5 u6 u7 u8 u9 u10 u11 u12 u13 u14 u15 u16 u17 u18 : Value}
    (HN : Hid (∀ W v3 v4 v5 v6 v7 v8 v9 v10 v11 v12 v13 v14 v15 v16 v17 v18, Below wr.heap.size wr W → Q .normal { tmps := #[u0, .pointer (some ⟨g, 0, none⟩), .bool false, v3, v4, v5, v6, v7, v8, v9, v10, v11, v12, v13, v14, v15, v16, v17, v18], defers := [] } W)) :
    forgReg.wp Tryz.prog Q { tmps := #[u0, .pointer (some ⟨g, 0, none⟩), u2, u3, u4, u5, u6, u7, u8, u9, u10, u11, u12, u13, u14, u15, u16, u17, u18], defers := [] } wr := by
  have e1 : (d.give != d.give) = false := by simp
  have e2 : (d.take != d.take) = false := by simp
  simp only [forgReg, Tryz.f31, Option.getD, regionsOf, List.append_eq, List.nil_append, List.append_nil, List.cons_append, List.getD, List.getElem?_cons_succ, List.getElem?_cons_zero]
  refine wp_region_noPanic ?_
  refine wp_region_held_drew (S := fun W => Below wr.heap.size wr W ∧ W.cell? ⟨g, 0, none⟩ = some (.string d.sl) ∧ W.cell? ⟨g, 1, none⟩ = some (.int .i64 d.frm) ∧ W.cell? ⟨g, 2, none⟩ = some (.int .i64 d.to_) ∧ W.cell? ⟨g, 3, none⟩ = some (.int .i64 d.time) ∧ W.cell? ⟨g, 4, none⟩ = some (.int .i64 d.count) ∧ W.cell? ⟨g, 5, none⟩ = some (.int .i64 d.root) ∧ W.cell? ⟨g, 6, none⟩ = some (.int .i64 d.give) ∧ W.cell? ⟨g, 7, none⟩ = some (.int .i64 d.take) ∧ W.cell? ⟨g, 8, none⟩ = some (.slice (some ⟨kb, ko, none⟩) n c)) (by kernel_rfl) ⟨(Below.refl _ _).drew, hS⟩ (fun hHeld => ?_)
  refine wpAnyH_take (i := 0) (v := ?v0) rfl (by kernel_rfl) (by kernel_rfl) (by kernel_rfl) (fun _ _ _ h => h) (Or.inl ⟨by rfl, ?hy0⟩) hHeld ?rest0
  case hy0 => (intro w0 hSw; (try dsimp only at hSw); go_simp; all_goals with_reducible rfl)
  try simp only [Act.put, List.getElem_toArray, List.getElem_cons_zero, List.getElem_cons_succ, List.setIfInBounds_toArray, List.set_cons_zero, List.set_cons_succ]
  refine wpAnyH_take (i := 1) (v := ?v1) rfl (by kernel_rfl) (by kernel_rfl) (by kernel_rfl) (fun _ _ _ h => h) (Or.inl ⟨by rfl, ?hy1⟩) hHeld ?rest1
  case hy1 => (intro w0 hSw; (try dsimp only at hSw); go_simp; all_goals with_reducible rfl)
  try simp only [Act.put, List.getElem_toArray, List.getElem_cons_zero, List.getElem_cons_succ, List.setIfInBounds_toArray, List.set_cons_zero, List.set_cons_succ]
  refine wpAnyH_take (i := 2) (v := ?v2) rfl (by kernel_rfl) (by kernel_rfl) (by kernel_rfl) (fun _ _ _ h => h) (Or.inl ⟨by rfl, ?hy2⟩) hHeld ?rest2
  case hy2 => (intro w0 hSw; (try dsimp only at hSw); go_simp; all_goals with_reducible rfl)
  try simp only [Act.put, List.getElem_toArray, List.getElem_cons_zero, List.getElem_cons_succ, List.setIfInBounds_toArray, List.set_cons_zero, List.set_cons_succ]
  refine wpAnyH_take (i := 3) (v := ?v3) rfl (by kernel_rfl) (by kernel_rfl) (by kernel_rfl) (fun _ _ _ h => h) (Or.inl ⟨by rfl, ?hy3⟩) hHeld ?rest3
  case hy3 => (intro w0 hSw; (try dsimp only at hSw); go_simp; all_goals with_reducible rfl)
  try simp only [Act.put, List.getElem_toArray, List.getElem_cons_zero, List.getElem_cons_succ, List.setIfInBounds_toArray, List.set_cons_zero, List.set_cons_succ]
  refine wpAnyH_ready (rs := [4]) (by kernel_rfl) (by simp) ?_
  refine AllReadyH.cons rfl (fun K hK => ?_) AllReadyH.nil
  go_simp
  refine first_c kb ko n c keys d _ _ hsz (by omega) Hl.out d1 (HI.out.keep (Keeps.of_below hHeld.1)) ?_
  intro w1 g1 hb1 hI1
  refine hK.out _ _ (keepF hHeld hb1) (fun hHeld' => ?_)
  clear hK K hHeld
  have hHeld := hHeld'
  clear hHeld'
  try simp only [Act.put, List.getElem_toArray, List.getElem_cons_zero, List.getElem_cons_succ, List.setIfInBounds_toArray, List.set_cons_zero, List.set_cons_succ]
  refine wpAnyH_ready (rs := [5]) (by kernel_rfl) (by simp) ?_
  refine AllReadyH.cons rfl (fun K hK => ?_) AllReadyH.nil
  go_simp
  refine sumF_c (some ⟨g1, 0, none⟩) 7 7 (dFirst keys d) _ _ rfl (by decide) hI1 ?_
  rw [Hy1.out]
  refine hK.out _ _ hHeld (fun hHeld' => ?_)
  clear hK K hHeld
  have hHeld := hHeld'
  clear hHeld'
  try simp only [Act.put, List.getElem_toArray, List.getElem_cons_zero, List.getElem_cons_succ, List.setIfInBounds_toArray, List.set_cons_zero, List.set_cons_succ]
  refine wpAnyH_take (i := 6) (v := ?v6) rfl (by kernel_rfl) (by kernel_rfl) (by kernel_rfl) (fun _ _ _ h => h) (Or.inl ⟨by rfl, ?hy6⟩) hHeld ?rest6
  case hy6 => (intro w0 hSw; (try dsimp only at hSw); go_simp; all_goals with_reducible rfl)
  try simp only [Act.put, List.getElem_toArray, List.getElem_cons_zero, List.getElem_cons_succ, List.setIfInBounds_toArray, List.set_cons_zero, List.set_cons_succ]
  refine wpAnyH_take (i := 7) (v := ?v7) rfl (by kernel_rfl) (by kernel_rfl) (by kernel_rfl) (fun _ _ _ h => h) (Or.inl ⟨by rfl, ?hy7⟩) hHeld ?rest7
  case hy7 => (intro w0 hSw; (try dsimp only at hSw); go_simp; all_goals with_reducible rfl)
  try simp only [Act.put, List.getElem_toArray, List.getElem_cons_zero, List.getElem_cons_succ, List.setIfInBounds_toArray, List.set_cons_zero, List.set_cons_succ]
  refine wpAnyH_take (i := 8) (v := ?v8) rfl (by kernel_rfl) (by kernel_rfl) (by kernel_rfl) (fun _ _ _ h => h) (Or.inl ⟨by rfl, ?hy8⟩) hHeld ?rest8
  case hy8 => (intro w0 hSw; (try dsimp only at hSw); go_simp; all_goals with_reducible rfl)
  try simp only [Act.put, List.getElem_toArray, List.getElem_cons_zero, List.getElem_cons_succ, List.setIfInBounds_toArray, List.set_cons_zero, List.set_cons_succ]
  refine wpAnyH_take (i := 9) (v := ?v9) rfl (by kernel_rfl) (by kernel_rfl) (by kernel_rfl) (fun _ _ _ h => h) (Or.inl ⟨by rfl, ?hy9⟩) hHeld ?rest9
  case hy9 => (intro w0 hSw; (try dsimp only at hSw); go_simp; all_goals with_reducible rfl)
  try simp only [Act.put, List.getElem_toArray, List.getElem_cons_zero, List.getElem_cons_succ, List.setIfInBounds_toArray, List.set_cons_zero, List.set_cons_succ]
  refine wpAnyH_take (i := 10) (v := ?v10) rfl (by kernel_rfl) (by kernel_rfl) (by kernel_rfl) (fun _ _ _ h => h) (Or.inl ⟨by rfl, ?hy10⟩) hHeld ?rest10
  case hy10 => (intro w0 hSw; (try dsimp only at hSw); go_simp; all_goals with_reducible rfl)
  try simp only [Act.put, List.getElem_toArray, List.getElem_cons_zero, List.getElem_cons_succ, List.setIfInBounds_toArray, List.set_cons_zero, List.set_cons_succ]
  refine wpAnyH_take (i := 11) (v := ?v11) rfl (by kernel_rfl) (by kernel_rfl) (by kernel_rfl) (fun _ _ _ h => h) (Or.inl ⟨by rfl, ?hy11⟩) hHeld ?rest11
  case hy11 => (intro w0 hSw; (try dsimp only at hSw); go_simp; all_goals with_reducible rfl)
  try simp only [Act.put, List.getElem_toArray, List.getElem_cons_zero, List.getElem_cons_succ, List.setIfInBounds_toArray, List.set_cons_zero, List.set_cons_succ]
  refine wpAnyH_ready (rs := [12]) (by kernel_rfl) (by simp) ?_
  refine AllReadyH.cons rfl (fun K hK => ?_) AllReadyH.nil
  go_simp
  refine second_c kb ko n c keys d _ _ (by omega) Hl.out d2 (HI.out.keep (Keeps.of_below hHeld.1)) ?_
  intro w2 g2 hb2 hI2
  refine hK.out _ _ (keepF hHeld hb2) (fun hHeld' => ?_)
  clear hK K hHeld
  have hHeld := hHeld'
  clear hHeld'
  try simp only [Act.put, List.getElem_toArray, List.getElem_cons_zero, List.getElem_cons_succ, List.setIfInBounds_toArray, List.set_cons_zero, List.set_cons_succ]
  refine wpAnyH_ready (rs := [13]) (by kernel_rfl) (by simp) ?_
  refine AllReadyH.cons rfl (fun K hK => ?_) AllReadyH.nil
  go_simp
  refine sumF_c (some ⟨g2, 0, none⟩) 2 2 (dSecond keys d) _ _ rfl (by decide) hI2 ?_
  rw [Hy2.out]
  refine hK.out _ _ hHeld (fun hHeld' => ?_)
  clear hK K hHeld
  have hHeld := hHeld'
  clear hHeld'
  try simp only [Act.put, List.getElem_toArray, List.getElem_cons_zero, List.getElem_cons_succ, List.setIfInBounds_toArray, List.set_cons_zero, List.set_cons_succ]
  refine wpAnyH_take (i := 14) (v := ?v14) rfl (by kernel_rfl) (by kernel_rfl) (by kernel_rfl) (fun _ _ _ h => h) (Or.inl ⟨by rfl, ?hy14⟩) hHeld ?rest14
  case hy14 => (intro w0 hSw; (try dsimp only at hSw); go_simp; all_goals with_reducible rfl)
  try simp only [Act.put, List.getElem_toArray, List.getElem_cons_zero, List.getElem_cons_succ, List.setIfInBounds_toArray, List.set_cons_zero, List.set_cons_succ]
  refine wpAnyH_take (i := 15) (v := ?v15) rfl (by kernel_rfl) (by kernel_rfl) (by kernel_rfl) (fun _ _ _ h => h) (Or.inl ⟨by rfl, ?hy15⟩) hHeld ?rest15
  case hy15 => (intro w0 hSw; (try dsimp only at hSw); go_simp; all_goals with_reducible rfl)
  try simp only [Act.put, List.getElem_toArray, List.getElem_cons_zero, List.getElem_cons_succ, List.setIfInBounds_toArray, List.set_cons_zero, List.set_cons_succ]
  refine wpAnyH_take (i := 16) (v := ?v16) rfl (by kernel_rfl) (by kernel_rfl) (by kernel_rfl) (fun _ _ _ h => h) (Or.inl ⟨by rfl, ?hy16⟩) hHeld ?rest16
  case hy16 => (intro w0 hSw; (try dsimp only at hSw); go_simp; all_goals with_reducible rfl)
  try simp only [Act.put, List.getElem_toArray, List.getElem_cons_zero, List.getElem_cons_succ, List.setIfInBounds_toArray, List.set_cons_zero, List.set_cons_succ]
  refine wpAnyH_done (by kernel_rfl) ?_ _
  refine NoPanic.normal ?_
  exact HN.out _ _ _ _ _ _ _ _ _ _ _ _ _ _ _ _ _ hHeld.1
set_option maxRecDepth 100000 in
theorem forged_c (kb ko n c : Nat) (keys : List Int) (d : DocV) (w : World) (R) (hsz : d.sl.size ≤ 100000) (hn : n ≤ 6) (hl : keys.length = n) (d1 : 0 ≤ d.frm ∧ d.frm < (n : Int)) (d2 : 0 ≤ d.to_ ∧ d.to_ < (n : Int)) (h : IntsAt .i64 w (some ⟨kb, ko, none⟩) keys)
    (h1 : sumP (dFirst keys d) = d.give) (h2 : sumP (dSecond keys d) = d.take) (hR : ∀ w', Below w.heap.size w w' → R (.returned (.bool false)) w') : Calls Tryz.prog 31 #[.agg #[.string d.sl, .int .i64 d.frm, .int .i64 d.to_, .int .i64 d.time, .int .i64 d.count, .int .i64 d.root, .int .i64 d.give, .int .i64 d.take, .slice (some ⟨kb, ko, none⟩) n c]] w R := by
  have HR := hide hR; have HL := hide hl; have H1 := hide h1; have H2 := hide h2
  obtain ⟨w1, hw1⟩ : ∃ w1, w.alloc (.cells #[.string d.sl, .int .i64 d.frm, .int .i64 d.to_, .int .i64 d.time, .int .i64 d.count, .int .i64 d.root, .int .i64 d.give, .int .i64 d.take, .slice (some ⟨kb, ko, none⟩) n c] 93) = w1 := ⟨_, rfl⟩
  have hb1 : Below w.heap.size w w1 := hw1 ▸ balloc (Below.refl _ _) _
  have HB1 := hide hb1
  have HI := hide (h.keep (Keeps.of_below hb1))
  have k1 : Blk w1 w.heap.size #[.string d.sl, .int .i64 d.frm, .int .i64 d.to_, .int .i64 d.time, .int .i64 d.count, .int .i64 d.root, .int .i64 d.give, .int .i64 d.take, .slice (some ⟨kb, ko, none⟩) n c] 93 := hw1 ▸ Blk.new _ _ _
  have HS := hide (show w1.cell? ⟨w.heap.size, 0, none⟩ = some (.string d.sl) ∧ w1.cell? ⟨w.heap.size, 1, none⟩ = some (.int .i64 d.frm) ∧ w1.cell? ⟨w.heap.size, 2, none⟩ = some (.int .i64 d.to_) ∧ w1.cell? ⟨w.heap.size, 3, none⟩ = some (.int .i64 d.time) ∧ w1.cell? ⟨w.heap.size, 4, none⟩ = some (.int .i64 d.count) ∧ w1.cell? ⟨w.heap.size, 5, none⟩ = some (.int .i64 d.root) ∧ w1.cell? ⟨w.heap.size, 6, none⟩ = some (.int .i64 d.give) ∧ w1.cell? ⟨w.heap.size, 7, none⟩ = some (.int .i64 d.take) ∧ w1.cell? ⟨w.heap.size, 8, none⟩ = some (.slice (some ⟨kb, ko, none⟩) n c) from ⟨k1.cell (k := 0) rfl, k1.cell (k := 1) rfl, k1.cell (k := 2) rfl, k1.cell (k := 3) rfl, k1.cell (k := 4) rfl, k1.cell (k := 5) rfl, k1.cell (k := 6) rfl, k1.cell (k := 7) rfl, k1.cell (k := 8) rfl⟩)
  clear hR hb1 k1 hl h h1 h2
  go_enter Tryz.func31, Tryz.ntmps31
  go_wp2
  refine forg_reg _ w.heap.size kb ko n c keys d w1 hsz hn HL d1 d2 HI H1 H2 HS.out (hide ?_)
  intro W v3 v4 v5 v6 v7 v8 v9 v10 v11 v12 v13 v14 v15 v16 v17 v18 hB
  have HF := hide (HR.out _ (bseq HB1.out hB))
  clear hB hw1
  go_wp2
  exact HF.out
set_option maxRecDepth 100000 in
theorem misplaced_c (kb ko n c : Nat) (d : DocV) (lb : ByteArray) (ix : Int) (pp : Option Addr) (pn pc : Nat) (w : World) (R) (hs : lb.size ≤ maxLen) (hl : isLabB lb = true) (hi : 0 ≤ ix ∧ ix < d.count) (hR : ∀ w', Below w.heap.size w w' → R (.returned (.bool false)) w') :
    Calls Tryz.prog 33 #[.agg #[.string d.sl, .int .i64 d.frm, .int .i64 d.to_, .int .i64 d.time, .int .i64 d.count, .int .i64 d.root, .int .i64 d.give, .int .i64 d.take, .slice (some ⟨kb, ko, none⟩) n c, .string lb, .int .i64 ix, .slice pp pn pc]] w R := by
  have HR := hide hR
  obtain ⟨w1, hw1⟩ : ∃ w1, w.alloc (.cells #[.string d.sl, .int .i64 d.frm, .int .i64 d.to_, .int .i64 d.time, .int .i64 d.count, .int .i64 d.root, .int .i64 d.give, .int .i64 d.take, .slice (some ⟨kb, ko, none⟩) n c, .string lb, .int .i64 ix, .slice pp pn pc] 101) = w1 := ⟨_, rfl⟩
  have hb1 : Below w.heap.size w w1 := hw1 ▸ balloc (Below.refl _ _) _
  have HB1 := hide hb1
  have k1 : Blk w1 w.heap.size #[.string d.sl, .int .i64 d.frm, .int .i64 d.to_, .int .i64 d.time, .int .i64 d.count, .int .i64 d.root, .int .i64 d.give, .int .i64 d.take, .slice (some ⟨kb, ko, none⟩) n c, .string lb, .int .i64 ix, .slice pp pn pc] 101 := hw1 ▸ Blk.new _ _ _
  have HK1 := hide k1
  have x9 : w1.cell? ⟨w.heap.size, 9, none⟩ = some (.string lb) := k1.cell (k := 9) rfl
  clear hR hb1 k1
  go_enter Tryz.func33, Tryz.ntmps33
  go_wp2_with (go_at_call 58; refine Stop.out ?_)
  refine Stop.go (isLabelH_c lb _ _ hs ?_)
  rw [hl]
  intro w2 hb2
  have k2 := HK1.out.next hb2
  have y4 : w2.cell? ⟨w.heap.size, 4, none⟩ = some (.int .i64 d.count) := k2.cell (k := 4) rfl
  have y10 : w2.cell? ⟨w.heap.size, 10, none⟩ = some (.int .i64 ix) := k2.cell (k := 10) rfl
  have HF := hide (HR.out _ (bseq HB1.out hb2))
  clear hb2 k2 x9 hw1
  go_wp2_with (go_at_call 32; refine Stop.out ?_)
  refine Stop.go (below_c ix d.count _ _ ?_)
  rw [decide_eq_true hi]
  go_wp2
  exact HF.out
set_option maxRecDepth 100000 in
theorem unproved_c (kb ko n c : Nat) (d : DocV) (lb : ByteArray) (ix : Nat) (pp : Option Addr) (pn pc : Nat) (path : List Int) (w : World) (R) (hs : lb.size ≤ 100000) (hi : ix ≤ 100000) (hl : path.length = pn) (hn : pn ≤ 20) (h : IntsAt .i64 w pp path) (hx : ∀ x ∈ path, -1 ≤ x ∧ x < 2147483647)
    (hR : ∀ w', Below w.heap.size w w' → R (.returned (.bool (climbP path (leafP lb) ix != d.root))) w') :
    Calls Tryz.prog 34 #[.agg #[.string d.sl, .int .i64 d.frm, .int .i64 d.to_, .int .i64 d.time, .int .i64 d.count, .int .i64 d.root, .int .i64 d.give, .int .i64 d.take, .slice (some ⟨kb, ko, none⟩) n c, .string lb, .int .i64 (ix : Int), .slice pp pn pc]] w R := by
  have HR := hide hR; have H := hide h; have HL := hide hl; have HX := hide hx
  obtain ⟨w1, hw1⟩ : ∃ w1, w.alloc (.cells #[.string d.sl, .int .i64 d.frm, .int .i64 d.to_, .int .i64 d.time, .int .i64 d.count, .int .i64 d.root, .int .i64 d.give, .int .i64 d.take, .slice (some ⟨kb, ko, none⟩) n c, .string lb, .int .i64 (ix : Int), .slice pp pn pc] 101) = w1 := ⟨_, rfl⟩
  have hb1 : Below w.heap.size w w1 := hw1 ▸ balloc (Below.refl _ _) _
  have HB1 := hide hb1
  have k1 : Blk w1 w.heap.size #[.string d.sl, .int .i64 d.frm, .int .i64 d.to_, .int .i64 d.time, .int .i64 d.count, .int .i64 d.root, .int .i64 d.give, .int .i64 d.take, .slice (some ⟨kb, ko, none⟩) n c, .string lb, .int .i64 (ix : Int), .slice pp pn pc] 101 := hw1 ▸ Blk.new _ _ _
  have HK1 := hide k1
  have x9 : w1.cell? ⟨w.heap.size, 9, none⟩ = some (.string lb) := k1.cell (k := 9) rfl
  have x10 : w1.cell? ⟨w.heap.size, 10, none⟩ = some (.int .i64 (ix : Int)) := k1.cell (k := 10) rfl
  have x11 : w1.cell? ⟨w.heap.size, 11, none⟩ = some (.slice pp pn pc) := k1.cell (k := 11) rfl
  clear hR hb1 k1 h hl hx
  go_enter Tryz.func34, Tryz.ntmps34
  go_wp2_with (go_at_call 64; refine Stop.out ?_)
  refine Stop.go (climb_c lb ix pp pn pc path _ _ hs hi HL.out hn (H.out.keep (Keeps.of_below HB1.out)) HX.out ?_)
  intro w2 q k c' hb2 hk1 hk2
  have k2 := HK1.out.next hb2
  have y5 : w2.cell? ⟨w.heap.size, 5, none⟩ = some (.int .i64 d.root) := k2.cell (k := 5) rfl
  have HF := hide (HR.out _ (bseq HB1.out hb2))
  have q1 : ((k : Int) == 0) = false := by simp; omega
  obtain ⟨z, hz⟩ : ∃ z, climbP path (leafP lb) ix = z := ⟨_, rfl⟩
  rw [hz] at HF ⊢
  clear hb2 k2 x9 x10 x11 hw1
  go_wp2
  exact HF.out
end Go.Proofs.YtkabghifdedmfaaGreatDoor
