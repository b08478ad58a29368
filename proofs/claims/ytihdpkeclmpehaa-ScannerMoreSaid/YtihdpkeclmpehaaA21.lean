/- The regions of head that draw their order. -/
import Derived.Test.YtihdpkeclmpehaaA20
import Derived.Deep.RegionHeld3
set_option linter.unusedVariables false
set_option linter.unusedSimpArgs false
namespace Go.Proofs.Ytihdpkeclmpehaa
open Go.RowKit

noncomputable def headReg9 : Code := (regionsOf (Try.f10.body.getD .skip)).getD 9 .skip
noncomputable def headReg12 : Code := (regionsOf (Try.f10.body.getD .skip)).getD 12 .skip
theorem keepH9 {w W : World} {g : Nat} (h : HX w g W) : HX w g W ∧ W.cell? ⟨g, 0, none⟩ = some (.int .i64 0) ∧ W.cell? ⟨g, 1, none⟩ = some (.int .i64 0) ∧ W.cell? ⟨g, 2, none⟩ = some (.int .i64 1) ∧ W.cell? ⟨g, 3, none⟩ = some (.int .i64 100) ∧ W.cell? ⟨g, 4, none⟩ = some (.string exA) ∧ W.cell? ⟨g, 5, none⟩ = some (.slice none 0 0) ∧ W.cell? ⟨g + 1 + 1, 0, none⟩ = some (.int .i64 0) ∧ W.cell? ⟨g + 1 + 1, 1, none⟩ = some (.int .i64 1) ∧ W.cell? ⟨g + 1 + 1, 2, none⟩ = some (.int .i64 2) ∧ W.cell? ⟨g + 1 + 1, 3, none⟩ = some (.int .i64 160) ∧ W.cell? ⟨g + 1 + 1, 4, none⟩ = some (.string exC) ∧ W.cell? ⟨g + 1 + 1, 5, none⟩ = some (.slice (some ⟨g + 1, 0, none⟩) 1 1) ∧ W.cell? ⟨g + 1 + 1 + 1, 0, none⟩ = some (.int .i64 1) ∧ W.cell? ⟨g + 1 + 1 + 1, 1, none⟩ = some (.int .i64 0) ∧ W.cell? ⟨g + 1 + 1 + 1, 2, none⟩ = some (.int .i64 1) ∧ W.cell? ⟨g + 1 + 1 + 1, 3, none⟩ = some (.int .i64 220) ∧ W.cell? ⟨g + 1 + 1 + 1, 4, none⟩ = some (.string exC) ∧ W.cell? ⟨g + 1 + 1 + 1, 5, none⟩ = some (.slice none 0 0) :=
  ⟨h, h.a.cell (k := 0) rfl, h.a.cell (k := 1) rfl, h.a.cell (k := 2) rfl, h.a.cell (k := 3) rfl, h.a.cell (k := 4) rfl, h.a.cell (k := 5) rfl, h.b.cell (k := 0) rfl, h.b.cell (k := 1) rfl, h.b.cell (k := 2) rfl, h.b.cell (k := 3) rfl, h.b.cell (k := 4) rfl, h.b.cell (k := 5) rfl, h.c.cell (k := 0) rfl, h.c.cell (k := 1) rfl, h.c.cell (k := 2) rfl, h.c.cell (k := 3) rfl, h.c.cell (k := 4) rfl, h.c.cell (k := 5) rfl⟩
theorem keepH12 {w W : World} {g s : Nat} (h : HY w g s W) : HY w g s W ∧ W.cell? ⟨g + 1 + 1, 0, none⟩ = some (.int .i64 0) ∧ W.cell? ⟨g + 1 + 1, 1, none⟩ = some (.int .i64 1) ∧ W.cell? ⟨g + 1 + 1, 2, none⟩ = some (.int .i64 2) ∧ W.cell? ⟨g + 1 + 1, 3, none⟩ = some (.int .i64 160) ∧ W.cell? ⟨g + 1 + 1, 4, none⟩ = some (.string exC) ∧ W.cell? ⟨g + 1 + 1, 5, none⟩ = some (.slice (some ⟨s, 0, none⟩) 1 1) ∧ W.cell? ⟨g + 1 + 1 + 1, 0, none⟩ = some (.int .i64 1) ∧ W.cell? ⟨g + 1 + 1 + 1, 1, none⟩ = some (.int .i64 0) ∧ W.cell? ⟨g + 1 + 1 + 1, 2, none⟩ = some (.int .i64 1) ∧ W.cell? ⟨g + 1 + 1 + 1, 3, none⟩ = some (.int .i64 221) ∧ W.cell? ⟨g + 1 + 1 + 1, 4, none⟩ = some (.string exC) ∧ W.cell? ⟨g + 1 + 1 + 1, 5, none⟩ = some (.slice none 0 0) :=
  ⟨h, h.b.cell (k := 0) rfl, h.b.cell (k := 1) rfl, h.b.cell (k := 2) rfl, h.b.cell (k := 3) rfl, h.b.cell (k := 4) rfl, h.b.cell (k := 5) rfl, h.c.cell (k := 0) rfl, h.c.cell (k := 1) rfl, h.c.cell (k := 2) rfl, h.c.cell (k := 3) rfl, h.c.cell (k := 4) rfl, h.c.cell (k := 5) rfl⟩
set_option maxRecDepth 100000 in
set_option maxHeartbeats 4000000 in
theorem head_reg9 (Q : Exit → Act → World → Prop) (g  : Nat) (w wr : World) (hX : HX w g wr) {u0 u1 u5 u6 u7 u8 u9 u10 u11 u12 u13 u14 u15 u16 u17 u18 u19 u20 u21 u22 u23 u24 u25 u26 u27 u28 u29 u30 u31 u32 u33 u34 u35 u36 u37 u38 u39 u40 u41 u42 u43 u44 u45 u46 u47 u48 u49 u50 u51 u52 u53 u54 u55 u56 u57 u58 u59 u60 u61 u62 u63 u64 u65 u66 u67 u68 u69 u70 u71 u72 u73 u74 u75 u76 u77 u78 u79 u80 u81 u82 u83 u84 u85 u86 u87 u88 u89 u90 u91 u92 u93 u94 u95 u96 u97 u98 u99 u100 u101 u102 u103 : Value}
    (HN : Hid (∀ W v54 v55 v56 v57 v58 v59 v60 v61 v62 v63 v64 v65 v66 v67 v68 v69 v70 v71 v72 v73 v74 v75 v76 v77 v78 v79 v80 v81 v82, HX w g W → Q .normal { tmps := #[u0, u1, .pointer (some ⟨g, 0, none⟩), .pointer (some ⟨g + 1 + 1, 0, none⟩), .pointer (some ⟨g + 1 + 1 + 1, 0, none⟩), u5, u6, u7, u8, .bool true, u10, u11, u12, u13, u14, u15, u16, u17, u18, u19, u20, u21, u22, u23, u24, u25, u26, u27, u28, u29, u30, u31, u32, u33, u34, u35, u36, u37, u38, u39, u40, u41, u42, u43, u44, u45, u46, u47, u48, u49, u50, u51, u52, u53, v54, v55, v56, v57, v58, v59, v60, v61, v62, v63, v64, v65, v66, v67, v68, v69, v70, v71, v72, v73, v74, v75, v76, v77, v78, v79, v80, v81, v82, u83, u84, u85, u86, u87, u88, u89, u90, u91, u92, u93, u94, u95, u96, u97, u98, u99, u100, u101, u102, u103], defers := [] } W)) :
    headReg9.wp Try.prog Q { tmps := #[u0, u1, .pointer (some ⟨g, 0, none⟩), .pointer (some ⟨g + 1 + 1, 0, none⟩), .pointer (some ⟨g + 1 + 1 + 1, 0, none⟩), u5, u6, u7, u8, u9, u10, u11, u12, u13, u14, u15, u16, u17, u18, u19, u20, u21, u22, u23, u24, u25, u26, u27, u28, u29, u30, u31, u32, u33, u34, u35, u36, u37, u38, u39, u40, u41, u42, u43, u44, u45, u46, u47, u48, u49, u50, u51, u52, u53, u54, u55, u56, u57, u58, u59, u60, u61, u62, u63, u64, u65, u66, u67, u68, u69, u70, u71, u72, u73, u74, u75, u76, u77, u78, u79, u80, u81, u82, u83, u84, u85, u86, u87, u88, u89, u90, u91, u92, u93, u94, u95, u96, u97, u98, u99, u100, u101, u102, u103], defers := [] } wr := by
  simp only [headReg9, Try.f10, Option.getD, regionsOf, List.nil_append, List.append_nil, List.cons_append, List.getD, List.getElem?_cons_succ, List.getElem?_cons_zero]
  refine wp_region_noPanic ?_
  refine wp_region_held_drew (S := fun W => HX w g W ∧ W.cell? ⟨g, 0, none⟩ = some (.int .i64 0) ∧ W.cell? ⟨g, 1, none⟩ = some (.int .i64 0) ∧ W.cell? ⟨g, 2, none⟩ = some (.int .i64 1) ∧ W.cell? ⟨g, 3, none⟩ = some (.int .i64 100) ∧ W.cell? ⟨g, 4, none⟩ = some (.string exA) ∧ W.cell? ⟨g, 5, none⟩ = some (.slice none 0 0) ∧ W.cell? ⟨g + 1 + 1, 0, none⟩ = some (.int .i64 0) ∧ W.cell? ⟨g + 1 + 1, 1, none⟩ = some (.int .i64 1) ∧ W.cell? ⟨g + 1 + 1, 2, none⟩ = some (.int .i64 2) ∧ W.cell? ⟨g + 1 + 1, 3, none⟩ = some (.int .i64 160) ∧ W.cell? ⟨g + 1 + 1, 4, none⟩ = some (.string exC) ∧ W.cell? ⟨g + 1 + 1, 5, none⟩ = some (.slice (some ⟨g + 1, 0, none⟩) 1 1) ∧ W.cell? ⟨g + 1 + 1 + 1, 0, none⟩ = some (.int .i64 1) ∧ W.cell? ⟨g + 1 + 1 + 1, 1, none⟩ = some (.int .i64 0) ∧ W.cell? ⟨g + 1 + 1 + 1, 2, none⟩ = some (.int .i64 1) ∧ W.cell? ⟨g + 1 + 1 + 1, 3, none⟩ = some (.int .i64 220) ∧ W.cell? ⟨g + 1 + 1 + 1, 4, none⟩ = some (.string exC) ∧ W.cell? ⟨g + 1 + 1 + 1, 5, none⟩ = some (.slice none 0 0)) (by kernel_rfl) (keepH9 (hX.next (Below.refl _ _).drew)) (fun hHeld => ?_)
  refine wpAnyH_take (i := 2) (v := ?v2) rfl (by kernel_rfl) (by kernel_rfl) (by kernel_rfl) (fun _ _ _ h => h) (Or.inl ⟨by rfl, ?hy2⟩) hHeld ?rest2
  case hy2 => (intro w0 hSw; (try dsimp only at hSw); go_simp; all_goals with_reducible rfl)
  try simp only [Act.put, List.getElem_toArray, List.getElem_cons_zero, List.getElem_cons_succ, List.setIfInBounds_toArray, List.set_cons_zero, List.set_cons_succ]
  refine wpAnyH_ready (rs := [0]) (by kernel_rfl) (by simp) ?_
  refine AllReadyH.cons rfl (fun K hK => ?_) AllReadyH.nil
  go_simp
  refine exS_c _ _ ?_
  intro w1 q1 hb1 hs1
  refine hK.out _ _ (keepH9 (hHeld.1.next hb1)) (fun hHeld' => ?_)
  clear hK K hHeld
  have hHeld := hHeld'
  clear hHeld'
  try simp only [Act.put, List.getElem_toArray, List.getElem_cons_zero, List.getElem_cons_succ, List.setIfInBounds_toArray, List.set_cons_zero, List.set_cons_succ]
  refine wpAnyH_ready (rs := [1]) (by kernel_rfl) (by simp) ?_
  refine AllReadyH.cons rfl (fun K hK => ?_) AllReadyH.nil
  go_simp
  refine exT_c _ _ ?_
  intro w2 q2 t2 hb2 ht2 he2
  have hs2 := hs1.keep (Keeps.of_below hb2)
  refine hK.out _ _ (keepH9 (hHeld.1.next hb2)) (fun hHeld' => ?_)
  clear hK K hHeld
  have hHeld := hHeld'
  clear hHeld'
  try simp only [Act.put, List.getElem_toArray, List.getElem_cons_zero, List.getElem_cons_succ, List.setIfInBounds_toArray, List.set_cons_zero, List.set_cons_succ]
  refine wpAnyH_ready (rs := [3]) (by kernel_rfl) (by simp) ?_
  refine AllReadyH.cons rfl (fun K hK => ?_) AllReadyH.nil
  go_simp
  refine true_c q1 2 2 exS q2 1 1 [t2] exRecA _ _ rfl hs2 exS_ok rfl ht2 (by rw [List.map_singleton, he2]; exact exT_ok) StrsAt.nil (by first | decide | exact (show 1 ≤ maxLen by decide)) ?_
  intro v w3 hb3 hiff
  obtain rfl : v = true := by rw [List.map_singleton, he2] at hiff; exact hiff.2 ex_trueA
  refine hK.out _ _ (keepH9 (hHeld.1.next hb3)) (fun hHeld' => ?_)
  clear hb1 hs1 hb2 ht2 he2 hs2 hb3 hiff
  clear hK K hHeld
  have hHeld := hHeld'
  clear hHeld'
  try simp only [Act.put, List.getElem_toArray, List.getElem_cons_zero, List.getElem_cons_succ, List.setIfInBounds_toArray, List.set_cons_zero, List.set_cons_succ]
  refine wpAnyH_take (i := 4) (v := ?v4) rfl (by kernel_rfl) (by kernel_rfl) (by kernel_rfl) (fun _ _ _ h => h) (Or.inl ⟨by rfl, ?hy4⟩) hHeld ?rest4
  case hy4 => (intro w0 hSw; (try dsimp only at hSw); go_simp; all_goals with_reducible rfl)
  try simp only [Act.put, List.getElem_toArray, List.getElem_cons_zero, List.getElem_cons_succ, List.setIfInBounds_toArray, List.set_cons_zero, List.set_cons_succ]
  refine wpAnyH_take (i := 7) (v := ?v7) rfl (by kernel_rfl) (by kernel_rfl) (by kernel_rfl) (fun _ _ _ h => h) (Or.inl ⟨by rfl, ?hy7⟩) hHeld ?rest7
  case hy7 => (intro w0 hSw; (try dsimp only at hSw); go_simp; all_goals with_reducible rfl)
  try simp only [Act.put, List.getElem_toArray, List.getElem_cons_zero, List.getElem_cons_succ, List.setIfInBounds_toArray, List.set_cons_zero, List.set_cons_succ]
  refine wpAnyH_ready (rs := [5]) (by kernel_rfl) (by simp) ?_
  refine AllReadyH.cons rfl (fun K hK => ?_) AllReadyH.nil
  go_simp
  refine exS_c _ _ ?_
  intro w1 q1 hb1 hs1
  refine hK.out _ _ (keepH9 (hHeld.1.next hb1)) (fun hHeld' => ?_)
  clear hK K hHeld
  have hHeld := hHeld'
  clear hHeld'
  try simp only [Act.put, List.getElem_toArray, List.getElem_cons_zero, List.getElem_cons_succ, List.setIfInBounds_toArray, List.set_cons_zero, List.set_cons_succ]
  refine wpAnyH_ready (rs := [6]) (by kernel_rfl) (by simp) ?_
  refine AllReadyH.cons rfl (fun K hK => ?_) AllReadyH.nil
  go_simp
  refine exT_c _ _ ?_
  intro w2 q2 t2 hb2 ht2 he2
  have hs2 := hs1.keep (Keeps.of_below hb2)
  refine hK.out _ _ (keepH9 (hHeld.1.next hb2)) (fun hHeld' => ?_)
  clear hK K hHeld
  have hHeld := hHeld'
  clear hHeld'
  try simp only [Act.put, List.getElem_toArray, List.getElem_cons_zero, List.getElem_cons_succ, List.setIfInBounds_toArray, List.set_cons_zero, List.set_cons_succ]
  refine wpAnyH_ready (rs := [8]) (by kernel_rfl) (by simp) ?_
  refine AllReadyH.cons rfl (fun K hK => ?_) AllReadyH.nil
  go_simp
  refine true_c q1 2 2 exS q2 1 1 [t2] (exRecB g) _ _ rfl hs2 exS_ok rfl ht2 (by rw [List.map_singleton, he2]; exact exT_ok) hHeld.1.strs (by first | decide | exact (show 1 ≤ maxLen by decide)) ?_
  intro v w3 hb3 hiff
  obtain rfl : v = true := by rw [List.map_singleton, he2] at hiff; exact hiff.2 ex_trueB
  refine hK.out _ _ (keepH9 (hHeld.1.next hb3)) (fun hHeld' => ?_)
  clear hb1 hs1 hb2 ht2 he2 hs2 hb3 hiff
  clear hK K hHeld
  have hHeld := hHeld'
  clear hHeld'
  try simp only [Act.put, List.getElem_toArray, List.getElem_cons_zero, List.getElem_cons_succ, List.setIfInBounds_toArray, List.set_cons_zero, List.set_cons_succ]
  refine wpAnyH_take (i := 9) (v := ?v9) rfl (by kernel_rfl) (by kernel_rfl) (by kernel_rfl) (fun _ _ _ h => h) (Or.inl ⟨by rfl, ?hy9⟩) hHeld ?rest9
  case hy9 => (intro w0 hSw; (try dsimp only at hSw); go_simp; all_goals with_reducible rfl)
  try simp only [Act.put, List.getElem_toArray, List.getElem_cons_zero, List.getElem_cons_succ, List.setIfInBounds_toArray, List.set_cons_zero, List.set_cons_succ]
  refine wpAnyH_take (i := 10) (v := ?v10) rfl (by kernel_rfl) (by kernel_rfl) (by kernel_rfl) (fun _ _ _ h => h) (Or.inl ⟨by rfl, ?hy10⟩) hHeld ?rest10
  case hy10 => (intro w0 hSw; (try dsimp only at hSw); go_simp; all_goals with_reducible rfl)
  try simp only [Act.put, List.getElem_toArray, List.getElem_cons_zero, List.getElem_cons_succ, List.setIfInBounds_toArray, List.set_cons_zero, List.set_cons_succ]
  refine wpAnyH_take (i := 13) (v := ?v13) rfl (by kernel_rfl) (by kernel_rfl) (by kernel_rfl) (fun _ _ _ h => h) (Or.inl ⟨by rfl, ?hy13⟩) hHeld ?rest13
  case hy13 => (intro w0 hSw; (try dsimp only at hSw); go_simp; all_goals with_reducible rfl)
  try simp only [Act.put, List.getElem_toArray, List.getElem_cons_zero, List.getElem_cons_succ, List.setIfInBounds_toArray, List.set_cons_zero, List.set_cons_succ]
  refine wpAnyH_ready (rs := [11]) (by kernel_rfl) (by simp) ?_
  refine AllReadyH.cons rfl (fun K hK => ?_) AllReadyH.nil
  go_simp
  refine exS_c _ _ ?_
  intro w1 q1 hb1 hs1
  refine hK.out _ _ (keepH9 (hHeld.1.next hb1)) (fun hHeld' => ?_)
  clear hK K hHeld
  have hHeld := hHeld'
  clear hHeld'
  try simp only [Act.put, List.getElem_toArray, List.getElem_cons_zero, List.getElem_cons_succ, List.setIfInBounds_toArray, List.set_cons_zero, List.set_cons_succ]
  refine wpAnyH_ready (rs := [12]) (by kernel_rfl) (by simp) ?_
  refine AllReadyH.cons rfl (fun K hK => ?_) AllReadyH.nil
  go_simp
  refine exT_c _ _ ?_
  intro w2 q2 t2 hb2 ht2 he2
  have hs2 := hs1.keep (Keeps.of_below hb2)
  refine hK.out _ _ (keepH9 (hHeld.1.next hb2)) (fun hHeld' => ?_)
  clear hK K hHeld
  have hHeld := hHeld'
  clear hHeld'
  try simp only [Act.put, List.getElem_toArray, List.getElem_cons_zero, List.getElem_cons_succ, List.setIfInBounds_toArray, List.set_cons_zero, List.set_cons_succ]
  refine wpAnyH_ready (rs := [14]) (by kernel_rfl) (by simp) ?_
  refine AllReadyH.cons rfl (fun K hK => ?_) AllReadyH.nil
  go_simp
  refine true_c q1 2 2 exS q2 1 1 [t2] exRecC _ _ rfl hs2 exS_ok rfl ht2 (by rw [List.map_singleton, he2]; exact exT_ok) StrsAt.nil (by first | decide | exact (show 1 ≤ maxLen by decide)) ?_
  intro v w3 hb3 hiff
  obtain rfl : v = true := by rw [List.map_singleton, he2] at hiff; exact hiff.2 ex_trueC
  refine hK.out _ _ (keepH9 (hHeld.1.next hb3)) (fun hHeld' => ?_)
  clear hb1 hs1 hb2 ht2 he2 hs2 hb3 hiff
  clear hK K hHeld
  have hHeld := hHeld'
  clear hHeld'
  try simp only [Act.put, List.getElem_toArray, List.getElem_cons_zero, List.getElem_cons_succ, List.setIfInBounds_toArray, List.set_cons_zero, List.set_cons_succ]
  refine wpAnyH_take (i := 15) (v := ?v15) rfl (by kernel_rfl) (by kernel_rfl) (by kernel_rfl) (fun _ _ _ h => h) (Or.inl ⟨by rfl, ?hy15⟩) hHeld ?rest15
  case hy15 => (intro w0 hSw; (try dsimp only at hSw); go_simp; all_goals with_reducible rfl)
  try simp only [Act.put, List.getElem_toArray, List.getElem_cons_zero, List.getElem_cons_succ, List.setIfInBounds_toArray, List.set_cons_zero, List.set_cons_succ]
  refine wpAnyH_take (i := 16) (v := ?v16) rfl (by kernel_rfl) (by kernel_rfl) (by kernel_rfl) (fun _ _ _ h => h) (Or.inl ⟨by rfl, ?hy16⟩) hHeld ?rest16
  case hy16 => (intro w0 hSw; (try dsimp only at hSw); go_simp; all_goals with_reducible rfl)
  try simp only [Act.put, List.getElem_toArray, List.getElem_cons_zero, List.getElem_cons_succ, List.setIfInBounds_toArray, List.set_cons_zero, List.set_cons_succ]
  refine wpAnyH_take (i := 19) (v := ?v19) rfl (by kernel_rfl) (by kernel_rfl) (by kernel_rfl) (fun _ _ _ h => h) (Or.inl ⟨by rfl, ?hy19⟩) hHeld ?rest19
  case hy19 => (intro w0 hSw; (try dsimp only at hSw); go_simp; all_goals with_reducible rfl)
  try simp only [Act.put, List.getElem_toArray, List.getElem_cons_zero, List.getElem_cons_succ, List.setIfInBounds_toArray, List.set_cons_zero, List.set_cons_succ]
  refine wpAnyH_ready (rs := [17]) (by kernel_rfl) (by simp) ?_
  refine AllReadyH.cons rfl (fun K hK => ?_) AllReadyH.nil
  go_simp
  refine exS_c _ _ ?_
  intro w1 q1 hb1 hs1
  refine hK.out _ _ (keepH9 (hHeld.1.next hb1)) (fun hHeld' => ?_)
  clear hK K hHeld
  have hHeld := hHeld'
  clear hHeld'
  try simp only [Act.put, List.getElem_toArray, List.getElem_cons_zero, List.getElem_cons_succ, List.setIfInBounds_toArray, List.set_cons_zero, List.set_cons_succ]
  refine wpAnyH_ready (rs := [18]) (by kernel_rfl) (by simp) ?_
  refine AllReadyH.cons rfl (fun K hK => ?_) AllReadyH.nil
  go_simp
  refine exT_c _ _ ?_
  intro w2 q2 t2 hb2 ht2 he2
  have hs2 := hs1.keep (Keeps.of_below hb2)
  refine hK.out _ _ (keepH9 (hHeld.1.next hb2)) (fun hHeld' => ?_)
  clear hK K hHeld
  have hHeld := hHeld'
  clear hHeld'
  try simp only [Act.put, List.getElem_toArray, List.getElem_cons_zero, List.getElem_cons_succ, List.setIfInBounds_toArray, List.set_cons_zero, List.set_cons_succ]
  refine wpAnyH_ready (rs := [20]) (by kernel_rfl) (by simp) ?_
  refine AllReadyH.cons rfl (fun K hK => ?_) AllReadyH.nil
  go_simp
  refine true_c q1 2 2 exS q2 1 1 [t2] ⟨0, 0, 1, 166, exA, none, [], 0⟩ _ _ rfl hs2 exS_ok rfl ht2 (by rw [List.map_singleton, he2]; exact exT_ok) StrsAt.nil (by first | decide | exact (show 1 ≤ maxLen by decide)) ?_
  intro v w3 hb3 hiff
  obtain rfl : v = false := by rw [List.map_singleton, he2] at hiff; exact not_true hiff ex_false166
  refine hK.out _ _ (keepH9 (hHeld.1.next hb3)) (fun hHeld' => ?_)
  clear hb1 hs1 hb2 ht2 he2 hs2 hb3 hiff
  clear hK K hHeld
  have hHeld := hHeld'
  clear hHeld'
  try simp only [Act.put, List.getElem_toArray, List.getElem_cons_zero, List.getElem_cons_succ, List.setIfInBounds_toArray, List.set_cons_zero, List.set_cons_succ]
  refine wpAnyH_take (i := 21) (v := ?v21) rfl (by kernel_rfl) (by kernel_rfl) (by kernel_rfl) (fun _ _ _ h => h) (Or.inl ⟨by rfl, ?hy21⟩) hHeld ?rest21
  case hy21 => (intro w0 hSw; (try dsimp only at hSw); go_simp; all_goals with_reducible rfl)
  try simp only [Act.put, List.getElem_toArray, List.getElem_cons_zero, List.getElem_cons_succ, List.setIfInBounds_toArray, List.set_cons_zero, List.set_cons_succ]
  refine wpAnyH_take (i := 22) (v := ?v22) rfl (by kernel_rfl) (by kernel_rfl) (by kernel_rfl) (fun _ _ _ h => h) (Or.inl ⟨by rfl, ?hy22⟩) hHeld ?rest22
  case hy22 => (intro w0 hSw; (try dsimp only at hSw); go_simp; all_goals with_reducible rfl)
  try simp only [Act.put, List.getElem_toArray, List.getElem_cons_zero, List.getElem_cons_succ, List.setIfInBounds_toArray, List.set_cons_zero, List.set_cons_succ]
  refine wpAnyH_take (i := 23) (v := ?v23) rfl (by kernel_rfl) (by kernel_rfl) (by kernel_rfl) (fun _ _ _ h => h) (Or.inl ⟨by rfl, ?hy23⟩) hHeld ?rest23
  case hy23 => (intro w0 hSw; (try dsimp only at hSw); go_simp; all_goals with_reducible rfl)
  try simp only [Act.put, List.getElem_toArray, List.getElem_cons_zero, List.getElem_cons_succ, List.setIfInBounds_toArray, List.set_cons_zero, List.set_cons_succ]
  refine wpAnyH_take (i := 26) (v := ?v26) rfl (by kernel_rfl) (by kernel_rfl) (by kernel_rfl) (fun _ _ _ h => h) (Or.inl ⟨by rfl, ?hy26⟩) hHeld ?rest26
  case hy26 => (intro w0 hSw; (try dsimp only at hSw); go_simp; all_goals with_reducible rfl)
  try simp only [Act.put, List.getElem_toArray, List.getElem_cons_zero, List.getElem_cons_succ, List.setIfInBounds_toArray, List.set_cons_zero, List.set_cons_succ]
  refine wpAnyH_ready (rs := [24]) (by kernel_rfl) (by simp) ?_
  refine AllReadyH.cons rfl (fun K hK => ?_) AllReadyH.nil
  go_simp
  refine exS_c _ _ ?_
  intro w1 q1 hb1 hs1
  refine hK.out _ _ (keepH9 (hHeld.1.next hb1)) (fun hHeld' => ?_)
  clear hK K hHeld
  have hHeld := hHeld'
  clear hHeld'
  try simp only [Act.put, List.getElem_toArray, List.getElem_cons_zero, List.getElem_cons_succ, List.setIfInBounds_toArray, List.set_cons_zero, List.set_cons_succ]
  refine wpAnyH_ready (rs := [25]) (by kernel_rfl) (by simp) ?_
  refine AllReadyH.cons rfl (fun K hK => ?_) AllReadyH.nil
  go_simp
  refine exT_c _ _ ?_
  intro w2 q2 t2 hb2 ht2 he2
  have hs2 := hs1.keep (Keeps.of_below hb2)
  refine hK.out _ _ (keepH9 (hHeld.1.next hb2)) (fun hHeld' => ?_)
  clear hK K hHeld
  have hHeld := hHeld'
  clear hHeld'
  try simp only [Act.put, List.getElem_toArray, List.getElem_cons_zero, List.getElem_cons_succ, List.setIfInBounds_toArray, List.set_cons_zero, List.set_cons_succ]
  refine wpAnyH_ready (rs := [27]) (by kernel_rfl) (by simp) ?_
  refine AllReadyH.cons rfl (fun K hK => ?_) AllReadyH.nil
  go_simp
  refine true_c q1 2 2 exS q2 1 1 [t2] ⟨0, 0, 1, 165, exA, none, [], 0⟩ _ _ rfl hs2 exS_ok rfl ht2 (by rw [List.map_singleton, he2]; exact exT_ok) StrsAt.nil (by first | decide | exact (show 1 ≤ maxLen by decide)) ?_
  intro v w3 hb3 hiff
  obtain rfl : v = true := by rw [List.map_singleton, he2] at hiff; exact hiff.2 ex_true165
  refine hK.out _ _ (keepH9 (hHeld.1.next hb3)) (fun hHeld' => ?_)
  clear hb1 hs1 hb2 ht2 he2 hs2 hb3 hiff
  clear hK K hHeld
  have hHeld := hHeld'
  clear hHeld'
  try simp only [Act.put, List.getElem_toArray, List.getElem_cons_zero, List.getElem_cons_succ, List.setIfInBounds_toArray, List.set_cons_zero, List.set_cons_succ]
  refine wpAnyH_take (i := 28) (v := ?v28) rfl (by kernel_rfl) (by kernel_rfl) (by kernel_rfl) (fun _ _ _ h => h) (Or.inl ⟨by rfl, ?hy28⟩) hHeld ?rest28
  case hy28 => (intro w0 hSw; (try dsimp only at hSw); go_simp; all_goals with_reducible rfl)
  try simp only [Act.put, List.getElem_toArray, List.getElem_cons_zero, List.getElem_cons_succ, List.setIfInBounds_toArray, List.set_cons_zero, List.set_cons_succ]
  refine wpAnyH_take (i := 29) (v := ?v29) rfl (by kernel_rfl) (by kernel_rfl) (by kernel_rfl) (fun _ _ _ h => h) (Or.inl ⟨by rfl, ?hy29⟩) hHeld ?rest29
  case hy29 => (intro w0 hSw; (try dsimp only at hSw); go_simp; all_goals with_reducible rfl)
  try simp only [Act.put, List.getElem_toArray, List.getElem_cons_zero, List.getElem_cons_succ, List.setIfInBounds_toArray, List.set_cons_zero, List.set_cons_succ]
  refine wpAnyH_done (by kernel_rfl) ?_ _
  refine NoPanic.normal ?_
  exact HN.out _ _ _ _ _ _ _ _ _ _ _ _ _ _ _ _ _ _ _ _ _ _ _ _ _ _ _ _ _ _ hHeld.1
set_option maxRecDepth 100000 in
set_option maxHeartbeats 4000000 in
theorem head_reg12 (Q : Exit → Act → World → Prop) (g s : Nat) (w wr : World) (hX : HY w g s wr) {u0 u1 u2 u5 u6 u7 u10 u11 u12 u13 u14 u15 u16 u17 u18 u19 u20 u21 u22 u23 u24 u25 u26 u27 u28 u29 u30 u31 u32 u33 u34 u35 u36 u37 u38 u39 u40 u41 u42 u43 u44 u45 u46 u47 u48 u49 u50 u51 u52 u53 u54 u55 u56 u57 u58 u59 u60 u61 u62 u63 u64 u65 u66 u67 u68 u69 u70 u71 u72 u73 u74 u75 u76 u77 u78 u79 u80 u81 u82 u83 u84 u85 u86 u87 u88 u89 u90 u91 u92 u93 u94 u95 u96 u97 u98 u99 u100 u101 u102 u103 : Value}
    (HN : Hid (∀ W v86 v87 v88 v89 v90 v91 v92 v93 v94 v95 v96 v97 v98 v99 v100 v101 v102 v103, HY w g s W → Q .normal { tmps := #[.bool true, u1, u2, .pointer (some ⟨g + 1 + 1, 0, none⟩), .pointer (some ⟨g + 1 + 1 + 1, 0, none⟩), u5, u6, u7, .bool true, .bool true, u10, u11, u12, u13, u14, u15, u16, u17, u18, u19, u20, u21, u22, u23, u24, u25, u26, u27, u28, u29, u30, u31, u32, u33, u34, u35, u36, u37, u38, u39, u40, u41, u42, u43, u44, u45, u46, u47, u48, u49, u50, u51, u52, u53, u54, u55, u56, u57, u58, u59, u60, u61, u62, u63, u64, u65, u66, u67, u68, u69, u70, u71, u72, u73, u74, u75, u76, u77, u78, u79, u80, u81, u82, u83, u84, u85, v86, v87, v88, v89, v90, v91, v92, v93, v94, v95, v96, v97, v98, v99, v100, v101, v102, v103], defers := [] } W)) :
    headReg12.wp Try.prog Q { tmps := #[u0, u1, u2, .pointer (some ⟨g + 1 + 1, 0, none⟩), .pointer (some ⟨g + 1 + 1 + 1, 0, none⟩), u5, u6, u7, .bool true, .bool true, u10, u11, u12, u13, u14, u15, u16, u17, u18, u19, u20, u21, u22, u23, u24, u25, u26, u27, u28, u29, u30, u31, u32, u33, u34, u35, u36, u37, u38, u39, u40, u41, u42, u43, u44, u45, u46, u47, u48, u49, u50, u51, u52, u53, u54, u55, u56, u57, u58, u59, u60, u61, u62, u63, u64, u65, u66, u67, u68, u69, u70, u71, u72, u73, u74, u75, u76, u77, u78, u79, u80, u81, u82, u83, u84, u85, u86, u87, u88, u89, u90, u91, u92, u93, u94, u95, u96, u97, u98, u99, u100, u101, u102, u103], defers := [] } wr := by
  simp only [headReg12, Try.f10, Option.getD, regionsOf, List.nil_append, List.append_nil, List.cons_append, List.getD, List.getElem?_cons_succ, List.getElem?_cons_zero]
  refine wp_region_noPanic ?_
  refine wp_region_held_drew (S := fun W => HY w g s W ∧ W.cell? ⟨g + 1 + 1, 0, none⟩ = some (.int .i64 0) ∧ W.cell? ⟨g + 1 + 1, 1, none⟩ = some (.int .i64 1) ∧ W.cell? ⟨g + 1 + 1, 2, none⟩ = some (.int .i64 2) ∧ W.cell? ⟨g + 1 + 1, 3, none⟩ = some (.int .i64 160) ∧ W.cell? ⟨g + 1 + 1, 4, none⟩ = some (.string exC) ∧ W.cell? ⟨g + 1 + 1, 5, none⟩ = some (.slice (some ⟨s, 0, none⟩) 1 1) ∧ W.cell? ⟨g + 1 + 1 + 1, 0, none⟩ = some (.int .i64 1) ∧ W.cell? ⟨g + 1 + 1 + 1, 1, none⟩ = some (.int .i64 0) ∧ W.cell? ⟨g + 1 + 1 + 1, 2, none⟩ = some (.int .i64 1) ∧ W.cell? ⟨g + 1 + 1 + 1, 3, none⟩ = some (.int .i64 221) ∧ W.cell? ⟨g + 1 + 1 + 1, 4, none⟩ = some (.string exC) ∧ W.cell? ⟨g + 1 + 1 + 1, 5, none⟩ = some (.slice none 0 0)) (by kernel_rfl) (keepH12 (hX.next (Below.refl _ _).drew)) (fun hHeld => ?_)
  refine wpAnyH_take (i := 0) (v := ?v0) rfl (by kernel_rfl) (by kernel_rfl) (by kernel_rfl) (fun _ _ _ h => h) (Or.inl ⟨by rfl, ?hy0⟩) hHeld ?rest0
  case hy0 => (intro w0 hSw; (try dsimp only at hSw); go_simp; all_goals with_reducible rfl)
  try simp only [Act.put, List.getElem_toArray, List.getElem_cons_zero, List.getElem_cons_succ, List.setIfInBounds_toArray, List.set_cons_zero, List.set_cons_succ]
  refine wpAnyH_take (i := 1) (v := ?v1) rfl (by kernel_rfl) (by kernel_rfl) (by kernel_rfl) (fun _ _ _ h => h) (Or.inl ⟨by rfl, ?hy1⟩) hHeld ?rest1
  case hy1 => (intro w0 hSw; (try dsimp only at hSw); go_simp; all_goals with_reducible rfl)
  try simp only [Act.put, List.getElem_toArray, List.getElem_cons_zero, List.getElem_cons_succ, List.setIfInBounds_toArray, List.set_cons_zero, List.set_cons_succ]
  refine wpAnyH_take (i := 2) (v := ?v2) rfl (by kernel_rfl) (by kernel_rfl) (by kernel_rfl) (fun _ _ _ h => h) (Or.inl ⟨by rfl, ?hy2⟩) hHeld ?rest2
  case hy2 => (intro w0 hSw; (try dsimp only at hSw); go_simp; all_goals with_reducible rfl)
  try simp only [Act.put, List.getElem_toArray, List.getElem_cons_zero, List.getElem_cons_succ, List.setIfInBounds_toArray, List.set_cons_zero, List.set_cons_succ]
  refine wpAnyH_take (i := 3) (v := ?v3) rfl (by kernel_rfl) (by kernel_rfl) (by kernel_rfl) (fun _ _ _ h => h) (Or.inl ⟨by rfl, ?hy3⟩) hHeld ?rest3
  case hy3 => (intro w0 hSw; (try dsimp only at hSw); go_simp; all_goals with_reducible rfl)
  try simp only [Act.put, List.getElem_toArray, List.getElem_cons_zero, List.getElem_cons_succ, List.setIfInBounds_toArray, List.set_cons_zero, List.set_cons_succ]
  refine wpAnyH_take (i := 4) (v := ?v4) rfl (by kernel_rfl) (by kernel_rfl) (by kernel_rfl) (fun _ _ _ h => h) (Or.inl ⟨by rfl, ?hy4⟩) hHeld ?rest4
  case hy4 => (intro w0 hSw; (try dsimp only at hSw); go_simp; all_goals with_reducible rfl)
  try simp only [Act.put, List.getElem_toArray, List.getElem_cons_zero, List.getElem_cons_succ, List.setIfInBounds_toArray, List.set_cons_zero, List.set_cons_succ]
  refine wpAnyH_take (i := 7) (v := ?v7) rfl (by kernel_rfl) (by kernel_rfl) (by kernel_rfl) (fun _ _ _ h => h) (Or.inl ⟨by rfl, ?hy7⟩) hHeld ?rest7
  case hy7 => (intro w0 hSw; (try dsimp only at hSw); go_simp; all_goals with_reducible rfl)
  try simp only [Act.put, List.getElem_toArray, List.getElem_cons_zero, List.getElem_cons_succ, List.setIfInBounds_toArray, List.set_cons_zero, List.set_cons_succ]
  refine wpAnyH_ready (rs := [5]) (by kernel_rfl) (by simp) ?_
  refine AllReadyH.cons rfl (fun K hK => ?_) AllReadyH.nil
  go_simp
  refine exS_c _ _ ?_
  intro w1 q1 hb1 hs1
  refine hK.out _ _ (keepH12 (hHeld.1.next hb1)) (fun hHeld' => ?_)
  clear hK K hHeld
  have hHeld := hHeld'
  clear hHeld'
  try simp only [Act.put, List.getElem_toArray, List.getElem_cons_zero, List.getElem_cons_succ, List.setIfInBounds_toArray, List.set_cons_zero, List.set_cons_succ]
  refine wpAnyH_ready (rs := [6]) (by kernel_rfl) (by simp) ?_
  refine AllReadyH.cons rfl (fun K hK => ?_) AllReadyH.nil
  go_simp
  refine exT_c _ _ ?_
  intro w2 q2 t2 hb2 ht2 he2
  have hs2 := hs1.keep (Keeps.of_below hb2)
  refine hK.out _ _ (keepH12 (hHeld.1.next hb2)) (fun hHeld' => ?_)
  clear hK K hHeld
  have hHeld := hHeld'
  clear hHeld'
  try simp only [Act.put, List.getElem_toArray, List.getElem_cons_zero, List.getElem_cons_succ, List.setIfInBounds_toArray, List.set_cons_zero, List.set_cons_succ]
  refine wpAnyH_ready (rs := [8]) (by kernel_rfl) (by simp) ?_
  refine AllReadyH.cons rfl (fun K hK => ?_) AllReadyH.nil
  go_simp
  refine true_c q1 2 2 exS q2 1 1 [t2] ⟨0, 1, 2, 160, exC, some ⟨s, 0, none⟩, [exB], 1⟩ _ _ rfl hs2 exS_ok rfl ht2 (by rw [List.map_singleton, he2]; exact exT_ok) hHeld.1.strs (by first | decide | exact (show 1 ≤ maxLen by decide)) ?_
  intro v w3 hb3 hiff
  obtain rfl : v = false := by rw [List.map_singleton, he2] at hiff; exact not_true hiff ex_falseB
  refine hK.out _ _ (keepH12 (hHeld.1.next hb3)) (fun hHeld' => ?_)
  clear hb1 hs1 hb2 ht2 he2 hs2 hb3 hiff
  clear hK K hHeld
  have hHeld := hHeld'
  clear hHeld'
  try simp only [Act.put, List.getElem_toArray, List.getElem_cons_zero, List.getElem_cons_succ, List.setIfInBounds_toArray, List.set_cons_zero, List.set_cons_succ]
  refine wpAnyH_take (i := 9) (v := ?v9) rfl (by kernel_rfl) (by kernel_rfl) (by kernel_rfl) (fun _ _ _ h => h) (Or.inl ⟨by rfl, ?hy9⟩) hHeld ?rest9
  case hy9 => (intro w0 hSw; (try dsimp only at hSw); go_simp; all_goals with_reducible rfl)
  try simp only [Act.put, List.getElem_toArray, List.getElem_cons_zero, List.getElem_cons_succ, List.setIfInBounds_toArray, List.set_cons_zero, List.set_cons_succ]
  refine wpAnyH_take (i := 10) (v := ?v10) rfl (by kernel_rfl) (by kernel_rfl) (by kernel_rfl) (fun _ _ _ h => h) (Or.inl ⟨by rfl, ?hy10⟩) hHeld ?rest10
  case hy10 => (intro w0 hSw; (try dsimp only at hSw); go_simp; all_goals with_reducible rfl)
  try simp only [Act.put, List.getElem_toArray, List.getElem_cons_zero, List.getElem_cons_succ, List.setIfInBounds_toArray, List.set_cons_zero, List.set_cons_succ]
  refine wpAnyH_take (i := 11) (v := ?v11) rfl (by kernel_rfl) (by kernel_rfl) (by kernel_rfl) (fun _ _ _ h => h) (Or.inl ⟨by rfl, ?hy11⟩) hHeld ?rest11
  case hy11 => (intro w0 hSw; (try dsimp only at hSw); go_simp; all_goals with_reducible rfl)
  try simp only [Act.put, List.getElem_toArray, List.getElem_cons_zero, List.getElem_cons_succ, List.setIfInBounds_toArray, List.set_cons_zero, List.set_cons_succ]
  refine wpAnyH_take (i := 14) (v := ?v14) rfl (by kernel_rfl) (by kernel_rfl) (by kernel_rfl) (fun _ _ _ h => h) (Or.inl ⟨by rfl, ?hy14⟩) hHeld ?rest14
  case hy14 => (intro w0 hSw; (try dsimp only at hSw); go_simp; all_goals with_reducible rfl)
  try simp only [Act.put, List.getElem_toArray, List.getElem_cons_zero, List.getElem_cons_succ, List.setIfInBounds_toArray, List.set_cons_zero, List.set_cons_succ]
  refine wpAnyH_ready (rs := [12]) (by kernel_rfl) (by simp) ?_
  refine AllReadyH.cons rfl (fun K hK => ?_) AllReadyH.nil
  go_simp
  refine exS_c _ _ ?_
  intro w1 q1 hb1 hs1
  refine hK.out _ _ (keepH12 (hHeld.1.next hb1)) (fun hHeld' => ?_)
  clear hK K hHeld
  have hHeld := hHeld'
  clear hHeld'
  try simp only [Act.put, List.getElem_toArray, List.getElem_cons_zero, List.getElem_cons_succ, List.setIfInBounds_toArray, List.set_cons_zero, List.set_cons_succ]
  refine wpAnyH_ready (rs := [13]) (by kernel_rfl) (by simp) ?_
  refine AllReadyH.cons rfl (fun K hK => ?_) AllReadyH.nil
  go_simp
  refine exT_c _ _ ?_
  intro w2 q2 t2 hb2 ht2 he2
  have hs2 := hs1.keep (Keeps.of_below hb2)
  refine hK.out _ _ (keepH12 (hHeld.1.next hb2)) (fun hHeld' => ?_)
  clear hK K hHeld
  have hHeld := hHeld'
  clear hHeld'
  try simp only [Act.put, List.getElem_toArray, List.getElem_cons_zero, List.getElem_cons_succ, List.setIfInBounds_toArray, List.set_cons_zero, List.set_cons_succ]
  refine wpAnyH_ready (rs := [15]) (by kernel_rfl) (by simp) ?_
  refine AllReadyH.cons rfl (fun K hK => ?_) AllReadyH.nil
  go_simp
  refine true_c q1 2 2 exS q2 1 1 [t2] ⟨1, 0, 1, 221, exC, none, [], 0⟩ _ _ rfl hs2 exS_ok rfl ht2 (by rw [List.map_singleton, he2]; exact exT_ok) StrsAt.nil (by first | decide | exact (show 1 ≤ maxLen by decide)) ?_
  intro v w3 hb3 hiff
  obtain rfl : v = false := by rw [List.map_singleton, he2] at hiff; exact not_true hiff ex_falseC
  refine hK.out _ _ (keepH12 (hHeld.1.next hb3)) (fun hHeld' => ?_)
  clear hb1 hs1 hb2 ht2 he2 hs2 hb3 hiff
  clear hK K hHeld
  have hHeld := hHeld'
  clear hHeld'
  try simp only [Act.put, List.getElem_toArray, List.getElem_cons_zero, List.getElem_cons_succ, List.setIfInBounds_toArray, List.set_cons_zero, List.set_cons_succ]
  refine wpAnyH_take (i := 16) (v := ?v16) rfl (by kernel_rfl) (by kernel_rfl) (by kernel_rfl) (fun _ _ _ h => h) (Or.inl ⟨by rfl, ?hy16⟩) hHeld ?rest16
  case hy16 => (intro w0 hSw; (try dsimp only at hSw); go_simp; all_goals with_reducible rfl)
  try simp only [Act.put, List.getElem_toArray, List.getElem_cons_zero, List.getElem_cons_succ, List.setIfInBounds_toArray, List.set_cons_zero, List.set_cons_succ]
  refine wpAnyH_take (i := 17) (v := ?v17) rfl (by kernel_rfl) (by kernel_rfl) (by kernel_rfl) (fun _ _ _ h => h) (Or.inl ⟨by rfl, ?hy17⟩) hHeld ?rest17
  case hy17 => (intro w0 hSw; (try dsimp only at hSw); go_simp; all_goals with_reducible rfl)
  try simp only [Act.put, List.getElem_toArray, List.getElem_cons_zero, List.getElem_cons_succ, List.setIfInBounds_toArray, List.set_cons_zero, List.set_cons_succ]
  refine wpAnyH_take (i := 18) (v := ?v18) rfl (by kernel_rfl) (by kernel_rfl) (by kernel_rfl) (fun _ _ _ h => h) (Or.inl ⟨by rfl, ?hy18⟩) hHeld ?rest18
  case hy18 => (intro w0 hSw; (try dsimp only at hSw); go_simp; all_goals with_reducible rfl)
  try simp only [Act.put, List.getElem_toArray, List.getElem_cons_zero, List.getElem_cons_succ, List.setIfInBounds_toArray, List.set_cons_zero, List.set_cons_succ]
  refine wpAnyH_done (by kernel_rfl) ?_ _
  refine NoPanic.normal ?_
  exact HN.out _ _ _ _ _ _ _ _ _ _ _ _ _ _ _ _ _ _ _ hHeld.1
end Go.Proofs.Ytihdpkeclmpehaa
