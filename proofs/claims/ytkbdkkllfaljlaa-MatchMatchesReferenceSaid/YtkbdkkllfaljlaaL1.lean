/- MatchMatchesReference: all functions of the package answer as the reference implementation does. Conditions: those that the law tests itself (texts of at most 210 bytes; 12 streets with 6 aliases each and an address, texts of at most 60 bytes); at any other input the law asks its fixed examples alone. Parts of this text: MatchMatchesReference: the functions are the reference's. -/
import Derived.Test.YtkbdkkllfaljlaaR6
import Derived.Test.YtkbdkkllfaljlaaL7
set_option linter.unusedVariables false
set_option linter.unusedSimpArgs false
namespace Go.Proofs.Ytkbdkkllfaljlaa
open Go.ChangeShapes Go.WideShapes Go.ChangeAt Go.RowKit Go.Sort

theorem ab_conj {x : Av} {w W w' : World} (h : AB x w W) (hb : Below W.heap.size W w') : Below W.heap.size W w' ∧ w'.cell? ⟨w.heap.size, 0, none⟩ = some (.string x.person) ∧ w'.cell? ⟨w.heap.size, 0 + 1, none⟩ = some (.string x.street) ∧ w'.cell? ⟨w.heap.size, 0 + 2, none⟩ = some (.int .i64 x.number) ∧ w'.cell? ⟨w.heap.size, 0 + 3, none⟩ = some (.string x.code) ∧ w'.cell? ⟨w.heap.size, 0 + 4, none⟩ = some (.string x.town) :=
  ⟨hb, cell_later hb h.a0, cell_later hb h.a1, cell_later hb h.a2, cell_later hb h.a3, cell_later hb h.a4⟩
noncomputable def matchReg4 : Code := (regionsOf (Try.f3.body.getD .skip)).getD 4 .skip
set_option maxRecDepth 100000 in
set_option maxHeartbeats 1000000 in
theorem mt_reg4 (Q : Exit → Act → World → Prop) (a b : ByteArray) (p : Option Addr) (n cap : Nat) (x : Av) (most : Int) (F : List Cnd) (w wr : World) (ha : a.size ≤ 210) (hF : F.length ≤ 1000000) (AX : AB x w wr)
    (HC19 : Hid (∀ W R, Below wr.heap.size wr W → (∀ q c w', Below W.heap.size W w' → CndsAt w' q F → R (.returned (.slice q F.length c)) w') → Calls Try.prog 19 #[.slice p n cap, .agg #[.string x.person, .string x.street, .int .i64 x.number, .string x.code, .string x.town], .int .i64 most] W R))
    (HC20 : Hid (∀ W R, Below wr.heap.size wr W → (∀ q c w', Below W.heap.size W w' → CndsAt w' q F → R (.returned (.slice q F.length c)) w') → Calls Try.prog 20 #[.slice p n cap, .agg #[.string x.person, .string x.street, .int .i64 x.number, .string x.code, .string x.town], .int .i64 most] W R))
    (u3 u5 u6 u7 u9 u10 u12 u13 u14 u15 u16 u17 u18 u19 u20 u21 u22 u23 u24 u25 u26 u27 u28 u29 u30 u31 u32 u33 u34 u35 u36 u37 u38 u39 u40 u41 u42 u43 u44 u45 u46 u47 u48 u49 u50 u51 u52 u53 u54 u55 u56 u57 u58 u59 : Value)
    (HN : Hid (∀ W v32 v33 v34 v35 v36 v37 v38 v39 v40 v41 v42 v43 v44 v45 v46 v47 v48 v49 v50 v51 v52 v53 v54 v55 v56 v57 v58 v59, Below wr.heap.size wr W → Q .normal { tmps := #[.string a, .string b, .slice p n cap, u3, .int .i64 most, u5, u6, u7, .pointer (some ⟨w.heap.size, 0, none⟩), u9, .bool true, .bool true, u12, u13, u14, u15, u16, u17, u18, u19, u20, u21, u22, u23, u24, u25, u26, u27, u28, u29, u30, u31, v32, v33, v34, v35, v36, v37, v38, v39, v40, v41, v42, v43, v44, v45, v46, v47, v48, v49, v50, v51, v52, v53, v54, v55, v56, v57, v58, v59], defers := [] } W)) :
    matchReg4.wp Try.prog Q { tmps := #[.string a, .string b, .slice p n cap, u3, .int .i64 most, u5, u6, u7, .pointer (some ⟨w.heap.size, 0, none⟩), u9, u10, .bool true, u12, u13, u14, u15, u16, u17, u18, u19, u20, u21, u22, u23, u24, u25, u26, u27, u28, u29, u30, u31, u32, u33, u34, u35, u36, u37, u38, u39, u40, u41, u42, u43, u44, u45, u46, u47, u48, u49, u50, u51, u52, u53, u54, u55, u56, u57, u58, u59], defers := [] } wr := by
  simp only [matchReg4, Try.f3, Option.getD, regionsOf, List.nil_append, List.append_nil, List.cons_append, List.getD, List.getElem?_cons_succ, List.getElem?_cons_zero]
  have hfeq : ((foldB a).toList == (foldB a).toList) = true := by simp
  have hdeq : (distV a b == distV a b) = true := by simp
  refine wp_region_noPanic ?_
  refine wp_region_held_drew (S := fun w' => Below wr.heap.size wr w' ∧ w'.cell? ⟨w.heap.size, 0, none⟩ = some (.string x.person) ∧ w'.cell? ⟨w.heap.size, 0 + 1, none⟩ = some (.string x.street) ∧ w'.cell? ⟨w.heap.size, 0 + 2, none⟩ = some (.int .i64 x.number) ∧ w'.cell? ⟨w.heap.size, 0 + 3, none⟩ = some (.string x.code) ∧ w'.cell? ⟨w.heap.size, 0 + 4, none⟩ = some (.string x.town)) (by kernel_rfl) (ab_conj AX (Below.refl _ _).drew) (fun hHeld => ?_)
  refine wpAnyH_take (i := 0) (v := ?v0) rfl (by kernel_rfl) (by kernel_rfl) (by kernel_rfl) (fun _ _ _ h => h) (Or.inl ⟨by rfl, ?hy0⟩) hHeld ?rest0
  case hy0 => (intro w0 hSw; (try dsimp only at hSw); go_simp; all_goals with_reducible rfl)
  try simp only [Act.put, List.getElem_toArray, List.getElem_cons_zero, List.getElem_cons_succ, List.setIfInBounds_toArray, List.set_cons_zero, List.set_cons_succ]
  refine wpAnyH_take (i := 1) (v := ?v1) rfl (by kernel_rfl) (by kernel_rfl) (by kernel_rfl) (fun _ _ _ h => h) (Or.inl ⟨by rfl, ?hy1⟩) hHeld ?rest1
  case hy1 => (intro w0 hSw; (try dsimp only at hSw); go_simp; all_goals with_reducible rfl)
  try simp only [Act.put, List.getElem_toArray, List.getElem_cons_zero, List.getElem_cons_succ, List.setIfInBounds_toArray, List.set_cons_zero, List.set_cons_succ]
  refine wpAnyH_take (i := 2) (v := ?v2) rfl (by kernel_rfl) (by kernel_rfl) (by kernel_rfl) (fun _ _ _ h => h) (Or.inl ⟨by rfl, ?hy2⟩) hHeld ?rest2
  case hy2 => (intro w0 hSw; (try dsimp only at hSw); go_simp; all_goals with_reducible rfl)
  try simp only [Act.put, List.getElem_toArray, List.getElem_cons_zero, List.getElem_cons_succ, List.setIfInBounds_toArray, List.set_cons_zero, List.set_cons_succ]
  refine wpAnyH_take (i := 3) (v := ?v3) rfl (by kernel_rfl) (by kernel_rfl) (by kernel_rfl) (fun _ _ _ h => h) (Or.inl ⟨by rfl, ?hy3⟩) hHeld ?rest3
  case hy3 => (intro w0 hSw; (try dsimp only at hSw); go_simp; all_goals with_reducible rfl)
  try simp only [Act.put, List.getElem_toArray, List.getElem_cons_zero, List.getElem_cons_succ, List.setIfInBounds_toArray, List.set_cons_zero, List.set_cons_succ]
  refine wpAnyH_take (i := 5) (v := ?v5) rfl (by kernel_rfl) (by kernel_rfl) (by kernel_rfl) (fun _ _ _ h => h) (Or.inl ⟨by rfl, ?hy5⟩) hHeld ?rest5
  case hy5 => (intro w0 hSw; (try dsimp only at hSw); go_simp; all_goals with_reducible rfl)
  try simp only [Act.put, List.getElem_toArray, List.getElem_cons_zero, List.getElem_cons_succ, List.setIfInBounds_toArray, List.set_cons_zero, List.set_cons_succ]
  refine wpAnyH_take (i := 6) (v := ?v6) rfl (by kernel_rfl) (by kernel_rfl) (by kernel_rfl) (fun _ _ _ h => h) (Or.inl ⟨by rfl, ?hy6⟩) hHeld ?rest6
  case hy6 => (intro w0 hSw; (try dsimp only at hSw); go_simp; all_goals with_reducible rfl)
  try simp only [Act.put, List.getElem_toArray, List.getElem_cons_zero, List.getElem_cons_succ, List.setIfInBounds_toArray, List.set_cons_zero, List.set_cons_succ]
  refine wpAnyH_ready (rs := [4]) (by kernel_rfl) (by simp) ?_
  refine AllReadyH.cons rfl (fun K hK => ?_) AllReadyH.nil
  go_simp
  refine dist_any_c a b _ _ ?_
  intro w5 hb5
  refine hK.out _ _ (ab_conj AX (bseq hHeld.1 hb5)) (fun hHeld' => ?_)
  clear hK K hHeld
  have hHeld := hHeld'
  clear hHeld'
  try simp only [Act.put, List.getElem_toArray, List.getElem_cons_zero, List.getElem_cons_succ, List.setIfInBounds_toArray, List.set_cons_zero, List.set_cons_succ]
  refine wpAnyH_ready (rs := [7]) (by kernel_rfl) (by simp) ?_
  refine AllReadyH.cons rfl (fun K hK => ?_) AllReadyH.nil
  go_simp
  refine rdist_c a b _ _ ?_
  intro w6 hb6
  refine hK.out _ _ (ab_conj AX (bseq hHeld.1 hb6)) (fun hHeld' => ?_)
  clear hK K hHeld
  have hHeld := hHeld'
  clear hHeld'
  try simp only [Act.put, List.getElem_toArray, List.getElem_cons_zero, List.getElem_cons_succ, List.setIfInBounds_toArray, List.set_cons_zero, List.set_cons_succ]
  refine wpAnyH_take (i := 8) (v := ?v8) rfl (by kernel_rfl) (by kernel_rfl) (by kernel_rfl) (fun _ _ _ h => h) (Or.inl ⟨by rfl, ?hy8⟩) hHeld ?rest8
  case hy8 => (intro w0 hSw; (try dsimp only at hSw); go_simp; all_goals with_reducible rfl)
  try simp only [Act.put, List.getElem_toArray, List.getElem_cons_zero, List.getElem_cons_succ, List.setIfInBounds_toArray, List.set_cons_zero, List.set_cons_succ]
  refine wpAnyH_take (i := 9) (v := ?v9) rfl (by kernel_rfl) (by kernel_rfl) (by kernel_rfl) (fun _ _ _ h => h) (Or.inl ⟨by rfl, ?hy9⟩) hHeld ?rest9
  case hy9 => (intro w0 hSw; (try dsimp only at hSw); go_simp; all_goals with_reducible rfl)
  try simp only [Act.put, List.getElem_toArray, List.getElem_cons_zero, List.getElem_cons_succ, List.setIfInBounds_toArray, List.set_cons_zero, List.set_cons_succ]
  refine wpAnyH_take (i := 10) (v := ?v10) rfl (by kernel_rfl) (by kernel_rfl) (by kernel_rfl) (fun _ _ _ h => h) (Or.inl ⟨by rfl, ?hy10⟩) hHeld ?rest10
  case hy10 => (intro w0 hSw; (try dsimp only at hSw); go_simp; all_goals with_reducible rfl)
  try simp only [Act.put, List.getElem_toArray, List.getElem_cons_zero, List.getElem_cons_succ, List.setIfInBounds_toArray, List.set_cons_zero, List.set_cons_succ]
  refine wpAnyH_take (i := 11) (v := ?v11) rfl (by kernel_rfl) (by kernel_rfl) (by kernel_rfl) (fun _ _ _ h => h) (Or.inl ⟨by rfl, ?hy11⟩) hHeld ?rest11
  case hy11 => (intro w0 hSw; (try dsimp only at hSw); go_simp; all_goals with_reducible rfl)
  try simp only [Act.put, List.getElem_toArray, List.getElem_cons_zero, List.getElem_cons_succ, List.setIfInBounds_toArray, List.set_cons_zero, List.set_cons_succ]
  refine wpAnyH_take (i := 13) (v := ?v13) rfl (by kernel_rfl) (by kernel_rfl) (by kernel_rfl) (fun _ _ _ h => h) (Or.inl ⟨by rfl, ?hy13⟩) hHeld ?rest13
  case hy13 => (intro w0 hSw; (try dsimp only at hSw); go_simp; all_goals with_reducible rfl)
  try simp only [Act.put, List.getElem_toArray, List.getElem_cons_zero, List.getElem_cons_succ, List.setIfInBounds_toArray, List.set_cons_zero, List.set_cons_succ]
  refine wpAnyH_ready (rs := [12]) (by kernel_rfl) (by simp) ?_
  refine AllReadyH.cons rfl (fun K hK => ?_) AllReadyH.nil
  go_simp
  refine fold_c a _ _ (by omega) ?_
  intro w7 hb7
  refine hK.out _ _ (ab_conj AX (bseq hHeld.1 hb7)) (fun hHeld' => ?_)
  clear hK K hHeld
  have hHeld := hHeld'
  clear hHeld'
  try simp only [Act.put, List.getElem_toArray, List.getElem_cons_zero, List.getElem_cons_succ, List.setIfInBounds_toArray, List.set_cons_zero, List.set_cons_succ]
  refine wpAnyH_ready (rs := [14]) (by kernel_rfl) (by simp) ?_
  refine AllReadyH.cons rfl (fun K hK => ?_) AllReadyH.nil
  go_simp
  refine rfold_c a _ _ (by omega) ?_
  intro w8 hb8
  refine hK.out _ _ (ab_conj AX (bseq hHeld.1 hb8)) (fun hHeld' => ?_)
  clear hK K hHeld
  have hHeld := hHeld'
  clear hHeld'
  try simp only [Act.put, List.getElem_toArray, List.getElem_cons_zero, List.getElem_cons_succ, List.setIfInBounds_toArray, List.set_cons_zero, List.set_cons_succ]
  refine wpAnyH_take (i := 15) (v := ?v15) rfl (by kernel_rfl) (by kernel_rfl) (by kernel_rfl) (fun _ _ _ h => h) (Or.inl ⟨by rfl, ?hy15⟩) hHeld ?rest15
  case hy15 => (intro w0 hSw; (try dsimp only at hSw); go_simp; all_goals with_reducible rfl)
  try simp only [Act.put, List.getElem_toArray, List.getElem_cons_zero, List.getElem_cons_succ, List.setIfInBounds_toArray, List.set_cons_zero, List.set_cons_succ]
  refine wpAnyH_take (i := 16) (v := ?v16) rfl (by kernel_rfl) (by kernel_rfl) (by kernel_rfl) (fun _ _ _ h => h) (Or.inl ⟨by rfl, ?hy16⟩) hHeld ?rest16
  case hy16 => (intro w0 hSw; (try dsimp only at hSw); go_simp; all_goals with_reducible rfl)
  try simp only [Act.put, List.getElem_toArray, List.getElem_cons_zero, List.getElem_cons_succ, List.setIfInBounds_toArray, List.set_cons_zero, List.set_cons_succ]
  refine wpAnyH_take (i := 17) (v := ?v17) rfl (by kernel_rfl) (by kernel_rfl) (by kernel_rfl) (fun _ _ _ h => h) (Or.inl ⟨by rfl, ?hy17⟩) hHeld ?rest17
  case hy17 => (intro w0 hSw; (try dsimp only at hSw); go_simp; all_goals with_reducible rfl)
  try simp only [Act.put, List.getElem_toArray, List.getElem_cons_zero, List.getElem_cons_succ, List.setIfInBounds_toArray, List.set_cons_zero, List.set_cons_succ]
  refine wpAnyH_take (i := 18) (v := ?v18) rfl (by kernel_rfl) (by kernel_rfl) (by kernel_rfl) (fun _ _ _ h => h) (Or.inl ⟨by rfl, ?hy18⟩) hHeld ?rest18
  case hy18 => (intro w0 hSw; (try dsimp only at hSw); go_simp; all_goals with_reducible rfl)
  try simp only [Act.put, List.getElem_toArray, List.getElem_cons_zero, List.getElem_cons_succ, List.setIfInBounds_toArray, List.set_cons_zero, List.set_cons_succ]
  refine wpAnyH_take (i := 19) (v := ?v19) rfl (by kernel_rfl) (by kernel_rfl) (by kernel_rfl) (fun _ _ _ h => h) (Or.inl ⟨by rfl, ?hy19⟩) hHeld ?rest19
  case hy19 => (intro w0 hSw; (try dsimp only at hSw); go_simp; all_goals with_reducible rfl)
  try simp only [Act.put, List.getElem_toArray, List.getElem_cons_zero, List.getElem_cons_succ, List.setIfInBounds_toArray, List.set_cons_zero, List.set_cons_succ]
  refine wpAnyH_take (i := 20) (v := ?v20) rfl (by kernel_rfl) (by kernel_rfl) (by kernel_rfl) (fun _ _ _ h => h) (Or.inl ⟨by rfl, ?hy20⟩) hHeld ?rest20
  case hy20 => (intro w0 hSw; (try dsimp only at hSw); go_simp; all_goals with_reducible rfl)
  try simp only [Act.put, List.getElem_toArray, List.getElem_cons_zero, List.getElem_cons_succ, List.setIfInBounds_toArray, List.set_cons_zero, List.set_cons_succ]
  refine wpAnyH_take (i := 22) (v := ?v22) rfl (by kernel_rfl) (by kernel_rfl) (by kernel_rfl) (fun _ _ _ h => h) (Or.inl ⟨by rfl, ?hy22⟩) hHeld ?rest22
  case hy22 => (intro w0 hSw; (try dsimp only at hSw); go_simp; all_goals with_reducible rfl)
  try simp only [Act.put, List.getElem_toArray, List.getElem_cons_zero, List.getElem_cons_succ, List.setIfInBounds_toArray, List.set_cons_zero, List.set_cons_succ]
  refine wpAnyH_take (i := 23) (v := ?v23) rfl (by kernel_rfl) (by kernel_rfl) (by kernel_rfl) (fun _ _ _ h => h) (Or.inl ⟨by rfl, ?hy23⟩) hHeld ?rest23
  case hy23 => (intro w0 hSw; (try dsimp only at hSw); go_simp; all_goals with_reducible rfl)
  try simp only [Act.put, List.getElem_toArray, List.getElem_cons_zero, List.getElem_cons_succ, List.setIfInBounds_toArray, List.set_cons_zero, List.set_cons_succ]
  refine wpAnyH_take (i := 24) (v := ?v24) rfl (by kernel_rfl) (by kernel_rfl) (by kernel_rfl) (fun _ _ _ h => h) (Or.inl ⟨by rfl, ?hy24⟩) hHeld ?rest24
  case hy24 => (intro w0 hSw; (try dsimp only at hSw); go_simp; all_goals with_reducible rfl)
  try simp only [Act.put, List.getElem_toArray, List.getElem_cons_zero, List.getElem_cons_succ, List.setIfInBounds_toArray, List.set_cons_zero, List.set_cons_succ]
  refine wpAnyH_ready (rs := [21]) (by kernel_rfl) (by simp) ?_
  refine AllReadyH.cons rfl (fun K hK => ?_) AllReadyH.nil
  go_simp
  refine HC19.out _ _ hHeld.1 ?_
  intro q c w9 hb9 hq
  have Q9 := hide hq
  clear hq
  refine hK.out _ _ (ab_conj AX (bseq hHeld.1 hb9)) (fun hHeld' => ?_)
  clear hK K hHeld
  have hHeld := hHeld'
  clear hHeld'
  try simp only [Act.put, List.getElem_toArray, List.getElem_cons_zero, List.getElem_cons_succ, List.setIfInBounds_toArray, List.set_cons_zero, List.set_cons_succ]
  refine wpAnyH_ready (rs := [25]) (by kernel_rfl) (by simp) ?_
  refine AllReadyH.cons rfl (fun K hK => ?_) AllReadyH.nil
  go_simp
  refine HC20.out _ _ hHeld.1 ?_
  intro q2 c2 w10 hb10 hq
  have Q10 := hide (Q9.out.keep (Keeps.of_below hb10))
  have P10 := hide hq
  clear hq
  refine hK.out _ _ (ab_conj AX (bseq hHeld.1 hb10)) (fun hHeld' => ?_)
  clear hK K hHeld
  have hHeld := hHeld'
  clear hHeld'
  try simp only [Act.put, List.getElem_toArray, List.getElem_cons_zero, List.getElem_cons_succ, List.setIfInBounds_toArray, List.set_cons_zero, List.set_cons_succ]
  refine wpAnyH_ready (rs := [26]) (by kernel_rfl) (by simp) ?_
  refine AllReadyH.cons rfl (fun K hK => ?_) AllReadyH.nil
  go_simp
  refine same_c q q2 F.length F.length c c2 F F _ _ rfl rfl hF hF Q10.out P10.out ?_
  rw [decide_eq_true rfl]
  intro w11 hd11
  have hb11 : Below w10.heap.size w10 w11 := hd11.below
  refine hK.out _ _ (ab_conj AX (bseq hHeld.1 hb11)) (fun hHeld' => ?_)
  clear hK K hHeld
  have hHeld := hHeld'
  clear hHeld'
  try simp only [Act.put, List.getElem_toArray, List.getElem_cons_zero, List.getElem_cons_succ, List.setIfInBounds_toArray, List.set_cons_zero, List.set_cons_succ]
  refine wpAnyH_take (i := 27) (v := ?v27) rfl (by kernel_rfl) (by kernel_rfl) (by kernel_rfl) (fun _ _ _ h => h) (Or.inl ⟨by rfl, ?hy27⟩) hHeld ?rest27
  case hy27 => (intro w0 hSw; (try dsimp only at hSw); go_simp; all_goals with_reducible rfl)
  try simp only [Act.put, List.getElem_toArray, List.getElem_cons_zero, List.getElem_cons_succ, List.setIfInBounds_toArray, List.set_cons_zero, List.set_cons_succ]
  refine wpAnyH_take (i := 28) (v := ?v28) rfl (by kernel_rfl) (by kernel_rfl) (by kernel_rfl) (fun _ _ _ h => h) (Or.inl ⟨by rfl, ?hy28⟩) hHeld ?rest28
  case hy28 => (intro w0 hSw; (try dsimp only at hSw); go_simp; all_goals with_reducible rfl)
  try simp only [Act.put, List.getElem_toArray, List.getElem_cons_zero, List.getElem_cons_succ, List.setIfInBounds_toArray, List.set_cons_zero, List.set_cons_succ]
  refine wpAnyH_done (by kernel_rfl) ?_ _
  refine NoPanic.normal ?_
  exact HN.out _ _ _ _ _ _ _ _ _ _ _ _ _ _ _ _ _ _ _ _ _ _ _ _ _ _ _ _ _  hHeld.1
theorem rcands_out_c (p : Option Addr) (n cap : Nat) (a : Av) (most : Int) (w : World) (R) (hm : most < 0 ∨ 6 < most)
    (hR : ∀ w', Below w.heap.size w w' → R (.returned (.slice none 0 0)) w') : Calls Try.prog 20 #[.slice p n cap, .agg a.cells.toArray, .int .i64 most] w R := by
  have HR1 := hide (hR _ (balloc (Below.refl w.heap.size w) (.cells a.cells.toArray 24)))
  clear hR
  unfold Av.cells at *
  go_enter Try.func20, Try.ntmps20
  go_wp2
  go_loop [7, 8] (fun v c => v = .slice none 0 0 ∧ c = .int .i64 0) (fun _ _ => 0)
  case atStart => exact ⟨rfl, rfl⟩
  case round =>
    obtain ⟨rfl, rfl⟩ := hrel
    rcases hm with hm | hm
    · have t1 : ¬ (0 : Int) ≤ most := by omega
      go_wp2
      exact HR1.out
    · have t1 : (0 : Int) ≤ most := by omega
      have t2 : ¬ most ≤ 6 := by omega
      go_wp2
      exact HR1.out
set_option maxRecDepth 100000 in
set_option maxHeartbeats 1000000 in
theorem matches_c (a b : ByteArray) (p : Option Addr) (n cap : Nat) (l : List Sv) (x : Av) (most : Int) (w : World) (R) (hn : l.length = n) (hl : n ≤ maxLen) (h : StsAt w p l) (hz : p = none → n = 0) (hw : ∀ s ∈ l, SWf s) (hx : AWf x) (hm : (Lit.int .i64 most).wf = true)
    (hR : ∀ w', Below w.heap.size w w' → R (.returned (.bool true)) w') : Calls Try.prog 3 #[.string a, .string b, .slice p n cap, .agg x.cells.toArray, .int .i64 most] w R := by
  have HR := hide hR; clear hR
  have A0 := hide (AB.new x w)
  unfold Av.cells at *
  go_enter Try.func3, Try.ntmps3
  go_wp2_with (go_at_call 11; refine Stop.out ?_)
  refine Stop.go (head_c _ _ ?_)
  intro w1 hb1
  have A := hide (A0.out.later hb1); clear A0 hb1
  have H := hide (h.keep (Keeps.of_below A.out.below))
  clear h
  by_cases h1 : (210 : Int) < (a.size : Int)
  · go_wp2
    exact HR.out _ A.out.below
  · by_cases h2 : (210 : Int) < (b.size : Int)
    · go_wp2
      exact HR.out _ A.out.below
    · cases hf : fewS l with
      | false =>
        go_wp2_with (go_at_call 12; refine few_c p n cap l _ _ hn hl H.out ?_; rw [hf])
        exact HR.out _ A.out.below
      | true =>
        obtain ⟨_, _, a0, a1, a2, a3, a4⟩ := A.out
        obtain ⟨hn12, hfa⟩ := few_le hf
        have hnn : n ≤ 12 := by omega
        go_wp2_with (first | (go_at_call 12; refine few_c p n cap l _ _ hn hl H.out ?_; rw [hf]) | (go_at_call 13; refine Stop.out ?_))
        refine Stop.go (short_c x _ _ ?_)
        intro w2 hb
        replace A := hide (A.out.later hb)
        replace H := hide (H.out.keep (Keeps.of_below hb))
        clear hb a0 a1 a2 a3 a4
        cases hs : shortA x with
        | false =>
          go_wp2
          exact HR.out _ A.out.below
        | true =>
          have Hal := hide (fun s (hs : s ∈ l) => (hfa s hs).1)
          have Hok := hide (fun s (hs : s ∈ l) => (hfa s hs).2)
          have HN := hide hn
          have Hs := hide hs
          clear hn12 hfa hs hf hn
          have key : ∃ F : List Cnd, F.length ≤ 1000000 ∧
              (∀ W R, Below w2.heap.size w2 W → (∀ q c w', Below W.heap.size W w' → CndsAt w' q F → R (.returned (.slice q F.length c)) w') → Calls Try.prog 19 #[.slice p n cap, .agg #[.string x.person, .string x.street, .int .i64 x.number, .string x.code, .string x.town], .int .i64 most] W R) ∧
              (∀ W R, Below w2.heap.size w2 W → (∀ q c w', Below W.heap.size W w' → CndsAt w' q F → R (.returned (.slice q F.length c)) w') → Calls Try.prog 20 #[.slice p n cap, .agg #[.string x.person, .string x.street, .int .i64 x.number, .string x.code, .string x.town], .int .i64 most] W R) := by
            by_cases hmm : most < 0 ∨ 6 < most
            · refine ⟨[], by decide, fun W R hW hR => ?_, fun W R hW hR => ?_⟩
              · refine candidates_c p n cap l x most W R HN.out (by omega) (H.out.keep (Keeps.of_below hW)) Hal.out hm fun q c M w' hb ho h1 _ => ?_
                obtain rfl := h1 hmm
                exact hR q c w' hb CndsAt.nil
              · exact rcands_out_c p n cap x most W R hmm fun w' hb => hR none 0 w' hb CndsAt.nil
            · obtain ⟨m, hm6, rfl⟩ : ∃ m : Nat, m ≤ 6 ∧ most = (m : Int) := ⟨most.toNat, by omega, by omega⟩
              have hlen : (refL x m l).length ≤ 1000000 := by
                have e1 : ∀ c' : Nat, (ofCost x m l c').length ≤ 12 := fun c' => by
                  unfold ofCost
                  exact Nat.le_trans (List.length_filter_le _ _) (Nat.le_trans (found_len _ _ _ _) (by rw [HN.out]; exact hnn))
                have e2 : ∀ c' : Nat, ((List.range c').flatMap (ofCost x m l)).length ≤ 12 * c' := by
                  intro c'
                  induction c' with
                  | zero => simp
                  | succ c' ih =>
                    rw [List.range_succ, List.flatMap_append, List.length_append]
                    have := e1 c'
                    simp only [List.flatMap_cons, List.flatMap_nil, List.append_nil]
                    omega
                have := e2 (m + 1)
                unfold refL; omega
              refine ⟨refL x m l, hlen, fun W R hW hR => ?_, fun W R hW hR => ?_⟩
              · refine candS_c p n cap l x m W R HN.out (by omega) (H.out.keep (Keeps.of_below hW)) Hal.out (by omega) (by omega) fun q c M w' hb hq _ hM => ?_
                have e := refL_eq hM
                rw [← e] at hq ⊢
                exact hR q c w' hb hq
              · exact rcands_c p n cap l x m W R HN.out hnn (H.out.keep (Keeps.of_below hW)) Hok Hs.out hm6 hR
          obtain ⟨F, hF, k19, k20⟩ := key
          have K19 := hide k19
          have K20 := hide k20
          have ha210 : a.size ≤ 210 := by omega
          obtain ⟨_, _, a0, a1, a2, a3, a4⟩ := A.out
          clear k19 k20
          go_wp2_with fail
          refine mt_reg4 _ a b p n cap x most F w w2 ha210 hF A.out K19 K20 _ _ _ _ _ _ _ _ _ _ _ _ _ _ _ _ _ _ _ _ _ _ _ _ _ _ _ _ _ _ _ _ _ _ _ _ _ _ _ _ _ _ _ _ _ _ _ _ _ _ _ _ _ _ (hide ?_)
          intro w7 v32 v33 v34 v35 v36 v37 v38 v39 v40 v41 v42 v43 v44 v45 v46 v47 v48 v49 v50 v51 v52 v53 v54 v55 v56 v57 v58 v59 hb7
          have B7 := hide (bseq A.out.below hb7)
          clear hb7
          go_wp2_with fail
          exact HR.out _ B7.out

set_option maxRecDepth 100000 in
theorem matches_holds_lifted (os : Os) (started : os.Started) (H : Type) (enc : TypeId × Value → H) :
    ReturnsInHanded {} Try.checked os 3 .any (Rows.matchMatchesReferenceSpec.pre6 enc Try.prog Try.f3 Rows.matchMatchesReferenceRow.domain false) (Rows.matchMatchesReferenceSpec.post enc Try.prog Try.f3 false true false false) := by
  refine returnsInHanded_of_change (C := Try.checked) Try.own started (by kernel_rfl) Try.func3
    (ChangeSpec.witness6 (enc := enc) (C := Try.checked) false ⟨#[], #[.string ⟨#[]⟩, .string ⟨#[]⟩, .slice none 0 0, .agg #[.string ⟨#[]⟩, .string ⟨#[]⟩, .int .i64 0, .string ⟨#[]⟩, .string ⟨#[]⟩], .int .i64 0], []⟩ 8 (by kernel_rfl) (by kernel_rfl) (by kernel_rfl) (by kernel_rfl)) ?_
  intro W base args ds gs before hval0 hW hcnd _
  have hval : ∀ (j : Nat) t v, Try.f3.params[j]? = some t → args[j]? = some v → Value.okWide Try.prog W .any base t v := hval0
  have hW' := hW
  obtain ⟨p, q, hA0, hV, rfl, hfz, hnd⟩ := hW
  have hA : DataW.TrodAll enc Try.prog W 0 (fun _ => true) true Try.f3.params.toList args.toList ds p := hA0
  have hA1 := hA
  rw [Try.params3] at hA hval
  obtain ⟨v0, vs0, d0, ds0, p0, q0, hargs, rfl, rfl, h0, r0⟩ := trodAll_cons hA
  obtain ⟨v1, vs1, d1, ds1, p1, q1, rfl, rfl, rfl, h1, r1⟩ := trodAll_cons r0
  obtain ⟨v2, vs2, d2, ds2, p2, q2, rfl, rfl, rfl, h2, r2⟩ := trodAll_cons r1
  obtain ⟨v3, vs3, d3, ds3, p3, q3, rfl, rfl, rfl, h3, r3⟩ := trodAll_cons r2
  obtain ⟨v4, vs4, d4, ds4, p4, q4, rfl, rfl, rfl, h4, r4⟩ := trodAll_cons r3
  obtain ⟨rfl, rfl, rfl⟩ := trodAll_nil r4
  obtain rfl : args = #[v0, v1, v2, v3, v4] := by cases args; simp_all
  obtain ⟨rfl, rfl⟩ := trodVars_none hV
  obtain ⟨x0, rfl, _, _, hw0⟩ := Go.ChangeMaps.open_string Try.underlying9 (hval 0 9 v0 rfl rfl) h0
  obtain ⟨x1, rfl, _, _, hw1⟩ := Go.ChangeMaps.open_string Try.underlying9 (hval 1 9 v1 rfl rfl) h1
  obtain ⟨a2, n2, c2, l2, rfl, hl2, hm2, hi2, hz2, hw2⟩ := open_sts (hval 2 22 v2 rfl rfl) h2
  obtain ⟨x3, rfl, hw3⟩ := open_adr (hval 3 24 v3 rfl rfl) h3
  obtain ⟨x4, rfl, _, _, hw4⟩ := open_int Try.underlying3 (hval 4 3 v4 rfl rfl) h4
  refine matches_c x0 x1 a2 n2 c2 l2 x3 x4 W _ hl2 hm2 hi2 hz2 hw2 hw3 hw4 fun W' bel => ?_
  exact ⟨_, rfl, law_post Try.laidOut bel rfl hW' hA1 (by kernel_rfl) rfl Try.underlying4 rfl rfl rfl⟩

theorem matches_holds : Rows.MatchMatchesReferenceSaid :=
  OpenClaim.holds_of_wide 3 Try.f3 rfl rfl rfl rfl rfl rfl rfl ⟨rfl, rfl, rfl, rfl, rfl⟩ rfl rfl rfl rfl rfl (by kernel_rfl) Try.func3 (by kernel_rfl)
    (of_decide_eq_true (by kernel_rfl)) (by unfold Func.isWrapper; rw [if_neg (of_decide_eq_false (by kernel_rfl))]; exact ⟨rfl, rfl⟩)
    (fun os started H enc _ => matches_holds_lifted os started H enc)

end Go.Proofs.Ytkbdkkllfaljlaa
