import Derived.Test.YtkbdkkllfaljlaaR5
set_option linter.unusedVariables false
set_option linter.unusedSimpArgs false
namespace Go.Proofs.Ytkbdkkllfaljlaa
open Go.RowKit Go.Sort

structure Ky (s : Sv) (a : Av) (bS oB k b1 : Nat) (W : World) : Prop where
  s0 : W.cell? ⟨bS, oB + k * 8, none⟩ = some (.string s.code)
  s1 : W.cell? ⟨bS, oB + k * 8 + 1, none⟩ = some (.string s.town)
  s2 : W.cell? ⟨bS, oB + k * 8 + 2, none⟩ = some (.string s.name)
  s3 : W.cell? ⟨bS, oB + k * 8 + 3, none⟩ = some (.slice s.ap s.al.length s.ac)
  s4 : W.cell? ⟨bS, oB + k * 8 + 4, none⟩ = some (.int .i64 s.low)
  s5 : W.cell? ⟨bS, oB + k * 8 + 5, none⟩ = some (.int .i64 s.high)
  s6 : W.cell? ⟨bS, oB + k * 8 + 6, none⟩ = some (.int .i64 s.shift)
  s7 : W.cell? ⟨bS, oB + k * 8 + 7, none⟩ = some (.bool s.opn)
  a0 : W.cell? ⟨b1, 0, none⟩ = some (.string a.person)
  a1 : W.cell? ⟨b1, 1, none⟩ = some (.string a.street)
  a2 : W.cell? ⟨b1, 2, none⟩ = some (.int .i64 a.number)
  a3 : W.cell? ⟨b1, 3, none⟩ = some (.string a.code)
  a4 : W.cell? ⟨b1, 4, none⟩ = some (.string a.town)
theorem Ky.conj {s : Sv} {a : Av} {bS oB k b1 : Nat} {W w' : World} (h : Ky s a bS oB k b1 W) (ho : s.opn = true) (hb : Below W.heap.size W w') : Below W.heap.size W w' ∧ w'.cell? ⟨bS, oB + k * 8, none⟩ = some (.string s.code) ∧ w'.cell? ⟨bS, oB + k * 8 + 1, none⟩ = some (.string s.town) ∧ w'.cell? ⟨bS, oB + k * 8 + 2, none⟩ = some (.string s.name) ∧ w'.cell? ⟨bS, oB + k * 8 + 3, none⟩ = some (.slice s.ap s.al.length s.ac) ∧ w'.cell? ⟨bS, oB + k * 8 + 4, none⟩ = some (.int .i64 s.low) ∧ w'.cell? ⟨bS, oB + k * 8 + 5, none⟩ = some (.int .i64 s.high) ∧ w'.cell? ⟨bS, oB + k * 8 + 6, none⟩ = some (.int .i64 s.shift) ∧ w'.cell? ⟨bS, oB + k * 8 + 7, none⟩ = some (.bool true) ∧ w'.cell? ⟨b1, 0, none⟩ = some (.string a.person) ∧ w'.cell? ⟨b1, 1, none⟩ = some (.string a.street) ∧ w'.cell? ⟨b1, 2, none⟩ = some (.int .i64 a.number) ∧ w'.cell? ⟨b1, 3, none⟩ = some (.string a.code) ∧ w'.cell? ⟨b1, 4, none⟩ = some (.string a.town) := by
  rw [← ho]
  exact ⟨hb, cell_later hb h.s0, cell_later hb h.s1, cell_later hb h.s2, cell_later hb h.s3, cell_later hb h.s4, cell_later hb h.s5, cell_later hb h.s6, cell_later hb h.s7, cell_later hb h.a0, cell_later hb h.a1, cell_later hb h.a2, cell_later hb h.a3, cell_later hb h.a4⟩
theorem rcost_open_c (s : Sv) (a : Av) (w : World) (R) (ho : s.opn = true) (hal : StrsAt w s.ap s.al) (hs : okS s = true) (ha : shortA a = true) (hR : ∀ w', Below w.heap.size w w' → R (.returned (.int .i64 (costN s a))) w') :
    Calls Try.prog 39 #[.agg #[.string s.code, .string s.town, .string s.name, .slice s.ap s.al.length s.ac, .int .i64 s.low, .int .i64 s.high, .int .i64 s.shift, .bool true], .agg #[.string a.person, .string a.street, .int .i64 a.number, .string a.code, .string a.town]] w R := by
  have h := rcost_c s a w R hal hs ha hR
  unfold Sv.cells at h
  rw [ho] at h
  exact h
theorem Ky.later {s : Sv} {a : Av} {bS oB k b1 : Nat} {W w' : World} (h : Ky s a bS oB k b1 W) (hb : Below W.heap.size W w') : Ky s a bS oB k b1 w' :=
  ⟨cell_later hb h.s0, cell_later hb h.s1, cell_later hb h.s2, cell_later hb h.s3, cell_later hb h.s4, cell_later hb h.s5, cell_later hb h.s6, cell_later hb h.s7, cell_later hb h.a0, cell_later hb h.a1, cell_later hb h.a2, cell_later hb h.a3, cell_later hb h.a4⟩
noncomputable def candReg8 : Code := (regionsOf (Try.f20.body.getD .skip)).getD 6 .skip
set_option maxRecDepth 100000 in
set_option maxHeartbeats 1000000 in
theorem rc_reg8 (Q : Exit → Act → World → Prop) (n cap bS oB k b1 : Nat) (cc : Int) (s : Sv) (a : Av) (wr : World) (hk : k < n) (hok : okS s = true) (ha : shortA a = true) (hal : Hid (∀ W, Below wr.heap.size wr W → StrsAt W s.ap s.al))
    (KX : Ky s a bS oB k b1 wr) (ho : s.opn = true) (d1 : decide (s.low ≤ a.number) = true) (d2 : decide (a.number ≤ s.high) = true) (u1 u2 u3 u5 u6 u7 u10 u11 u12 u13 u14 u15 u16 u17 u18 u19 u20 u21 u22 u23 u24 u25 u26 u27 u28 u29 u30 u31 u32 u33 u34 u35 u36 u37 u38 u39 u40 u41 u42 u43 u44 u45 u46 u47 u48 u49 u50 u51 u52 u53 u54 u55 u56 u57 u58 u59 u60 u61 u62 u63 u64 u65 u66 u67 u68 u69 u70 u71 u72 u73 u74 u75 : Value)
    (HN : Hid (∀ W v25 v26 v27 v28 v29 v30 v31 v32 v33 v34 v35 v36 v37 v38 v39 v40 v41 v42 v43 v44 v45 v46 v47 v48 v49 v50 v51 v52 v53 v54 v55 v56 v57 v58, Below wr.heap.size wr W → Q .normal { tmps := #[.slice (some ⟨bS, oB, none⟩) n cap, u1, u2, u3, .pointer (some ⟨b1, 0, none⟩), u5, u6, u7, .int .i64 cc, .int .i64 k, u10, u11, u12, u13, u14, u15, u16, u17, u18, u19, u20, u21, u22, u23, u24, v25, v26, v27, v28, v29, v30, v31, v32, v33, v34, v35, v36, v37, v38, v39, v40, v41, v42, v43, v44, v45, v46, v47, v48, v49, v50, v51, v52, v53, v54, v55, v56, v57, v58, .bool (costN s a == cc), u60, u61, u62, u63, u64, u65, u66, u67, u68, u69, u70, u71, u72, u73, u74, u75], defers := [] } W)) :
    candReg8.wp Try.prog Q { tmps := #[.slice (some ⟨bS, oB, none⟩) n cap, u1, u2, u3, .pointer (some ⟨b1, 0, none⟩), u5, u6, u7, .int .i64 cc, .int .i64 k, u10, u11, u12, u13, u14, u15, u16, u17, u18, u19, u20, u21, u22, u23, u24, u25, u26, u27, u28, u29, u30, u31, u32, u33, u34, u35, u36, u37, u38, u39, u40, u41, u42, u43, u44, u45, u46, u47, u48, u49, u50, u51, u52, u53, u54, u55, u56, u57, u58, u59, u60, u61, u62, u63, u64, u65, u66, u67, u68, u69, u70, u71, u72, u73, u74, u75], defers := [] } wr := by
  simp only [candReg8, Try.f20, Option.getD, regionsOf, List.nil_append, List.append_nil, List.cons_append, List.getD, List.getElem?_cons_succ, List.getElem?_cons_zero]
  have hkn : (k : Int) < (n : Int) := by omega
  have hk0 : (0 : Int) ≤ (k : Int) := by omega
  refine wp_region_noPanic ?_
  refine wp_region_held_drew (S := fun w' => Below wr.heap.size wr w' ∧ w'.cell? ⟨bS, oB + k * 8, none⟩ = some (.string s.code) ∧ w'.cell? ⟨bS, oB + k * 8 + 1, none⟩ = some (.string s.town) ∧ w'.cell? ⟨bS, oB + k * 8 + 2, none⟩ = some (.string s.name) ∧ w'.cell? ⟨bS, oB + k * 8 + 3, none⟩ = some (.slice s.ap s.al.length s.ac) ∧ w'.cell? ⟨bS, oB + k * 8 + 4, none⟩ = some (.int .i64 s.low) ∧ w'.cell? ⟨bS, oB + k * 8 + 5, none⟩ = some (.int .i64 s.high) ∧ w'.cell? ⟨bS, oB + k * 8 + 6, none⟩ = some (.int .i64 s.shift) ∧ w'.cell? ⟨bS, oB + k * 8 + 7, none⟩ = some (.bool true) ∧ w'.cell? ⟨b1, 0, none⟩ = some (.string a.person) ∧ w'.cell? ⟨b1, 1, none⟩ = some (.string a.street) ∧ w'.cell? ⟨b1, 2, none⟩ = some (.int .i64 a.number) ∧ w'.cell? ⟨b1, 3, none⟩ = some (.string a.code) ∧ w'.cell? ⟨b1, 4, none⟩ = some (.string a.town)) (by kernel_rfl) (KX.conj ho (Below.refl _ _).drew) (fun hHeld => ?_)
  refine wpAnyH_take (i := 0) (v := ?v0) rfl (by kernel_rfl) (by kernel_rfl) (by kernel_rfl) (fun _ _ _ h => h) (Or.inl ⟨by rfl, ?hy0⟩) hHeld ?rest0
  case hy0 => (intro w0 hSw; (try dsimp only at hSw); go_simp; all_goals with_reducible rfl)
  try simp only [Act.put, List.getElem_toArray, List.getElem_cons_zero, List.getElem_cons_succ, List.setIfInBounds_toArray, List.set_cons_zero, List.set_cons_succ]
  refine wpAnyH_take (i := 1) (v := ?v1) rfl (by kernel_rfl) (by kernel_rfl) (by kernel_rfl) (fun _ _ _ h => h) (Or.inl ⟨by rfl, ?hy1⟩) hHeld ?rest1
  case hy1 => (intro w0 hSw; (try dsimp only at hSw); go_simp; all_goals with_reducible rfl)
  try simp only [Act.put, List.getElem_toArray, List.getElem_cons_zero, List.getElem_cons_succ, List.setIfInBounds_toArray, List.set_cons_zero, List.set_cons_succ]
  refine wpAnyH_take (i := 2) (v := ?v2) rfl (by kernel_rfl) (by kernel_rfl) (by kernel_rfl) (fun _ _ _ h => h) (Or.inl ⟨by rfl, ?hy2⟩) hHeld ?rest2
  case hy2 => (intro w0 hSw; (try dsimp only at hSw); go_simp; all_goals with_reducible rfl)
  try simp only [Act.put, List.getElem_toArray, List.getElem_cons_zero, List.getElem_cons_succ, List.setIfInBounds_toArray, List.set_cons_zero, List.set_cons_succ]
  refine wpAnyH_take (i := 3) (v := ?v3) rfl (by kernel_rfl) (by kernel_rfl) (by kernel_rfl) (fun _ _ _ h => h) (Or.inl ⟨by rfl, ?hy3⟩) hHeld ?rest3
  case hy3 => (intro w0 hSw; (try dsimp only at hSw); go_simp; all_goals with_reducible rfl)
  try simp only [Act.put, List.getElem_toArray, List.getElem_cons_zero, List.getElem_cons_succ, List.setIfInBounds_toArray, List.set_cons_zero, List.set_cons_succ]
  refine wpAnyH_take (i := 4) (v := ?v4) rfl (by kernel_rfl) (by kernel_rfl) (by kernel_rfl) (fun _ _ _ h => h) (Or.inl ⟨by rfl, ?hy4⟩) hHeld ?rest4
  case hy4 => (intro w0 hSw; (try dsimp only at hSw); go_simp; all_goals with_reducible rfl)
  try simp only [Act.put, List.getElem_toArray, List.getElem_cons_zero, List.getElem_cons_succ, List.setIfInBounds_toArray, List.set_cons_zero, List.set_cons_succ]
  refine wpAnyH_take (i := 5) (v := ?v5) rfl (by kernel_rfl) (by kernel_rfl) (by kernel_rfl) (fun _ _ _ h => h) (Or.inl ⟨by rfl, ?hy5⟩) hHeld ?rest5
  case hy5 => (intro w0 hSw; (try dsimp only at hSw); go_simp; all_goals with_reducible rfl)
  try simp only [Act.put, List.getElem_toArray, List.getElem_cons_zero, List.getElem_cons_succ, List.setIfInBounds_toArray, List.set_cons_zero, List.set_cons_succ]
  refine wpAnyH_take (i := 6) (v := ?v6) rfl (by kernel_rfl) (by kernel_rfl) (by kernel_rfl) (fun _ _ _ h => h) (Or.inl ⟨by rfl, ?hy6⟩) hHeld ?rest6
  case hy6 => (intro w0 hSw; (try dsimp only at hSw); go_simp; all_goals with_reducible rfl)
  try simp only [Act.put, List.getElem_toArray, List.getElem_cons_zero, List.getElem_cons_succ, List.setIfInBounds_toArray, List.set_cons_zero, List.set_cons_succ]
  refine wpAnyH_take (i := 7) (v := ?v7) rfl (by kernel_rfl) (by kernel_rfl) (by kernel_rfl) (fun _ _ _ h => h) (Or.inl ⟨by rfl, ?hy7⟩) hHeld ?rest7
  case hy7 => (intro w0 hSw; (try dsimp only at hSw); go_simp; all_goals with_reducible rfl)
  try simp only [Act.put, List.getElem_toArray, List.getElem_cons_zero, List.getElem_cons_succ, List.setIfInBounds_toArray, List.set_cons_zero, List.set_cons_succ]
  refine wpAnyH_take (i := 8) (v := ?v8) rfl (by kernel_rfl) (by kernel_rfl) (by kernel_rfl) (fun _ _ _ h => h) (Or.inl ⟨by rfl, ?hy8⟩) hHeld ?rest8
  case hy8 => (intro w0 hSw; (try dsimp only at hSw); go_simp; all_goals with_reducible rfl)
  try simp only [Act.put, List.getElem_toArray, List.getElem_cons_zero, List.getElem_cons_succ, List.setIfInBounds_toArray, List.set_cons_zero, List.set_cons_succ]
  refine wpAnyH_take (i := 9) (v := ?v9) rfl (by kernel_rfl) (by kernel_rfl) (by kernel_rfl) (fun _ _ _ h => h) (Or.inl ⟨by rfl, ?hy9⟩) hHeld ?rest9
  case hy9 => (intro w0 hSw; (try dsimp only at hSw); go_simp; all_goals with_reducible rfl)
  try simp only [Act.put, List.getElem_toArray, List.getElem_cons_zero, List.getElem_cons_succ, List.setIfInBounds_toArray, List.set_cons_zero, List.set_cons_succ]
  refine wpAnyH_take (i := 10) (v := ?v10) rfl (by kernel_rfl) (by kernel_rfl) (by kernel_rfl) (fun _ _ _ h => h) (Or.inl ⟨by rfl, ?hy10⟩) hHeld ?rest10
  case hy10 => (intro w0 hSw; (try dsimp only at hSw); go_simp; all_goals with_reducible rfl)
  try simp only [Act.put, List.getElem_toArray, List.getElem_cons_zero, List.getElem_cons_succ, List.setIfInBounds_toArray, List.set_cons_zero, List.set_cons_succ]
  refine wpAnyH_take (i := 11) (v := ?v11) rfl (by kernel_rfl) (by kernel_rfl) (by kernel_rfl) (fun _ _ _ h => h) (Or.inl ⟨by rfl, ?hy11⟩) hHeld ?rest11
  case hy11 => (intro w0 hSw; (try dsimp only at hSw); go_simp; all_goals with_reducible rfl)
  try simp only [Act.put, List.getElem_toArray, List.getElem_cons_zero, List.getElem_cons_succ, List.setIfInBounds_toArray, List.set_cons_zero, List.set_cons_succ]
  refine wpAnyH_take (i := 12) (v := ?v12) rfl (by kernel_rfl) (by kernel_rfl) (by kernel_rfl) (fun _ _ _ h => h) (Or.inl ⟨by rfl, ?hy12⟩) hHeld ?rest12
  case hy12 => (intro w0 hSw; (try dsimp only at hSw); go_simp; all_goals with_reducible rfl)
  try simp only [Act.put, List.getElem_toArray, List.getElem_cons_zero, List.getElem_cons_succ, List.setIfInBounds_toArray, List.set_cons_zero, List.set_cons_succ]
  refine wpAnyH_take (i := 13) (v := ?v13) rfl (by kernel_rfl) (by kernel_rfl) (by kernel_rfl) (fun _ _ _ h => h) (Or.inl ⟨by rfl, ?hy13⟩) hHeld ?rest13
  case hy13 => (intro w0 hSw; (try dsimp only at hSw); go_simp; all_goals with_reducible rfl)
  try simp only [Act.put, List.getElem_toArray, List.getElem_cons_zero, List.getElem_cons_succ, List.setIfInBounds_toArray, List.set_cons_zero, List.set_cons_succ]
  refine wpAnyH_take (i := 14) (v := ?v14) rfl (by kernel_rfl) (by kernel_rfl) (by kernel_rfl) (fun _ _ _ h => h) (Or.inl ⟨by rfl, ?hy14⟩) hHeld ?rest14
  case hy14 => (intro w0 hSw; (try dsimp only at hSw); go_simp; all_goals with_reducible rfl)
  try simp only [Act.put, List.getElem_toArray, List.getElem_cons_zero, List.getElem_cons_succ, List.setIfInBounds_toArray, List.set_cons_zero, List.set_cons_succ]
  refine wpAnyH_take (i := 15) (v := ?v15) rfl (by kernel_rfl) (by kernel_rfl) (by kernel_rfl) (fun _ _ _ h => h) (Or.inl ⟨by rfl, ?hy15⟩) hHeld ?rest15
  case hy15 => (intro w0 hSw; (try dsimp only at hSw); go_simp; all_goals with_reducible rfl)
  try simp only [Act.put, List.getElem_toArray, List.getElem_cons_zero, List.getElem_cons_succ, List.setIfInBounds_toArray, List.set_cons_zero, List.set_cons_succ]
  refine wpAnyH_take (i := 16) (v := ?v16) rfl (by kernel_rfl) (by kernel_rfl) (by kernel_rfl) (fun _ _ _ h => h) (Or.inl ⟨by rfl, ?hy16⟩) hHeld ?rest16
  case hy16 => (intro w0 hSw; (try dsimp only at hSw); go_simp; all_goals with_reducible rfl)
  try simp only [Act.put, List.getElem_toArray, List.getElem_cons_zero, List.getElem_cons_succ, List.setIfInBounds_toArray, List.set_cons_zero, List.set_cons_succ]
  refine wpAnyH_take (i := 17) (v := ?v17) rfl (by kernel_rfl) (by kernel_rfl) (by kernel_rfl) (fun _ _ _ h => h) (Or.inl ⟨by rfl, ?hy17⟩) hHeld ?rest17
  case hy17 => (intro w0 hSw; (try dsimp only at hSw); go_simp; all_goals with_reducible rfl)
  try simp only [Act.put, List.getElem_toArray, List.getElem_cons_zero, List.getElem_cons_succ, List.setIfInBounds_toArray, List.set_cons_zero, List.set_cons_succ]
  refine wpAnyH_take (i := 18) (v := ?v18) rfl (by kernel_rfl) (by kernel_rfl) (by kernel_rfl) (fun _ _ _ h => h) (Or.inl ⟨by rfl, ?hy18⟩) hHeld ?rest18
  case hy18 => (intro w0 hSw; (try dsimp only at hSw); go_simp; all_goals with_reducible rfl)
  try simp only [Act.put, List.getElem_toArray, List.getElem_cons_zero, List.getElem_cons_succ, List.setIfInBounds_toArray, List.set_cons_zero, List.set_cons_succ]
  refine wpAnyH_take (i := 19) (v := ?v19) rfl (by kernel_rfl) (by kernel_rfl) (by kernel_rfl) (fun _ _ _ h => h) (Or.inl ⟨by rfl, ?hy19⟩) hHeld ?rest19
  case hy19 => (intro w0 hSw; (try dsimp only at hSw); go_simp; all_goals with_reducible rfl)
  try simp only [Act.put, List.getElem_toArray, List.getElem_cons_zero, List.getElem_cons_succ, List.setIfInBounds_toArray, List.set_cons_zero, List.set_cons_succ]
  refine wpAnyH_take (i := 20) (v := ?v20) rfl (by kernel_rfl) (by kernel_rfl) (by kernel_rfl) (fun _ _ _ h => h) (Or.inl ⟨by rfl, ?hy20⟩) hHeld ?rest20
  case hy20 => (intro w0 hSw; (try dsimp only at hSw); go_simp; all_goals with_reducible rfl)
  try simp only [Act.put, List.getElem_toArray, List.getElem_cons_zero, List.getElem_cons_succ, List.setIfInBounds_toArray, List.set_cons_zero, List.set_cons_succ]
  refine wpAnyH_take (i := 21) (v := ?v21) rfl (by kernel_rfl) (by kernel_rfl) (by kernel_rfl) (fun _ _ _ h => h) (Or.inl ⟨by rfl, ?hy21⟩) hHeld ?rest21
  case hy21 => (intro w0 hSw; (try dsimp only at hSw); go_simp; all_goals with_reducible rfl)
  try simp only [Act.put, List.getElem_toArray, List.getElem_cons_zero, List.getElem_cons_succ, List.setIfInBounds_toArray, List.set_cons_zero, List.set_cons_succ]
  refine wpAnyH_take (i := 22) (v := ?v22) rfl (by kernel_rfl) (by kernel_rfl) (by kernel_rfl) (fun _ _ _ h => h) (Or.inl ⟨by rfl, ?hy22⟩) hHeld ?rest22
  case hy22 => (intro w0 hSw; (try dsimp only at hSw); go_simp; all_goals with_reducible rfl)
  try simp only [Act.put, List.getElem_toArray, List.getElem_cons_zero, List.getElem_cons_succ, List.setIfInBounds_toArray, List.set_cons_zero, List.set_cons_succ]
  refine wpAnyH_take (i := 23) (v := ?v23) rfl (by kernel_rfl) (by kernel_rfl) (by kernel_rfl) (fun _ _ _ h => h) (Or.inl ⟨by rfl, ?hy23⟩) hHeld ?rest23
  case hy23 => (intro w0 hSw; (try dsimp only at hSw); go_simp; all_goals with_reducible rfl)
  try simp only [Act.put, List.getElem_toArray, List.getElem_cons_zero, List.getElem_cons_succ, List.setIfInBounds_toArray, List.set_cons_zero, List.set_cons_succ]
  refine wpAnyH_take (i := 24) (v := ?v24) rfl (by kernel_rfl) (by kernel_rfl) (by kernel_rfl) (fun _ _ _ h => h) (Or.inl ⟨by rfl, ?hy24⟩) hHeld ?rest24
  case hy24 => (intro w0 hSw; (try dsimp only at hSw); go_simp; all_goals with_reducible rfl)
  try simp only [Act.put, List.getElem_toArray, List.getElem_cons_zero, List.getElem_cons_succ, List.setIfInBounds_toArray, List.set_cons_zero, List.set_cons_succ]
  refine wpAnyH_take (i := 25) (v := ?v25) rfl (by kernel_rfl) (by kernel_rfl) (by kernel_rfl) (fun _ _ _ h => h) (Or.inl ⟨by rfl, ?hy25⟩) hHeld ?rest25
  case hy25 => (intro w0 hSw; (try dsimp only at hSw); go_simp; all_goals with_reducible rfl)
  try simp only [Act.put, List.getElem_toArray, List.getElem_cons_zero, List.getElem_cons_succ, List.setIfInBounds_toArray, List.set_cons_zero, List.set_cons_succ]
  refine wpAnyH_take (i := 26) (v := ?v26) rfl (by kernel_rfl) (by kernel_rfl) (by kernel_rfl) (fun _ _ _ h => h) (Or.inl ⟨by rfl, ?hy26⟩) hHeld ?rest26
  case hy26 => (intro w0 hSw; (try dsimp only at hSw); go_simp; all_goals with_reducible rfl)
  try simp only [Act.put, List.getElem_toArray, List.getElem_cons_zero, List.getElem_cons_succ, List.setIfInBounds_toArray, List.set_cons_zero, List.set_cons_succ]
  refine wpAnyH_take (i := 27) (v := ?v27) rfl (by kernel_rfl) (by kernel_rfl) (by kernel_rfl) (fun _ _ _ h => h) (Or.inl ⟨by rfl, ?hy27⟩) hHeld ?rest27
  case hy27 => (intro w0 hSw; (try dsimp only at hSw); go_simp; all_goals with_reducible rfl)
  try simp only [Act.put, List.getElem_toArray, List.getElem_cons_zero, List.getElem_cons_succ, List.setIfInBounds_toArray, List.set_cons_zero, List.set_cons_succ]
  refine wpAnyH_take (i := 28) (v := ?v28) rfl (by kernel_rfl) (by kernel_rfl) (by kernel_rfl) (fun _ _ _ h => h) (Or.inl ⟨by rfl, ?hy28⟩) hHeld ?rest28
  case hy28 => (intro w0 hSw; (try dsimp only at hSw); go_simp; all_goals with_reducible rfl)
  try simp only [Act.put, List.getElem_toArray, List.getElem_cons_zero, List.getElem_cons_succ, List.setIfInBounds_toArray, List.set_cons_zero, List.set_cons_succ]
  refine wpAnyH_take (i := 29) (v := ?v29) rfl (by kernel_rfl) (by kernel_rfl) (by kernel_rfl) (fun _ _ _ h => h) (Or.inl ⟨by rfl, ?hy29⟩) hHeld ?rest29
  case hy29 => (intro w0 hSw; (try dsimp only at hSw); go_simp; all_goals with_reducible rfl)
  try simp only [Act.put, List.getElem_toArray, List.getElem_cons_zero, List.getElem_cons_succ, List.setIfInBounds_toArray, List.set_cons_zero, List.set_cons_succ]
  refine wpAnyH_take (i := 30) (v := ?v30) rfl (by kernel_rfl) (by kernel_rfl) (by kernel_rfl) (fun _ _ _ h => h) (Or.inl ⟨by rfl, ?hy30⟩) hHeld ?rest30
  case hy30 => (intro w0 hSw; (try dsimp only at hSw); go_simp; all_goals with_reducible rfl)
  try simp only [Act.put, List.getElem_toArray, List.getElem_cons_zero, List.getElem_cons_succ, List.setIfInBounds_toArray, List.set_cons_zero, List.set_cons_succ]
  refine wpAnyH_take (i := 32) (v := ?v32) rfl (by kernel_rfl) (by kernel_rfl) (by kernel_rfl) (fun _ _ _ h => h) (Or.inl ⟨by rfl, ?hy32⟩) hHeld ?rest32
  case hy32 => (intro w0 hSw; (try dsimp only at hSw); go_simp; all_goals with_reducible rfl)
  try simp only [Act.put, List.getElem_toArray, List.getElem_cons_zero, List.getElem_cons_succ, List.setIfInBounds_toArray, List.set_cons_zero, List.set_cons_succ]
  refine wpAnyH_ready (rs := [31]) (by kernel_rfl) (by simp) ?_
  refine AllReadyH.cons rfl (fun K hK => ?_) AllReadyH.nil
  go_simp
  refine rcost_open_c s a _ _ ho (hal.out _ hHeld.1) hok ha ?_
  intro w5 hb5
  refine hK.out _ _ (KX.conj ho (bseq hHeld.1 hb5)) (fun hHeld' => ?_)
  clear hK K hHeld hb5
  have hHeld := hHeld'
  clear hHeld'
  try simp only [Act.put, List.getElem_toArray, List.getElem_cons_zero, List.getElem_cons_succ, List.setIfInBounds_toArray, List.set_cons_zero, List.set_cons_succ]
  refine wpAnyH_take (i := 33) (v := ?v33) rfl (by kernel_rfl) (by kernel_rfl) (by kernel_rfl) (fun _ _ _ h => h) (Or.inl ⟨by rfl, ?hy33⟩) hHeld ?rest33
  case hy33 => (intro w0 hSw; (try dsimp only at hSw); go_simp; all_goals with_reducible rfl)
  try simp only [Act.put, List.getElem_toArray, List.getElem_cons_zero, List.getElem_cons_succ, List.setIfInBounds_toArray, List.set_cons_zero, List.set_cons_succ]
  refine wpAnyH_take (i := 34) (v := ?v34) rfl (by kernel_rfl) (by kernel_rfl) (by kernel_rfl) (fun _ _ _ h => h) (Or.inl ⟨by rfl, ?hy34⟩) hHeld ?rest34
  case hy34 => (intro w0 hSw; (try dsimp only at hSw); go_simp; all_goals with_reducible rfl)
  try simp only [Act.put, List.getElem_toArray, List.getElem_cons_zero, List.getElem_cons_succ, List.setIfInBounds_toArray, List.set_cons_zero, List.set_cons_succ]
  refine wpAnyH_done (by kernel_rfl) ?_ _
  refine NoPanic.normal ?_
  exact HN.out _ _ _ _ _ _ _ _ _ _ _ _ _ _ _ _ _ _ _ _ _ _ _ _ _ _ _ _ _ _ _ _ _ _ _  hHeld.1
end Go.Proofs.Ytkbdkkllfaljlaa
