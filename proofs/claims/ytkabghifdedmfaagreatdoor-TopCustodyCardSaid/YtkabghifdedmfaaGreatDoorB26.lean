/- Handover: a signed document. -/
import Derived.Test.YtkabghifdedmfaaGreatDoorB21
import Derived.Test.YtkabghifdedmfaaGreatDoorB25
set_option linter.unusedVariables false
set_option linter.unusedSimpArgs false
namespace Go.Proofs.YtkabghifdedmfaaGreatDoor
open Go.RowKit Go.Sort Go.Shelf

/-- A document. -/
structure DocV where
  sl : ByteArray
  frm : Int
  to_ : Int
  time : Int
  count : Int
  root : Int
  give : Int
  take : Int
def DocV.cells (d : DocV) : List Value := [.string d.sl, .int .i64 d.frm, .int .i64 d.to_, .int .i64 d.time, .int .i64 d.count, .int .i64 d.root, .int .i64 d.give, .int .i64 d.take]
def dFirst (keys : List Int) (d : DocV) : List Int := [keys.getD d.frm.toNat 0, labelD d.sl, d.frm, d.to_, d.time, d.count, d.root]
def dSecond (keys : List Int) (d : DocV) : List Int := [keys.getD d.to_.toNat 0, d.give]
theorem keepS {wr W W' : World} {g kb ko n c fi : Nat} {d : DocV} {x : Int} (h : Below wr.heap.size wr W ∧ W.cell? ⟨g, 0, none⟩ = some (.string d.sl) ∧ W.cell? ⟨g, 1, none⟩ = some (.int .i64 d.frm) ∧ W.cell? ⟨g, 2, none⟩ = some (.int .i64 d.to_) ∧ W.cell? ⟨g, 3, none⟩ = some (.int .i64 d.time) ∧ W.cell? ⟨g, 4, none⟩ = some (.int .i64 d.count) ∧ W.cell? ⟨g, 5, none⟩ = some (.int .i64 d.root) ∧ W.cell? ⟨g, 6, none⟩ = some (.int .i64 d.give) ∧ W.cell? ⟨g, 7, none⟩ = some (.int .i64 d.take) ∧ W.cell? ⟨g, 8, none⟩ = some (.slice (some ⟨kb, ko, none⟩) n c) ∧ W.cell? ⟨kb, ko + fi, none⟩ = some (.int .i64 x)) (hb : Below W.heap.size W W') : Below wr.heap.size wr W' ∧ W'.cell? ⟨g, 0, none⟩ = some (.string d.sl) ∧ W'.cell? ⟨g, 1, none⟩ = some (.int .i64 d.frm) ∧ W'.cell? ⟨g, 2, none⟩ = some (.int .i64 d.to_) ∧ W'.cell? ⟨g, 3, none⟩ = some (.int .i64 d.time) ∧ W'.cell? ⟨g, 4, none⟩ = some (.int .i64 d.count) ∧ W'.cell? ⟨g, 5, none⟩ = some (.int .i64 d.root) ∧ W'.cell? ⟨g, 6, none⟩ = some (.int .i64 d.give) ∧ W'.cell? ⟨g, 7, none⟩ = some (.int .i64 d.take) ∧ W'.cell? ⟨g, 8, none⟩ = some (.slice (some ⟨kb, ko, none⟩) n c) ∧ W'.cell? ⟨kb, ko + fi, none⟩ = some (.int .i64 x) :=
  ⟨bseq h.1 hb, cell_later hb h.2.1, cell_later hb h.2.2.1, cell_later hb h.2.2.2.1, cell_later hb h.2.2.2.2.1, cell_later hb h.2.2.2.2.2.1, cell_later hb h.2.2.2.2.2.2.1, cell_later hb h.2.2.2.2.2.2.2.1, cell_later hb h.2.2.2.2.2.2.2.2.1, cell_later hb h.2.2.2.2.2.2.2.2.2.1, cell_later hb h.2.2.2.2.2.2.2.2.2.2⟩
theorem litN {B g : Nat} {wr W : World} (h : Below B wr W) (hg : W.heap.size = g) (l : List Int) : IntsAt .i64 (W.alloc (.cells (l.map (Value.int .i64)).toArray 3)) (some ⟨g, 0, none⟩) l := hg ▸ IntsAt.lit l
noncomputable def frstReg : Code := (regionsOf (Tryz.f29.body.getD .skip)).getD 1 .skip
set_option maxRecDepth 100000 in
set_option maxHeartbeats 4000000 in
theorem frst_reg (Q : Exit → Act → World → Prop) (g kb ko n c fi : Nat) (d : DocV) (x : Int) (wr : World) (hsz : d.sl.size ≤ 100000) (hn : n ≤ 1000) (hf : d.frm = (fi : Int)) (hfi : fi < n) (hS : wr.cell? ⟨g, 0, none⟩ = some (.string d.sl) ∧ wr.cell? ⟨g, 1, none⟩ = some (.int .i64 d.frm) ∧ wr.cell? ⟨g, 2, none⟩ = some (.int .i64 d.to_) ∧ wr.cell? ⟨g, 3, none⟩ = some (.int .i64 d.time) ∧ wr.cell? ⟨g, 4, none⟩ = some (.int .i64 d.count) ∧ wr.cell? ⟨g, 5, none⟩ = some (.int .i64 d.root) ∧ wr.cell? ⟨g, 6, none⟩ = some (.int .i64 d.give) ∧ wr.cell? ⟨g, 7, none⟩ = some (.int .i64 d.take) ∧ wr.cell? ⟨g, 8, none⟩ = some (.slice (some ⟨kb, ko, none⟩) n c) ∧ wr.cell? ⟨kb, ko + fi, none⟩ = some (.int .i64 x)) {u0 u2 u3 u4 u5 u6 u7 u8 u9 u10 u11 u12 u13 u14 u15 u16 u17 u18 u19 u20 u21 u22 u23 u24 u25 u26 u27 u28 u29 : Value}
    (HN : Hid (∀ W gr v3 v4 v5 v6 v7 v8 v9 v10 v11 v12 v13 v14 v15 v16 v17 v18 v19 v20 v21 v22 v23 v24 v25 v26 v27 v28 v29, IntsAt .i64 W (some ⟨gr, 0, none⟩) [x, labelD d.sl, d.frm, d.to_, d.time, d.count, d.root] → Below wr.heap.size wr W → Q .normal { tmps := #[u0, .pointer (some ⟨g, 0, none⟩), .slice (some ⟨gr, 0, none⟩) 7 7, v3, v4, v5, v6, v7, v8, v9, v10, v11, v12, v13, v14, v15, v16, v17, v18, v19, v20, v21, v22, v23, v24, v25, v26, v27, v28, v29], defers := [] } W)) :
    frstReg.wp Tryz.prog Q { tmps := #[u0, .pointer (some ⟨g, 0, none⟩), u2, u3, u4, u5, u6, u7, u8, u9, u10, u11, u12, u13, u14, u15, u16, u17, u18, u19, u20, u21, u22, u23, u24, u25, u26, u27, u28, u29], defers := [] } wr := by
  have t0 : 0 ≤ d.frm := by omega
  have t1 : d.frm < (n : Int) := by omega
  have tn : (d.frm).toNat = fi := by omega
  clear hf
  simp only [frstReg, Tryz.f29, Option.getD, regionsOf, List.append_eq, List.nil_append, List.append_nil, List.cons_append, List.getD, List.getElem?_cons_succ, List.getElem?_cons_zero]
  refine wp_region_noPanic ?_
  refine wp_region_held_drew (S := fun W => Below wr.heap.size wr W ∧ W.cell? ⟨g, 0, none⟩ = some (.string d.sl) ∧ W.cell? ⟨g, 1, none⟩ = some (.int .i64 d.frm) ∧ W.cell? ⟨g, 2, none⟩ = some (.int .i64 d.to_) ∧ W.cell? ⟨g, 3, none⟩ = some (.int .i64 d.time) ∧ W.cell? ⟨g, 4, none⟩ = some (.int .i64 d.count) ∧ W.cell? ⟨g, 5, none⟩ = some (.int .i64 d.root) ∧ W.cell? ⟨g, 6, none⟩ = some (.int .i64 d.give) ∧ W.cell? ⟨g, 7, none⟩ = some (.int .i64 d.take) ∧ W.cell? ⟨g, 8, none⟩ = some (.slice (some ⟨kb, ko, none⟩) n c) ∧ W.cell? ⟨kb, ko + fi, none⟩ = some (.int .i64 x)) (by kernel_rfl) ⟨(Below.refl _ _).drew, hS⟩ (fun hHeld => ?_)
  refine wpAnyH_take (i := 0) (v := ?v0) rfl (by kernel_rfl) (by kernel_rfl) (by kernel_rfl) (fun _ _ _ h => h) (Or.inl ⟨by rfl, ?hy0⟩) hHeld ?rest0
  case hy0 => (intro w0 hSw; (try dsimp only at hSw); go_simp; all_goals with_reducible rfl)
  try simp only [Act.put, List.getElem_toArray, List.getElem_cons_zero, List.getElem_cons_succ, List.setIfInBounds_toArray, List.set_cons_zero, List.set_cons_succ]
  refine wpAnyH_take (i := 1) (v := ?v1) rfl (by kernel_rfl) (by kernel_rfl) (by kernel_rfl) (fun _ _ _ h => h) (Or.inl ⟨by rfl, ?hy1⟩) hHeld ?rest1
  case hy1 => (intro w0 hSw; (try dsimp only at hSw); go_simp; all_goals with_reducible rfl)
  try simp only [Act.put, List.getElem_toArray, List.getElem_cons_zero, List.getElem_cons_succ, List.setIfInBounds_toArray, List.set_cons_zero, List.set_cons_succ]
  refine wpAnyH_take (i := 2) (v := ?v2) rfl (by kernel_rfl) (by kernel_rfl) (by kernel_rfl) (fun _ _ _ h => h) (Or.inl ⟨by rfl, ?hy2⟩) hHeld ?rest2
  case hy2 => (intro w0 hSw; (try dsimp only at hSw); go_simp; all_goals with_reducible rfl)
  try simp only [Act.put, List.getElem_toArray, List.getElem_cons_zero, List.getElem_cons_succ, List.setIfInBounds_toArray, List.set_cons_zero, List.set_cons_succ]
  refine wpAnyH_take (i := 3) (v := ?v3) rfl (by kernel_rfl) (by kernel_rfl) (by kernel_rfl) (fun _ _ _ h => h) (Or.inl ⟨by rfl, ?hy3⟩) hHeld ?rest3
  case hy3 => (intro w0 hSw; (try dsimp only at hSw); go_simp; all_goals with_reducible rfl)
  try simp only [Act.put, List.getElem_toArray, List.getElem_cons_zero, List.getElem_cons_succ, List.setIfInBounds_toArray, List.set_cons_zero, List.set_cons_succ]
  refine wpAnyH_take (i := 4) (v := ?v4) rfl (by kernel_rfl) (by kernel_rfl) (by kernel_rfl) (fun _ _ _ h => h) (Or.inl ⟨by rfl, ?hy4⟩) hHeld ?rest4
  case hy4 => (intro w0 hSw; (try dsimp only at hSw); go_simp; all_goals with_reducible rfl)
  try simp only [Act.put, List.getElem_toArray, List.getElem_cons_zero, List.getElem_cons_succ, List.setIfInBounds_toArray, List.set_cons_zero, List.set_cons_succ]
  refine wpAnyH_take (i := 5) (v := ?v5) rfl (by kernel_rfl) (by kernel_rfl) (by kernel_rfl) (fun _ _ _ h => h) (Or.inl ⟨by rfl, ?hy5⟩) hHeld ?rest5
  case hy5 => (intro w0 hSw; (try dsimp only at hSw); go_simp; all_goals with_reducible rfl)
  try simp only [Act.put, List.getElem_toArray, List.getElem_cons_zero, List.getElem_cons_succ, List.setIfInBounds_toArray, List.set_cons_zero, List.set_cons_succ]
  refine wpAnyH_take (i := 6) (v := ?v6) rfl (by kernel_rfl) (by kernel_rfl) (by kernel_rfl) (fun _ _ _ h => h) (Or.inl ⟨by rfl, ?hy6⟩) hHeld ?rest6
  case hy6 => (intro w0 hSw; (try dsimp only at hSw); go_simp; all_goals with_reducible rfl)
  try simp only [Act.put, List.getElem_toArray, List.getElem_cons_zero, List.getElem_cons_succ, List.setIfInBounds_toArray, List.set_cons_zero, List.set_cons_succ]
  refine wpAnyH_take (i := 7) (v := ?v7) rfl (by kernel_rfl) (by kernel_rfl) (by kernel_rfl) (fun _ _ _ h => h) (Or.inl ⟨by rfl, ?hy7⟩) hHeld ?rest7
  case hy7 => (intro w0 hSw; (try dsimp only at hSw); go_simp; all_goals with_reducible rfl)
  try simp only [Act.put, List.getElem_toArray, List.getElem_cons_zero, List.getElem_cons_succ, List.setIfInBounds_toArray, List.set_cons_zero, List.set_cons_succ]
  refine wpAnyH_take (i := 8) (v := ?v8) rfl (by kernel_rfl) (by kernel_rfl) (by kernel_rfl) (fun _ _ _ h => h) (Or.inl ⟨by rfl, ?hy8⟩) hHeld ?rest8
  case hy8 => (intro w0 hSw; (try dsimp only at hSw); go_simp; all_goals with_reducible rfl)
  try simp only [Act.put, List.getElem_toArray, List.getElem_cons_zero, List.getElem_cons_succ, List.setIfInBounds_toArray, List.set_cons_zero, List.set_cons_succ]
  refine wpAnyH_take (i := 9) (v := ?v9) rfl (by kernel_rfl) (by kernel_rfl) (by kernel_rfl) (fun _ _ _ h => h) (Or.inl ⟨by rfl, ?hy9⟩) hHeld ?rest9
  case hy9 => (intro w0 hSw; (try dsimp only at hSw); go_simp; all_goals with_reducible rfl)
  try simp only [Act.put, List.getElem_toArray, List.getElem_cons_zero, List.getElem_cons_succ, List.setIfInBounds_toArray, List.set_cons_zero, List.set_cons_succ]
  refine wpAnyH_take (i := 11) (v := ?v11) rfl (by kernel_rfl) (by kernel_rfl) (by kernel_rfl) (fun _ _ _ h => h) (Or.inl ⟨by rfl, ?hy11⟩) hHeld ?rest11
  case hy11 => (intro w0 hSw; (try dsimp only at hSw); go_simp; all_goals with_reducible rfl)
  try simp only [Act.put, List.getElem_toArray, List.getElem_cons_zero, List.getElem_cons_succ, List.setIfInBounds_toArray, List.set_cons_zero, List.set_cons_succ]
  refine wpAnyH_take (i := 12) (v := ?v12) rfl (by kernel_rfl) (by kernel_rfl) (by kernel_rfl) (fun _ _ _ h => h) (Or.inl ⟨by rfl, ?hy12⟩) hHeld ?rest12
  case hy12 => (intro w0 hSw; (try dsimp only at hSw); go_simp; all_goals with_reducible rfl)
  try simp only [Act.put, List.getElem_toArray, List.getElem_cons_zero, List.getElem_cons_succ, List.setIfInBounds_toArray, List.set_cons_zero, List.set_cons_succ]
  refine wpAnyH_take (i := 13) (v := ?v13) rfl (by kernel_rfl) (by kernel_rfl) (by kernel_rfl) (fun _ _ _ h => h) (Or.inl ⟨by rfl, ?hy13⟩) hHeld ?rest13
  case hy13 => (intro w0 hSw; (try dsimp only at hSw); go_simp; all_goals with_reducible rfl)
  try simp only [Act.put, List.getElem_toArray, List.getElem_cons_zero, List.getElem_cons_succ, List.setIfInBounds_toArray, List.set_cons_zero, List.set_cons_succ]
  refine wpAnyH_take (i := 14) (v := ?v14) rfl (by kernel_rfl) (by kernel_rfl) (by kernel_rfl) (fun _ _ _ h => h) (Or.inl ⟨by rfl, ?hy14⟩) hHeld ?rest14
  case hy14 => (intro w0 hSw; (try dsimp only at hSw); go_simp; all_goals with_reducible rfl)
  try simp only [Act.put, List.getElem_toArray, List.getElem_cons_zero, List.getElem_cons_succ, List.setIfInBounds_toArray, List.set_cons_zero, List.set_cons_succ]
  refine wpAnyH_take (i := 15) (v := ?v15) rfl (by kernel_rfl) (by kernel_rfl) (by kernel_rfl) (fun _ _ _ h => h) (Or.inl ⟨by rfl, ?hy15⟩) hHeld ?rest15
  case hy15 => (intro w0 hSw; (try dsimp only at hSw); go_simp; all_goals with_reducible rfl)
  try simp only [Act.put, List.getElem_toArray, List.getElem_cons_zero, List.getElem_cons_succ, List.setIfInBounds_toArray, List.set_cons_zero, List.set_cons_succ]
  refine wpAnyH_take (i := 16) (v := ?v16) rfl (by kernel_rfl) (by kernel_rfl) (by kernel_rfl) (fun _ _ _ h => h) (Or.inl ⟨by rfl, ?hy16⟩) hHeld ?rest16
  case hy16 => (intro w0 hSw; (try dsimp only at hSw); go_simp; all_goals with_reducible rfl)
  try simp only [Act.put, List.getElem_toArray, List.getElem_cons_zero, List.getElem_cons_succ, List.setIfInBounds_toArray, List.set_cons_zero, List.set_cons_succ]
  refine wpAnyH_take (i := 17) (v := ?v17) rfl (by kernel_rfl) (by kernel_rfl) (by kernel_rfl) (fun _ _ _ h => h) (Or.inl ⟨by rfl, ?hy17⟩) hHeld ?rest17
  case hy17 => (intro w0 hSw; (try dsimp only at hSw); go_simp; all_goals with_reducible rfl)
  try simp only [Act.put, List.getElem_toArray, List.getElem_cons_zero, List.getElem_cons_succ, List.setIfInBounds_toArray, List.set_cons_zero, List.set_cons_succ]
  refine wpAnyH_take (i := 18) (v := ?v18) rfl (by kernel_rfl) (by kernel_rfl) (by kernel_rfl) (fun _ _ _ h => h) (Or.inl ⟨by rfl, ?hy18⟩) hHeld ?rest18
  case hy18 => (intro w0 hSw; (try dsimp only at hSw); go_simp; all_goals with_reducible rfl)
  try simp only [Act.put, List.getElem_toArray, List.getElem_cons_zero, List.getElem_cons_succ, List.setIfInBounds_toArray, List.set_cons_zero, List.set_cons_succ]
  refine wpAnyH_take (i := 19) (v := ?v19) rfl (by kernel_rfl) (by kernel_rfl) (by kernel_rfl) (fun _ _ _ h => h) (Or.inl ⟨by rfl, ?hy19⟩) hHeld ?rest19
  case hy19 => (intro w0 hSw; (try dsimp only at hSw); go_simp; all_goals with_reducible rfl)
  try simp only [Act.put, List.getElem_toArray, List.getElem_cons_zero, List.getElem_cons_succ, List.setIfInBounds_toArray, List.set_cons_zero, List.set_cons_succ]
  refine wpAnyH_take (i := 20) (v := ?v20) rfl (by kernel_rfl) (by kernel_rfl) (by kernel_rfl) (fun _ _ _ h => h) (Or.inl ⟨by rfl, ?hy20⟩) hHeld ?rest20
  case hy20 => (intro w0 hSw; (try dsimp only at hSw); go_simp; all_goals with_reducible rfl)
  try simp only [Act.put, List.getElem_toArray, List.getElem_cons_zero, List.getElem_cons_succ, List.setIfInBounds_toArray, List.set_cons_zero, List.set_cons_succ]
  refine wpAnyH_take (i := 21) (v := ?v21) rfl (by kernel_rfl) (by kernel_rfl) (by kernel_rfl) (fun _ _ _ h => h) (Or.inl ⟨by rfl, ?hy21⟩) hHeld ?rest21
  case hy21 => (intro w0 hSw; (try dsimp only at hSw); go_simp; all_goals with_reducible rfl)
  try simp only [Act.put, List.getElem_toArray, List.getElem_cons_zero, List.getElem_cons_succ, List.setIfInBounds_toArray, List.set_cons_zero, List.set_cons_succ]
  refine wpAnyH_take (i := 22) (v := ?v22) rfl (by kernel_rfl) (by kernel_rfl) (by kernel_rfl) (fun _ _ _ h => h) (Or.inl ⟨by rfl, ?hy22⟩) hHeld ?rest22
  case hy22 => (intro w0 hSw; (try dsimp only at hSw); go_simp; all_goals with_reducible rfl)
  try simp only [Act.put, List.getElem_toArray, List.getElem_cons_zero, List.getElem_cons_succ, List.setIfInBounds_toArray, List.set_cons_zero, List.set_cons_succ]
  refine wpAnyH_take (i := 23) (v := ?v23) rfl (by kernel_rfl) (by kernel_rfl) (by kernel_rfl) (fun _ _ _ h => h) (Or.inl ⟨by rfl, ?hy23⟩) hHeld ?rest23
  case hy23 => (intro w0 hSw; (try dsimp only at hSw); go_simp; all_goals with_reducible rfl)
  try simp only [Act.put, List.getElem_toArray, List.getElem_cons_zero, List.getElem_cons_succ, List.setIfInBounds_toArray, List.set_cons_zero, List.set_cons_succ]
  refine wpAnyH_take (i := 24) (v := ?v24) rfl (by kernel_rfl) (by kernel_rfl) (by kernel_rfl) (fun _ _ _ h => h) (Or.inl ⟨by rfl, ?hy24⟩) hHeld ?rest24
  case hy24 => (intro w0 hSw; (try dsimp only at hSw); go_simp; all_goals with_reducible rfl)
  try simp only [Act.put, List.getElem_toArray, List.getElem_cons_zero, List.getElem_cons_succ, List.setIfInBounds_toArray, List.set_cons_zero, List.set_cons_succ]
  refine wpAnyH_take (i := 25) (v := ?v25) rfl (by kernel_rfl) (by kernel_rfl) (by kernel_rfl) (fun _ _ _ h => h) (Or.inl ⟨by rfl, ?hy25⟩) hHeld ?rest25
  case hy25 => (intro w0 hSw; (try dsimp only at hSw); go_simp; all_goals with_reducible rfl)
  try simp only [Act.put, List.getElem_toArray, List.getElem_cons_zero, List.getElem_cons_succ, List.setIfInBounds_toArray, List.set_cons_zero, List.set_cons_succ]
  refine wpAnyH_ready (rs := [10]) (by kernel_rfl) (by simp) ?_
  refine AllReadyH.cons rfl (fun K hK => ?_) AllReadyH.nil
  go_simp
  refine labelD_c d.sl _ _ hsz ?_
  intro w' hb'
  refine hK.out _ _ (keepS hHeld hb') (fun hHeld' => ?_)
  clear hK K hHeld
  have hHeld := hHeld'
  clear hHeld'
  try simp only [Act.put, List.getElem_toArray, List.getElem_cons_zero, List.getElem_cons_succ, List.setIfInBounds_toArray, List.set_cons_zero, List.set_cons_succ]
  refine wpAnyH_ready (rs := [26]) (by kernel_rfl) (by simp) ?_
  refine AllReadyH.cons rfl (fun K hK => ?_) AllReadyH.nil
  go_simp
  have hL := litN hHeld.1 rfl [x, labelD d.sl, d.frm, d.to_, d.time, d.count, d.root]
  refine hK.out _ _ (keepS hHeld (balloc (Below.refl _ _) _)) (fun hHeld' => ?_)
  clear hK K hHeld
  have hHeld := hHeld'
  clear hHeld'
  try simp only [Act.put, List.getElem_toArray, List.getElem_cons_zero, List.getElem_cons_succ, List.setIfInBounds_toArray, List.set_cons_zero, List.set_cons_succ]
  refine wpAnyH_take (i := 27) (v := ?v27) rfl (by kernel_rfl) (by kernel_rfl) (by kernel_rfl) (fun _ _ _ h => h) (Or.inl ⟨by rfl, ?hy27⟩) hHeld ?rest27
  case hy27 => (intro w0 hSw; (try dsimp only at hSw); go_simp; all_goals with_reducible rfl)
  try simp only [Act.put, List.getElem_toArray, List.getElem_cons_zero, List.getElem_cons_succ, List.setIfInBounds_toArray, List.set_cons_zero, List.set_cons_succ]
  refine wpAnyH_done (by kernel_rfl) ?_ _
  refine NoPanic.normal ?_
  exact HN.out _ _ _ _ _ _ _ _ _ _ _ _ _ _ _ _ _ _ _ _ _ _ _ _ _ _ _ _ _ hL hHeld.1
noncomputable def secdReg : Code := (regionsOf (Tryz.f30.body.getD .skip)).getD 1 .skip
set_option maxRecDepth 100000 in
set_option maxHeartbeats 4000000 in
theorem secd_reg (Q : Exit → Act → World → Prop) (g kb ko n c fi : Nat) (d : DocV) (x : Int) (wr : World)  (hn : n ≤ 1000) (hf : d.to_ = (fi : Int)) (hfi : fi < n) (hS : wr.cell? ⟨g, 0, none⟩ = some (.string d.sl) ∧ wr.cell? ⟨g, 1, none⟩ = some (.int .i64 d.frm) ∧ wr.cell? ⟨g, 2, none⟩ = some (.int .i64 d.to_) ∧ wr.cell? ⟨g, 3, none⟩ = some (.int .i64 d.time) ∧ wr.cell? ⟨g, 4, none⟩ = some (.int .i64 d.count) ∧ wr.cell? ⟨g, 5, none⟩ = some (.int .i64 d.root) ∧ wr.cell? ⟨g, 6, none⟩ = some (.int .i64 d.give) ∧ wr.cell? ⟨g, 7, none⟩ = some (.int .i64 d.take) ∧ wr.cell? ⟨g, 8, none⟩ = some (.slice (some ⟨kb, ko, none⟩) n c) ∧ wr.cell? ⟨kb, ko + fi, none⟩ = some (.int .i64 x)) {u0 u2 u3 u4 u5 u6 u7 u8 u9 u10 u11 u12 u13 : Value}
    (HN : Hid (∀ W gr v3 v4 v5 v6 v7 v8 v9 v10 v11 v12 v13, IntsAt .i64 W (some ⟨gr, 0, none⟩) [x, d.give] → Below wr.heap.size wr W → Q .normal { tmps := #[u0, .pointer (some ⟨g, 0, none⟩), .slice (some ⟨gr, 0, none⟩) 2 2, v3, v4, v5, v6, v7, v8, v9, v10, v11, v12, v13], defers := [] } W)) :
    secdReg.wp Tryz.prog Q { tmps := #[u0, .pointer (some ⟨g, 0, none⟩), u2, u3, u4, u5, u6, u7, u8, u9, u10, u11, u12, u13], defers := [] } wr := by
  have t0 : 0 ≤ d.to_ := by omega
  have t1 : d.to_ < (n : Int) := by omega
  have tn : (d.to_).toNat = fi := by omega
  clear hf
  simp only [secdReg, Tryz.f30, Option.getD, regionsOf, List.append_eq, List.nil_append, List.append_nil, List.cons_append, List.getD, List.getElem?_cons_succ, List.getElem?_cons_zero]
  refine wp_region_noPanic ?_
  refine wp_region_held_drew (S := fun W => Below wr.heap.size wr W ∧ W.cell? ⟨g, 0, none⟩ = some (.string d.sl) ∧ W.cell? ⟨g, 1, none⟩ = some (.int .i64 d.frm) ∧ W.cell? ⟨g, 2, none⟩ = some (.int .i64 d.to_) ∧ W.cell? ⟨g, 3, none⟩ = some (.int .i64 d.time) ∧ W.cell? ⟨g, 4, none⟩ = some (.int .i64 d.count) ∧ W.cell? ⟨g, 5, none⟩ = some (.int .i64 d.root) ∧ W.cell? ⟨g, 6, none⟩ = some (.int .i64 d.give) ∧ W.cell? ⟨g, 7, none⟩ = some (.int .i64 d.take) ∧ W.cell? ⟨g, 8, none⟩ = some (.slice (some ⟨kb, ko, none⟩) n c) ∧ W.cell? ⟨kb, ko + fi, none⟩ = some (.int .i64 x)) (by kernel_rfl) ⟨(Below.refl _ _).drew, hS⟩ (fun hHeld => ?_)
  refine wpAnyH_take (i := 0) (v := ?v0) rfl (by kernel_rfl) (by kernel_rfl) (by kernel_rfl) (fun _ _ _ h => h) (Or.inl ⟨by rfl, ?hy0⟩) hHeld ?rest0
  case hy0 => (intro w0 hSw; (try dsimp only at hSw); go_simp; all_goals with_reducible rfl)
  try simp only [Act.put, List.getElem_toArray, List.getElem_cons_zero, List.getElem_cons_succ, List.setIfInBounds_toArray, List.set_cons_zero, List.set_cons_succ]
  refine wpAnyH_take (i := 1) (v := ?v1) rfl (by kernel_rfl) (by kernel_rfl) (by kernel_rfl) (fun _ _ _ h => h) (Or.inl ⟨by rfl, ?hy1⟩) hHeld ?rest1
  case hy1 => (intro w0 hSw; (try dsimp only at hSw); go_simp; all_goals with_reducible rfl)
  try simp only [Act.put, List.getElem_toArray, List.getElem_cons_zero, List.getElem_cons_succ, List.setIfInBounds_toArray, List.set_cons_zero, List.set_cons_succ]
  refine wpAnyH_take (i := 2) (v := ?v2) rfl (by kernel_rfl) (by kernel_rfl) (by kernel_rfl) (fun _ _ _ h => h) (Or.inl ⟨by rfl, ?hy2⟩) hHeld ?rest2
  case hy2 => (intro w0 hSw; (try dsimp only at hSw); go_simp; all_goals with_reducible rfl)
  try simp only [Act.put, List.getElem_toArray, List.getElem_cons_zero, List.getElem_cons_succ, List.setIfInBounds_toArray, List.set_cons_zero, List.set_cons_succ]
  refine wpAnyH_take (i := 3) (v := ?v3) rfl (by kernel_rfl) (by kernel_rfl) (by kernel_rfl) (fun _ _ _ h => h) (Or.inl ⟨by rfl, ?hy3⟩) hHeld ?rest3
  case hy3 => (intro w0 hSw; (try dsimp only at hSw); go_simp; all_goals with_reducible rfl)
  try simp only [Act.put, List.getElem_toArray, List.getElem_cons_zero, List.getElem_cons_succ, List.setIfInBounds_toArray, List.set_cons_zero, List.set_cons_succ]
  refine wpAnyH_take (i := 4) (v := ?v4) rfl (by kernel_rfl) (by kernel_rfl) (by kernel_rfl) (fun _ _ _ h => h) (Or.inl ⟨by rfl, ?hy4⟩) hHeld ?rest4
  case hy4 => (intro w0 hSw; (try dsimp only at hSw); go_simp; all_goals with_reducible rfl)
  try simp only [Act.put, List.getElem_toArray, List.getElem_cons_zero, List.getElem_cons_succ, List.setIfInBounds_toArray, List.set_cons_zero, List.set_cons_succ]
  refine wpAnyH_take (i := 5) (v := ?v5) rfl (by kernel_rfl) (by kernel_rfl) (by kernel_rfl) (fun _ _ _ h => h) (Or.inl ⟨by rfl, ?hy5⟩) hHeld ?rest5
  case hy5 => (intro w0 hSw; (try dsimp only at hSw); go_simp; all_goals with_reducible rfl)
  try simp only [Act.put, List.getElem_toArray, List.getElem_cons_zero, List.getElem_cons_succ, List.setIfInBounds_toArray, List.set_cons_zero, List.set_cons_succ]
  refine wpAnyH_take (i := 6) (v := ?v6) rfl (by kernel_rfl) (by kernel_rfl) (by kernel_rfl) (fun _ _ _ h => h) (Or.inl ⟨by rfl, ?hy6⟩) hHeld ?rest6
  case hy6 => (intro w0 hSw; (try dsimp only at hSw); go_simp; all_goals with_reducible rfl)
  try simp only [Act.put, List.getElem_toArray, List.getElem_cons_zero, List.getElem_cons_succ, List.setIfInBounds_toArray, List.set_cons_zero, List.set_cons_succ]
  refine wpAnyH_take (i := 7) (v := ?v7) rfl (by kernel_rfl) (by kernel_rfl) (by kernel_rfl) (fun _ _ _ h => h) (Or.inl ⟨by rfl, ?hy7⟩) hHeld ?rest7
  case hy7 => (intro w0 hSw; (try dsimp only at hSw); go_simp; all_goals with_reducible rfl)
  try simp only [Act.put, List.getElem_toArray, List.getElem_cons_zero, List.getElem_cons_succ, List.setIfInBounds_toArray, List.set_cons_zero, List.set_cons_succ]
  refine wpAnyH_take (i := 8) (v := ?v8) rfl (by kernel_rfl) (by kernel_rfl) (by kernel_rfl) (fun _ _ _ h => h) (Or.inl ⟨by rfl, ?hy8⟩) hHeld ?rest8
  case hy8 => (intro w0 hSw; (try dsimp only at hSw); go_simp; all_goals with_reducible rfl)
  try simp only [Act.put, List.getElem_toArray, List.getElem_cons_zero, List.getElem_cons_succ, List.setIfInBounds_toArray, List.set_cons_zero, List.set_cons_succ]
  refine wpAnyH_take (i := 9) (v := ?v9) rfl (by kernel_rfl) (by kernel_rfl) (by kernel_rfl) (fun _ _ _ h => h) (Or.inl ⟨by rfl, ?hy9⟩) hHeld ?rest9
  case hy9 => (intro w0 hSw; (try dsimp only at hSw); go_simp; all_goals with_reducible rfl)
  try simp only [Act.put, List.getElem_toArray, List.getElem_cons_zero, List.getElem_cons_succ, List.setIfInBounds_toArray, List.set_cons_zero, List.set_cons_succ]
  refine wpAnyH_ready (rs := [10]) (by kernel_rfl) (by simp) ?_
  refine AllReadyH.cons rfl (fun K hK => ?_) AllReadyH.nil
  go_simp
  have hL := litN (g := wr.heap.size) hHeld.1 (by first | rfl | simp) [x, d.give]
  refine hK.out _ _ (keepS hHeld (balloc (Below.refl _ _) _)) (fun hHeld' => ?_)
  clear hK K hHeld
  have hHeld := hHeld'
  clear hHeld'
  try simp only [Act.put, List.getElem_toArray, List.getElem_cons_zero, List.getElem_cons_succ, List.setIfInBounds_toArray, List.set_cons_zero, List.set_cons_succ]
  refine wpAnyH_take (i := 11) (v := ?v11) rfl (by kernel_rfl) (by kernel_rfl) (by kernel_rfl) (fun _ _ _ h => h) (Or.inl ⟨by rfl, ?hy11⟩) hHeld ?rest11
  case hy11 => (intro w0 hSw; (try dsimp only at hSw); go_simp; all_goals with_reducible rfl)
  try simp only [Act.put, List.getElem_toArray, List.getElem_cons_zero, List.getElem_cons_succ, List.setIfInBounds_toArray, List.set_cons_zero, List.set_cons_succ]
  refine wpAnyH_done (by kernel_rfl) ?_ _
  refine NoPanic.normal ?_
  exact HN.out _ _ _ _ _ _ _ _ _ _ _ _ _ hL hHeld.1
set_option maxRecDepth 100000 in
theorem first_c (kb ko n c : Nat) (keys : List Int) (d : DocV) (w : World) (R) (hsz : d.sl.size ≤ 100000) (hn : n ≤ 1000) (hl : keys.length = n) (hf : 0 ≤ d.frm ∧ d.frm < (n : Int)) (h : IntsAt .i64 w (some ⟨kb, ko, none⟩) keys)
    (hR : ∀ w' g, Below w.heap.size w w' → IntsAt .i64 w' (some ⟨g, 0, none⟩) (dFirst keys d) → R (.returned (.slice (some ⟨g, 0, none⟩) 7 7)) w') : Calls Tryz.prog 29 #[.agg #[.string d.sl, .int .i64 d.frm, .int .i64 d.to_, .int .i64 d.time, .int .i64 d.count, .int .i64 d.root, .int .i64 d.give, .int .i64 d.take, .slice (some ⟨kb, ko, none⟩) n c]] w R := by
  have HR := hide hR
  obtain ⟨fi, hfi⟩ : ∃ fi : Nat, d.frm = (fi : Int) := ⟨(d.frm).toNat, by omega⟩
  have hfn : fi < n := by omega
  obtain ⟨b, o, x, hp, hx, x0⟩ := h.at_ (i := fi) (by omega)
  injection hp with hp; injection hp with e1 e2; subst e1; subst e2
  have hg : keys.getD (d.frm).toNat 0 = x := by rw [hfi, Int.toNat_natCast, List.getD_eq_getElem?_getD, hx]; rfl
  have HP := hide (show dFirst keys d = _ from by unfold dFirst; rw [hg])
  obtain ⟨w1, hw1⟩ : ∃ w1, w.alloc (.cells #[.string d.sl, .int .i64 d.frm, .int .i64 d.to_, .int .i64 d.time, .int .i64 d.count, .int .i64 d.root, .int .i64 d.give, .int .i64 d.take, .slice (some ⟨kb, ko, none⟩) n c] 93) = w1 := ⟨_, rfl⟩
  have hb1 : Below w.heap.size w w1 := hw1 ▸ balloc (Below.refl _ _) _
  have HB1 := hide hb1
  have k1 : Blk w1 w.heap.size #[.string d.sl, .int .i64 d.frm, .int .i64 d.to_, .int .i64 d.time, .int .i64 d.count, .int .i64 d.root, .int .i64 d.give, .int .i64 d.take, .slice (some ⟨kb, ko, none⟩) n c] 93 := hw1 ▸ Blk.new _ _ _
  have x1 := cell_later hb1 x0
  have HS := hide (show w1.cell? ⟨w.heap.size, 0, none⟩ = some (.string d.sl) ∧ w1.cell? ⟨w.heap.size, 1, none⟩ = some (.int .i64 d.frm) ∧ w1.cell? ⟨w.heap.size, 2, none⟩ = some (.int .i64 d.to_) ∧ w1.cell? ⟨w.heap.size, 3, none⟩ = some (.int .i64 d.time) ∧ w1.cell? ⟨w.heap.size, 4, none⟩ = some (.int .i64 d.count) ∧ w1.cell? ⟨w.heap.size, 5, none⟩ = some (.int .i64 d.root) ∧ w1.cell? ⟨w.heap.size, 6, none⟩ = some (.int .i64 d.give) ∧ w1.cell? ⟨w.heap.size, 7, none⟩ = some (.int .i64 d.take) ∧ w1.cell? ⟨w.heap.size, 8, none⟩ = some (.slice (some ⟨kb, ko, none⟩) n c) ∧ w1.cell? ⟨kb, ko + fi, none⟩ = some (.int .i64 x) from ⟨k1.cell (k := 0) rfl, k1.cell (k := 1) rfl, k1.cell (k := 2) rfl, k1.cell (k := 3) rfl, k1.cell (k := 4) rfl, k1.cell (k := 5) rfl, k1.cell (k := 6) rfl, k1.cell (k := 7) rfl, k1.cell (k := 8) rfl, x1⟩)
  have Hfi := hide hfi
  clear hR hb1 k1 x1 x0 hx hg h hfi
  go_enter Tryz.func29, Tryz.ntmps29
  go_wp2
  refine frst_reg _ w.heap.size kb ko n c fi d x w1 hsz hn Hfi.out hfn HS.out (hide ?_)
  intro W gr v3 v4 v5 v6 v7 v8 v9 v10 v11 v12 v13 v14 v15 v16 v17 v18 v19 v20 v21 v22 v23 v24 v25 v26 v27 v28 v29 hL hB
  rw [← HP.out] at hL
  have HF := hide (HR.out _ _ (bseq HB1.out hB) hL)
  clear hL hB hw1
  go_wp2
  exact HF.out
set_option maxRecDepth 100000 in
theorem second_c (kb ko n c : Nat) (keys : List Int) (d : DocV) (w : World) (R) (hn : n ≤ 1000) (hl : keys.length = n) (hf : 0 ≤ d.to_ ∧ d.to_ < (n : Int)) (h : IntsAt .i64 w (some ⟨kb, ko, none⟩) keys)
    (hR : ∀ w' g, Below w.heap.size w w' → IntsAt .i64 w' (some ⟨g, 0, none⟩) (dSecond keys d) → R (.returned (.slice (some ⟨g, 0, none⟩) 2 2)) w') : Calls Tryz.prog 30 #[.agg #[.string d.sl, .int .i64 d.frm, .int .i64 d.to_, .int .i64 d.time, .int .i64 d.count, .int .i64 d.root, .int .i64 d.give, .int .i64 d.take, .slice (some ⟨kb, ko, none⟩) n c]] w R := by
  have HR := hide hR
  obtain ⟨fi, hfi⟩ : ∃ fi : Nat, d.to_ = (fi : Int) := ⟨(d.to_).toNat, by omega⟩
  have hfn : fi < n := by omega
  obtain ⟨b, o, x, hp, hx, x0⟩ := h.at_ (i := fi) (by omega)
  injection hp with hp; injection hp with e1 e2; subst e1; subst e2
  have hg : keys.getD (d.to_).toNat 0 = x := by rw [hfi, Int.toNat_natCast, List.getD_eq_getElem?_getD, hx]; rfl
  have HP := hide (show dSecond keys d = _ from by unfold dSecond; rw [hg])
  obtain ⟨w1, hw1⟩ : ∃ w1, w.alloc (.cells #[.string d.sl, .int .i64 d.frm, .int .i64 d.to_, .int .i64 d.time, .int .i64 d.count, .int .i64 d.root, .int .i64 d.give, .int .i64 d.take, .slice (some ⟨kb, ko, none⟩) n c] 93) = w1 := ⟨_, rfl⟩
  have hb1 : Below w.heap.size w w1 := hw1 ▸ balloc (Below.refl _ _) _
  have HB1 := hide hb1
  have k1 : Blk w1 w.heap.size #[.string d.sl, .int .i64 d.frm, .int .i64 d.to_, .int .i64 d.time, .int .i64 d.count, .int .i64 d.root, .int .i64 d.give, .int .i64 d.take, .slice (some ⟨kb, ko, none⟩) n c] 93 := hw1 ▸ Blk.new _ _ _
  have x1 := cell_later hb1 x0
  have HS := hide (show w1.cell? ⟨w.heap.size, 0, none⟩ = some (.string d.sl) ∧ w1.cell? ⟨w.heap.size, 1, none⟩ = some (.int .i64 d.frm) ∧ w1.cell? ⟨w.heap.size, 2, none⟩ = some (.int .i64 d.to_) ∧ w1.cell? ⟨w.heap.size, 3, none⟩ = some (.int .i64 d.time) ∧ w1.cell? ⟨w.heap.size, 4, none⟩ = some (.int .i64 d.count) ∧ w1.cell? ⟨w.heap.size, 5, none⟩ = some (.int .i64 d.root) ∧ w1.cell? ⟨w.heap.size, 6, none⟩ = some (.int .i64 d.give) ∧ w1.cell? ⟨w.heap.size, 7, none⟩ = some (.int .i64 d.take) ∧ w1.cell? ⟨w.heap.size, 8, none⟩ = some (.slice (some ⟨kb, ko, none⟩) n c) ∧ w1.cell? ⟨kb, ko + fi, none⟩ = some (.int .i64 x) from ⟨k1.cell (k := 0) rfl, k1.cell (k := 1) rfl, k1.cell (k := 2) rfl, k1.cell (k := 3) rfl, k1.cell (k := 4) rfl, k1.cell (k := 5) rfl, k1.cell (k := 6) rfl, k1.cell (k := 7) rfl, k1.cell (k := 8) rfl, x1⟩)
  have Hfi := hide hfi
  clear hR hb1 k1 x1 x0 hx hg h hfi
  go_enter Tryz.func30, Tryz.ntmps30
  go_wp2
  refine secd_reg _ w.heap.size kb ko n c fi d x w1 hn Hfi.out hfn HS.out (hide ?_)
  intro W gr v3 v4 v5 v6 v7 v8 v9 v10 v11 v12 v13 hL hB
  rw [← HP.out] at hL
  have HF := hide (HR.out _ _ (bseq HB1.out hB) hL)
  clear hL hB hw1
  go_wp2
  exact HF.out
end Go.Proofs.YtkabghifdedmfaaGreatDoor
