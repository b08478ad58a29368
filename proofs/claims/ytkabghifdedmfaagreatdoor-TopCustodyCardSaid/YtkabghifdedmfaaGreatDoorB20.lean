/- Digests: the row above a row. The text of a record that stands for a label; a label. -/
import Derived.Test.YtkabghifdedmfaaGreatDoorB19
import Derived.Test.YtkabghifdedmfaaGreatDoorB8
set_option linter.unusedVariables false
set_option linter.unusedSimpArgs false
namespace Go.Proofs.YtkabghifdedmfaaGreatDoor
open Go.RowKit

def regionsOf : Code → List Code
  | .seq a b => regionsOf a ++ regionsOf b
  | .block _ c => regionsOf c
  | .cond _ a b => regionsOf a ++ regionsOf b
  | .scope c => regionsOf c
  | .loop c => regionsOf c
  | .rangeFunc _ _ a b => regionsOf a ++ regionsOf b
  | .region i o d => [.region i o d]
  | _ => []
noncomputable def abvReg : Code := (regionsOf (Tryz.f82.body.getD .skip)).getD 4 .skip
theorem ite_of {c : Bool} {A B : Prop} (h : c = true) (a : A) : if c = true then A else B := by rw [if_pos h]; exact a
theorem lit3 {B g : Nat} {wr W : World} (h : Below B wr W) (x y : Int) (hg : W.heap.size = g) : IntsAt .i64 (W.alloc (.cells #[.int .i64 1, .int .i64 x, .int .i64 y] 3)) (some ⟨g, 0, none⟩) [1, x, y] := hg ▸ IntsAt.lit [1, x, y]
theorem lit1 {B g : Nat} {wr W : World} (h : Below B wr W) (x : Int) (hg : W.heap.size = g) : IntsAt .i64 (W.alloc (.cells #[.int .i64 x] 3)) (some ⟨g, 0, none⟩) [x] := hg ▸ IntsAt.lit [x]
theorem keepA {w0 W' : World} {b o i : Nat} {x y : Int} (h : Hid (w0.cell? ⟨b, o + i, none⟩ = some (.int .i64 x) ∧ w0.cell? ⟨b, o + (i + 1), none⟩ = some (.int .i64 y))) (hb : Below w0.heap.size w0 W') : Below w0.heap.size w0 W' ∧ W'.cell? ⟨b, o + i, none⟩ = some (.int .i64 x) ∧ W'.cell? ⟨b, o + (i + 1), none⟩ = some (.int .i64 y) := ⟨hb, cell_later hb h.out.1, cell_later hb h.out.2⟩
set_option maxRecDepth 100000 in
set_option maxHeartbeats 4000000 in
theorem abv_reg (Q : Exit → Act → World → Prop) (b o n cap i k : Nat) (v : Value) (x y : Int) (zs : List Int) (w0 wr : World) (hi : i + 1 < n) (hn : n ≤ 100000) (hk : k ≤ 100000) (HB : Hid (Below w0.heap.size w0 wr)) (HO : Hid (wr.ownsRow w0.heap.size 3 1 v k (zs.map (Value.int .i64))))
    (HS : Hid (w0.cell? ⟨b, o + i, none⟩ = some (.int .i64 x) ∧ w0.cell? ⟨b, o + (i + 1), none⟩ = some (.int .i64 y))) {u1 u2 u5 u6 u7 u8 u9 u10 u11 u12 u13 u14 u15 u16 u17 u18 u19 u20 u21 u22 u23 u24 u25 u26 u27 u28 u29 u30 u31 u32 u33 u34 u35 u36 u37 u38 u39 : Value}
    (HN : Hid (∀ v' W v12 v13 v14 v15 v16 v17 v18 v19 v20 v21 v22 v23 v24 v25, W.ownsRow w0.heap.size 3 1 v' (k + 1) ((zs ++ [sumP [1, x, y]]).map (Value.int .i64)) → Below w0.heap.size w0 W → Q .normal { tmps := #[.slice (some ⟨b, o, none⟩) n cap, u1, u2, v', .int .i64 (i : Int), u5, u6, u7, u8, u9, u10, u11, v12, v13, v14, v15, v16, v17, v18, v19, v20, v21, v22, v23, v24, v25, u26, u27, u28, u29, u30, u31, u32, u33, u34, u35, u36, u37, u38, u39], defers := [] } W)) :
    abvReg.wp Tryz.prog Q { tmps := #[.slice (some ⟨b, o, none⟩) n cap, u1, u2, v, .int .i64 (i : Int), u5, u6, u7, u8, u9, u10, u11, u12, u13, u14, u15, u16, u17, u18, u19, u20, u21, u22, u23, u24, u25, u26, u27, u28, u29, u30, u31, u32, u33, u34, u35, u36, u37, u38, u39], defers := [] } wr := by
  obtain ⟨i3, hi0, hz0, hz1, hz2⟩ := info_parts Tryz.info3'
  have hOwn := own_below HO.out ((Below.refl wr.heap.size wr).drew)
  have z1 : IntKind.i64.wrap ((i : Int) + 1) = (i : Int) + 1 := IntWalk.i64_in ((i : Int) + 1) (by omega)
  have t0 : 0 ≤ (i : Int) + 1 := by omega
  have t1 : (i : Int) + 1 < (n : Int) := by omega
  have tn : ((i : Int) + 1).toNat = i + 1 := by omega
  have t2 : (i : Int) < (n : Int) := by omega
  simp only [abvReg, Tryz.f82, Option.getD, regionsOf, List.append_eq, List.nil_append, List.append_nil, List.cons_append, List.getD, List.getElem?_cons_succ, List.getElem?_cons_zero]
  refine wp_region_noPanic ?_
  refine wp_region_held_drew (S := fun W => Below w0.heap.size w0 W ∧ W.cell? ⟨b, o + i, none⟩ = some (.int .i64 x) ∧ W.cell? ⟨b, o + (i + 1), none⟩ = some (.int .i64 y)) (by kernel_rfl) (keepA HS HB.out.drew) (fun hHeld => ?_)
  refine wpAnyH_take (i := 0) (v := ?v0) rfl (by kernel_rfl) (by kernel_rfl) (by kernel_rfl) (fun _ _ _ h => h) (Or.inl ⟨by rfl, ?hy0⟩) hHeld ?rest0
  case hy0 => (intro w0 hSw; (try dsimp only at hSw); go_simp; all_goals with_reducible rfl)
  try simp only [Act.put, List.getElem_toArray, List.getElem_cons_zero, List.getElem_cons_succ, List.setIfInBounds_toArray, List.set_cons_zero, List.set_cons_succ]
  refine wpAnyH_take (i := 1) (v := ?v1) rfl (by kernel_rfl) (by kernel_rfl) (by kernel_rfl) (fun _ _ _ h => h) (Or.inl ⟨by rfl, ?hy1⟩) hHeld ?rest1
  case hy1 => (intro w0 hSw; (try dsimp only at hSw); go_simp; all_goals with_reducible rfl)
  try simp only [Act.put, List.getElem_toArray, List.getElem_cons_zero, List.getElem_cons_succ, List.setIfInBounds_toArray, List.set_cons_zero, List.set_cons_succ]
  refine wpAnyH_take (i := 2) (v := ?v2) rfl (by kernel_rfl) (by kernel_rfl) (by kernel_rfl) (fun _ _ _ h => h) (Or.inl ⟨by rfl, ?hy2⟩) hHeld ?rest2
  case hy2 => (intro w0 hSw; (try dsimp only at hSw); go_simp; all_goals with_reducible rfl)
  try simp only [Act.put, List.getElem_toArray, List.getElem_cons_zero, List.getElem_cons_succ, List.setIfInBounds_toArray, List.set_cons_zero, List.set_cons_succ]
  refine wpAnyH_take (i := 3) (v := ?v3) rfl (by kernel_rfl) (by kernel_rfl) (by kernel_rfl) (fun _ _ _ h => h) (Or.inl ⟨by rfl, ?hy3⟩) hHeld ?rest3
  case hy3 => (intro w0 hSw; (try dsimp only at hSw); go_simp; all_goals with_reducible rfl)
  try simp only [Act.put, List.getElem_toArray, List.getElem_cons_zero, List.getElem_cons_succ, List.setIfInBounds_toArray, List.set_cons_zero, List.set_cons_succ]
  refine wpAnyH_take (i := 4) (v := ?v4) rfl (by kernel_rfl) (by kernel_rfl) (by kernel_rfl) (fun _ _ _ h => h) (Or.inl ⟨by rfl, ?hy4⟩) hHeld ?rest4
  case hy4 => (intro w0 hSw; (try dsimp only at hSw); go_simp; all_goals with_reducible rfl)
  try simp only [Act.put, List.getElem_toArray, List.getElem_cons_zero, List.getElem_cons_succ, List.setIfInBounds_toArray, List.set_cons_zero, List.set_cons_succ]
  refine wpAnyH_take (i := 5) (v := ?v5) rfl (by kernel_rfl) (by kernel_rfl) (by kernel_rfl) (fun _ _ _ h => h) (Or.inl ⟨by rfl, ?hy5⟩) hHeld ?rest5
  case hy5 => (intro w0 hSw; (try dsimp only at hSw); go_simp; all_goals with_reducible rfl)
  try simp only [Act.put, List.getElem_toArray, List.getElem_cons_zero, List.getElem_cons_succ, List.setIfInBounds_toArray, List.set_cons_zero, List.set_cons_succ]
  refine wpAnyH_take (i := 6) (v := ?v6) rfl (by kernel_rfl) (by kernel_rfl) (by kernel_rfl) (fun _ _ _ h => h) (Or.inl ⟨by rfl, ?hy6⟩) hHeld ?rest6
  case hy6 => (intro w0 hSw; (try dsimp only at hSw); go_simp; all_goals with_reducible rfl)
  try simp only [Act.put, List.getElem_toArray, List.getElem_cons_zero, List.getElem_cons_succ, List.setIfInBounds_toArray, List.set_cons_zero, List.set_cons_succ]
  refine wpAnyH_take (i := 7) (v := ?v7) rfl (by kernel_rfl) (by kernel_rfl) (by kernel_rfl) (fun _ _ _ h => h) (Or.inl ⟨by rfl, ?hy7⟩) hHeld ?rest7
  case hy7 => (intro w0 hSw; (try dsimp only at hSw); go_simp; all_goals with_reducible rfl)
  try simp only [Act.put, List.getElem_toArray, List.getElem_cons_zero, List.getElem_cons_succ, List.setIfInBounds_toArray, List.set_cons_zero, List.set_cons_succ]
  refine wpAnyH_take (i := 8) (v := ?v8) rfl (by kernel_rfl) (by kernel_rfl) (by kernel_rfl) (fun _ _ _ h => h) (Or.inl ⟨by rfl, ?hy8⟩) hHeld ?rest8
  case hy8 => (intro w0 hSw; (try dsimp only at hSw); go_simp; all_goals with_reducible rfl)
  try simp only [Act.put, List.getElem_toArray, List.getElem_cons_zero, List.getElem_cons_succ, List.setIfInBounds_toArray, List.set_cons_zero, List.set_cons_succ]
  refine wpAnyH_take (i := 9) (v := ?v9) rfl (by kernel_rfl) (by kernel_rfl) (by kernel_rfl) (fun _ _ _ h => h) (Or.inl ⟨by rfl, ?hy9⟩) hHeld ?rest9
  case hy9 => (intro w0 hSw; (try dsimp only at hSw); go_simp; all_goals with_reducible rfl)
  try simp only [Act.put, List.getElem_toArray, List.getElem_cons_zero, List.getElem_cons_succ, List.setIfInBounds_toArray, List.set_cons_zero, List.set_cons_succ]
  refine wpAnyH_ready (rs := [10]) (by kernel_rfl) (by simp) ?_
  refine AllReadyH.cons rfl (fun K hK => ?_) AllReadyH.nil
  go_simp
  refine hK.out _ _ (keepA HS (balloc hHeld.1 _)) (fun hHeld' => ?_)
  have hI := lit3 (g := wr.heap.size) hHeld.1 x y (by first | rfl | simp)
  have hOwn := own_below hOwn (balloc (Below.refl _ _) (.cells #[.int .i64 1, .int .i64 x, .int .i64 y] 3))
  clear hK K hHeld
  have hHeld := hHeld'
  clear hHeld'
  try simp only [Act.put, List.getElem_toArray, List.getElem_cons_zero, List.getElem_cons_succ, List.setIfInBounds_toArray, List.set_cons_zero, List.set_cons_succ]
  refine wpAnyH_ready (rs := [11]) (by kernel_rfl) (by simp) ?_
  refine AllReadyH.cons rfl (fun K hK => ?_) AllReadyH.nil
  go_simp
  refine sum_c _ 3 3 [1, x, y] _ _ rfl (by decide) hI ?_
  refine hK.out _ _ hHeld (fun hHeld' => ?_)
  clear hK K hHeld
  have hHeld := hHeld'
  clear hHeld'
  try simp only [Act.put, List.getElem_toArray, List.getElem_cons_zero, List.getElem_cons_succ, List.setIfInBounds_toArray, List.set_cons_zero, List.set_cons_succ]
  refine wpAnyH_ready (rs := [12]) (by kernel_rfl) (by simp) ?_
  refine AllReadyH.cons rfl (fun K hK => ?_) AllReadyH.nil
  go_simp
  refine hK.out _ _ (keepA HS (balloc hHeld.1 _)) (fun hHeld' => ?_)
  have hI := lit1 (g := wr.heap.size + 1) hHeld.1 (sumP [1, x, y]) (by first | rfl | simp)
  have hOwn := own_below hOwn (balloc (Below.refl _ _) (.cells #[.int .i64 (sumP [1, x, y])] 3))
  clear hK K hHeld
  have hHeld := hHeld'
  clear hHeld'
  try simp only [Act.put, List.getElem_toArray, List.getElem_cons_zero, List.getElem_cons_succ, List.setIfInBounds_toArray, List.set_cons_zero, List.set_cons_succ]
  refine wpAnyH_ready (rs := [13]) (by kernel_rfl) (by simp) ?_
  refine AllReadyH.cons rfl (fun K hK => ?_) AllReadyH.nil
  refine ite_of (by kernel_rfl) ?_
  refine wp_app _ (.tmp 12) (.tmp 24) 24 rfl w0.heap.size 3 i3 _ 1 8 Tryz.underlying24 hi0 hz0 hz1 hz2 rfl (by omega) v k (zs.map (Value.int .i64)) rfl hOwn _ 1 1 [.int .i64 (sumP [1, x, y])] rfl (Src.ints (l := [sumP [1, x, y]]) rfl hI) (by simp [Value.oneCell']) (by unfold maxLen; omega) (by omega) hHeld.1.size ?_
  intro v9 w9 hOwn9 hgr
  have hb9 := hHeld.1.grown hgr hHeld.1.size (fun k hk => (own_lt hOwn hk).1)
  refine hK.out _ _ (keepA HS hb9) (fun hHeld' => ?_)
  rw [show zs.map (Value.int .i64) ++ [Value.int .i64 (sumP [1, x, y])] = (zs ++ [sumP [1, x, y]]).map (Value.int .i64) by simp] at hOwn9
  clear hK K hHeld
  have hHeld := hHeld'
  clear hHeld'
  try simp only [Act.put, List.getElem_toArray, List.getElem_cons_zero, List.getElem_cons_succ, List.setIfInBounds_toArray, List.set_cons_zero, List.set_cons_succ]
  refine wpAnyH_take (i := 14) (v := ?v14) rfl (by kernel_rfl) (by kernel_rfl) (by kernel_rfl) (fun _ _ _ h => h) (Or.inl ⟨by rfl, ?hy14⟩) hHeld ?rest14
  case hy14 => (intro w0 hSw; (try dsimp only at hSw); go_simp; all_goals with_reducible rfl)
  try simp only [Act.put, List.getElem_toArray, List.getElem_cons_zero, List.getElem_cons_succ, List.setIfInBounds_toArray, List.set_cons_zero, List.set_cons_succ]
  refine wpAnyH_done (by kernel_rfl) ?_ _
  refine NoPanic.normal ?_
  exact HN.out _ _ _ _ _ _ _ _ _ _ _ _ _ _ _ _ hOwn9 hHeld.1
end Go.Proofs.YtkabghifdedmfaaGreatDoor

namespace Go.Proofs.YtkabghifdedmfaaGreatDoor
open Go.RowKit Go.Sort Go.Shelf

def zeroS : ByteArray := ⟨(Lib.decDigits 0).toArray⟩
def txtL (s : ByteArray) : List ByteArray := [⟨#[115, 99, 97, 110]⟩, zeroS, zeroS, zeroS, s]
theorem keepX {wr W W' : World} {g : Nat} {s : ByteArray} (h : Below wr.heap.size wr W ∧ W.cell? ⟨g, 0, none⟩ = some (.int .i64 0) ∧ W.cell? ⟨g, 1, none⟩ = some (.int .i64 0) ∧ W.cell? ⟨g, 3, none⟩ = some (.int .i64 0) ∧ W.cell? ⟨g, 4, none⟩ = some (.string s)) (hb : Below W.heap.size W W') : Below wr.heap.size wr W' ∧ W'.cell? ⟨g, 0, none⟩ = some (.int .i64 0) ∧ W'.cell? ⟨g, 1, none⟩ = some (.int .i64 0) ∧ W'.cell? ⟨g, 3, none⟩ = some (.int .i64 0) ∧ W'.cell? ⟨g, 4, none⟩ = some (.string s) := ⟨bseq h.1 hb, cell_later hb h.2.1, cell_later hb h.2.2.1, cell_later hb h.2.2.2.1, cell_later hb h.2.2.2.2⟩
theorem Tryz.info9' : (Tryz.prog.info? 9).map (fun i => (i.zero, i.size, i.bytes)) = some (some (.string ⟨#[]⟩), 1, 16) := by kernel_rfl
theorem line_c (g cap : Nat) (t : ByteArray) (w : World) (R) (hj : Calls Tryz.prog 134 #[.slice (some ⟨g, 0, none⟩) 5 cap, .string ⟨#[32]⟩] w fun e w' => e = .returned (.string t) ∧ Below w.heap.size w w') (hR : ∀ w', Below w.heap.size w w' → R (.returned (.string t)) w') : Calls Tryz.prog 106 #[.slice (some ⟨g, 0, none⟩) 5 cap] w R := by
  have HR := hide hR
  clear hR
  go_enter Tryz.func106, Tryz.ntmps106
  go_wp2_with (go_at_call 134; refine Stop.out ?_)
  refine Stop.go (hj.mono ?_)
  rintro e w' ⟨rfl, hb⟩
  have HF := hide (HR.out _ hb)
  clear hb
  go_wp2
  exact HF.out
noncomputable def txtReg : Code := (regionsOf (Tryz.f89.body.getD .skip)).getD 6 .skip
set_option maxRecDepth 100000 in
set_option maxHeartbeats 4000000 in
theorem txt_reg (Q : Exit → Act → World → Prop) (g : Nat) (s : ByteArray) (wr : World) (hS : wr.cell? ⟨g, 0, none⟩ = some (.int .i64 0) ∧ wr.cell? ⟨g, 1, none⟩ = some (.int .i64 0) ∧ wr.cell? ⟨g, 3, none⟩ = some (.int .i64 0) ∧ wr.cell? ⟨g, 4, none⟩ = some (.string s)) {u0 u2 u4 u5 u6 u7 u8 u9 u10 u11 u12 u13 u14 u15 u16 u17 u18 u19 u20 u21 u22 u23 u24 u25 u26 u27 u28 : Value}
    (HN : Hid (∀ v11 v12 v13 v14 v15 v16 v17 v18 v19 v20 v21 v22 v23, Q .normal { tmps := #[u0, .pointer (some ⟨g, 0, none⟩), u2, .string ⟨#[115, 99, 97, 110]⟩, .slice (some ⟨wr.heap.size, 0, none⟩) 5 5, u5, u6, u7, u8, u9, u10, v11, v12, v13, v14, v15, v16, v17, v18, v19, v20, v21, v22, v23, u24, u25, u26, u27, u28], defers := [] } (wr.alloc (.cells ((txtL s).map Value.string).toArray 9)).drew)) :
    txtReg.wp Tryz.prog Q { tmps := #[u0, .pointer (some ⟨g, 0, none⟩), u2, .string ⟨#[115, 99, 97, 110]⟩, u4, u5, u6, u7, u8, u9, u10, u11, u12, u13, u14, u15, u16, u17, u18, u19, u20, u21, u22, u23, u24, u25, u26, u27, u28], defers := [] } wr := by
  simp only [txtReg, Tryz.f89, Option.getD, regionsOf, List.append_eq, List.nil_append, List.append_nil, List.cons_append, List.getD, List.getElem?_cons_succ, List.getElem?_cons_zero]
  refine wp_region_noPanic ?_
  refine wp_region_held_drew (S := fun W => Below wr.heap.size wr W ∧ W.cell? ⟨g, 0, none⟩ = some (.int .i64 0) ∧ W.cell? ⟨g, 1, none⟩ = some (.int .i64 0) ∧ W.cell? ⟨g, 3, none⟩ = some (.int .i64 0) ∧ W.cell? ⟨g, 4, none⟩ = some (.string s)) (by kernel_rfl) ⟨(Below.refl _ _).drew, hS⟩ (fun hHeld => ?_)
  refine wpAnyH_take (i := 0) (v := ?v0) rfl (by kernel_rfl) (by kernel_rfl) (by kernel_rfl) (fun _ _ _ h => h) (Or.inl ⟨by rfl, ?hy0⟩) hHeld ?rest0
  case hy0 => (intro w0 hSw; (try dsimp only at hSw); go_simp; all_goals with_reducible rfl)
  try simp only [Act.put, List.getElem_toArray, List.getElem_cons_zero, List.getElem_cons_succ, List.setIfInBounds_toArray, List.set_cons_zero, List.set_cons_succ]
  refine wpAnyH_take (i := 1) (v := ?v1) rfl (by kernel_rfl) (by kernel_rfl) (by kernel_rfl) (fun _ _ _ h => h) (Or.inl ⟨by rfl, ?hy1⟩) hHeld ?rest1
  case hy1 => (intro w0 hSw; (try dsimp only at hSw); go_simp; all_goals with_reducible rfl)
  try simp only [Act.put, List.getElem_toArray, List.getElem_cons_zero, List.getElem_cons_succ, List.setIfInBounds_toArray, List.set_cons_zero, List.set_cons_succ]
  refine wpAnyH_take (i := 2) (v := ?v2) rfl (by kernel_rfl) (by kernel_rfl) (by kernel_rfl) (fun _ _ _ h => h) (Or.inl ⟨by rfl, ?hy2⟩) hHeld ?rest2
  case hy2 => (intro w0 hSw; (try dsimp only at hSw); go_simp; all_goals with_reducible rfl)
  try simp only [Act.put, List.getElem_toArray, List.getElem_cons_zero, List.getElem_cons_succ, List.setIfInBounds_toArray, List.set_cons_zero, List.set_cons_succ]
  refine wpAnyH_take (i := 4) (v := ?v4) rfl (by kernel_rfl) (by kernel_rfl) (by kernel_rfl) (fun _ _ _ h => h) (Or.inl ⟨by rfl, ?hy4⟩) hHeld ?rest4
  case hy4 => (intro w0 hSw; (try dsimp only at hSw); go_simp; all_goals with_reducible rfl)
  try simp only [Act.put, List.getElem_toArray, List.getElem_cons_zero, List.getElem_cons_succ, List.setIfInBounds_toArray, List.set_cons_zero, List.set_cons_succ]
  refine wpAnyH_take (i := 5) (v := ?v5) rfl (by kernel_rfl) (by kernel_rfl) (by kernel_rfl) (fun _ _ _ h => h) (Or.inl ⟨by rfl, ?hy5⟩) hHeld ?rest5
  case hy5 => (intro w0 hSw; (try dsimp only at hSw); go_simp; all_goals with_reducible rfl)
  try simp only [Act.put, List.getElem_toArray, List.getElem_cons_zero, List.getElem_cons_succ, List.setIfInBounds_toArray, List.set_cons_zero, List.set_cons_succ]
  refine wpAnyH_take (i := 7) (v := ?v7) rfl (by kernel_rfl) (by kernel_rfl) (by kernel_rfl) (fun _ _ _ h => h) (Or.inl ⟨by rfl, ?hy7⟩) hHeld ?rest7
  case hy7 => (intro w0 hSw; (try dsimp only at hSw); go_simp; all_goals with_reducible rfl)
  try simp only [Act.put, List.getElem_toArray, List.getElem_cons_zero, List.getElem_cons_succ, List.setIfInBounds_toArray, List.set_cons_zero, List.set_cons_succ]
  refine wpAnyH_take (i := 8) (v := ?v8) rfl (by kernel_rfl) (by kernel_rfl) (by kernel_rfl) (fun _ _ _ h => h) (Or.inl ⟨by rfl, ?hy8⟩) hHeld ?rest8
  case hy8 => (intro w0 hSw; (try dsimp only at hSw); go_simp; all_goals with_reducible rfl)
  try simp only [Act.put, List.getElem_toArray, List.getElem_cons_zero, List.getElem_cons_succ, List.setIfInBounds_toArray, List.set_cons_zero, List.set_cons_succ]
  refine wpAnyH_take (i := 10) (v := ?v10) rfl (by kernel_rfl) (by kernel_rfl) (by kernel_rfl) (fun _ _ _ h => h) (Or.inl ⟨by rfl, ?hy10⟩) hHeld ?rest10
  case hy10 => (intro w0 hSw; (try dsimp only at hSw); go_simp; all_goals with_reducible rfl)
  try simp only [Act.put, List.getElem_toArray, List.getElem_cons_zero, List.getElem_cons_succ, List.setIfInBounds_toArray, List.set_cons_zero, List.set_cons_succ]
  refine wpAnyH_take (i := 11) (v := ?v11) rfl (by kernel_rfl) (by kernel_rfl) (by kernel_rfl) (fun _ _ _ h => h) (Or.inl ⟨by rfl, ?hy11⟩) hHeld ?rest11
  case hy11 => (intro w0 hSw; (try dsimp only at hSw); go_simp; all_goals with_reducible rfl)
  try simp only [Act.put, List.getElem_toArray, List.getElem_cons_zero, List.getElem_cons_succ, List.setIfInBounds_toArray, List.set_cons_zero, List.set_cons_succ]
  refine wpAnyH_ready (rs := [3]) (by kernel_rfl) (by simp) ?_
  refine AllReadyH.cons rfl (fun K hK => ?_) AllReadyH.nil
  go_simp
  refine (Tryz.strconv_Itoa_small 0 (by decide) _).mono ?_
  rintro e w' ⟨rfl, rfl⟩
  refine hK.out _ _ hHeld (fun hHeld' => ?_)
  clear hK K hHeld
  have hHeld := hHeld'
  clear hHeld'
  try simp only [Act.put, List.getElem_toArray, List.getElem_cons_zero, List.getElem_cons_succ, List.setIfInBounds_toArray, List.set_cons_zero, List.set_cons_succ]
  refine wpAnyH_ready (rs := [6]) (by kernel_rfl) (by simp) ?_
  refine AllReadyH.cons rfl (fun K hK => ?_) AllReadyH.nil
  go_simp
  refine (Tryz.strconv_Itoa_small 0 (by decide) _).mono ?_
  rintro e w' ⟨rfl, rfl⟩
  refine hK.out _ _ hHeld (fun hHeld' => ?_)
  clear hK K hHeld
  have hHeld := hHeld'
  clear hHeld'
  try simp only [Act.put, List.getElem_toArray, List.getElem_cons_zero, List.getElem_cons_succ, List.setIfInBounds_toArray, List.set_cons_zero, List.set_cons_succ]
  refine wpAnyH_ready (rs := [9]) (by kernel_rfl) (by simp) ?_
  refine AllReadyH.cons rfl (fun K hK => ?_) AllReadyH.nil
  go_simp
  refine (Tryz.strconv_Itoa_small 0 (by decide) _).mono ?_
  rintro e w' ⟨rfl, rfl⟩
  refine hK.out _ _ hHeld (fun hHeld' => ?_)
  clear hK K hHeld
  have hHeld := hHeld'
  clear hHeld'
  try simp only [Act.put, List.getElem_toArray, List.getElem_cons_zero, List.getElem_cons_succ, List.setIfInBounds_toArray, List.set_cons_zero, List.set_cons_succ]
  refine wpAnyH_ready (rs := [12]) (by kernel_rfl) (by simp) ?_
  refine AllReadyH.cons rfl (fun K hK => ?_) AllReadyH.nil
  go_simp
  refine hK.out _ _ (keepX ⟨Below.refl wr.heap.size wr, hS⟩ (balloc (Below.refl wr.heap.size wr) _).drew) (fun hHeld' => ?_)
  clear hK K hHeld
  have hHeld := hHeld'
  clear hHeld'
  try simp only [Act.put, List.getElem_toArray, List.getElem_cons_zero, List.getElem_cons_succ, List.setIfInBounds_toArray, List.set_cons_zero, List.set_cons_succ]
  refine wpAnyH_take (i := 13) (v := ?v13) rfl (by kernel_rfl) (by kernel_rfl) (by kernel_rfl) (fun _ _ _ h => h) (Or.inl ⟨by rfl, ?hy13⟩) hHeld ?rest13
  case hy13 => (intro w0 hSw; (try dsimp only at hSw); go_simp; all_goals with_reducible rfl)
  try simp only [Act.put, List.getElem_toArray, List.getElem_cons_zero, List.getElem_cons_succ, List.setIfInBounds_toArray, List.set_cons_zero, List.set_cons_succ]
  refine wpAnyH_done (by kernel_rfl) ?_ _
  refine NoPanic.normal ?_
  exact HN.out _ _ _ _ _ _ _ _ _ _ _ _ _ 
theorem txt_ne (s : ByteArray) : (Lib.join ((txtL s).map (·.data.toList)) [32]) ≠ [] := by
  unfold txtL
  simp [Lib.join]
theorem txt_len {s : ByteArray} (h : s.size ≤ 20) : (Lib.join ((txtL s).map (·.data.toList)) [32]).length ≤ 1000 := by
  have : s.data.toList.length ≤ 20 := h
  have h0 : (Lib.decDigits 0).length ≤ 20 := by rw [Lib.decDigits]; decide
  unfold txtL zeroS
  simp [Lib.join]
  omega
set_option maxRecDepth 100000 in
theorem text_c (s : ByteArray) (w : World) (R) (hm : s.size ≤ maxLen) (hR : ∀ w' t, Below w.heap.size w w' → (isLabB s = true ↔ t ≠ ByteArray.empty) → R (.returned (.string t)) w') : Calls Tryz.prog 89 #[.agg #[.int .i64 0, .int .i64 0, .int .i64 1, .int .i64 0, .string s, .slice none 0 0]] w R := by
  have HR := hide hR
  clear hR
  obtain ⟨w1, hw1⟩ : ∃ w1, w.alloc (.cells #[.int .i64 0, .int .i64 0, .int .i64 1, .int .i64 0, .string s, .slice none 0 0] 32) = w1 := ⟨_, rfl⟩
  have HB1 := hide (show Below w.heap.size w w1 from hw1 ▸ balloc (Below.refl _ _) _)
  have k1 : Blk w1 w.heap.size #[.int .i64 0, .int .i64 0, .int .i64 1, .int .i64 0, .string s, .slice none 0 0] 32 := hw1 ▸ Blk.new _ _ _
  have HK := hide k1
  have x0 : w1.cell? ⟨w.heap.size, 0, none⟩ = some (.int .i64 0) := k1.cell (k := 0) rfl
  have x1 : w1.cell? ⟨w.heap.size, 1, none⟩ = some (.int .i64 0) := k1.cell (k := 1) rfl
  have x2 : w1.cell? ⟨w.heap.size, 2, none⟩ = some (.int .i64 1) := k1.cell (k := 2) rfl
  have x3 : w1.cell? ⟨w.heap.size, 3, none⟩ = some (.int .i64 0) := k1.cell (k := 3) rfl
  have x4 : w1.cell? ⟨w.heap.size, 4, none⟩ = some (.string s) := k1.cell (k := 4) rfl
  have x5 : w1.cell? ⟨w.heap.size, 5, none⟩ = some (.slice none 0 0) := k1.cell (k := 5) rfl
  clear k1
  go_enter Tryz.func89, Tryz.ntmps89
  go_wp2_with (go_at_call 105; refine Stop.out ?_)
  refine Stop.go (complete_c s _ _ hm ?_)
  intro w2 hb2
  have HB2 := hide (bseq HB1.out hb2)
  have k2 := HK.out.next hb2
  have HK2 := hide k2
  clear hb2 k2 x0 x1 x2 x3 x4 x5 hw1
  cases hl : isLabB s with
  | false =>
    have HF := hide (HR.out _ ByteArray.empty HB2.out (by rw [hl]; simp))
    go_wp2
    exact HF.out
  | true =>
    have hsz := (isLab_size hl).2
    have y0 : w2.cell? ⟨w.heap.size, 0, none⟩ = some (.int .i64 0) := HK2.out.cell (k := 0) rfl
    have y1 : w2.cell? ⟨w.heap.size, 1, none⟩ = some (.int .i64 0) := HK2.out.cell (k := 1) rfl
    have y2 : w2.cell? ⟨w.heap.size, 2, none⟩ = some (.int .i64 1) := HK2.out.cell (k := 2) rfl
    have y3 : w2.cell? ⟨w.heap.size, 3, none⟩ = some (.int .i64 0) := HK2.out.cell (k := 3) rfl
    have y4 : w2.cell? ⟨w.heap.size, 4, none⟩ = some (.string s) := HK2.out.cell (k := 4) rfl
    have q1 : ((1 : Int) == 2) = false := by decide
    go_wp2
    refine txt_reg _ w.heap.size s w2 ⟨y0, y1, y3, y4⟩ (hide ?_)
    intro v11 v12 v13 v14 v15 v16 v17 v18 v19 v20 v21 v22 v23
    have hb3 := (balloc (Below.refl w2.heap.size w2) (.cells ((txtL s).map Value.string).toArray 9)).drew
    have hown : ((w2.alloc (.cells ((txtL s).map Value.string).toArray 9)).drew).ownsRow w2.heap.size 9 1 (.slice (some ⟨w2.heap.size, 0, none⟩) 5 5) 5 ((txtL s).map Value.string) := by
      have h1 := World.ownsRow_lit (base := w2.heap.size) (e := 9) (size := 1) w2 ((txtL s).map Value.string).toArray 5 (Nat.le_refl _) (by decide) rfl
      have h2 := own_below h1 (Below.refl (w2.alloc (.cells ((txtL s).map Value.string).toArray 9)).heap.size (w2.alloc (.cells ((txtL s).map Value.string).toArray 9))).drew
      simpa using h2
    have HB3 := hide (bseq HB2.out hb3)
    obtain ⟨w3, hw3⟩ : ∃ w3, (w2.alloc (.cells ((txtL s).map Value.string).toArray 9)).drew = w3 := ⟨_, rfl⟩
    rw [hw3] at hown HB3
    have hb3' : Below w2.heap.size w2 w3 := hw3 ▸ hb3
    have z5 : w3.cell? ⟨w.heap.size, 5, none⟩ = some (.slice none 0 0) := (HK2.out.next hb3').cell (k := 5) rfl
    have Hown := hide hown
    have hs23 := hb3'.size
    rw [hw3]
    clear hw3 hb3 hb3' hown y0 y1 y2 y3 y4
    obtain ⟨i9, hi0, hz0, hz1, hz2⟩ := info_parts Tryz.info9'
    have HT9 := hide (And.intro hi0 (And.intro hz0 (And.intro hz1 hz2)))
    clear hi0 hz0 hz1 hz2
    go_wp2_with (at_builtin; refine Stop.out ?_)
    refine Stop.go ?_
    obtain ⟨hi0, hz0, hz1, hz2⟩ := HT9.out
    refine wpList_app _ rfl (.tmp 24) (.tmp 26) 30 rfl w2.heap.size 9 i9 _ 1 16 Tryz.underlying30 hi0 hz0 hz1 hz2 rfl (by omega) (.slice (some ⟨w2.heap.size, 0, none⟩) 5 5) 5 ((txtL s).map Value.string) rfl Hown.out none 0 0 [] rfl ⟨rfl, fun h => by omega⟩ (by simp) (by unfold maxLen; omega) (by omega) hs23 ?_
    clear hi0 hz0 hz1 hz2
    intro v9 w9 hown9 hgr
    rw [List.append_nil] at hown9
    obtain ⟨g9, cap9, rfl, hg1, hg2⟩ := own_form hown9 (by omega)
    have hb9 : Below w.heap.size w w9 := HB3.out.grown hgr HB3.out.size (fun k hk => by cases hk; exact HB2.out.size)
    have hcap : 5 ≤ cap9 := by
      rcases hown9.2 with ⟨hv, _⟩ | ⟨g', cap', cur, hv, hle, _⟩
      · cases hv
      · cases hv; omega
    have hj := Tryz.strings_Join g9 0 cap9 (txtL s) ⟨#[32]⟩ w9 (fun j x hx => by
      have := hown9.cells (g := g9) rfl j (.string x) (by rw [List.getElem?_map, hx]; rfl)
      rw [Addr.add_lit] at this; exact this) hg2 (show 5 ≤ 140737488355328 by decide) hcap (Nat.le_trans (txt_len hsz) (by decide))
    have HJ := hide hj
    have HB9 := hide hb9
    clear hown9 hgr hb9 hj z5
    go_wp2_with fail
    go_wp2_with (go_at_call 106; refine Stop.out ?_)
    refine Stop.go (line_c g9 cap9 _ w9 _ HJ.out ?_)
    intro w10 hb10
    have HF := hide (HR.out w10 _ (bseq HB9.out hb10) (show isLabB s = true ↔ (⟨(Lib.join ((txtL s).map (·.data.toList)) [32]).toArray⟩ : ByteArray) ≠ ByteArray.empty by
      rw [hl]
      refine ⟨fun _ e => txt_ne s ?_, fun _ => rfl⟩
      have := congrArg (fun b => b.data.toList) e
      simpa using this))
    go_wp2
    exact HF.out
end Go.Proofs.YtkabghifdedmfaaGreatDoor
