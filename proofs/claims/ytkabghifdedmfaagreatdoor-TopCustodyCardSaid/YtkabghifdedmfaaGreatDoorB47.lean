/- World: the drawn call of Write. World: the fixed handover. -/
import Derived.Test.YtkabghifdedmfaaGreatDoorB29
import Derived.Test.YtkabghifdedmfaaGreatDoorB30
import Derived.Test.YtkabghifdedmfaaGreatDoorB46
import Derived.Test.YtkabghifdedmfaaGreatDoorB18
set_option linter.unusedVariables false
set_option linter.unusedSimpArgs false
namespace Go.Proofs.YtkabghifdedmfaaGreatDoor
open Go.RowKit Go.Sort Go.Shelf

theorem keepW {wr W W' : World} {rb ro : Nat} {sl : ByteArray} {time : Int} {lp : Option Addr} {ln lc : Nat} (s : Below wr.heap.size wr W ∧ W.cell? ⟨rb, ro + 12 + 4, none⟩ = some (.string sl) ∧ W.cell? ⟨rb, ro + 12 + 3, none⟩ = some (.int .i64 time) ∧ W.cell? ⟨rb, ro + 12 + 5, none⟩ = some (.slice lp ln lc)) (hb : Below W.heap.size W W') : Below wr.heap.size wr W' ∧ W'.cell? ⟨rb, ro + 12 + 4, none⟩ = some (.string sl) ∧ W'.cell? ⟨rb, ro + 12 + 3, none⟩ = some (.int .i64 time) ∧ W'.cell? ⟨rb, ro + 12 + 5, none⟩ = some (.slice lp ln lc) :=
  ⟨bseq s.1 hb, cell_later hb s.2.1, cell_later hb s.2.2.1, cell_later hb s.2.2.2⟩
theorem set8_cell {W : World} {g : Nat} {d : DocV} {p : Addr} {v : Value} (h : W.cell? p = some v) (hne : p.block ≠ g) : (set8 W g d).cell? p = some v := by
  unfold set8
  have q : ∀ k : Nat, (⟨g, k, none⟩ : Addr) ≠ p := fun k e => hne (by rw [← e])
  exact cell_set_other (cell_set_other (cell_set_other (cell_set_other (cell_set_other (cell_set_other (cell_set_other (cell_set_other h (q 0)) (q 1)) (q 2)) (q 3)) (q 4)) (q 5)) (q 6)) (q 7)
noncomputable def w9Reg : Code := (regionsOf (Tryz.f4.body.getD .skip)).getD 9 .skip
set_option maxRecDepth 100000 in
set_option maxHeartbeats 4000000 in
theorem w9_reg (Q : Exit → Act → World → Prop) (rb ro rc kb : Nat) (keys : List Int) (time : Int) (sl : ByteArray) (lp : Option Addr) (ln lc k2 : Nat) (ls : List ByteArray) (wr : World) (HKy : Hid (KeysAt wr kb 0 2 keys)) (htm : 0 ≤ time ∧ time ≤ 1000000) (hsz : sl.size ≤ maxLen)
    (hl : ls.length = ln) (hln : ln ≤ 1000) (hk2 : ln ≤ 2 ^ k2) (HL : Hid (StrsAt wr lp ls)) (hS : wr.cell? ⟨rb, ro + 12 + 4, none⟩ = some (.string sl) ∧ wr.cell? ⟨rb, ro + 12 + 3, none⟩ = some (.int .i64 time) ∧ wr.cell? ⟨rb, ro + 12 + 5, none⟩ = some (.slice lp ln lc)) {u0 u1 u2 u3 u4 u5 u8 u9 u10 u11 u12 u13 u14 u15 u16 u17 u18 u19 u20 u21 u22 u23 u24 u25 u26 u27 u28 u29 u30 u31 u32 u33 u34 u35 u36 u37 u38 u39 u40 u41 u42 u43 u44 u45 u46 u47 u48 u49 u50 u51 u52 u53 u54 u55 u56 u57 u58 u59 u60 u61 u62 u63 u64 u65 u66 u67 u68 u69 u70 u71 u72 u73 u74 u75 u76 u77 u78 u79 u80 u81 u82 u83 u84 u85 u86 u87 u88 u89 u90 u91 u92 u93 u94 u95 u96 u97 u98 u99 u100 u101 u102 u103 u104 u105 u106 u107 u108 u109 u110 u111 u112 u113 u114 u115 u116 u117 u118 u119 : Value}
    (HN : Hid (∀ W (d : DocV) (e : Int) g v64 v65 v66 v67 v68 v69 v70 v71 v72 v73 v74 v75 v76 v77 v78 v79 v80, Below wr.heap.size wr W → Blk W g d.cells.toArray 34 → ((e = 0 ∧ contB ls = true ∧ isLabB sl = true ∧ d = doc2 keys (doc0 ls k2 0 1 sl time)) ∨ (e = 1 ∧ d = zeroD ∧ (contB ls && isLabB sl) = false)) → Q .normal { tmps := #[u0, u1, u2, u3, u4, u5, .slice (some ⟨rb, ro, none⟩) 6 rc, .slice (some ⟨kb, 0, none⟩) 2 2, .pointer (some ⟨g, 0, none⟩), .int .i64 e, u10, u11, u12, u13, u14, u15, u16, u17, u18, u19, u20, u21, u22, u23, u24, u25, u26, u27, u28, u29, u30, u31, u32, u33, u34, u35, u36, u37, u38, u39, u40, u41, u42, u43, u44, u45, u46, u47, u48, u49, u50, u51, u52, u53, u54, u55, u56, u57, u58, u59, u60, u61, u62, u63, v64, v65, v66, v67, v68, v69, v70, v71, v72, v73, v74, v75, v76, v77, v78, v79, v80, u81, u82, u83, u84, u85, u86, u87, u88, u89, u90, u91, u92, u93, u94, u95, u96, u97, u98, u99, u100, u101, u102, u103, u104, u105, u106, u107, u108, u109, u110, u111, u112, u113, u114, u115, u116, u117, u118, u119], defers := [] } W)) :
    w9Reg.wp Tryz.prog Q { tmps := #[u0, u1, u2, u3, u4, u5, .slice (some ⟨rb, ro, none⟩) 6 rc, .slice (some ⟨kb, 0, none⟩) 2 2, u8, u9, u10, u11, u12, u13, u14, u15, u16, u17, u18, u19, u20, u21, u22, u23, u24, u25, u26, u27, u28, u29, u30, u31, u32, u33, u34, u35, u36, u37, u38, u39, u40, u41, u42, u43, u44, u45, u46, u47, u48, u49, u50, u51, u52, u53, u54, u55, u56, u57, u58, u59, u60, u61, u62, u63, u64, u65, u66, u67, u68, u69, u70, u71, u72, u73, u74, u75, u76, u77, u78, u79, u80, u81, u82, u83, u84, u85, u86, u87, u88, u89, u90, u91, u92, u93, u94, u95, u96, u97, u98, u99, u100, u101, u102, u103, u104, u105, u106, u107, u108, u109, u110, u111, u112, u113, u114, u115, u116, u117, u118, u119], defers := [] } wr := by
  simp only [w9Reg, Tryz.f4, Option.getD, regionsOf, List.append_eq, List.nil_append, List.append_nil, List.cons_append, List.getD, List.getElem?_cons_succ, List.getElem?_cons_zero]
  have hlt : ∀ {p : Addr} {v : Value}, wr.cell? p = some v → p.block ≠ wr.heap.size := fun h e => World.new_ne wr _ h e.symm
  refine wp_region_noPanic ?_
  refine wp_region_held_drew (S := fun W => Below wr.heap.size wr W ∧ W.cell? ⟨rb, ro + 12 + 4, none⟩ = some (.string sl) ∧ W.cell? ⟨rb, ro + 12 + 3, none⟩ = some (.int .i64 time) ∧ W.cell? ⟨rb, ro + 12 + 5, none⟩ = some (.slice lp ln lc)) (by kernel_rfl) ⟨(Below.refl _ _).drew, hS⟩ (fun hHeld => ?_)
  refine wpAnyH_take (i := 0) (v := ?v0) rfl (by kernel_rfl) (by kernel_rfl) (by kernel_rfl) (fun _ _ _ h => h) (Or.inl ⟨by rfl, ?hy0⟩) hHeld ?rest0
  case hy0 => (intro w0 hSw; (try dsimp only at hSw); go_simp; all_goals with_reducible rfl)
  try simp only [Act.put, List.getElem_toArray, List.getElem_cons_zero, List.getElem_cons_succ, List.setIfInBounds_toArray, List.set_cons_zero, List.set_cons_succ]
  refine wpAnyH_take (i := 1) (v := ?v1) rfl (by kernel_rfl) (by kernel_rfl) (by kernel_rfl) (fun _ _ _ h => h) (Or.inl ⟨by rfl, ?hy1⟩) hHeld ?rest1
  case hy1 => (intro w0 hSw; (try dsimp only at hSw); go_simp; all_goals with_reducible rfl)
  try simp only [Act.put, List.getElem_toArray, List.getElem_cons_zero, List.getElem_cons_succ, List.setIfInBounds_toArray, List.set_cons_zero, List.set_cons_succ]
  refine wpAnyH_take (i := 2) (v := ?v2) rfl (by kernel_rfl) (by kernel_rfl) (by kernel_rfl) (fun _ _ _ h => h) (Or.inl ⟨by rfl, ?hy2⟩) hHeld ?rest2
  case hy2 => (intro w0 hSw; (try dsimp only at hSw); go_simp; all_goals with_reducible rfl)
  try simp only [Act.put, List.getElem_toArray, List.getElem_cons_zero, List.getElem_cons_succ, List.setIfInBounds_toArray, List.set_cons_zero, List.set_cons_succ]
  refine wpAnyH_take (i := 3) (v := ?v3) rfl (by kernel_rfl) (by kernel_rfl) (by kernel_rfl) (fun _ _ _ h => h) (Or.inl ⟨by rfl, ?hy3⟩) hHeld ?rest3
  case hy3 => (intro w0 hSw; (try dsimp only at hSw); go_simp; all_goals with_reducible rfl)
  try simp only [Act.put, List.getElem_toArray, List.getElem_cons_zero, List.getElem_cons_succ, List.setIfInBounds_toArray, List.set_cons_zero, List.set_cons_succ]
  refine wpAnyH_take (i := 4) (v := ?v4) rfl (by kernel_rfl) (by kernel_rfl) (by kernel_rfl) (fun _ _ _ h => h) (Or.inl ⟨by rfl, ?hy4⟩) hHeld ?rest4
  case hy4 => (intro w0 hSw; (try dsimp only at hSw); go_simp; all_goals with_reducible rfl)
  try simp only [Act.put, List.getElem_toArray, List.getElem_cons_zero, List.getElem_cons_succ, List.setIfInBounds_toArray, List.set_cons_zero, List.set_cons_succ]
  refine wpAnyH_take (i := 5) (v := ?v5) rfl (by kernel_rfl) (by kernel_rfl) (by kernel_rfl) (fun _ _ _ h => h) (Or.inl ⟨by rfl, ?hy5⟩) hHeld ?rest5
  case hy5 => (intro w0 hSw; (try dsimp only at hSw); go_simp; all_goals with_reducible rfl)
  try simp only [Act.put, List.getElem_toArray, List.getElem_cons_zero, List.getElem_cons_succ, List.setIfInBounds_toArray, List.set_cons_zero, List.set_cons_succ]
  refine wpAnyH_take (i := 6) (v := ?v6) rfl (by kernel_rfl) (by kernel_rfl) (by kernel_rfl) (fun _ _ _ h => h) (Or.inl ⟨by rfl, ?hy6⟩) hHeld ?rest6
  case hy6 => (intro w0 hSw; (try dsimp only at hSw); go_simp; all_goals with_reducible rfl)
  try simp only [Act.put, List.getElem_toArray, List.getElem_cons_zero, List.getElem_cons_succ, List.setIfInBounds_toArray, List.set_cons_zero, List.set_cons_succ]
  refine wpAnyH_take (i := 7) (v := ?v7) rfl (by kernel_rfl) (by kernel_rfl) (by kernel_rfl) (fun _ _ _ h => h) (Or.inl ⟨by rfl, ?hy7⟩) hHeld ?rest7
  case hy7 => (intro w0 hSw; (try dsimp only at hSw); go_simp; all_goals with_reducible rfl)
  try simp only [Act.put, List.getElem_toArray, List.getElem_cons_zero, List.getElem_cons_succ, List.setIfInBounds_toArray, List.set_cons_zero, List.set_cons_succ]
  refine wpAnyH_take (i := 8) (v := ?v8) rfl (by kernel_rfl) (by kernel_rfl) (by kernel_rfl) (fun _ _ _ h => h) (Or.inl ⟨by rfl, ?hy8⟩) hHeld ?rest8
  case hy8 => (intro w0 hSw; (try dsimp only at hSw); go_simp; all_goals with_reducible rfl)
  try simp only [Act.put, List.getElem_toArray, List.getElem_cons_zero, List.getElem_cons_succ, List.setIfInBounds_toArray, List.set_cons_zero, List.set_cons_succ]
  refine wpAnyH_take (i := 9) (v := ?v9) rfl (by kernel_rfl) (by kernel_rfl) (by kernel_rfl) (fun _ _ _ h => h) (Or.inl ⟨by rfl, ?hy9⟩) hHeld ?rest9
  case hy9 => (intro w0 hSw; (try dsimp only at hSw); go_simp; all_goals with_reducible rfl)
  try simp only [Act.put, List.getElem_toArray, List.getElem_cons_zero, List.getElem_cons_succ, List.setIfInBounds_toArray, List.set_cons_zero, List.set_cons_succ]
  refine wpAnyH_take (i := 10) (v := ?v10) rfl (by kernel_rfl) (by kernel_rfl) (by kernel_rfl) (fun _ _ _ h => h) (Or.inl ⟨by rfl, ?hy10⟩) hHeld ?rest10
  case hy10 => (intro w0 hSw; (try dsimp only at hSw); go_simp; all_goals with_reducible rfl)
  try simp only [Act.put, List.getElem_toArray, List.getElem_cons_zero, List.getElem_cons_succ, List.setIfInBounds_toArray, List.set_cons_zero, List.set_cons_succ]
  refine wpAnyH_take (i := 11) (v := ?v11) rfl (by kernel_rfl) (by kernel_rfl) (by kernel_rfl) (fun _ _ _ h => h) (Or.inl ⟨by rfl, ?hy11⟩) hHeld ?rest11
  case hy11 => (intro w0 hSw; (try dsimp only at hSw); go_simp; all_goals with_reducible rfl)
  try simp only [Act.put, List.getElem_toArray, List.getElem_cons_zero, List.getElem_cons_succ, List.setIfInBounds_toArray, List.set_cons_zero, List.set_cons_succ]
  refine wpAnyH_take (i := 12) (v := ?v12) rfl (by kernel_rfl) (by kernel_rfl) (by kernel_rfl) (fun _ _ _ h => h) (Or.inl ⟨by rfl, ?hy12⟩) hHeld ?rest12
  case hy12 => (intro w0 hSw; (try dsimp only at hSw); go_simp; all_goals with_reducible rfl)
  try simp only [Act.put, List.getElem_toArray, List.getElem_cons_zero, List.getElem_cons_succ, List.setIfInBounds_toArray, List.set_cons_zero, List.set_cons_succ]
  refine wpAnyH_ready (rs := [13, 17]) (by kernel_rfl) (by simp) ?_
  refine AllReadyH.cons rfl (fun K hK => ?_) (AllReadyH.cons rfl (fun K hK => ?_) AllReadyH.nil)
  · go_simp
    refine write_c kb 0 2 2 keys 0 1 time sl lp ln lc k2 ls _ _ (HKy.out.next hHeld.1) (by omega) (by omega) htm hsz hl hln hk2 (HL.out.keep (Keeps.of_below hHeld.1)) ?_
    intro w2 d e hb2 hcase0
    have hcase := hide hcase0
    refine hK.out _ _ (keepW hHeld hb2) (fun hHeld' => ?_)
    clear hK K hHeld
    have hHeld := hHeld'
    clear hHeld'
    clear hcase0
    simp only [DocV.cells]
    try simp only [Act.put, List.getElem_toArray, List.getElem_cons_zero, List.getElem_cons_succ, List.setIfInBounds_toArray, List.set_cons_zero, List.set_cons_succ]
    refine wpAnyH_take (i := 14) (v := ?v14a) rfl (by kernel_rfl) (by kernel_rfl) (by kernel_rfl) (fun _ _ _ h => h) (Or.inl ⟨by rfl, ?hy14a⟩) hHeld ?rest14a
    case hy14a => (intro w0 hSw; (try dsimp only at hSw); go_simp; all_goals with_reducible rfl)
    try simp only [Act.put, List.getElem_toArray, List.getElem_cons_zero, List.getElem_cons_succ, List.setIfInBounds_toArray, List.set_cons_zero, List.set_cons_succ]
    refine wpAnyH_take (i := 15) (v := ?v15a) rfl (by kernel_rfl) (by kernel_rfl) (by kernel_rfl) (fun _ _ _ h => h) (Or.inl ⟨by rfl, ?hy15a⟩) hHeld ?rest15a
    case hy15a => (intro w0 hSw; (try dsimp only at hSw); go_simp; all_goals with_reducible rfl)
    try simp only [Act.put, List.getElem_toArray, List.getElem_cons_zero, List.getElem_cons_succ, List.setIfInBounds_toArray, List.set_cons_zero, List.set_cons_succ]
    refine wpAnyH_take (i := 16) (v := ?v16a) rfl (by kernel_rfl) (by kernel_rfl) (by kernel_rfl) (fun _ _ _ h => h) (Or.inl ⟨by rfl, ?hy16a⟩) hHeld ?rest16a
    case hy16a => (intro w0 hSw; (try dsimp only at hSw); go_simp; all_goals with_reducible rfl)
    try simp only [Act.put, List.getElem_toArray, List.getElem_cons_zero, List.getElem_cons_succ, List.setIfInBounds_toArray, List.set_cons_zero, List.set_cons_succ]
    refine wpAnyH_ready (rs := [17]) (by kernel_rfl) (by simp) ?_
    refine AllReadyH.cons rfl (fun K hK => ?_) AllReadyH.nil
    go_simp
    have hHs := hHeld
    refine hK.out _ _ (keepW hHeld (balloc (Below.refl _ _) _)) (fun hHeld' => ?_)
    clear hK K hHeld
    have hHeld := hHeld'
    clear hHeld'
    try simp only [Act.put, List.getElem_toArray, List.getElem_cons_zero, List.getElem_cons_succ, List.setIfInBounds_toArray, List.set_cons_zero, List.set_cons_succ]
    refine wpAnyH_ready (rs := [18]) (by kernel_rfl) (by simp) ?_
    refine AllReadyH.cons rfl (fun K hK => ?_) AllReadyH.nil
    go_simp
    have hblk := Blk.new w2 #[.string d.sl, .int .i64 d.frm, .int .i64 d.to_, .int .i64 d.time, .int .i64 d.count, .int .i64 d.root, .int .i64 d.give, .int .i64 d.take] 34
    have hgs := hHs.1.size
    refine hK.out _ _ (keepW hHs (balloc (Below.refl _ _) _)) (fun hHeld' => ?_)
    clear hK K hHeld
    have hHeld := hHeld'
    clear hHeld'
    try simp only [Act.put, List.getElem_toArray, List.getElem_cons_zero, List.getElem_cons_succ, List.setIfInBounds_toArray, List.set_cons_zero, List.set_cons_succ]
    refine wpAnyH_take (i := 19) (v := ?v19a) rfl (by kernel_rfl) (by kernel_rfl) (by kernel_rfl) (fun _ _ _ h => h) (Or.inl ⟨by rfl, ?hy19a⟩) hHeld ?rest19a
    case hy19a => (intro w0 hSw; (try dsimp only at hSw); go_simp; all_goals with_reducible rfl)
    try simp only [Act.put, List.getElem_toArray, List.getElem_cons_zero, List.getElem_cons_succ, List.setIfInBounds_toArray, List.set_cons_zero, List.set_cons_succ]
    refine wpAnyH_done (by kernel_rfl) ?_ _
    refine NoPanic.normal ?_
    exact HN.out _ _ _ _ _ _ _ _ _ _ _ _ _ _ _ _ _ _ _ _ _ hHeld.1 hblk hcase.out
  · go_simp
    refine hK.out _ _ (keepW hHeld (balloc (Below.refl _ _) _)) (fun hHeld' => ?_)
    clear hK K hHeld
    have hHeld := hHeld'
    clear hHeld'
    have hkz0 : Hid (Blk (wr.drew.alloc (.cells #[.string ⟨#[]⟩, .int .i64 0, .int .i64 0, .int .i64 0, .int .i64 0, .int .i64 0, .int .i64 0, .int .i64 0] 34)) wr.heap.size #[.string ⟨#[]⟩, .int .i64 0, .int .i64 0, .int .i64 0, .int .i64 0, .int .i64 0, .int .i64 0, .int .i64 0] 34) := hide (Blk.new wr.drew #[.string ⟨#[]⟩, .int .i64 0, .int .i64 0, .int .i64 0, .int .i64 0, .int .i64 0, .int .i64 0, .int .i64 0] 34)
    try simp only [Act.put, List.getElem_toArray, List.getElem_cons_zero, List.getElem_cons_succ, List.setIfInBounds_toArray, List.set_cons_zero, List.set_cons_succ]
    refine wpAnyH_ready (rs := [13]) (by kernel_rfl) (by simp) ?_
    refine AllReadyH.cons rfl (fun K hK => ?_) AllReadyH.nil
    go_simp
    refine write_c kb 0 2 2 keys 0 1 time sl lp ln lc k2 ls _ _ (HKy.out.next hHeld.1) (by omega) (by omega) htm hsz hl hln hk2 (HL.out.keep (Keeps.of_below hHeld.1)) ?_
    intro w2 d e hb2 hcase0
    have hcase := hide hcase0
    refine hK.out _ _ (keepW hHeld hb2) (fun hHeld' => ?_)
    clear hK K hHeld
    have hHeld := hHeld'
    clear hHeld'
    clear hcase0
    have hkz := hide (hkz0.out.next hb2)
    clear hkz0
    simp only [DocV.cells]
    try simp only [Act.put, List.getElem_toArray, List.getElem_cons_zero, List.getElem_cons_succ, List.setIfInBounds_toArray, List.set_cons_zero, List.set_cons_succ]
    refine wpAnyH_take (i := 14) (v := ?v14b) rfl (by kernel_rfl) (by kernel_rfl) (by kernel_rfl) (fun _ _ _ h => h) (Or.inl ⟨by rfl, ?hy14b⟩) hHeld ?rest14b
    case hy14b => (intro w0 hSw; (try dsimp only at hSw); go_simp; all_goals with_reducible rfl)
    try simp only [Act.put, List.getElem_toArray, List.getElem_cons_zero, List.getElem_cons_succ, List.setIfInBounds_toArray, List.set_cons_zero, List.set_cons_succ]
    refine wpAnyH_take (i := 15) (v := ?v15b) rfl (by kernel_rfl) (by kernel_rfl) (by kernel_rfl) (fun _ _ _ h => h) (Or.inl ⟨by rfl, ?hy15b⟩) hHeld ?rest15b
    case hy15b => (intro w0 hSw; (try dsimp only at hSw); go_simp; all_goals with_reducible rfl)
    try simp only [Act.put, List.getElem_toArray, List.getElem_cons_zero, List.getElem_cons_succ, List.setIfInBounds_toArray, List.set_cons_zero, List.set_cons_succ]
    refine wpAnyH_take (i := 16) (v := ?v16b) rfl (by kernel_rfl) (by kernel_rfl) (by kernel_rfl) (fun _ _ _ h => h) (Or.inl ⟨by rfl, ?hy16b⟩) hHeld ?rest16b
    case hy16b => (intro w0 hSw; (try dsimp only at hSw); go_simp; all_goals with_reducible rfl)
    try simp only [Act.put, List.getElem_toArray, List.getElem_cons_zero, List.getElem_cons_succ, List.setIfInBounds_toArray, List.set_cons_zero, List.set_cons_succ]
    refine wpAnyH_ready (rs := [18]) (by kernel_rfl) (by simp) ?_
    refine AllReadyH.cons rfl (fun K hK => ?_) AllReadyH.nil
    have y0 : w2.cell? ⟨wr.heap.size, 0, none⟩ = some (.string ⟨#[]⟩) := hkz.out.cell (k := 0) rfl
    have f0 := hkz.out.free 0
    have y1 : w2.cell? ⟨wr.heap.size, 1, none⟩ = some (.int .i64 0) := hkz.out.cell (k := 1) rfl
    have f1 := hkz.out.free 1
    have y2 : w2.cell? ⟨wr.heap.size, 2, none⟩ = some (.int .i64 0) := hkz.out.cell (k := 2) rfl
    have f2 := hkz.out.free 2
    have y3 : w2.cell? ⟨wr.heap.size, 3, none⟩ = some (.int .i64 0) := hkz.out.cell (k := 3) rfl
    have f3 := hkz.out.free 3
    have y4 : w2.cell? ⟨wr.heap.size, 4, none⟩ = some (.int .i64 0) := hkz.out.cell (k := 4) rfl
    have f4 := hkz.out.free 4
    have y5 : w2.cell? ⟨wr.heap.size, 5, none⟩ = some (.int .i64 0) := hkz.out.cell (k := 5) rfl
    have f5 := hkz.out.free 5
    have y6 : w2.cell? ⟨wr.heap.size, 6, none⟩ = some (.int .i64 0) := hkz.out.cell (k := 6) rfl
    have f6 := hkz.out.free 6
    have y7 : w2.cell? ⟨wr.heap.size, 7, none⟩ = some (.int .i64 0) := hkz.out.cell (k := 7) rfl
    have f7 := hkz.out.free 7
    have hS9 := hS
    have hblk : Blk (set8 w2 wr.heap.size d) wr.heap.size d.cells.toArray 34 := set8_blk (d := d) (e := zeroD) hkz.out
    have hHs : Below wr.heap.size wr (set8 w2 wr.heap.size d) ∧ (set8 w2 wr.heap.size d).cell? ⟨rb, ro + 12 + 4, none⟩ = some (.string sl) ∧ (set8 w2 wr.heap.size d).cell? ⟨rb, ro + 12 + 3, none⟩ = some (.int .i64 time) ∧ (set8 w2 wr.heap.size d).cell? ⟨rb, ro + 12 + 5, none⟩ = some (.slice lp ln lc) := ⟨set8_below hHeld.1 (Nat.le_refl _), set8_cell hHeld.2.1 (hlt hS.1), set8_cell hHeld.2.2.1 (hlt hS.2.1), set8_cell hHeld.2.2.2 (hlt hS.2.2)⟩
    go_simp
    refine hK.out _ _ hHs (fun hHeld' => ?_)
    clear hK K hHeld
    have hHeld := hHeld'
    clear hHeld'
    clear y0 f0 y1 f1 y2 f2 y3 f3 y4 f4 y5 f5 y6 f6 y7 f7
    try simp only [Act.put, List.getElem_toArray, List.getElem_cons_zero, List.getElem_cons_succ, List.setIfInBounds_toArray, List.set_cons_zero, List.set_cons_succ]
    refine wpAnyH_take (i := 19) (v := ?v19b) rfl (by kernel_rfl) (by kernel_rfl) (by kernel_rfl) (fun _ _ _ h => h) (Or.inl ⟨by rfl, ?hy19b⟩) hHeld ?rest19b
    case hy19b => (intro w0 hSw; (try dsimp only at hSw); go_simp; all_goals with_reducible rfl)
    try simp only [Act.put, List.getElem_toArray, List.getElem_cons_zero, List.getElem_cons_succ, List.setIfInBounds_toArray, List.set_cons_zero, List.set_cons_succ]
    refine wpAnyH_done (by kernel_rfl) ?_ _
    refine NoPanic.normal ?_
    exact HN.out _ _ _ _ _ _ _ _ _ _ _ _ _ _ _ _ _ _ _ _ _ hHeld.1 hblk hcase.out
end Go.Proofs.YtkabghifdedmfaaGreatDoor

namespace Go.Proofs.YtkabghifdedmfaaGreatDoor
open Go.RowKit Go.Sort Go.Shelf

theorem fix_scns {w : World} {b : Nat} (h : Blk w b #[.int .i64 0, .int .i64 0, .int .i64 0, .int .i64 1, .int .i64 1, .int .i64 0] 72) : ScnsAt w (some ⟨b, 0, none⟩) fixS := fun _ => ⟨b, 0, rfl, fun i x hx c v hv => by
  match i, hx with
  | 0, hx => cases hx; match c, hv with
    | 0, hv => cases hv; exact h.cell (k := 0) rfl
    | 1, hv => cases hv; exact h.cell (k := 1) rfl
    | 2, hv => cases hv; exact h.cell (k := 2) rfl
  | 1, hx => cases hx; match c, hv with
    | 0, hv => cases hv; exact h.cell (k := 3) rfl
    | 1, hv => cases hv; exact h.cell (k := 4) rfl
    | 2, hv => cases hv; exact h.cell (k := 5) rfl⟩
theorem fix_scnsOk : ScnsOk fixS := ⟨by decide, by decide⟩
theorem fix_stp {i : Nat} {s : Stp} (h : fS[i]? = some s) : StpOk 2 i s fS[i + 1]? := by
  match i, h with
  | 0, h => cases h; constructor <;> decide
  | 1, h => cases h; constructor <;> decide
theorem fix_asc : AscI [100] := by
  intro i x y h1 h2
  match i, h2 with
  | 0, h2 => cases h2
theorem fix_tksOk : TksOk fixT := ⟨by decide, fun t ht => by
  have h : ∀ l, TkOk ⟨fS, [100], [l], [fC]⟩ := fun l => ⟨by show 0 < 2; decide, rfl, rfl, by show 0 < 1; decide, (by intro x s hx hs; cases hx; cases hs; decide), fix_asc, fun i s hs => fix_stp hs, ⟨by show 2 ≤ 20; decide, by show 1 ≤ 10; decide⟩⟩
  rcases List.mem_cons.1 ht with rfl | ht
  · exact h _
  · rw [List.mem_singleton] at ht; subst ht; exact h _⟩
/-- The third record of the fixed run. -/
theorem fix_third {w : World} {q : Option Addr} {rl : List Rec} (hq : RecsAt w q rl) (h : rl.map Rec.rp = recordsP fixS fixT) : rl.length = 6 ∧ ∃ b o cp cc, q = some ⟨b, o, none⟩ ∧ w.cell? ⟨b, o + 12 + 2, none⟩ = some (.int .i64 2) ∧ w.cell? ⟨b, o + 12 + 3, none⟩ = some (.int .i64 480) ∧ w.cell? ⟨b, o + 12 + 4, none⟩ = some (.string fC) ∧ w.cell? ⟨b, o + 12 + 5, none⟩ = some (.slice cp 2 cc) ∧ StrsAt w cp [fA, fB] := by
  obtain ⟨r0, r1, r2, r3, r4, r5, he, hk, hl, ht, hc⟩ := fix_recs
  rw [he] at h
  have h6 : rl.length = 6 := by have := congrArg List.length h; rw [List.length_map] at this; exact this
  obtain ⟨b, o, x, hp, hx, hce⟩ := hq.1.at_ (i := 2) (by omega)
  have hxr : x.rp = r2 := by
    have := congrArg (fun l : List RP => l[2]?) h
    simp only [List.getElem?_map, hx] at this
    exact Option.some.inj this
  subst hxr
  have hc' : x.contents = [fA, fB] := hc
  have hk' : x.kind = 2 := hk
  have ht' : x.time = 480 := ht
  have hl' : x.label = fC := hl
  have hS := hq.2 x (List.mem_of_getElem? hx)
  rw [hc'] at hS
  refine ⟨h6, b, o, x.cp, x.cc, hp, ?_, ?_, ?_, ?_, hS⟩
  · have := hce 2 _ rfl; rw [hk'] at this; exact this
  · have := hce 3 _ rfl; rw [ht'] at this; exact this
  · have := hce 4 _ rfl; rw [hl'] at this; exact this
  · have := hce 5 _ rfl; rw [hc'] at this; exact this
end Go.Proofs.YtkabghifdedmfaaGreatDoor
