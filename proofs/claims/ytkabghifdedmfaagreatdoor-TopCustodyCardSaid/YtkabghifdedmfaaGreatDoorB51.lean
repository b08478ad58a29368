/- TopCustody: her drawn regions. -/
import Derived.Test.YtkabghifdedmfaaGreatDoorB48
import Derived.Test.YtkabghifdedmfaaGreatDoorB49
import Derived.Test.YtkabghifdedmfaaGreatDoorB50
set_option linter.unusedVariables false
set_option linter.unusedSimpArgs false
namespace Go.Proofs.YtkabghifdedmfaaGreatDoor
open Go.RowKit Go.Sort Go.Shelf

theorem keepV {wr W W' : World} {g15 : Nat} {sl : ByteArray} {time : Int} {lp : Option Addr} {ln lc : Nat} (s : Below wr.heap.size wr W ∧ W.cell? ⟨g15, 4, none⟩ = some (.string sl) ∧ W.cell? ⟨g15, 3, none⟩ = some (.int .i64 time) ∧ W.cell? ⟨g15, 5, none⟩ = some (.slice lp ln lc)) (hb : Below W.heap.size W W') : Below wr.heap.size wr W' ∧ W'.cell? ⟨g15, 4, none⟩ = some (.string sl) ∧ W'.cell? ⟨g15, 3, none⟩ = some (.int .i64 time) ∧ W'.cell? ⟨g15, 5, none⟩ = some (.slice lp ln lc) :=
  ⟨bseq s.1 hb, cell_later hb s.2.1, cell_later hb s.2.2.1, cell_later hb s.2.2.2⟩
noncomputable def t10Reg : Code := (regionsOf (Tryz.f3.body.getD .skip)).getD 10 .skip
set_option maxRecDepth 100000 in
set_option maxHeartbeats 4000000 in
theorem t10_reg (Q : Exit → Act → World → Prop) (kb ko n kc g15 : Nat) (keys : List Int) (fr tq : Int) (f1 f2 : Nat) (time : Int) (sl : ByteArray) (lp : Option Addr) (ln lc k2 : Nat) (ls : List ByteArray) (wr : World) (HKy : Hid (KeysAt wr kb ko n keys)) (hn0 : ¬ n = 0)
    (hw1 : IntKind.i64.wrap fr = fr) (hw2 : IntKind.i64.wrap tq = tq) (ht1 : fr.tmod (n : Int) = (f1 : Int)) (ht2 : tq.tmod (n : Int) = (f2 : Int)) (hf1 : f1 < n) (hf2 : f2 < n) (hnm : n ≤ 6) (htm : 0 ≤ time ∧ time ≤ 1000000) (hsz : sl.size ≤ maxLen)
    (hl : ls.length = ln) (hln : ln ≤ 1000) (hk2 : ln ≤ 2 ^ k2) (HL : Hid (StrsAt wr lp ls)) (hS : wr.cell? ⟨g15, 4, none⟩ = some (.string sl) ∧ wr.cell? ⟨g15, 3, none⟩ = some (.int .i64 time) ∧ wr.cell? ⟨g15, 5, none⟩ = some (.slice lp ln lc)) {u0 u1 u5 u6 u7 u8 u9 u10 u11 u12 u13 u14 u16 u17 u18 u19 u20 u21 u22 u23 u24 u25 u26 u27 u28 u29 u30 u31 u32 u33 u34 u35 u36 u37 u38 u39 u40 u41 u42 u43 u44 u45 u46 u47 u48 u49 u50 u51 u52 u53 u54 u55 u56 u57 u58 u59 u60 u61 u62 u63 u64 u65 u66 u67 u68 u69 u70 u71 u72 u73 u74 u75 u76 u77 u78 u79 u80 u81 u82 u83 u84 u85 u86 u87 u88 u89 u90 u91 u92 u93 u94 u95 u96 u97 u98 u99 u100 u101 u102 u103 u104 u105 u106 u107 u108 u109 u110 u111 u112 u113 u114 u115 u116 u117 u118 u119 u120 u121 u122 u123 u124 u125 u126 u127 u128 u129 u130 u131 u132 u133 u134 u135 u136 u137 u138 u139 u140 u141 u142 u143 u144 u145 u146 u147 u148 u149 u150 u151 u152 u153 u154 u155 u156 u157 u158 u159 : Value}
    (HN : Hid (∀ W (d : DocV) (e : Int) g v58 v59 v60 v61 v62 v63 v64 v65 v66 v67 v68 v69 v70 v71 v72 v73 v74 v75 v76 v77 v78, Below wr.heap.size wr W → Blk W g d.cells.toArray 34 → ((e = 0 ∧ contB ls = true ∧ isLabB sl = true ∧ d = doc2 keys (doc0 ls k2 (f1 : Int) (f2 : Int) sl time)) ∨ (e = 1 ∧ d = zeroD ∧ (contB ls && isLabB sl) = false)) → Q .normal { tmps := #[u0, u1, .slice (some ⟨kb, ko, none⟩) n kc, .int .u8 fr, .int .u8 tq, u5, u6, u7, u8, u9, u10, u11, u12, u13, u14, .pointer (some ⟨g15, 0, none⟩), .pointer (some ⟨g, 0, none⟩), .int .i64 e, u18, u19, u20, u21, u22, u23, u24, u25, u26, u27, u28, u29, u30, u31, u32, u33, u34, u35, u36, u37, u38, u39, u40, u41, u42, u43, u44, u45, u46, u47, u48, u49, u50, u51, u52, u53, u54, u55, u56, u57, v58, v59, v60, v61, v62, v63, v64, v65, v66, v67, v68, v69, v70, v71, v72, v73, v74, v75, v76, v77, v78, u79, u80, u81, u82, u83, u84, u85, u86, u87, u88, u89, u90, u91, u92, u93, u94, u95, u96, u97, u98, u99, u100, u101, u102, u103, u104, u105, u106, u107, u108, u109, u110, u111, u112, u113, u114, u115, u116, u117, u118, u119, u120, u121, u122, u123, u124, u125, u126, u127, u128, u129, u130, u131, u132, u133, u134, u135, u136, u137, u138, u139, u140, u141, u142, u143, u144, u145, u146, u147, u148, u149, u150, u151, u152, u153, u154, u155, u156, u157, u158, u159], defers := [] } W)) :
    t10Reg.wp Tryz.prog Q { tmps := #[u0, u1, .slice (some ⟨kb, ko, none⟩) n kc, .int .u8 fr, .int .u8 tq, u5, u6, u7, u8, u9, u10, u11, u12, u13, u14, .pointer (some ⟨g15, 0, none⟩), u16, u17, u18, u19, u20, u21, u22, u23, u24, u25, u26, u27, u28, u29, u30, u31, u32, u33, u34, u35, u36, u37, u38, u39, u40, u41, u42, u43, u44, u45, u46, u47, u48, u49, u50, u51, u52, u53, u54, u55, u56, u57, u58, u59, u60, u61, u62, u63, u64, u65, u66, u67, u68, u69, u70, u71, u72, u73, u74, u75, u76, u77, u78, u79, u80, u81, u82, u83, u84, u85, u86, u87, u88, u89, u90, u91, u92, u93, u94, u95, u96, u97, u98, u99, u100, u101, u102, u103, u104, u105, u106, u107, u108, u109, u110, u111, u112, u113, u114, u115, u116, u117, u118, u119, u120, u121, u122, u123, u124, u125, u126, u127, u128, u129, u130, u131, u132, u133, u134, u135, u136, u137, u138, u139, u140, u141, u142, u143, u144, u145, u146, u147, u148, u149, u150, u151, u152, u153, u154, u155, u156, u157, u158, u159], defers := [] } wr := by
  simp only [t10Reg, Tryz.f3, Option.getD, regionsOf, List.append_eq, List.nil_append, List.append_nil, List.cons_append, List.getD, List.getElem?_cons_succ, List.getElem?_cons_zero]
  have hlt : ∀ {p : Addr} {v : Value}, wr.cell? p = some v → p.block ≠ wr.heap.size := fun h e => World.new_ne wr _ h e.symm
  refine wp_region_noPanic ?_
  refine wp_region_held_drew (S := fun W => Below wr.heap.size wr W ∧ W.cell? ⟨g15, 4, none⟩ = some (.string sl) ∧ W.cell? ⟨g15, 3, none⟩ = some (.int .i64 time) ∧ W.cell? ⟨g15, 5, none⟩ = some (.slice lp ln lc)) (by kernel_rfl) ⟨(Below.refl _ _).drew, hS⟩ (fun hHeld => ?_)
  refine wpAnyH_take (i := 0) (v := ?v0) rfl (by kernel_rfl) (by kernel_rfl) (by kernel_rfl) (fun _ _ _ h => h) (Or.inl ⟨by rfl, ?hy0⟩) hHeld ?rest0
  case hy0 => (intro w0 hSw; (try dsimp only at hSw); go_simp; all_goals with_reducible rfl)
  try simp only [Act.put, List.getElem_toArray, List.getElem_cons_zero, List.getElem_cons_succ, List.setIfInBounds_toArray, List.set_cons_zero, List.set_cons_succ]
  refine wpAnyH_take (i := 1) (v := ?v1) rfl (by kernel_rfl) (by kernel_rfl) (by kernel_rfl) (fun _ _ _ h => h) (Or.inl ⟨by rfl, ?hy1⟩) hHeld ?rest1
  case hy1 => (intro w0 hSw; (try dsimp only at hSw); go_simp; all_goals with_reducible rfl)
  try simp only [Act.put, List.getElem_toArray, List.getElem_cons_zero, List.getElem_cons_succ, List.setIfInBounds_toArray, List.set_cons_zero, List.set_cons_succ]
  refine wpAnyH_take (i := 2) (v := ?v2) rfl (by kernel_rfl) (by kernel_rfl) (by kernel_rfl) (fun _ _ _ h => h) (Or.inl ⟨by rfl, ?hy2⟩) hHeld ?rest2
  case hy2 => (intro w0 hSw; (try dsimp only at hSw); go_simp; all_goals with_reducible rfl)
  try simp only [Act.put, List.getElem_toArray, List.getElem_cons_zero, List.getElem_cons_succ, List.setIfInBounds_toArray, List.set_cons_zero, List.set_cons_succ]
  refine wpAnyH_take (i := 3) (v := ?v3) rfl (by kernel_rfl) (by kernel_rfl) (by kernel_rfl) (fun _ _ _ h => h) (Or.inl ⟨by rfl, ?hy3⟩) hHeld ?rest3
  case hy3 => (intro w0 hSw; (try dsimp only at hSw); go_simp; all_goals with_reducible rfl)
  try simp only [Act.put, List.getElem_toArray, List.getElem_cons_zero, List.getElem_cons_succ, List.setIfInBounds_toArray, List.set_cons_zero, List.set_cons_succ]
  refine wpAnyH_take (i := 4) (v := ?v4) rfl (by kernel_rfl) (by kernel_rfl) (by kernel_rfl) (fun _ _ _ h => h) (Or.inl ⟨by rfl, ?hy4⟩) hHeld ?rest4
  case hy4 => (intro w0 hSw; (try dsimp only at hSw); go_simp; all_goals with_reducible rfl)
  try simp only [Act.put, List.getElem_toArray, List.getElem_cons_zero, List.getElem_cons_succ, List.setIfInBounds_toArray, List.set_cons_zero, List.set_cons_succ]
  refine wpAnyH_take (i := 5) (v := ?v5) rfl (by kernel_rfl) (by kernel_rfl) (by kernel_rfl) (fun _ _ _ h => h) (Or.inl ⟨by rfl, ?hy5⟩) hHeld ?rest5
  case hy5 => (intro w0 hSw; (try dsimp only at hSw); go_simp; all_goals with_reducible rfl)
  try simp only [Act.put, List.getElem_toArray, List.getElem_cons_zero, List.getElem_cons_succ, List.setIfInBounds_toArray, List.set_cons_zero, List.set_cons_succ]
  refine wpAnyH_take (i := 6) (v := ?v6) rfl (by kernel_rfl) (by kernel_rfl) (by kernel_rfl) (fun _ _ _ h => h) (Or.inl ⟨by rfl, ?hy6⟩) hHeld ?rest6
  case hy6 => (intro w0 hSw; (try dsimp only at hSw); go_simp; all_goals with_reducible rfl)
  try simp only [Act.put, List.getElem_toArray, List.getElem_cons_zero, List.getElem_cons_succ, List.setIfInBounds_toArray, List.set_cons_zero, List.set_cons_succ]
  refine wpAnyH_take (i := 7) (v := ?v7) rfl (by kernel_rfl) (by kernel_rfl) (by kernel_rfl) (fun _ _ _ h => h) (Or.inl ⟨by rfl, ?hy7⟩) hHeld ?rest7
  case hy7 => (intro w0 hSw; (try dsimp only at hSw); go_simp; all_goals with_reducible rfl)
  try simp only [Act.put, List.getElem_toArray, List.getElem_cons_zero, List.getElem_cons_succ, List.setIfInBounds_toArray, List.set_cons_zero, List.set_cons_succ]
  refine wpAnyH_take (i := 8) (v := ?v8) rfl (by kernel_rfl) (by kernel_rfl) (by kernel_rfl) (fun _ _ _ h => h) (Or.inl ⟨by rfl, ?hy8⟩) hHeld ?rest8
  case hy8 => (intro w0 hSw; (try dsimp only at hSw); go_simp; all_goals with_reducible rfl)
  try simp only [Act.put, List.getElem_toArray, List.getElem_cons_zero, List.getElem_cons_succ, List.setIfInBounds_toArray, List.set_cons_zero, List.set_cons_succ]
  refine wpAnyH_take (i := 9) (v := ?v9) rfl (by kernel_rfl) (by kernel_rfl) (by kernel_rfl) (fun _ _ _ h => h) (Or.inl ⟨by rfl, ?hy9⟩) hHeld ?rest9
  case hy9 => (intro w0 hSw; (try dsimp only at hSw); go_simp; all_goals with_reducible rfl)
  try simp only [Act.put, List.getElem_toArray, List.getElem_cons_zero, List.getElem_cons_succ, List.setIfInBounds_toArray, List.set_cons_zero, List.set_cons_succ]
  refine wpAnyH_take (i := 10) (v := ?v10) rfl (by kernel_rfl) (by kernel_rfl) (by kernel_rfl) (fun _ _ _ h => h) (Or.inl ⟨by rfl, ?hy10⟩) hHeld ?rest10
  case hy10 => (intro w0 hSw; (try dsimp only at hSw); go_simp; all_goals with_reducible rfl)
  try simp only [Act.put, List.getElem_toArray, List.getElem_cons_zero, List.getElem_cons_succ, List.setIfInBounds_toArray, List.set_cons_zero, List.set_cons_succ]
  refine wpAnyH_take (i := 11) (v := ?v11) rfl (by kernel_rfl) (by kernel_rfl) (by kernel_rfl) (fun _ _ _ h => h) (Or.inl ⟨by rfl, ?hy11⟩) hHeld ?rest11
  case hy11 => (intro w0 hSw; (try dsimp only at hSw); go_simp; all_goals with_reducible rfl)
  try simp only [Act.put, List.getElem_toArray, List.getElem_cons_zero, List.getElem_cons_succ, List.setIfInBounds_toArray, List.set_cons_zero, List.set_cons_succ]
  refine wpAnyH_take (i := 12) (v := ?v12) rfl (by kernel_rfl) (by kernel_rfl) (by kernel_rfl) (fun _ _ _ h => h) (Or.inl ⟨by rfl, ?hy12⟩) hHeld ?rest12
  case hy12 => (intro w0 hSw; (try dsimp only at hSw); go_simp; all_goals with_reducible rfl)
  try simp only [Act.put, List.getElem_toArray, List.getElem_cons_zero, List.getElem_cons_succ, List.setIfInBounds_toArray, List.set_cons_zero, List.set_cons_succ]
  refine wpAnyH_take (i := 13) (v := ?v13) rfl (by kernel_rfl) (by kernel_rfl) (by kernel_rfl) (fun _ _ _ h => h) (Or.inl ⟨by rfl, ?hy13⟩) hHeld ?rest13
  case hy13 => (intro w0 hSw; (try dsimp only at hSw); go_simp; all_goals with_reducible rfl)
  try simp only [Act.put, List.getElem_toArray, List.getElem_cons_zero, List.getElem_cons_succ, List.setIfInBounds_toArray, List.set_cons_zero, List.set_cons_succ]
  refine wpAnyH_take (i := 14) (v := ?v14) rfl (by kernel_rfl) (by kernel_rfl) (by kernel_rfl) (fun _ _ _ h => h) (Or.inl ⟨by rfl, ?hy14⟩) hHeld ?rest14
  case hy14 => (intro w0 hSw; (try dsimp only at hSw); go_simp; all_goals with_reducible rfl)
  try simp only [Act.put, List.getElem_toArray, List.getElem_cons_zero, List.getElem_cons_succ, List.setIfInBounds_toArray, List.set_cons_zero, List.set_cons_succ]
  refine wpAnyH_take (i := 15) (v := ?v15) rfl (by kernel_rfl) (by kernel_rfl) (by kernel_rfl) (fun _ _ _ h => h) (Or.inl ⟨by rfl, ?hy15⟩) hHeld ?rest15
  case hy15 => (intro w0 hSw; (try dsimp only at hSw); go_simp; all_goals with_reducible rfl)
  try simp only [Act.put, List.getElem_toArray, List.getElem_cons_zero, List.getElem_cons_succ, List.setIfInBounds_toArray, List.set_cons_zero, List.set_cons_succ]
  refine wpAnyH_take (i := 16) (v := ?v16) rfl (by kernel_rfl) (by kernel_rfl) (by kernel_rfl) (fun _ _ _ h => h) (Or.inl ⟨by rfl, ?hy16⟩) hHeld ?rest16
  case hy16 => (intro w0 hSw; (try dsimp only at hSw); go_simp; all_goals with_reducible rfl)
  try simp only [Act.put, List.getElem_toArray, List.getElem_cons_zero, List.getElem_cons_succ, List.setIfInBounds_toArray, List.set_cons_zero, List.set_cons_succ]
  refine wpAnyH_ready (rs := [17, 21]) (by kernel_rfl) (by simp) ?_
  refine AllReadyH.cons rfl (fun K hK => ?_) (AllReadyH.cons rfl (fun K hK => ?_) AllReadyH.nil)
  · go_simp
    refine write_c kb ko n kc keys (f1 : Int) (f2 : Int) time sl lp ln lc k2 ls _ _ (HKy.out.next hHeld.1) (by omega) (by omega) htm hsz hl hln hk2 (HL.out.keep (Keeps.of_below hHeld.1)) ?_
    intro w2 d e hb2 hcase0
    have hcase := hide hcase0
    refine hK.out _ _ (keepV hHeld hb2) (fun hHeld' => ?_)
    clear hK K hHeld
    have hHeld := hHeld'
    clear hHeld'
    clear hcase0
    simp only [DocV.cells]
    try simp only [Act.put, List.getElem_toArray, List.getElem_cons_zero, List.getElem_cons_succ, List.setIfInBounds_toArray, List.set_cons_zero, List.set_cons_succ]
    refine wpAnyH_take (i := 18) (v := ?v18a) rfl (by kernel_rfl) (by kernel_rfl) (by kernel_rfl) (fun _ _ _ h => h) (Or.inl ⟨by rfl, ?hy18a⟩) hHeld ?rest18a
    case hy18a => (intro w0 hSw; (try dsimp only at hSw); go_simp; all_goals with_reducible rfl)
    try simp only [Act.put, List.getElem_toArray, List.getElem_cons_zero, List.getElem_cons_succ, List.setIfInBounds_toArray, List.set_cons_zero, List.set_cons_succ]
    refine wpAnyH_take (i := 19) (v := ?v19a) rfl (by kernel_rfl) (by kernel_rfl) (by kernel_rfl) (fun _ _ _ h => h) (Or.inl ⟨by rfl, ?hy19a⟩) hHeld ?rest19a
    case hy19a => (intro w0 hSw; (try dsimp only at hSw); go_simp; all_goals with_reducible rfl)
    try simp only [Act.put, List.getElem_toArray, List.getElem_cons_zero, List.getElem_cons_succ, List.setIfInBounds_toArray, List.set_cons_zero, List.set_cons_succ]
    refine wpAnyH_take (i := 20) (v := ?v20a) rfl (by kernel_rfl) (by kernel_rfl) (by kernel_rfl) (fun _ _ _ h => h) (Or.inl ⟨by rfl, ?hy20a⟩) hHeld ?rest20a
    case hy20a => (intro w0 hSw; (try dsimp only at hSw); go_simp; all_goals with_reducible rfl)
    try simp only [Act.put, List.getElem_toArray, List.getElem_cons_zero, List.getElem_cons_succ, List.setIfInBounds_toArray, List.set_cons_zero, List.set_cons_succ]
    refine wpAnyH_ready (rs := [21]) (by kernel_rfl) (by simp) ?_
    refine AllReadyH.cons rfl (fun K hK => ?_) AllReadyH.nil
    go_simp
    have hHs := hHeld
    refine hK.out _ _ (keepV hHeld (balloc (Below.refl _ _) _)) (fun hHeld' => ?_)
    clear hK K hHeld
    have hHeld := hHeld'
    clear hHeld'
    try simp only [Act.put, List.getElem_toArray, List.getElem_cons_zero, List.getElem_cons_succ, List.setIfInBounds_toArray, List.set_cons_zero, List.set_cons_succ]
    refine wpAnyH_ready (rs := [22]) (by kernel_rfl) (by simp) ?_
    refine AllReadyH.cons rfl (fun K hK => ?_) AllReadyH.nil
    go_simp
    have hblk := Blk.new w2 #[.string d.sl, .int .i64 d.frm, .int .i64 d.to_, .int .i64 d.time, .int .i64 d.count, .int .i64 d.root, .int .i64 d.give, .int .i64 d.take] 34
    refine hK.out _ _ (keepV hHs (balloc (Below.refl _ _) _)) (fun hHeld' => ?_)
    clear hK K hHeld
    have hHeld := hHeld'
    clear hHeld'
    try simp only [Act.put, List.getElem_toArray, List.getElem_cons_zero, List.getElem_cons_succ, List.setIfInBounds_toArray, List.set_cons_zero, List.set_cons_succ]
    refine wpAnyH_take (i := 23) (v := ?v23a) rfl (by kernel_rfl) (by kernel_rfl) (by kernel_rfl) (fun _ _ _ h => h) (Or.inl ⟨by rfl, ?hy23a⟩) hHeld ?rest23a
    case hy23a => (intro w0 hSw; (try dsimp only at hSw); go_simp; all_goals with_reducible rfl)
    try simp only [Act.put, List.getElem_toArray, List.getElem_cons_zero, List.getElem_cons_succ, List.setIfInBounds_toArray, List.set_cons_zero, List.set_cons_succ]
    refine wpAnyH_done (by kernel_rfl) ?_ _
    refine NoPanic.normal ?_
    exact HN.out _ _ _ _ _ _ _ _ _ _ _ _ _ _ _ _ _ _ _ _ _ _ _ _ _ hHeld.1 hblk hcase.out
  · go_simp
    refine hK.out _ _ (keepV hHeld (balloc (Below.refl _ _) _)) (fun hHeld' => ?_)
    clear hK K hHeld
    have hHeld := hHeld'
    clear hHeld'
    have hkz0 : Hid (Blk (wr.drew.alloc (.cells #[.string ⟨#[]⟩, .int .i64 0, .int .i64 0, .int .i64 0, .int .i64 0, .int .i64 0, .int .i64 0, .int .i64 0] 34)) wr.heap.size #[.string ⟨#[]⟩, .int .i64 0, .int .i64 0, .int .i64 0, .int .i64 0, .int .i64 0, .int .i64 0, .int .i64 0] 34) := hide (Blk.new wr.drew #[.string ⟨#[]⟩, .int .i64 0, .int .i64 0, .int .i64 0, .int .i64 0, .int .i64 0, .int .i64 0, .int .i64 0] 34)
    try simp only [Act.put, List.getElem_toArray, List.getElem_cons_zero, List.getElem_cons_succ, List.setIfInBounds_toArray, List.set_cons_zero, List.set_cons_succ]
    refine wpAnyH_ready (rs := [17]) (by kernel_rfl) (by simp) ?_
    refine AllReadyH.cons rfl (fun K hK => ?_) AllReadyH.nil
    go_simp
    refine write_c kb ko n kc keys (f1 : Int) (f2 : Int) time sl lp ln lc k2 ls _ _ (HKy.out.next hHeld.1) (by omega) (by omega) htm hsz hl hln hk2 (HL.out.keep (Keeps.of_below hHeld.1)) ?_
    intro w2 d e hb2 hcase0
    have hcase := hide hcase0
    refine hK.out _ _ (keepV hHeld hb2) (fun hHeld' => ?_)
    clear hK K hHeld
    have hHeld := hHeld'
    clear hHeld'
    clear hcase0
    have hkz := hide (hkz0.out.next hb2)
    clear hkz0
    simp only [DocV.cells]
    try simp only [Act.put, List.getElem_toArray, List.getElem_cons_zero, List.getElem_cons_succ, List.setIfInBounds_toArray, List.set_cons_zero, List.set_cons_succ]
    refine wpAnyH_take (i := 18) (v := ?v18b) rfl (by kernel_rfl) (by kernel_rfl) (by kernel_rfl) (fun _ _ _ h => h) (Or.inl ⟨by rfl, ?hy18b⟩) hHeld ?rest18b
    case hy18b => (intro w0 hSw; (try dsimp only at hSw); go_simp; all_goals with_reducible rfl)
    try simp only [Act.put, List.getElem_toArray, List.getElem_cons_zero, List.getElem_cons_succ, List.setIfInBounds_toArray, List.set_cons_zero, List.set_cons_succ]
    refine wpAnyH_take (i := 19) (v := ?v19b) rfl (by kernel_rfl) (by kernel_rfl) (by kernel_rfl) (fun _ _ _ h => h) (Or.inl ⟨by rfl, ?hy19b⟩) hHeld ?rest19b
    case hy19b => (intro w0 hSw; (try dsimp only at hSw); go_simp; all_goals with_reducible rfl)
    try simp only [Act.put, List.getElem_toArray, List.getElem_cons_zero, List.getElem_cons_succ, List.setIfInBounds_toArray, List.set_cons_zero, List.set_cons_succ]
    refine wpAnyH_take (i := 20) (v := ?v20b) rfl (by kernel_rfl) (by kernel_rfl) (by kernel_rfl) (fun _ _ _ h => h) (Or.inl ⟨by rfl, ?hy20b⟩) hHeld ?rest20b
    case hy20b => (intro w0 hSw; (try dsimp only at hSw); go_simp; all_goals with_reducible rfl)
    try simp only [Act.put, List.getElem_toArray, List.getElem_cons_zero, List.getElem_cons_succ, List.setIfInBounds_toArray, List.set_cons_zero, List.set_cons_succ]
    refine wpAnyH_ready (rs := [22]) (by kernel_rfl) (by simp) ?_
    refine AllReadyH.cons rfl (fun K hK => ?_) AllReadyH.nil
    have y0 : w2.cell? ⟨wr.heap.size, 0, none⟩ = some (.string ⟨#[]⟩) := hkz.out.cell (k := 0) rfl
    have f0' := hkz.out.free 0
    have y1 : w2.cell? ⟨wr.heap.size, 1, none⟩ = some (.int .i64 0) := hkz.out.cell (k := 1) rfl
    have f1' := hkz.out.free 1
    have y2 : w2.cell? ⟨wr.heap.size, 2, none⟩ = some (.int .i64 0) := hkz.out.cell (k := 2) rfl
    have f2' := hkz.out.free 2
    have y3 : w2.cell? ⟨wr.heap.size, 3, none⟩ = some (.int .i64 0) := hkz.out.cell (k := 3) rfl
    have f3' := hkz.out.free 3
    have y4 : w2.cell? ⟨wr.heap.size, 4, none⟩ = some (.int .i64 0) := hkz.out.cell (k := 4) rfl
    have f4' := hkz.out.free 4
    have y5 : w2.cell? ⟨wr.heap.size, 5, none⟩ = some (.int .i64 0) := hkz.out.cell (k := 5) rfl
    have f5' := hkz.out.free 5
    have y6 : w2.cell? ⟨wr.heap.size, 6, none⟩ = some (.int .i64 0) := hkz.out.cell (k := 6) rfl
    have f6' := hkz.out.free 6
    have y7 : w2.cell? ⟨wr.heap.size, 7, none⟩ = some (.int .i64 0) := hkz.out.cell (k := 7) rfl
    have f7' := hkz.out.free 7
    have hblk : Blk (set8 w2 wr.heap.size d) wr.heap.size d.cells.toArray 34 := set8_blk (d := d) (e := zeroD) hkz.out
    have hHs : Below wr.heap.size wr (set8 w2 wr.heap.size d) ∧ (set8 w2 wr.heap.size d).cell? ⟨g15, 4, none⟩ = some (.string sl) ∧ (set8 w2 wr.heap.size d).cell? ⟨g15, 3, none⟩ = some (.int .i64 time) ∧ (set8 w2 wr.heap.size d).cell? ⟨g15, 5, none⟩ = some (.slice lp ln lc) := ⟨set8_below hHeld.1 (Nat.le_refl _), set8_cell hHeld.2.1 (hlt hS.1), set8_cell hHeld.2.2.1 (hlt hS.2.1), set8_cell hHeld.2.2.2 (hlt hS.2.2)⟩
    go_simp
    refine hK.out _ _ hHs (fun hHeld' => ?_)
    clear hK K hHeld
    have hHeld := hHeld'
    clear hHeld'
    clear y0 f0' y1 f1' y2 f2' y3 f3' y4 f4' y5 f5' y6 f6' y7 f7'
    try simp only [Act.put, List.getElem_toArray, List.getElem_cons_zero, List.getElem_cons_succ, List.setIfInBounds_toArray, List.set_cons_zero, List.set_cons_succ]
    refine wpAnyH_take (i := 23) (v := ?v23b) rfl (by kernel_rfl) (by kernel_rfl) (by kernel_rfl) (fun _ _ _ h => h) (Or.inl ⟨by rfl, ?hy23b⟩) hHeld ?rest23b
    case hy23b => (intro w0 hSw; (try dsimp only at hSw); go_simp; all_goals with_reducible rfl)
    try simp only [Act.put, List.getElem_toArray, List.getElem_cons_zero, List.getElem_cons_succ, List.setIfInBounds_toArray, List.set_cons_zero, List.set_cons_succ]
    refine wpAnyH_done (by kernel_rfl) ?_ _
    refine NoPanic.normal ?_
    exact HN.out _ _ _ _ _ _ _ _ _ _ _ _ _ _ _ _ _ _ _ _ _ _ _ _ _ hHeld.1 hblk hcase.out
theorem keepT {wr W W' : World} {g15 eb eo j pb po i : Nat} {sl s : ByteArray} {time : Int} {lp : Option Addr} {ln lc : Nat} {t : Trk} (h : Below wr.heap.size wr W ∧ W.cell? ⟨g15, 4, none⟩ = some (.string sl) ∧ W.cell? ⟨g15, 3, none⟩ = some (.int .i64 time) ∧ W.cell? ⟨g15, 5, none⟩ = some (.slice lp ln lc) ∧ W.cell? ⟨eb, eo + j, none⟩ = some (.string s) ∧ W.cell? ⟨pb, po + i * 10, none⟩ = some (.string t.label0) ∧ W.cell? ⟨pb, po + i * 10 + 1, none⟩ = some (.int .i64 t.from0) ∧ W.cell? ⟨pb, po + i * 10 + 2, none⟩ = some (.int .i64 t.to0) ∧ W.cell? ⟨pb, po + i * 10 + 3, none⟩ = some (.int .i64 t.class0) ∧ W.cell? ⟨pb, po + i * 10 + 4, none⟩ = some (.int .i64 t.accept) ∧ W.cell? ⟨pb, po + i * 10 + 5, none⟩ = some (.slice t.sp t.stops.length t.sc) ∧ W.cell? ⟨pb, po + i * 10 + 6, none⟩ = some (.bool t.lost) ∧ W.cell? ⟨pb, po + i * 10 + 7, none⟩ = some (.slice t.np t.since.length t.nc) ∧ W.cell? ⟨pb, po + i * 10 + 8, none⟩ = some (.slice t.lp t.label.length t.lc) ∧ W.cell? ⟨pb, po + i * 10 + 9, none⟩ = some (.slice t.ep t.seals.length t.ec)) (hb : Below W.heap.size W W') : Below wr.heap.size wr W' ∧ W'.cell? ⟨g15, 4, none⟩ = some (.string sl) ∧ W'.cell? ⟨g15, 3, none⟩ = some (.int .i64 time) ∧ W'.cell? ⟨g15, 5, none⟩ = some (.slice lp ln lc) ∧ W'.cell? ⟨eb, eo + j, none⟩ = some (.string s) ∧ W'.cell? ⟨pb, po + i * 10, none⟩ = some (.string t.label0) ∧ W'.cell? ⟨pb, po + i * 10 + 1, none⟩ = some (.int .i64 t.from0) ∧ W'.cell? ⟨pb, po + i * 10 + 2, none⟩ = some (.int .i64 t.to0) ∧ W'.cell? ⟨pb, po + i * 10 + 3, none⟩ = some (.int .i64 t.class0) ∧ W'.cell? ⟨pb, po + i * 10 + 4, none⟩ = some (.int .i64 t.accept) ∧ W'.cell? ⟨pb, po + i * 10 + 5, none⟩ = some (.slice t.sp t.stops.length t.sc) ∧ W'.cell? ⟨pb, po + i * 10 + 6, none⟩ = some (.bool t.lost) ∧ W'.cell? ⟨pb, po + i * 10 + 7, none⟩ = some (.slice t.np t.since.length t.nc) ∧ W'.cell? ⟨pb, po + i * 10 + 8, none⟩ = some (.slice t.lp t.label.length t.lc) ∧ W'.cell? ⟨pb, po + i * 10 + 9, none⟩ = some (.slice t.ep t.seals.length t.ec) :=
  ⟨bseq h.1 hb, cell_later hb h.2.1, cell_later hb h.2.2.1, cell_later hb h.2.2.2.1, cell_later hb h.2.2.2.2.1, cell_later hb h.2.2.2.2.2.1, cell_later hb h.2.2.2.2.2.2.1, cell_later hb h.2.2.2.2.2.2.2.1, cell_later hb h.2.2.2.2.2.2.2.2.1, cell_later hb h.2.2.2.2.2.2.2.2.2.1, cell_later hb h.2.2.2.2.2.2.2.2.2.2.1, cell_later hb h.2.2.2.2.2.2.2.2.2.2.2.1, cell_later hb h.2.2.2.2.2.2.2.2.2.2.2.2.1, cell_later hb h.2.2.2.2.2.2.2.2.2.2.2.2.2.1, cell_later hb h.2.2.2.2.2.2.2.2.2.2.2.2.2.2⟩
noncomputable def t21Reg : Code := (regionsOf (Tryz.f3.body.getD .skip)).getD 19 .skip
set_option maxRecDepth 100000 in
set_option maxHeartbeats 4000000 in
theorem t21_regF (Q : Exit → Act → World → Prop) (pb po m pc g15 eb eo i j : Nat) (t : Trk) (s sl : ByteArray) (time : Int) (lp : Option Addr) (ln lc : Nat) (wr : World) (hi : i < m) (hm : m ≤ 8) (he : t.ep = some ⟨eb, eo, none⟩) (hj : j < t.seals.length) (hj2 : t.seals.length ≤ 20) (hne : (s.toList == sl.toList) = false)
    (hS : wr.cell? ⟨g15, 4, none⟩ = some (.string sl) ∧ wr.cell? ⟨g15, 3, none⟩ = some (.int .i64 time) ∧ wr.cell? ⟨g15, 5, none⟩ = some (.slice lp ln lc) ∧ wr.cell? ⟨eb, eo + j, none⟩ = some (.string s) ∧ wr.cell? ⟨pb, po + i * 10, none⟩ = some (.string t.label0) ∧ wr.cell? ⟨pb, po + i * 10 + 1, none⟩ = some (.int .i64 t.from0) ∧ wr.cell? ⟨pb, po + i * 10 + 2, none⟩ = some (.int .i64 t.to0) ∧ wr.cell? ⟨pb, po + i * 10 + 3, none⟩ = some (.int .i64 t.class0) ∧ wr.cell? ⟨pb, po + i * 10 + 4, none⟩ = some (.int .i64 t.accept) ∧ wr.cell? ⟨pb, po + i * 10 + 5, none⟩ = some (.slice t.sp t.stops.length t.sc) ∧ wr.cell? ⟨pb, po + i * 10 + 6, none⟩ = some (.bool t.lost) ∧ wr.cell? ⟨pb, po + i * 10 + 7, none⟩ = some (.slice t.np t.since.length t.nc) ∧ wr.cell? ⟨pb, po + i * 10 + 8, none⟩ = some (.slice t.lp t.label.length t.lc) ∧ wr.cell? ⟨pb, po + i * 10 + 9, none⟩ = some (.slice t.ep t.seals.length t.ec)) {u0 u2 u3 u4 u5 u6 u7 u8 u9 u10 u11 u12 u13 u14 u16 u17 u20 u21 u22 u23 u24 u25 u26 u27 u28 u29 u30 u31 u32 u33 u34 u35 u36 u37 u38 u39 u40 u41 u42 u43 u44 u45 u46 u47 u48 u49 u50 u51 u52 u53 u54 u55 u56 u57 u58 u59 u60 u61 u62 u63 u64 u65 u66 u67 u68 u69 u70 u71 u72 u73 u74 u75 u76 u77 u78 u79 u80 u81 u82 u83 u84 u85 u86 u87 u88 u89 u90 u91 u92 u93 u94 u95 u96 u97 u98 u99 u100 u101 u102 u103 u104 u105 u106 u107 u108 u109 u110 u111 u112 u113 u114 u115 u116 u117 u118 u119 u120 u121 u122 u123 u124 u125 u126 u127 u128 u129 u130 u131 u132 u133 u134 u135 u136 u137 u138 u139 u140 u141 u142 u143 u144 u145 u146 u147 u148 u149 u150 u151 u152 u153 u154 u155 u156 u157 u158 u159 : Value}
    (HN : Hid (∀ W v106 v107 v108 v109 v110 v111 v112 v113 v114 v115 v116 v117 v118 v119 v120 v121 v122 v123 v124 v125 v126 v127 v128, Below wr.heap.size wr W → Q .normal { tmps := #[u0, .slice (some ⟨pb, po, none⟩) m pc, u2, u3, u4, u5, u6, u7, u8, u9, u10, u11, u12, u13, u14, .pointer (some ⟨g15, 0, none⟩), u16, u17, .int .i64 (i : Int), .int .i64 (j : Int), u20, u21, u22, u23, u24, u25, u26, u27, u28, u29, u30, u31, u32, u33, u34, u35, u36, u37, u38, u39, u40, u41, u42, u43, u44, u45, u46, u47, u48, u49, u50, u51, u52, u53, u54, u55, u56, u57, u58, u59, u60, u61, u62, u63, u64, u65, u66, u67, u68, u69, u70, u71, u72, u73, u74, u75, u76, u77, u78, u79, u80, u81, u82, u83, u84, u85, u86, u87, u88, u89, u90, u91, u92, u93, u94, u95, u96, u97, u98, u99, u100, u101, u102, u103, u104, u105, v106, v107, v108, v109, v110, v111, v112, v113, v114, v115, v116, v117, v118, v119, v120, v121, v122, v123, v124, v125, v126, v127, v128, .bool false, u130, u131, u132, u133, u134, u135, u136, u137, u138, u139, u140, u141, u142, u143, u144, u145, u146, u147, u148, u149, u150, u151, u152, u153, u154, u155, u156, u157, u158, u159], defers := [] } W)) :
    t21Reg.wp Tryz.prog Q { tmps := #[u0, .slice (some ⟨pb, po, none⟩) m pc, u2, u3, u4, u5, u6, u7, u8, u9, u10, u11, u12, u13, u14, .pointer (some ⟨g15, 0, none⟩), u16, u17, .int .i64 (i : Int), .int .i64 (j : Int), u20, u21, u22, u23, u24, u25, u26, u27, u28, u29, u30, u31, u32, u33, u34, u35, u36, u37, u38, u39, u40, u41, u42, u43, u44, u45, u46, u47, u48, u49, u50, u51, u52, u53, u54, u55, u56, u57, u58, u59, u60, u61, u62, u63, u64, u65, u66, u67, u68, u69, u70, u71, u72, u73, u74, u75, u76, u77, u78, u79, u80, u81, u82, u83, u84, u85, u86, u87, u88, u89, u90, u91, u92, u93, u94, u95, u96, u97, u98, u99, u100, u101, u102, u103, u104, u105, u106, u107, u108, u109, u110, u111, u112, u113, u114, u115, u116, u117, u118, u119, u120, u121, u122, u123, u124, u125, u126, u127, u128, u129, u130, u131, u132, u133, u134, u135, u136, u137, u138, u139, u140, u141, u142, u143, u144, u145, u146, u147, u148, u149, u150, u151, u152, u153, u154, u155, u156, u157, u158, u159], defers := [] } wr := by
  simp only [t21Reg, Tryz.f3, Option.getD, regionsOf, List.append_eq, List.nil_append, List.append_nil, List.cons_append, List.getD, List.getElem?_cons_succ, List.getElem?_cons_zero]
  refine wp_region_noPanic ?_
  have hS9 := keepT ⟨Below.refl _ _, hS⟩ (Below.refl wr.heap.size wr).drew
  refine wp_region_held_drew (S := fun W => Below wr.heap.size wr W ∧ W.cell? ⟨g15, 4, none⟩ = some (.string sl) ∧ W.cell? ⟨g15, 3, none⟩ = some (.int .i64 time) ∧ W.cell? ⟨g15, 5, none⟩ = some (.slice lp ln lc) ∧ W.cell? ⟨eb, eo + j, none⟩ = some (.string s) ∧ W.cell? ⟨pb, po + i * 10, none⟩ = some (.string t.label0) ∧ W.cell? ⟨pb, po + i * 10 + 1, none⟩ = some (.int .i64 t.from0) ∧ W.cell? ⟨pb, po + i * 10 + 2, none⟩ = some (.int .i64 t.to0) ∧ W.cell? ⟨pb, po + i * 10 + 3, none⟩ = some (.int .i64 t.class0) ∧ W.cell? ⟨pb, po + i * 10 + 4, none⟩ = some (.int .i64 t.accept) ∧ W.cell? ⟨pb, po + i * 10 + 5, none⟩ = some (.slice t.sp t.stops.length t.sc) ∧ W.cell? ⟨pb, po + i * 10 + 6, none⟩ = some (.bool t.lost) ∧ W.cell? ⟨pb, po + i * 10 + 7, none⟩ = some (.slice t.np t.since.length t.nc) ∧ W.cell? ⟨pb, po + i * 10 + 8, none⟩ = some (.slice t.lp t.label.length t.lc) ∧ W.cell? ⟨pb, po + i * 10 + 9, none⟩ = some (.slice t.ep t.seals.length t.ec)) (by kernel_rfl) hS9 (fun hHeld => ?_)
  clear hS9 hS
  refine wpAnyH_take (i := 0) (v := ?v0) rfl (by kernel_rfl) (by kernel_rfl) (by kernel_rfl) (fun _ _ _ h => h) (Or.inl ⟨by rfl, ?hy0⟩) hHeld ?rest0
  case hy0 => (intro w0 hSw; (try dsimp only at hSw); go_simp; all_goals with_reducible rfl)
  try simp only [Act.put, List.getElem_toArray, List.getElem_cons_zero, List.getElem_cons_succ, List.setIfInBounds_toArray, List.set_cons_zero, List.set_cons_succ]
  refine wpAnyH_take (i := 1) (v := ?v1) rfl (by kernel_rfl) (by kernel_rfl) (by kernel_rfl) (fun _ _ _ h => h) (Or.inl ⟨by rfl, ?hy1⟩) hHeld ?rest1
  case hy1 => (intro w0 hSw; (try dsimp only at hSw); go_simp; all_goals with_reducible rfl)
  try simp only [Act.put, List.getElem_toArray, List.getElem_cons_zero, List.getElem_cons_succ, List.setIfInBounds_toArray, List.set_cons_zero, List.set_cons_succ]
  refine wpAnyH_take (i := 2) (v := ?v2) rfl (by kernel_rfl) (by kernel_rfl) (by kernel_rfl) (fun _ _ _ h => h) (Or.inl ⟨by rfl, ?hy2⟩) hHeld ?rest2
  case hy2 => (intro w0 hSw; (try dsimp only at hSw); go_simp; all_goals with_reducible rfl)
  try simp only [Act.put, List.getElem_toArray, List.getElem_cons_zero, List.getElem_cons_succ, List.setIfInBounds_toArray, List.set_cons_zero, List.set_cons_succ]
  refine wpAnyH_take (i := 3) (v := ?v3) rfl (by kernel_rfl) (by kernel_rfl) (by kernel_rfl) (fun _ _ _ h => h) (Or.inl ⟨by rfl, ?hy3⟩) hHeld ?rest3
  case hy3 => (intro w0 hSw; (try dsimp only at hSw); go_simp; all_goals with_reducible rfl)
  try simp only [Act.put, List.getElem_toArray, List.getElem_cons_zero, List.getElem_cons_succ, List.setIfInBounds_toArray, List.set_cons_zero, List.set_cons_succ]
  refine wpAnyH_take (i := 4) (v := ?v4) rfl (by kernel_rfl) (by kernel_rfl) (by kernel_rfl) (fun _ _ _ h => h) (Or.inl ⟨by rfl, ?hy4⟩) hHeld ?rest4
  case hy4 => (intro w0 hSw; (try dsimp only at hSw); go_simp; all_goals with_reducible rfl)
  try simp only [Act.put, List.getElem_toArray, List.getElem_cons_zero, List.getElem_cons_succ, List.setIfInBounds_toArray, List.set_cons_zero, List.set_cons_succ]
  refine wpAnyH_take (i := 5) (v := ?v5) rfl (by kernel_rfl) (by kernel_rfl) (by kernel_rfl) (fun _ _ _ h => h) (Or.inl ⟨by rfl, ?hy5⟩) hHeld ?rest5
  case hy5 => (intro w0 hSw; (try dsimp only at hSw); go_simp; all_goals with_reducible rfl)
  try simp only [Act.put, List.getElem_toArray, List.getElem_cons_zero, List.getElem_cons_succ, List.setIfInBounds_toArray, List.set_cons_zero, List.set_cons_succ]
  refine wpAnyH_take (i := 6) (v := ?v6) rfl (by kernel_rfl) (by kernel_rfl) (by kernel_rfl) (fun _ _ _ h => h) (Or.inl ⟨by rfl, ?hy6⟩) hHeld ?rest6
  case hy6 => (intro w0 hSw; (try dsimp only at hSw); go_simp; all_goals with_reducible rfl)
  try simp only [Act.put, List.getElem_toArray, List.getElem_cons_zero, List.getElem_cons_succ, List.setIfInBounds_toArray, List.set_cons_zero, List.set_cons_succ]
  refine wpAnyH_take (i := 7) (v := ?v7) rfl (by kernel_rfl) (by kernel_rfl) (by kernel_rfl) (fun _ _ _ h => h) (Or.inl ⟨by rfl, ?hy7⟩) hHeld ?rest7
  case hy7 => (intro w0 hSw; (try dsimp only at hSw); go_simp; all_goals with_reducible rfl)
  try simp only [Act.put, List.getElem_toArray, List.getElem_cons_zero, List.getElem_cons_succ, List.setIfInBounds_toArray, List.set_cons_zero, List.set_cons_succ]
  refine wpAnyH_take (i := 8) (v := ?v8) rfl (by kernel_rfl) (by kernel_rfl) (by kernel_rfl) (fun _ _ _ h => h) (Or.inl ⟨by rfl, ?hy8⟩) hHeld ?rest8
  case hy8 => (intro w0 hSw; (try dsimp only at hSw); go_simp; all_goals with_reducible rfl)
  try simp only [Act.put, List.getElem_toArray, List.getElem_cons_zero, List.getElem_cons_succ, List.setIfInBounds_toArray, List.set_cons_zero, List.set_cons_succ]
  refine wpAnyH_take (i := 9) (v := ?v9) rfl (by kernel_rfl) (by kernel_rfl) (by kernel_rfl) (fun _ _ _ h => h) (Or.inl ⟨by rfl, ?hy9⟩) hHeld ?rest9
  case hy9 => (intro w0 hSw; (try dsimp only at hSw); go_simp; all_goals with_reducible rfl)
  try simp only [Act.put, List.getElem_toArray, List.getElem_cons_zero, List.getElem_cons_succ, List.setIfInBounds_toArray, List.set_cons_zero, List.set_cons_succ]
  refine wpAnyH_take (i := 10) (v := ?v10) rfl (by kernel_rfl) (by kernel_rfl) (by kernel_rfl) (fun _ _ _ h => h) (Or.inl ⟨by rfl, ?hy10⟩) hHeld ?rest10
  case hy10 => (intro w0 hSw; (try dsimp only at hSw); go_simp; all_goals with_reducible rfl)
  try simp only [Act.put, List.getElem_toArray, List.getElem_cons_zero, List.getElem_cons_succ, List.setIfInBounds_toArray, List.set_cons_zero, List.set_cons_succ]
  refine wpAnyH_take (i := 11) (v := ?v11) rfl (by kernel_rfl) (by kernel_rfl) (by kernel_rfl) (fun _ _ _ h => h) (Or.inl ⟨by rfl, ?hy11⟩) hHeld ?rest11
  case hy11 => (intro w0 hSw; (try dsimp only at hSw); go_simp; all_goals with_reducible rfl)
  try simp only [Act.put, List.getElem_toArray, List.getElem_cons_zero, List.getElem_cons_succ, List.setIfInBounds_toArray, List.set_cons_zero, List.set_cons_succ]
  refine wpAnyH_take (i := 12) (v := undef) rfl (by kernel_rfl) (by kernel_rfl) (by kernel_rfl) (fun _ _ _ h => h) (Or.inr ⟨by rfl, rfl⟩) hHeld ?_
  try simp only [Act.put, List.getElem_toArray, List.getElem_cons_zero, List.getElem_cons_succ, List.setIfInBounds_toArray, List.set_cons_zero, List.set_cons_succ]
  refine wpAnyH_take (i := 13) (v := undef) rfl (by kernel_rfl) (by kernel_rfl) (by kernel_rfl) (fun _ _ _ h => h) (Or.inr ⟨by rfl, rfl⟩) hHeld ?_
  try simp only [Act.put, List.getElem_toArray, List.getElem_cons_zero, List.getElem_cons_succ, List.setIfInBounds_toArray, List.set_cons_zero, List.set_cons_succ]
  refine wpAnyH_take (i := 14) (v := undef) rfl (by kernel_rfl) (by kernel_rfl) (by kernel_rfl) (fun _ _ _ h => h) (Or.inr ⟨by rfl, rfl⟩) hHeld ?_
  try simp only [Act.put, List.getElem_toArray, List.getElem_cons_zero, List.getElem_cons_succ, List.setIfInBounds_toArray, List.set_cons_zero, List.set_cons_succ]
  refine wpAnyH_take (i := 15) (v := undef) rfl (by kernel_rfl) (by kernel_rfl) (by kernel_rfl) (fun _ _ _ h => h) (Or.inr ⟨by rfl, rfl⟩) hHeld ?_
  try simp only [Act.put, List.getElem_toArray, List.getElem_cons_zero, List.getElem_cons_succ, List.setIfInBounds_toArray, List.set_cons_zero, List.set_cons_succ]
  refine wpAnyH_take (i := 16) (v := undef) rfl (by kernel_rfl) (by kernel_rfl) (by kernel_rfl) (fun _ _ _ h => h) (Or.inr ⟨by rfl, rfl⟩) hHeld ?_
  try simp only [Act.put, List.getElem_toArray, List.getElem_cons_zero, List.getElem_cons_succ, List.setIfInBounds_toArray, List.set_cons_zero, List.set_cons_succ]
  refine wpAnyH_take (i := 17) (v := undef) rfl (by kernel_rfl) (by kernel_rfl) (by kernel_rfl) (fun _ _ _ h => h) (Or.inr ⟨by rfl, rfl⟩) hHeld ?_
  try simp only [Act.put, List.getElem_toArray, List.getElem_cons_zero, List.getElem_cons_succ, List.setIfInBounds_toArray, List.set_cons_zero, List.set_cons_succ]
  refine wpAnyH_take (i := 18) (v := undef) rfl (by kernel_rfl) (by kernel_rfl) (by kernel_rfl) (fun _ _ _ h => h) (Or.inr ⟨by rfl, rfl⟩) hHeld ?_
  try simp only [Act.put, List.getElem_toArray, List.getElem_cons_zero, List.getElem_cons_succ, List.setIfInBounds_toArray, List.set_cons_zero, List.set_cons_succ]
  refine wpAnyH_take (i := 19) (v := undef) rfl (by kernel_rfl) (by kernel_rfl) (by kernel_rfl) (fun _ _ _ h => h) (Or.inr ⟨by rfl, rfl⟩) hHeld ?_
  try simp only [Act.put, List.getElem_toArray, List.getElem_cons_zero, List.getElem_cons_succ, List.setIfInBounds_toArray, List.set_cons_zero, List.set_cons_succ]
  refine wpAnyH_take (i := 20) (v := undef) rfl (by kernel_rfl) (by kernel_rfl) (by kernel_rfl) (fun _ _ _ h => h) (Or.inr ⟨by rfl, rfl⟩) hHeld ?_
  try simp only [Act.put, List.getElem_toArray, List.getElem_cons_zero, List.getElem_cons_succ, List.setIfInBounds_toArray, List.set_cons_zero, List.set_cons_succ]
  refine wpAnyH_take (i := 21) (v := undef) rfl (by kernel_rfl) (by kernel_rfl) (by kernel_rfl) (fun _ _ _ h => h) (Or.inr ⟨by rfl, rfl⟩) hHeld ?_
  try simp only [Act.put, List.getElem_toArray, List.getElem_cons_zero, List.getElem_cons_succ, List.setIfInBounds_toArray, List.set_cons_zero, List.set_cons_succ]
  refine wpAnyH_take (i := 22) (v := undef) rfl (by kernel_rfl) (by kernel_rfl) (by kernel_rfl) (fun _ _ _ h => h) (Or.inr ⟨by rfl, rfl⟩) hHeld ?_
  try simp only [Act.put, List.getElem_toArray, List.getElem_cons_zero, List.getElem_cons_succ, List.setIfInBounds_toArray, List.set_cons_zero, List.set_cons_succ]
  refine wpAnyH_take (i := 23) (v := ?v23) rfl (by kernel_rfl) (by kernel_rfl) (by kernel_rfl) (fun _ _ _ h => h) (Or.inl ⟨by rfl, ?hy23⟩) hHeld ?rest23
  case hy23 => (intro w0 hSw; (try dsimp only at hSw); go_simp; all_goals with_reducible rfl)
  try simp only [Act.put, List.getElem_toArray, List.getElem_cons_zero, List.getElem_cons_succ, List.setIfInBounds_toArray, List.set_cons_zero, List.set_cons_succ]
  refine wpAnyH_done (by kernel_rfl) ?_ _
  refine NoPanic.normal ?_
  exact HN.out _ _ _ _ _ _ _ _ _ _ _ _ _ _ _ _ _ _ _ _ _ _ _ _ hHeld.1
set_option maxRecDepth 100000 in
set_option maxHeartbeats 4000000 in
theorem t21_regT (Q : Exit → Act → World → Prop) (pb po m pc g15 eb eo i j : Nat) (t : Trk) (s sl : ByteArray) (time : Int) (lp : Option Addr) (ln lc : Nat) (wr : World) (hi : i < m) (hm : m ≤ 8) (he : t.ep = some ⟨eb, eo, none⟩) (hj : j < t.seals.length) (hj2 : t.seals.length ≤ 20) (heq : (s.toList == sl.toList) = true) (ls : List ByteArray) (hl : ls.length = ln) (hln : ln ≤ 1000) (HL : Hid (StrsAt wr lp ls)) (HT : Hid (TrkAt wr t)) (HTk : Hid (TkOk t.tk)) (Hin : Hid (labelP t.tk time ∈ ls))
    (hS : wr.cell? ⟨g15, 4, none⟩ = some (.string sl) ∧ wr.cell? ⟨g15, 3, none⟩ = some (.int .i64 time) ∧ wr.cell? ⟨g15, 5, none⟩ = some (.slice lp ln lc) ∧ wr.cell? ⟨eb, eo + j, none⟩ = some (.string s) ∧ wr.cell? ⟨pb, po + i * 10, none⟩ = some (.string t.label0) ∧ wr.cell? ⟨pb, po + i * 10 + 1, none⟩ = some (.int .i64 t.from0) ∧ wr.cell? ⟨pb, po + i * 10 + 2, none⟩ = some (.int .i64 t.to0) ∧ wr.cell? ⟨pb, po + i * 10 + 3, none⟩ = some (.int .i64 t.class0) ∧ wr.cell? ⟨pb, po + i * 10 + 4, none⟩ = some (.int .i64 t.accept) ∧ wr.cell? ⟨pb, po + i * 10 + 5, none⟩ = some (.slice t.sp t.stops.length t.sc) ∧ wr.cell? ⟨pb, po + i * 10 + 6, none⟩ = some (.bool t.lost) ∧ wr.cell? ⟨pb, po + i * 10 + 7, none⟩ = some (.slice t.np t.since.length t.nc) ∧ wr.cell? ⟨pb, po + i * 10 + 8, none⟩ = some (.slice t.lp t.label.length t.lc) ∧ wr.cell? ⟨pb, po + i * 10 + 9, none⟩ = some (.slice t.ep t.seals.length t.ec)) {u0 u2 u3 u4 u5 u6 u7 u8 u9 u10 u11 u12 u13 u14 u16 u17 u20 u21 u22 u23 u24 u25 u26 u27 u28 u29 u30 u31 u32 u33 u34 u35 u36 u37 u38 u39 u40 u41 u42 u43 u44 u45 u46 u47 u48 u49 u50 u51 u52 u53 u54 u55 u56 u57 u58 u59 u60 u61 u62 u63 u64 u65 u66 u67 u68 u69 u70 u71 u72 u73 u74 u75 u76 u77 u78 u79 u80 u81 u82 u83 u84 u85 u86 u87 u88 u89 u90 u91 u92 u93 u94 u95 u96 u97 u98 u99 u100 u101 u102 u103 u104 u105 u106 u107 u108 u109 u110 u111 u112 u113 u114 u115 u116 u117 u118 u119 u120 u121 u122 u123 u124 u125 u126 u127 u128 u129 u130 u131 u132 u133 u134 u135 u136 u137 u138 u139 u140 u141 u142 u143 u144 u145 u146 u147 u148 u149 u150 u151 u152 u153 u154 u155 u156 u157 u158 u159 : Value}
    (HN : Hid (∀ W v106 v107 v108 v109 v110 v111 v112 v113 v114 v115 v116 v117 v118 v119 v120 v121 v122 v123 v124 v125 v126 v127 v128, Below wr.heap.size wr W → Q .normal { tmps := #[u0, .slice (some ⟨pb, po, none⟩) m pc, u2, u3, u4, u5, u6, u7, u8, u9, u10, u11, u12, u13, u14, .pointer (some ⟨g15, 0, none⟩), u16, u17, .int .i64 (i : Int), .int .i64 (j : Int), u20, u21, u22, u23, u24, u25, u26, u27, u28, u29, u30, u31, u32, u33, u34, u35, u36, u37, u38, u39, u40, u41, u42, u43, u44, u45, u46, u47, u48, u49, u50, u51, u52, u53, u54, u55, u56, u57, u58, u59, u60, u61, u62, u63, u64, u65, u66, u67, u68, u69, u70, u71, u72, u73, u74, u75, u76, u77, u78, u79, u80, u81, u82, u83, u84, u85, u86, u87, u88, u89, u90, u91, u92, u93, u94, u95, u96, u97, u98, u99, u100, u101, u102, u103, u104, u105, v106, v107, v108, v109, v110, v111, v112, v113, v114, v115, v116, v117, v118, v119, v120, v121, v122, v123, v124, v125, v126, v127, v128, .bool false, u130, u131, u132, u133, u134, u135, u136, u137, u138, u139, u140, u141, u142, u143, u144, u145, u146, u147, u148, u149, u150, u151, u152, u153, u154, u155, u156, u157, u158, u159], defers := [] } W)) :
    t21Reg.wp Tryz.prog Q { tmps := #[u0, .slice (some ⟨pb, po, none⟩) m pc, u2, u3, u4, u5, u6, u7, u8, u9, u10, u11, u12, u13, u14, .pointer (some ⟨g15, 0, none⟩), u16, u17, .int .i64 (i : Int), .int .i64 (j : Int), u20, u21, u22, u23, u24, u25, u26, u27, u28, u29, u30, u31, u32, u33, u34, u35, u36, u37, u38, u39, u40, u41, u42, u43, u44, u45, u46, u47, u48, u49, u50, u51, u52, u53, u54, u55, u56, u57, u58, u59, u60, u61, u62, u63, u64, u65, u66, u67, u68, u69, u70, u71, u72, u73, u74, u75, u76, u77, u78, u79, u80, u81, u82, u83, u84, u85, u86, u87, u88, u89, u90, u91, u92, u93, u94, u95, u96, u97, u98, u99, u100, u101, u102, u103, u104, u105, u106, u107, u108, u109, u110, u111, u112, u113, u114, u115, u116, u117, u118, u119, u120, u121, u122, u123, u124, u125, u126, u127, u128, u129, u130, u131, u132, u133, u134, u135, u136, u137, u138, u139, u140, u141, u142, u143, u144, u145, u146, u147, u148, u149, u150, u151, u152, u153, u154, u155, u156, u157, u158, u159], defers := [] } wr := by
  simp only [t21Reg, Tryz.f3, Option.getD, regionsOf, List.append_eq, List.nil_append, List.append_nil, List.cons_append, List.getD, List.getElem?_cons_succ, List.getElem?_cons_zero]
  refine wp_region_noPanic ?_
  have hS9 := keepT ⟨Below.refl _ _, hS⟩ (Below.refl wr.heap.size wr).drew
  refine wp_region_held_drew (S := fun W => Below wr.heap.size wr W ∧ W.cell? ⟨g15, 4, none⟩ = some (.string sl) ∧ W.cell? ⟨g15, 3, none⟩ = some (.int .i64 time) ∧ W.cell? ⟨g15, 5, none⟩ = some (.slice lp ln lc) ∧ W.cell? ⟨eb, eo + j, none⟩ = some (.string s) ∧ W.cell? ⟨pb, po + i * 10, none⟩ = some (.string t.label0) ∧ W.cell? ⟨pb, po + i * 10 + 1, none⟩ = some (.int .i64 t.from0) ∧ W.cell? ⟨pb, po + i * 10 + 2, none⟩ = some (.int .i64 t.to0) ∧ W.cell? ⟨pb, po + i * 10 + 3, none⟩ = some (.int .i64 t.class0) ∧ W.cell? ⟨pb, po + i * 10 + 4, none⟩ = some (.int .i64 t.accept) ∧ W.cell? ⟨pb, po + i * 10 + 5, none⟩ = some (.slice t.sp t.stops.length t.sc) ∧ W.cell? ⟨pb, po + i * 10 + 6, none⟩ = some (.bool t.lost) ∧ W.cell? ⟨pb, po + i * 10 + 7, none⟩ = some (.slice t.np t.since.length t.nc) ∧ W.cell? ⟨pb, po + i * 10 + 8, none⟩ = some (.slice t.lp t.label.length t.lc) ∧ W.cell? ⟨pb, po + i * 10 + 9, none⟩ = some (.slice t.ep t.seals.length t.ec)) (by kernel_rfl) hS9 (fun hHeld => ?_)
  clear hS9 hS
  refine wpAnyH_take (i := 0) (v := ?v0) rfl (by kernel_rfl) (by kernel_rfl) (by kernel_rfl) (fun _ _ _ h => h) (Or.inl ⟨by rfl, ?hy0⟩) hHeld ?rest0
  case hy0 => (intro w0 hSw; (try dsimp only at hSw); go_simp; all_goals with_reducible rfl)
  try simp only [Act.put, List.getElem_toArray, List.getElem_cons_zero, List.getElem_cons_succ, List.setIfInBounds_toArray, List.set_cons_zero, List.set_cons_succ]
  refine wpAnyH_take (i := 1) (v := ?v1) rfl (by kernel_rfl) (by kernel_rfl) (by kernel_rfl) (fun _ _ _ h => h) (Or.inl ⟨by rfl, ?hy1⟩) hHeld ?rest1
  case hy1 => (intro w0 hSw; (try dsimp only at hSw); go_simp; all_goals with_reducible rfl)
  try simp only [Act.put, List.getElem_toArray, List.getElem_cons_zero, List.getElem_cons_succ, List.setIfInBounds_toArray, List.set_cons_zero, List.set_cons_succ]
  refine wpAnyH_take (i := 2) (v := ?v2) rfl (by kernel_rfl) (by kernel_rfl) (by kernel_rfl) (fun _ _ _ h => h) (Or.inl ⟨by rfl, ?hy2⟩) hHeld ?rest2
  case hy2 => (intro w0 hSw; (try dsimp only at hSw); go_simp; all_goals with_reducible rfl)
  try simp only [Act.put, List.getElem_toArray, List.getElem_cons_zero, List.getElem_cons_succ, List.setIfInBounds_toArray, List.set_cons_zero, List.set_cons_succ]
  refine wpAnyH_take (i := 3) (v := ?v3) rfl (by kernel_rfl) (by kernel_rfl) (by kernel_rfl) (fun _ _ _ h => h) (Or.inl ⟨by rfl, ?hy3⟩) hHeld ?rest3
  case hy3 => (intro w0 hSw; (try dsimp only at hSw); go_simp; all_goals with_reducible rfl)
  try simp only [Act.put, List.getElem_toArray, List.getElem_cons_zero, List.getElem_cons_succ, List.setIfInBounds_toArray, List.set_cons_zero, List.set_cons_succ]
  refine wpAnyH_take (i := 4) (v := ?v4) rfl (by kernel_rfl) (by kernel_rfl) (by kernel_rfl) (fun _ _ _ h => h) (Or.inl ⟨by rfl, ?hy4⟩) hHeld ?rest4
  case hy4 => (intro w0 hSw; (try dsimp only at hSw); go_simp; all_goals with_reducible rfl)
  try simp only [Act.put, List.getElem_toArray, List.getElem_cons_zero, List.getElem_cons_succ, List.setIfInBounds_toArray, List.set_cons_zero, List.set_cons_succ]
  refine wpAnyH_take (i := 5) (v := ?v5) rfl (by kernel_rfl) (by kernel_rfl) (by kernel_rfl) (fun _ _ _ h => h) (Or.inl ⟨by rfl, ?hy5⟩) hHeld ?rest5
  case hy5 => (intro w0 hSw; (try dsimp only at hSw); go_simp; all_goals with_reducible rfl)
  try simp only [Act.put, List.getElem_toArray, List.getElem_cons_zero, List.getElem_cons_succ, List.setIfInBounds_toArray, List.set_cons_zero, List.set_cons_succ]
  refine wpAnyH_take (i := 6) (v := ?v6) rfl (by kernel_rfl) (by kernel_rfl) (by kernel_rfl) (fun _ _ _ h => h) (Or.inl ⟨by rfl, ?hy6⟩) hHeld ?rest6
  case hy6 => (intro w0 hSw; (try dsimp only at hSw); go_simp; all_goals with_reducible rfl)
  try simp only [Act.put, List.getElem_toArray, List.getElem_cons_zero, List.getElem_cons_succ, List.setIfInBounds_toArray, List.set_cons_zero, List.set_cons_succ]
  refine wpAnyH_take (i := 7) (v := ?v7) rfl (by kernel_rfl) (by kernel_rfl) (by kernel_rfl) (fun _ _ _ h => h) (Or.inl ⟨by rfl, ?hy7⟩) hHeld ?rest7
  case hy7 => (intro w0 hSw; (try dsimp only at hSw); go_simp; all_goals with_reducible rfl)
  try simp only [Act.put, List.getElem_toArray, List.getElem_cons_zero, List.getElem_cons_succ, List.setIfInBounds_toArray, List.set_cons_zero, List.set_cons_succ]
  refine wpAnyH_take (i := 8) (v := ?v8) rfl (by kernel_rfl) (by kernel_rfl) (by kernel_rfl) (fun _ _ _ h => h) (Or.inl ⟨by rfl, ?hy8⟩) hHeld ?rest8
  case hy8 => (intro w0 hSw; (try dsimp only at hSw); go_simp; all_goals with_reducible rfl)
  try simp only [Act.put, List.getElem_toArray, List.getElem_cons_zero, List.getElem_cons_succ, List.setIfInBounds_toArray, List.set_cons_zero, List.set_cons_succ]
  refine wpAnyH_take (i := 9) (v := ?v9) rfl (by kernel_rfl) (by kernel_rfl) (by kernel_rfl) (fun _ _ _ h => h) (Or.inl ⟨by rfl, ?hy9⟩) hHeld ?rest9
  case hy9 => (intro w0 hSw; (try dsimp only at hSw); go_simp; all_goals with_reducible rfl)
  try simp only [Act.put, List.getElem_toArray, List.getElem_cons_zero, List.getElem_cons_succ, List.setIfInBounds_toArray, List.set_cons_zero, List.set_cons_succ]
  refine wpAnyH_take (i := 10) (v := ?v10) rfl (by kernel_rfl) (by kernel_rfl) (by kernel_rfl) (fun _ _ _ h => h) (Or.inl ⟨by rfl, ?hy10⟩) hHeld ?rest10
  case hy10 => (intro w0 hSw; (try dsimp only at hSw); go_simp; all_goals with_reducible rfl)
  try simp only [Act.put, List.getElem_toArray, List.getElem_cons_zero, List.getElem_cons_succ, List.setIfInBounds_toArray, List.set_cons_zero, List.set_cons_succ]
  refine wpAnyH_take (i := 11) (v := ?v11) rfl (by kernel_rfl) (by kernel_rfl) (by kernel_rfl) (fun _ _ _ h => h) (Or.inl ⟨by rfl, ?hy11⟩) hHeld ?rest11
  case hy11 => (intro w0 hSw; (try dsimp only at hSw); go_simp; all_goals with_reducible rfl)
  try simp only [Act.put, List.getElem_toArray, List.getElem_cons_zero, List.getElem_cons_succ, List.setIfInBounds_toArray, List.set_cons_zero, List.set_cons_succ]
  refine wpAnyH_take (i := 12) (v := ?v12) rfl (by kernel_rfl) (by kernel_rfl) (by kernel_rfl) (fun _ _ _ h => h) (Or.inl ⟨by rfl, ?hy12⟩) hHeld ?rest12
  case hy12 => (intro w0 hSw; (try dsimp only at hSw); go_simp; all_goals with_reducible rfl)
  try simp only [Act.put, List.getElem_toArray, List.getElem_cons_zero, List.getElem_cons_succ, List.setIfInBounds_toArray, List.set_cons_zero, List.set_cons_succ]
  refine wpAnyH_take (i := 13) (v := ?v13) rfl (by kernel_rfl) (by kernel_rfl) (by kernel_rfl) (fun _ _ _ h => h) (Or.inl ⟨by rfl, ?hy13⟩) hHeld ?rest13
  case hy13 => (intro w0 hSw; (try dsimp only at hSw); go_simp; all_goals with_reducible rfl)
  try simp only [Act.put, List.getElem_toArray, List.getElem_cons_zero, List.getElem_cons_succ, List.setIfInBounds_toArray, List.set_cons_zero, List.set_cons_succ]
  refine wpAnyH_take (i := 14) (v := ?v14) rfl (by kernel_rfl) (by kernel_rfl) (by kernel_rfl) (fun _ _ _ h => h) (Or.inl ⟨by rfl, ?hy14⟩) hHeld ?rest14
  case hy14 => (intro w0 hSw; (try dsimp only at hSw); go_simp; all_goals with_reducible rfl)
  try simp only [Act.put, List.getElem_toArray, List.getElem_cons_zero, List.getElem_cons_succ, List.setIfInBounds_toArray, List.set_cons_zero, List.set_cons_succ]
  refine wpAnyH_take (i := 15) (v := ?v15) rfl (by kernel_rfl) (by kernel_rfl) (by kernel_rfl) (fun _ _ _ h => h) (Or.inl ⟨by rfl, ?hy15⟩) hHeld ?rest15
  case hy15 => (intro w0 hSw; (try dsimp only at hSw); go_simp; all_goals with_reducible rfl)
  try simp only [Act.put, List.getElem_toArray, List.getElem_cons_zero, List.getElem_cons_succ, List.setIfInBounds_toArray, List.set_cons_zero, List.set_cons_succ]
  refine wpAnyH_take (i := 16) (v := ?v16) rfl (by kernel_rfl) (by kernel_rfl) (by kernel_rfl) (fun _ _ _ h => h) (Or.inl ⟨by rfl, ?hy16⟩) hHeld ?rest16
  case hy16 => (intro w0 hSw; (try dsimp only at hSw); go_simp; all_goals with_reducible rfl)
  try simp only [Act.put, List.getElem_toArray, List.getElem_cons_zero, List.getElem_cons_succ, List.setIfInBounds_toArray, List.set_cons_zero, List.set_cons_succ]
  refine wpAnyH_take (i := 17) (v := ?v17) rfl (by kernel_rfl) (by kernel_rfl) (by kernel_rfl) (fun _ _ _ h => h) (Or.inl ⟨by rfl, ?hy17⟩) hHeld ?rest17
  case hy17 => (intro w0 hSw; (try dsimp only at hSw); go_simp; all_goals with_reducible rfl)
  try simp only [Act.put, List.getElem_toArray, List.getElem_cons_zero, List.getElem_cons_succ, List.setIfInBounds_toArray, List.set_cons_zero, List.set_cons_succ]
  refine wpAnyH_take (i := 18) (v := ?v18) rfl (by kernel_rfl) (by kernel_rfl) (by kernel_rfl) (fun _ _ _ h => h) (Or.inl ⟨by rfl, ?hy18⟩) hHeld ?rest18
  case hy18 => (intro w0 hSw; (try dsimp only at hSw); go_simp; all_goals with_reducible rfl)
  try simp only [Act.put, List.getElem_toArray, List.getElem_cons_zero, List.getElem_cons_succ, List.setIfInBounds_toArray, List.set_cons_zero, List.set_cons_succ]
  refine wpAnyH_take (i := 19) (v := ?v19) rfl (by kernel_rfl) (by kernel_rfl) (by kernel_rfl) (fun _ _ _ h => h) (Or.inl ⟨by rfl, ?hy19⟩) hHeld ?rest19
  case hy19 => (intro w0 hSw; (try dsimp only at hSw); go_simp; all_goals with_reducible rfl)
  try simp only [Act.put, List.getElem_toArray, List.getElem_cons_zero, List.getElem_cons_succ, List.setIfInBounds_toArray, List.set_cons_zero, List.set_cons_succ]
  refine wpAnyH_ready (rs := [20]) (by kernel_rfl) (by simp) ?_
  refine AllReadyH.cons rfl (fun K hK => ?_) AllReadyH.nil
  go_simp
  rw [show (Value.slice (some ⟨eb, eo, none⟩) t.seals.length t.ec) = Value.slice t.ep t.seals.length t.ec from by rw [he]]
  refine label_c t time _ _ (HT.out.keep (Keeps.of_below hHeld.1)) HTk.out ?_
  intro w2 hb2
  refine hK.out _ _ (keepT hHeld hb2) (fun hHeld' => ?_)
  clear hK K hHeld
  have hHeld := hHeld'
  clear hHeld'
  try simp only [Act.put, List.getElem_toArray, List.getElem_cons_zero, List.getElem_cons_succ, List.setIfInBounds_toArray, List.set_cons_zero, List.set_cons_succ]
  refine wpAnyH_ready (rs := [21]) (by kernel_rfl) (by simp) ?_
  refine AllReadyH.cons rfl (fun K hK => ?_) AllReadyH.nil
  go_simp
  refine w09In_c lp ln lc ls _ _ _ hl (by unfold maxLen; omega) (HL.out.keep (Keeps.of_below hHeld.1)) Hin.out ?_
  refine hK.out _ _ hHeld (fun hHeld' => ?_)
  clear hK K hHeld
  have hHeld := hHeld'
  clear hHeld'
  try simp only [Act.put, List.getElem_toArray, List.getElem_cons_zero, List.getElem_cons_succ, List.setIfInBounds_toArray, List.set_cons_zero, List.set_cons_succ]
  refine wpAnyH_take (i := 22) (v := ?v22) rfl (by kernel_rfl) (by kernel_rfl) (by kernel_rfl) (fun _ _ _ h => h) (Or.inl ⟨by rfl, ?hy22⟩) hHeld ?rest22
  case hy22 => (intro w0 hSw; (try dsimp only at hSw); go_simp; all_goals with_reducible rfl)
  try simp only [Act.put, List.getElem_toArray, List.getElem_cons_zero, List.getElem_cons_succ, List.setIfInBounds_toArray, List.set_cons_zero, List.set_cons_succ]
  refine wpAnyH_take (i := 23) (v := ?v23) rfl (by kernel_rfl) (by kernel_rfl) (by kernel_rfl) (fun _ _ _ h => h) (Or.inl ⟨by rfl, ?hy23⟩) hHeld ?rest23
  case hy23 => (intro w0 hSw; (try dsimp only at hSw); go_simp; all_goals with_reducible rfl)
  try simp only [Act.put, List.getElem_toArray, List.getElem_cons_zero, List.getElem_cons_succ, List.setIfInBounds_toArray, List.set_cons_zero, List.set_cons_succ]
  refine wpAnyH_done (by kernel_rfl) ?_ _
  refine NoPanic.normal ?_
  exact HN.out _ _ _ _ _ _ _ _ _ _ _ _ _ _ _ _ _ _ _ _ _ _ _ _ hHeld.1
theorem keepP {wr W W' : World} {g15 g16 g21 cb co i ln lc pn qc : Nat} {d : DocV} {s : ByteArray} {q : Option Addr} (h : Below wr.heap.size wr W ∧ W.cell? ⟨g16, 0, none⟩ = some (.string d.sl) ∧ W.cell? ⟨g16, 1, none⟩ = some (.int .i64 d.frm) ∧ W.cell? ⟨g16, 2, none⟩ = some (.int .i64 d.to_) ∧ W.cell? ⟨g16, 3, none⟩ = some (.int .i64 d.time) ∧ W.cell? ⟨g16, 4, none⟩ = some (.int .i64 d.count) ∧ W.cell? ⟨g16, 5, none⟩ = some (.int .i64 d.root) ∧ W.cell? ⟨g16, 6, none⟩ = some (.int .i64 d.give) ∧ W.cell? ⟨g16, 7, none⟩ = some (.int .i64 d.take) ∧ W.cell? ⟨g15, 5, none⟩ = some (.slice (some ⟨cb, co, none⟩) ln lc) ∧ W.cell? ⟨cb, co + i, none⟩ = some (.string s) ∧ W.cell? ⟨g21, 0, none⟩ = some (.int .i64 (i : Int)) ∧ W.cell? ⟨g21, 1, none⟩ = some (.slice q pn qc)) (hb : Below W.heap.size W W') : Below wr.heap.size wr W' ∧ W'.cell? ⟨g16, 0, none⟩ = some (.string d.sl) ∧ W'.cell? ⟨g16, 1, none⟩ = some (.int .i64 d.frm) ∧ W'.cell? ⟨g16, 2, none⟩ = some (.int .i64 d.to_) ∧ W'.cell? ⟨g16, 3, none⟩ = some (.int .i64 d.time) ∧ W'.cell? ⟨g16, 4, none⟩ = some (.int .i64 d.count) ∧ W'.cell? ⟨g16, 5, none⟩ = some (.int .i64 d.root) ∧ W'.cell? ⟨g16, 6, none⟩ = some (.int .i64 d.give) ∧ W'.cell? ⟨g16, 7, none⟩ = some (.int .i64 d.take) ∧ W'.cell? ⟨g15, 5, none⟩ = some (.slice (some ⟨cb, co, none⟩) ln lc) ∧ W'.cell? ⟨cb, co + i, none⟩ = some (.string s) ∧ W'.cell? ⟨g21, 0, none⟩ = some (.int .i64 (i : Int)) ∧ W'.cell? ⟨g21, 1, none⟩ = some (.slice q pn qc) :=
  ⟨bseq h.1 hb, cell_later hb h.2.1, cell_later hb h.2.2.1, cell_later hb h.2.2.2.1, cell_later hb h.2.2.2.2.1, cell_later hb h.2.2.2.2.2.1, cell_later hb h.2.2.2.2.2.2.1, cell_later hb h.2.2.2.2.2.2.2.1, cell_later hb h.2.2.2.2.2.2.2.2.1, cell_later hb h.2.2.2.2.2.2.2.2.2.1, cell_later hb h.2.2.2.2.2.2.2.2.2.2.1, cell_later hb h.2.2.2.2.2.2.2.2.2.2.2.1, cell_later hb h.2.2.2.2.2.2.2.2.2.2.2.2⟩
noncomputable def t27Reg : Code := (regionsOf (Tryz.f3.body.getD .skip)).getD 26 .skip
set_option maxRecDepth 100000 in
set_option maxHeartbeats 4000000 in
theorem t27_reg (Q : Exit → Act → World → Prop) (kb ko n kc g15 g16 g21 cb co i ln lc pn qc : Nat) (keys path : List Int) (d : DocV) (s : ByteArray) (q : Option Addr) (wr : World) (hi : i < ln) (hln : ln ≤ 40) (hpn : pn ≤ 20) (HKy : Hid (KeysAt wr kb ko n keys)) (HDo : Hid (DocOk n d)) (HLab : Hid (isLabB d.sl = true)) (HG : Hid (sumP (dFirst keys d) = d.give)) (HTk : Hid (sumP (dSecond keys d) = d.take))
    (HSl : Hid (isLabB s = true)) (HCt : Hid ((i : Int) < d.count)) (Hpn : Hid (path.length = pn)) (HI : Hid (IntsAt .i64 wr q path)) (HRg : Hid (∀ x ∈ path, -1 ≤ x ∧ x < 2147483647)) (HV : Hid ((if climbP path (leafP s) i != d.root then (190 : Int) else 0) = 0))
    (hS : wr.cell? ⟨g16, 0, none⟩ = some (.string d.sl) ∧ wr.cell? ⟨g16, 1, none⟩ = some (.int .i64 d.frm) ∧ wr.cell? ⟨g16, 2, none⟩ = some (.int .i64 d.to_) ∧ wr.cell? ⟨g16, 3, none⟩ = some (.int .i64 d.time) ∧ wr.cell? ⟨g16, 4, none⟩ = some (.int .i64 d.count) ∧ wr.cell? ⟨g16, 5, none⟩ = some (.int .i64 d.root) ∧ wr.cell? ⟨g16, 6, none⟩ = some (.int .i64 d.give) ∧ wr.cell? ⟨g16, 7, none⟩ = some (.int .i64 d.take) ∧ wr.cell? ⟨g15, 5, none⟩ = some (.slice (some ⟨cb, co, none⟩) ln lc) ∧ wr.cell? ⟨cb, co + i, none⟩ = some (.string s) ∧ wr.cell? ⟨g21, 0, none⟩ = some (.int .i64 (i : Int)) ∧ wr.cell? ⟨g21, 1, none⟩ = some (.slice q pn qc)) {u0 u1 u3 u4 u5 u6 u7 u8 u9 u10 u11 u12 u13 u14 u17 u18 u19 u23 u24 u25 u26 u27 u28 u29 u30 u31 u32 u33 u34 u35 u36 u37 u38 u39 u40 u41 u42 u43 u44 u45 u46 u47 u48 u49 u50 u51 u52 u53 u54 u55 u56 u57 u58 u59 u60 u61 u62 u63 u64 u65 u66 u67 u68 u69 u70 u71 u72 u73 u74 u75 u76 u77 u78 u79 u80 u81 u82 u83 u84 u85 u86 u87 u88 u89 u90 u91 u92 u93 u94 u95 u96 u97 u98 u99 u100 u101 u102 u103 u104 u105 u106 u107 u108 u109 u110 u111 u112 u113 u114 u115 u116 u117 u118 u119 u120 u121 u122 u123 u124 u125 u126 u127 u128 u129 u130 u131 u132 u133 u134 u135 u136 u137 u138 u139 u140 u141 u142 u143 u144 u145 u146 u147 u148 u149 u150 u151 u152 u153 u154 u155 u156 u157 u158 u159 : Value}
    (HN : Hid (∀ W v144 v145 v146 v147 v148 v149 v150 v151 v152 v153 v154 v155 v156 v157, Below wr.heap.size wr W → Q .normal { tmps := #[u0, u1, .slice (some ⟨kb, ko, none⟩) n kc, u3, u4, u5, u6, u7, u8, u9, u10, u11, u12, u13, u14, .pointer (some ⟨g15, 0, none⟩), .pointer (some ⟨g16, 0, none⟩), u17, u18, u19, .int .i64 (i : Int), .pointer (some ⟨g21, 0, none⟩), .int .i64 0, u23, u24, u25, u26, u27, u28, u29, u30, u31, u32, u33, u34, u35, u36, u37, u38, u39, u40, u41, u42, u43, u44, u45, u46, u47, u48, u49, u50, u51, u52, u53, u54, u55, u56, u57, u58, u59, u60, u61, u62, u63, u64, u65, u66, u67, u68, u69, u70, u71, u72, u73, u74, u75, u76, u77, u78, u79, u80, u81, u82, u83, u84, u85, u86, u87, u88, u89, u90, u91, u92, u93, u94, u95, u96, u97, u98, u99, u100, u101, u102, u103, u104, u105, u106, u107, u108, u109, u110, u111, u112, u113, u114, u115, u116, u117, u118, u119, u120, u121, u122, u123, u124, u125, u126, u127, u128, u129, u130, u131, u132, u133, u134, u135, u136, u137, u138, u139, u140, u141, u142, u143, v144, v145, v146, v147, v148, v149, v150, v151, v152, v153, v154, v155, v156, v157, .bool false, u159], defers := [] } W)) :
    t27Reg.wp Tryz.prog Q { tmps := #[u0, u1, .slice (some ⟨kb, ko, none⟩) n kc, u3, u4, u5, u6, u7, u8, u9, u10, u11, u12, u13, u14, .pointer (some ⟨g15, 0, none⟩), .pointer (some ⟨g16, 0, none⟩), u17, u18, u19, .int .i64 (i : Int), .pointer (some ⟨g21, 0, none⟩), .int .i64 0, u23, u24, u25, u26, u27, u28, u29, u30, u31, u32, u33, u34, u35, u36, u37, u38, u39, u40, u41, u42, u43, u44, u45, u46, u47, u48, u49, u50, u51, u52, u53, u54, u55, u56, u57, u58, u59, u60, u61, u62, u63, u64, u65, u66, u67, u68, u69, u70, u71, u72, u73, u74, u75, u76, u77, u78, u79, u80, u81, u82, u83, u84, u85, u86, u87, u88, u89, u90, u91, u92, u93, u94, u95, u96, u97, u98, u99, u100, u101, u102, u103, u104, u105, u106, u107, u108, u109, u110, u111, u112, u113, u114, u115, u116, u117, u118, u119, u120, u121, u122, u123, u124, u125, u126, u127, u128, u129, u130, u131, u132, u133, u134, u135, u136, u137, u138, u139, u140, u141, u142, u143, u144, u145, u146, u147, u148, u149, u150, u151, u152, u153, u154, u155, u156, u157, u158, u159], defers := [] } wr := by
  simp only [t27Reg, Tryz.f3, Option.getD, regionsOf, List.append_eq, List.nil_append, List.append_nil, List.cons_append, List.getD, List.getElem?_cons_succ, List.getElem?_cons_zero]
  refine wp_region_noPanic ?_
  have hS9 := keepP ⟨Below.refl _ _, hS⟩ (Below.refl wr.heap.size wr).drew
  refine wp_region_held_drew (S := fun W => Below wr.heap.size wr W ∧ W.cell? ⟨g16, 0, none⟩ = some (.string d.sl) ∧ W.cell? ⟨g16, 1, none⟩ = some (.int .i64 d.frm) ∧ W.cell? ⟨g16, 2, none⟩ = some (.int .i64 d.to_) ∧ W.cell? ⟨g16, 3, none⟩ = some (.int .i64 d.time) ∧ W.cell? ⟨g16, 4, none⟩ = some (.int .i64 d.count) ∧ W.cell? ⟨g16, 5, none⟩ = some (.int .i64 d.root) ∧ W.cell? ⟨g16, 6, none⟩ = some (.int .i64 d.give) ∧ W.cell? ⟨g16, 7, none⟩ = some (.int .i64 d.take) ∧ W.cell? ⟨g15, 5, none⟩ = some (.slice (some ⟨cb, co, none⟩) ln lc) ∧ W.cell? ⟨cb, co + i, none⟩ = some (.string s) ∧ W.cell? ⟨g21, 0, none⟩ = some (.int .i64 (i : Int)) ∧ W.cell? ⟨g21, 1, none⟩ = some (.slice q pn qc)) (by kernel_rfl) hS9 (fun hHeld => ?_)
  clear hS9 hS
  refine wpAnyH_take (i := 0) (v := ?v0) rfl (by kernel_rfl) (by kernel_rfl) (by kernel_rfl) (fun _ _ _ h => h) (Or.inl ⟨by rfl, ?hy0⟩) hHeld ?rest0
  case hy0 => (intro w0 hSw; (try dsimp only at hSw); go_simp; all_goals with_reducible rfl)
  try simp only [Act.put, List.getElem_toArray, List.getElem_cons_zero, List.getElem_cons_succ, List.setIfInBounds_toArray, List.set_cons_zero, List.set_cons_succ]
  refine wpAnyH_take (i := 1) (v := ?v1) rfl (by kernel_rfl) (by kernel_rfl) (by kernel_rfl) (fun _ _ _ h => h) (Or.inl ⟨by rfl, ?hy1⟩) hHeld ?rest1
  case hy1 => (intro w0 hSw; (try dsimp only at hSw); go_simp; all_goals with_reducible rfl)
  try simp only [Act.put, List.getElem_toArray, List.getElem_cons_zero, List.getElem_cons_succ, List.setIfInBounds_toArray, List.set_cons_zero, List.set_cons_succ]
  refine wpAnyH_take (i := 2) (v := ?v2) rfl (by kernel_rfl) (by kernel_rfl) (by kernel_rfl) (fun _ _ _ h => h) (Or.inl ⟨by rfl, ?hy2⟩) hHeld ?rest2
  case hy2 => (intro w0 hSw; (try dsimp only at hSw); go_simp; all_goals with_reducible rfl)
  try simp only [Act.put, List.getElem_toArray, List.getElem_cons_zero, List.getElem_cons_succ, List.setIfInBounds_toArray, List.set_cons_zero, List.set_cons_succ]
  refine wpAnyH_take (i := 3) (v := ?v3) rfl (by kernel_rfl) (by kernel_rfl) (by kernel_rfl) (fun _ _ _ h => h) (Or.inl ⟨by rfl, ?hy3⟩) hHeld ?rest3
  case hy3 => (intro w0 hSw; (try dsimp only at hSw); go_simp; all_goals with_reducible rfl)
  try simp only [Act.put, List.getElem_toArray, List.getElem_cons_zero, List.getElem_cons_succ, List.setIfInBounds_toArray, List.set_cons_zero, List.set_cons_succ]
  refine wpAnyH_take (i := 4) (v := ?v4) rfl (by kernel_rfl) (by kernel_rfl) (by kernel_rfl) (fun _ _ _ h => h) (Or.inl ⟨by rfl, ?hy4⟩) hHeld ?rest4
  case hy4 => (intro w0 hSw; (try dsimp only at hSw); go_simp; all_goals with_reducible rfl)
  try simp only [Act.put, List.getElem_toArray, List.getElem_cons_zero, List.getElem_cons_succ, List.setIfInBounds_toArray, List.set_cons_zero, List.set_cons_succ]
  refine wpAnyH_take (i := 5) (v := ?v5) rfl (by kernel_rfl) (by kernel_rfl) (by kernel_rfl) (fun _ _ _ h => h) (Or.inl ⟨by rfl, ?hy5⟩) hHeld ?rest5
  case hy5 => (intro w0 hSw; (try dsimp only at hSw); go_simp; all_goals with_reducible rfl)
  try simp only [Act.put, List.getElem_toArray, List.getElem_cons_zero, List.getElem_cons_succ, List.setIfInBounds_toArray, List.set_cons_zero, List.set_cons_succ]
  refine wpAnyH_take (i := 6) (v := ?v6) rfl (by kernel_rfl) (by kernel_rfl) (by kernel_rfl) (fun _ _ _ h => h) (Or.inl ⟨by rfl, ?hy6⟩) hHeld ?rest6
  case hy6 => (intro w0 hSw; (try dsimp only at hSw); go_simp; all_goals with_reducible rfl)
  try simp only [Act.put, List.getElem_toArray, List.getElem_cons_zero, List.getElem_cons_succ, List.setIfInBounds_toArray, List.set_cons_zero, List.set_cons_succ]
  refine wpAnyH_take (i := 7) (v := ?v7) rfl (by kernel_rfl) (by kernel_rfl) (by kernel_rfl) (fun _ _ _ h => h) (Or.inl ⟨by rfl, ?hy7⟩) hHeld ?rest7
  case hy7 => (intro w0 hSw; (try dsimp only at hSw); go_simp; all_goals with_reducible rfl)
  try simp only [Act.put, List.getElem_toArray, List.getElem_cons_zero, List.getElem_cons_succ, List.setIfInBounds_toArray, List.set_cons_zero, List.set_cons_succ]
  refine wpAnyH_take (i := 8) (v := ?v8) rfl (by kernel_rfl) (by kernel_rfl) (by kernel_rfl) (fun _ _ _ h => h) (Or.inl ⟨by rfl, ?hy8⟩) hHeld ?rest8
  case hy8 => (intro w0 hSw; (try dsimp only at hSw); go_simp; all_goals with_reducible rfl)
  try simp only [Act.put, List.getElem_toArray, List.getElem_cons_zero, List.getElem_cons_succ, List.setIfInBounds_toArray, List.set_cons_zero, List.set_cons_succ]
  refine wpAnyH_take (i := 9) (v := ?v9) rfl (by kernel_rfl) (by kernel_rfl) (by kernel_rfl) (fun _ _ _ h => h) (Or.inl ⟨by rfl, ?hy9⟩) hHeld ?rest9
  case hy9 => (intro w0 hSw; (try dsimp only at hSw); go_simp; all_goals with_reducible rfl)
  try simp only [Act.put, List.getElem_toArray, List.getElem_cons_zero, List.getElem_cons_succ, List.setIfInBounds_toArray, List.set_cons_zero, List.set_cons_succ]
  refine wpAnyH_take (i := 10) (v := ?v10) rfl (by kernel_rfl) (by kernel_rfl) (by kernel_rfl) (fun _ _ _ h => h) (Or.inl ⟨by rfl, ?hy10⟩) hHeld ?rest10
  case hy10 => (intro w0 hSw; (try dsimp only at hSw); go_simp; all_goals with_reducible rfl)
  try simp only [Act.put, List.getElem_toArray, List.getElem_cons_zero, List.getElem_cons_succ, List.setIfInBounds_toArray, List.set_cons_zero, List.set_cons_succ]
  refine wpAnyH_take (i := 11) (v := ?v11) rfl (by kernel_rfl) (by kernel_rfl) (by kernel_rfl) (fun _ _ _ h => h) (Or.inl ⟨by rfl, ?hy11⟩) hHeld ?rest11
  case hy11 => (intro w0 hSw; (try dsimp only at hSw); go_simp; all_goals with_reducible rfl)
  try simp only [Act.put, List.getElem_toArray, List.getElem_cons_zero, List.getElem_cons_succ, List.setIfInBounds_toArray, List.set_cons_zero, List.set_cons_succ]
  refine wpAnyH_ready (rs := [12]) (by kernel_rfl) (by simp) ?_
  refine AllReadyH.cons rfl (fun K hK => ?_) AllReadyH.nil
  go_simp
  refine verify_c kb ko n kc keys d s i q pn qc path _ _ (HKy.out.next hHeld.1) HDo.out HLab.out HG.out HTk.out HSl.out HCt.out Hpn.out hpn (HI.out.keep (Keeps.of_below hHeld.1)) HRg.out ?_
  rw [HV.out]
  intro w2 hb2
  refine hK.out _ _ (keepP hHeld hb2) (fun hHeld' => ?_)
  clear hK K hHeld
  have hHeld := hHeld'
  clear hHeld'
  try simp only [Act.put, List.getElem_toArray, List.getElem_cons_zero, List.getElem_cons_succ, List.setIfInBounds_toArray, List.set_cons_zero, List.set_cons_succ]
  refine wpAnyH_take (i := 13) (v := ?v13) rfl (by kernel_rfl) (by kernel_rfl) (by kernel_rfl) (fun _ _ _ h => h) (Or.inl ⟨by rfl, ?hy13⟩) hHeld ?rest13
  case hy13 => (intro w0 hSw; (try dsimp only at hSw); go_simp; all_goals with_reducible rfl)
  try simp only [Act.put, List.getElem_toArray, List.getElem_cons_zero, List.getElem_cons_succ, List.setIfInBounds_toArray, List.set_cons_zero, List.set_cons_succ]
  refine wpAnyH_take (i := 14) (v := ?v14) rfl (by kernel_rfl) (by kernel_rfl) (by kernel_rfl) (fun _ _ _ h => h) (Or.inl ⟨by rfl, ?hy14⟩) hHeld ?rest14
  case hy14 => (intro w0 hSw; (try dsimp only at hSw); go_simp; all_goals with_reducible rfl)
  try simp only [Act.put, List.getElem_toArray, List.getElem_cons_zero, List.getElem_cons_succ, List.setIfInBounds_toArray, List.set_cons_zero, List.set_cons_succ]
  refine wpAnyH_done (by kernel_rfl) ?_ _
  refine NoPanic.normal ?_
  exact HN.out _ _ _ _ _ _ _ _ _ _ _ _ _ _ _ hHeld.1
end Go.Proofs.YtkabghifdedmfaaGreatDoor
