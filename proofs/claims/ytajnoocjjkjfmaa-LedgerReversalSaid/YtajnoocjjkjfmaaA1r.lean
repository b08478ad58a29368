import Derived.Test.YtajnoocjjkjfmaaA0
set_option linter.unusedVariables false
set_option linter.unusedSimpArgs false
namespace Go.Proofs.Ytajnoocjjkjfmaa
open Go.RowKit Go.Shelf
attribute [local go_sem] Oper.semAt_some
def regionsOf : Code → List Code
  | .seq a b => regionsOf a ++ regionsOf b
  | .block _ c => regionsOf c
  | .cond _ a b => regionsOf a ++ regionsOf b
  | .scope c => regionsOf c
  | .loop c => regionsOf c
  | .region i o d => [.region i o d]
  | _ => []
noncomputable def adjReg11 : Code := (regionsOf (Try.f17.body.getD .skip)).getD 11 .skip
set_option maxRecDepth 100000 in
set_option maxHeartbeats 4000000 in
theorem adj_region11 (Q : Exit → Act → World → Prop) (ba bb oa ob gd n cap cap' k : Nat) (x y z0 : Int) (wr : World) (hn : n ≤ 100) (hk : k < n) (hx : -1000000000 ≤ x ∧ x ≤ 1000000000) (hy : -1000000000 ≤ y ∧ y ≤ 1000000000)
    (hcx : wr.cell? ⟨ba, oa + k, none⟩ = some (.int .i64 x)) (hcy : wr.cell? ⟨bb, ob + k, none⟩ = some (.int .i64 y)) (hcd : wr.cell? ⟨gd, k, none⟩ = some (.int .i64 z0)) (hfd : wr.frozen? ⟨gd, k, none⟩ = false)
    (u2 u3 u4 u5 u6 u7 u8 u9 u12 u13 u14 u15 u16 u17 u18 u19 u20 u21 u22 u23 u24 u25 u26 u27 u28 u29 u30 u31 u32 u33 u34 u35 u36 u37 u38 u39 u40 u41 u42 u43 u44 u45 u46 u47 u48 u49 u50 u51 u52 u53 u54 u55 u56 u57 u58 u59 u60 u61 u62 u63 u64 u65 u66 u67 u68 u69 u70 u71 u72 u73 u74 u75 u76 u77 u78 u79 u80 u81 u82 u83 u84 u85 u86 : Value)
    (HN : Hid (∀ v54 v55 v56 v57 v58 v59 v60 v61 v62 v63 v64 v65, Q .normal { tmps := #[.slice (some ⟨ba, oa, none⟩) n cap, .slice (some ⟨bb, ob, none⟩) n cap', u2, u3, u4, u5, u6, u7, u8, u9, .slice (some ⟨gd, 0, none⟩) n n, .int .i64 k, u12, u13, u14, u15, u16, u17, u18, u19, u20, u21, u22, u23, u24, u25, u26, u27, u28, u29, u30, u31, u32, u33, u34, u35, u36, u37, u38, u39, u40, u41, u42, u43, u44, u45, u46, u47, u48, u49, u50, u51, u52, u53, v54, v55, v56, v57, v58, v59, v60, v61, v62, v63, v64, v65, u66, u67, u68, u69, u70, u71, u72, u73, u74, u75, u76, u77, u78, u79, u80, u81, u82, u83, u84, u85, u86], defers := [] } (wr.setCell ⟨gd, k, none⟩ (.int .i64 (y - x))).drew)) :
    adjReg11.wpIn Fence.wide 9 Try.prog Q { tmps := #[.slice (some ⟨ba, oa, none⟩) n cap, .slice (some ⟨bb, ob, none⟩) n cap', u2, u3, u4, u5, u6, u7, u8, u9, .slice (some ⟨gd, 0, none⟩) n n, .int .i64 k, u12, u13, u14, u15, u16, u17, u18, u19, u20, u21, u22, u23, u24, u25, u26, u27, u28, u29, u30, u31, u32, u33, u34, u35, u36, u37, u38, u39, u40, u41, u42, u43, u44, u45, u46, u47, u48, u49, u50, u51, u52, u53, u54, u55, u56, u57, u58, u59, u60, u61, u62, u63, u64, u65, u66, u67, u68, u69, u70, u71, u72, u73, u74, u75, u76, u77, u78, u79, u80, u81, u82, u83, u84, u85, u86], defers := [] } wr := by
  simp only [adjReg11, Try.f17, Option.getD, regionsOf, List.nil_append, List.append_nil, List.cons_append, List.getD, List.getElem?_cons_succ, List.getElem?_cons_zero]
  gi_region
  all_goals exact HN.out _ _ _ _ _ _ _ _ _ _ _ _
end Go.Proofs.Ytajnoocjjkjfmaa
