import Derived.Test.YtajnoocjjkjfmaaA1r
set_option linter.unusedVariables false
set_option linter.unusedSimpArgs false
namespace Go.Proofs.Ytajnoocjjkjfmaa
open Go.RowKit Go.Shelf
attribute [local go_sem] Oper.semAt_some
def rangesOf : Code → List Code
  | .seq a b => rangesOf a ++ rangesOf b
  | .block _ c => rangesOf c
  | .cond _ a b => rangesOf a ++ rangesOf b
  | .scope c => rangesOf c
  | .loop c => rangesOf c
  | .rangeFunc f p a b => [.rangeFunc f p a b]
  | _ => []
noncomputable def adjRange : Code := (rangesOf (Try.f17.body.getD .skip)).headD .skip

section
variable {W W' : World} {row : Option Nat} {gd Bs : Nat}
theorem boxed_keptT {B : Nat} {t : TypeId} {v : Value} (h : Boxed W B t v) (hg : W.grownBy W' row) (hr : ∀ r, row = some r → r = gd ∨ (Bs ≤ r ∧ ∃ o : Obj, W.heap[r]? = some o ∧ o.isCells = false)) (hne : B ≠ gd) : Boxed W' B t v :=
  h.kept hg (fun e => by
    rcases hr B e.symm with h1 | ⟨_, o, ho, hc⟩
    · exact hne h1
    · rw [show W.heap[B]? = _ from h] at ho; cases ho; cases hc)
theorem own_keptT {base : Nat} {e : TypeId} {size n : Nat} {v : Value} {xs : List Value} (h : W.ownsRow base e size v n xs) (hg : W.grownBy W' row) (hr : ∀ r, row = some r → r = gd ∨ (Bs ≤ r ∧ ∃ o : Obj, W.heap[r]? = some o ∧ o.isCells = false)) (hb : gd < base) : W'.ownsRow base e size v n xs := by
  rcases h.2 with ⟨h1, _⟩ | ⟨g, cap, cur, h1, hgb, hc, _⟩
  · exact h.kept hg (.inl (by rw [h1]; rfl))
  · refine h.kept hg (.inr ?_)
    rw [h1]
    intro e'
    rcases hr g e'.symm with h2 | ⟨_, o, ho, hcc⟩
    · omega
    · rw [hc] at ho; cases ho; cases hcc
theorem below_keptT {w : World} (h : Below w.heap.size w W) (hg : W.grownBy W' row) (hr : ∀ r, row = some r → r = gd ∨ (Bs ≤ r ∧ ∃ o : Obj, W.heap[r]? = some o ∧ o.isCells = false)) (h1 : w.heap.size ≤ gd) (h2 : w.heap.size ≤ Bs) : Below w.heap.size w W' :=
  h.grown hg h.size (fun k e => by rcases hr k e with h3 | ⟨h3, _⟩ <;> omega)
theorem cell_keptT {B i : Nat} {v : Value} (h : W.cell? ⟨B, i, none⟩ = some v) (hg : W.grownBy W' row) (hr : ∀ r, row = some r → r = gd ∨ (Bs ≤ r ∧ ∃ o : Obj, W.heap[r]? = some o ∧ o.isCells = false)) (hne : B ≠ gd) : W'.cell? ⟨B, i, none⟩ = some v := by
  obtain ⟨o, ho, hc⟩ := cells_of_cell h
  refine (World.cell?_of_block (w := W) (hg.block B (Array.getElem?_eq_some_iff.1 ho).1 ?_)).trans h
  intro e
  rcases hr B e.symm with h1 | ⟨_, o', ho', hc'⟩
  · exact hne h1
  · rw [show W.heap[B]? = some o from ho] at ho'; cases ho'; rw [hc'] at hc; cases hc
end

theorem own_monoE {w : World} {base base' : Nat} {e : TypeId} {size : Nat} {v : Value} {n : Nat} {xs : List Value} (h : w.ownsRow base e size v n xs) (hb : base' ≤ base) : w.ownsRow base' e size v n xs := by
  refine ⟨h.1, ?_⟩
  rcases h.2 with h1 | ⟨g, cap, cur, a, b, c⟩
  · exact .inl h1
  · exact .inr ⟨g, cap, cur, a, Nat.le_trans hb b, c⟩
theorem kept_append {W w1 : World} {base k B m : Nat} {v v' : Value} {xs : List Value} {tmp : Obj} (hrow : W.ownsRow base 34 4 v m xs) (hgrow : (W.alloc tmp).grownBy w1 v.ownBlock) (hk : k < base) (hkW : k < W.heap.size) (hne : k ≠ B) : (w1.setCell ⟨B, 0, none⟩ v').heap[k]? = W.heap[k]? := by
  rw [Below.heap_setCell _ _ _ _ hne]
  refine (hgrow.block k (by simp; omega) ?_).trans (Below.heap_alloc _ _ _ hkW)
  rcases hrow.2 with ⟨rfl, _⟩ | ⟨g, cap, cur, rfl, hb, _, _⟩
  · simp [Value.ownBlock]
  · intro e
    have : k = g := by simpa [Value.ownBlock] using e
    omega
theorem ent_src (W : World) (x : Ent) (t : TypeId) : ∀ j u, (entCells x)[j]? = some u → (W.alloc (.cells #[.int .i64 x.fr, .int .i64 x.to_, .int .i64 x.am, .string x.ref] t)).cell? ((⟨W.heap.size, 0, none⟩ : Addr).add j) = some u := by
  intro j u hj
  rcases j with _ | _ | _ | _ | j <;> simp [entCells] at hj <;> subst hj <;> simp [Addr.add]
theorem ent_one (x : Ent) : ∀ u ∈ entCells x, u.oneCell' = true := by
  intro u hu
  simp [entCells] at hu
  rcases hu with rfl | rfl | rfl | rfl <;> rfl

/-- What the range over the settlement keeps. -/
def AI (w W0 : World) (B12 : Nat) (pre : List Ent) (W : World) : Prop :=
  (∃ v, Boxed W B12 22 v ∧ W.ownsRow W0.heap.size 34 4 v pre.length (pre.flatMap entCells)) ∧ Below w.heap.size w W ∧ Boxed W w.heap.size 22 (.slice none 0 0) ∧ Boxed W (w.heap.size + 1) 26 (.int .i64 0) ∧ W0.heap.size ≤ W.heap.size ∧ pre.any (fun e => decide (1000000000 < e.am)) = false
def AX (w : World) (c : Code) (pre : List Ent) (W : World) : Prop :=
  c = .ret ∧ Below w.heap.size w W ∧ Boxed W w.heap.size 22 (.slice none 0 0) ∧ Boxed W (w.heap.size + 1) 26 (.int .i64 2) ∧ pre.any (fun e => decide (1000000000 < e.am)) = true
theorem AI_own {w W0 : World} {B12 gd : Nat} (hgd : gd = w.heap.size + 2) (h12 : B12 ≠ gd) (hlt : gd < W0.heap.size) : OwnT gd W0.heap.size (AI w W0 B12) := by
  rintro s W W' row ⟨⟨v, h1, h2⟩, h3, h4, h5, h6, h7⟩ hg hr
  exact ⟨⟨v, boxed_keptT h1 hg hr h12, own_keptT h2 hg hr hlt⟩, below_keptT h3 hg hr (by omega) (by omega), boxed_keptT h4 hg hr (by omega), boxed_keptT h5 hg hr (by omega), Nat.le_trans h6 hg.size, h7⟩
theorem AX_own {w W0 : World} {gd : Nat} (hgd : gd = w.heap.size + 2) (hlt : gd < W0.heap.size) (c : Code) : OwnT gd W0.heap.size (AX w c) := by
  rintro s W W' row ⟨h1, h3, h4, h5, h7⟩ hg hr
  exact ⟨h1, below_keptT h3 hg hr (by omega) (by omega), boxed_keptT h4 hg hr (by omega), boxed_keptT h5 hg hr (by omega), h7⟩

set_option maxRecDepth 100000 in
set_option maxHeartbeats 4000000 in
theorem adj_range (Q : Exit → Act → World → Prop) (n cap B12 B1 B2 gd : Nat) (ref : ByteArray) (d : List Int) (w W0 : World) (hgd : gd = w.heap.size + 2) (hlt : gd < W0.heap.size) (h12 : B12 < W0.heap.size) (hb1 : B1 < W0.heap.size) (hb2 : B2 < W0.heap.size) (n12 : gd < B12) (n1 : B12 < B1) (n2 : B12 < B2)
    (hn : d.length = n) (hn1 : n ≤ 100) (hbd : ∀ t, -2000000000 ≤ d.getD t 0 ∧ d.getD t 0 ≤ 2000000000)
    (hown : W0.ownsRow w.heap.size 3 1 (.slice (some ⟨gd, 0, none⟩) n cap) n (d.map (Value.int .i64))) (c1 : W0.cell? ⟨B1, 0, none⟩ = some (.slice (some ⟨gd, 0, none⟩) n cap)) (c2 : W0.cell? ⟨B2, 0, none⟩ = some (.string ref)) (h0 : AI w W0 B12 [] W0)
    (u0 u1 u2 u3 u4 u5 u8 u9 u10 u11 u13 u14 u15 u16 u17 u18 u19 u20 u21 u22 u23 u24 u25 u26 u27 u28 u29 u30 u31 u32 u33 u34 u35 u36 u37 u38 u39 u40 u41 u42 u43 u44 u45 u46 u47 u48 u49 u50 u51 u52 u53 u54 u55 u56 u57 u58 u59 u60 u61 u62 u63 u64 u65 u66 u67 u68 u69 u70 u71 u72 u73 u74 u75 u76 u78 u79 u80 u81 u82 u83 u84 u85 u86 : Value)
    (HN : Hid (∀ D W, W0.heap.size ≤ D → AI w W0 B12 (settleL ref d) W → W.heap[D]? = some (.deferred (some [])) → Q .normal { tmps := #[u0, u1, u2, u3, u4, u5, .pointer (some ⟨w.heap.size, 0, none⟩), .pointer (some ⟨w.heap.size + 1, 0, none⟩), u8, u9, u10, u11, .pointer (some ⟨B12, 0, none⟩), u13, u14, u15, u16, u17, u18, u19, u20, u21, u22, u23, u24, u25, u26, u27, u28, u29, u30, u31, u32, u33, u34, u35, u36, u37, u38, u39, u40, u41, u42, u43, u44, u45, u46, u47, u48, u49, u50, u51, u52, u53, u54, u55, u56, u57, u58, u59, u60, u61, u62, u63, u64, u65, u66, u67, u68, u69, u70, u71, u72, u73, u74, u75, u76, .func (.func 36) #[] #[.pointer (some ⟨B1, 0, none⟩), .pointer (some ⟨B2, 0, none⟩)], u78, u79, u80, u81, u82, u83, u84, u85, u86], defers := [{ target := .collected D, args := #[] }] } W))
    (HRt : Hid (∀ D W, W0.heap.size ≤ D → AX w .ret ((settleL ref d)) W → W.heap[D]? = some (.deferred (some [])) → Q .ret { tmps := #[u0, u1, u2, u3, u4, u5, .pointer (some ⟨w.heap.size, 0, none⟩), .pointer (some ⟨w.heap.size + 1, 0, none⟩), u8, u9, u10, u11, .pointer (some ⟨B12, 0, none⟩), u13, u14, u15, u16, u17, u18, u19, u20, u21, u22, u23, u24, u25, u26, u27, u28, u29, u30, u31, u32, u33, u34, u35, u36, u37, u38, u39, u40, u41, u42, u43, u44, u45, u46, u47, u48, u49, u50, u51, u52, u53, u54, u55, u56, u57, u58, u59, u60, u61, u62, u63, u64, u65, u66, u67, u68, u69, u70, u71, u72, u73, u74, u75, u76, .func (.func 36) #[] #[.pointer (some ⟨B1, 0, none⟩), .pointer (some ⟨B2, 0, none⟩)], u78, u79, u80, u81, u82, u83, u84, u85, u86], defers := [{ target := .collected D, args := #[] }] } W)) :
    adjRange.wpIn Fence.wide 9 Try.prog Q { tmps := #[u0, u1, u2, u3, u4, u5, .pointer (some ⟨w.heap.size, 0, none⟩), .pointer (some ⟨w.heap.size + 1, 0, none⟩), u8, u9, u10, u11, .pointer (some ⟨B12, 0, none⟩), u13, u14, u15, u16, u17, u18, u19, u20, u21, u22, u23, u24, u25, u26, u27, u28, u29, u30, u31, u32, u33, u34, u35, u36, u37, u38, u39, u40, u41, u42, u43, u44, u45, u46, u47, u48, u49, u50, u51, u52, u53, u54, u55, u56, u57, u58, u59, u60, u61, u62, u63, u64, u65, u66, u67, u68, u69, u70, u71, u72, u73, u74, u75, u76, .func (.func 36) #[] #[.pointer (some ⟨B1, 0, none⟩), .pointer (some ⟨B2, 0, none⟩)], u78, u79, u80, u81, u82, u83, u84, u85, u86], defers := [] } W0 := by
  simp only [adjRange, Try.f17, Option.getD, rangesOf, List.nil_append, List.append_nil, List.cons_append, List.headD]
  refine rangeFunc_T rfl (by omega) (gf := 36) (lb := #[.pointer (some ⟨B1, 0, none⟩), .pointer (some ⟨B2, 0, none⟩)]) rfl trivial (enters_of Try.func36 (by kernel_rfl) rfl)
    (settle_seq _ (by omega) B1 B2 gd n cap w.heap.size ref d hn hn1 hbd (by omega) (by omega) W0 hown c1 c2) hlt (by rintro k (rfl | rfl | rfl) <;> assumption) (fun _ => rfl)
    (AI w W0 B12) (AX w) (AI_own hgd (by omega) hlt) (AX_own hgd hlt) h0
    (fun x a' W => ∃ Bx, a' = { tmps := #[u0, u1, u2, u3, u4, u5, .pointer (some ⟨w.heap.size, 0, none⟩), .pointer (some ⟨w.heap.size + 1, 0, none⟩), u8, u9, u10, u11, .pointer (some ⟨B12, 0, none⟩), .pointer (some ⟨Bx, 0, none⟩), u14, u15, u16, u17, u18, u19, u20, u21, u22, u23, u24, u25, u26, u27, u28, u29, u30, u31, u32, u33, u34, u35, u36, u37, u38, u39, u40, u41, u42, u43, u44, u45, u46, u47, u48, u49, u50, u51, u52, u53, u54, u55, u56, u57, u58, u59, u60, u61, u62, u63, u64, u65, u66, u67, u68, u69, u70, u71, u72, u73, u74, u75, u76, .func (.func 36) #[] #[.pointer (some ⟨B1, 0, none⟩), .pointer (some ⟨B2, 0, none⟩)], entAgg x, u79, u80, u81, u82, u83, u84, u85, u86], defers := [] } ∧ W0.heap.size ≤ Bx ∧ W.cell? ⟨Bx, 0, none⟩ = some (.int .i64 x.fr) ∧ W.cell? ⟨Bx, 1, none⟩ = some (.int .i64 x.to_) ∧ W.cell? ⟨Bx, 2, none⟩ = some (.int .i64 x.am) ∧ W.cell? ⟨Bx, 3, none⟩ = some (.string x.ref))
    ?own ?assign ?body ?done ?stop
  case own =>
    rintro a' x W W' row ⟨Bx, h1, h2, h3, h4, h5, h6⟩ hg hr
    exact ⟨Bx, h1, h2, cell_keptT h3 hg hr (by omega), cell_keptT h4 hg hr (by omega), cell_keptT h5 hg hr (by omega), cell_keptT h6 hg hr (by omega)⟩
  case assign =>
    intro l pre x W K' hI hK
    dsimp only [encE, entAgg]
    gi_wp2
    have hsz := hI.2.2.2.2.1
    exact hK _ _ (KeepsOthers.alloc _ _) (fun k hk => Below.heap_alloc _ _ _ (by rcases hk with rfl | rfl | rfl <;> omega)) (AI_own hgd (by omega) hlt pre W _ none hI (World.grownBy_alloc _ _ none) (fun r e => by cases e)) ⟨W.heap.size, rfl, hsz, cell_new, cell_new, cell_new, cell_new⟩
  case body =>
    rintro l pre x a' W ⟨⟨v, hv, hrow⟩, hB, hb6, hb7, hsz, hall⟩ hlen ⟨Bx, rfl, hBx, e0, e1, e2, e3⟩
    have c6 := hb6.cell; have c7 := hb7.cell; have f6 := hb6.frozen; have f7 := hb7.frozen; have c12 := hv.cell
    by_cases hx : 1000000000 < x.am
    · gi_wp2
      refine ⟨(KeepsOthers.setCell _ _ _).trans (KeepsOthers.setCell _ _ _), rfl, below_set (below_set hB _ 0 _ (Nat.le_refl _)) _ 0 _ (by omega), (hb6.set _).other (by omega) _, (hb7.other (by omega) _).set _, ?_⟩
      rw [List.any_append]; simp [hx]
    · obtain ⟨i0, hi, hz0, hz1, hz2⟩ := info_parts Try.info34
      gi_wp2_with (gi_at_builtin; refine Stop.out ?_)
      refine Stop.go ?_
      refine wpListIn_append_own _ rfl (.tmp 82) (.tmp 84) 22 rfl W0.heap.size 34 i0 (.agg #[.int .i64 0, .int .i64 0, .int .i64 0, .string ⟨#[]⟩]) 4 40 Try.underlying22 hi hz0 hz1 hz2 rfl (by decide) v pre.length (pre.flatMap entCells) rfl (hrow.alloc _) ⟨W.heap.size, 0, none⟩ 1 1 (entCells x) rfl rfl (ent_src _ _ _) (ent_one x) (by unfold maxLen; omega) (by omega) (by simp; omega) ?_
      intro v' w1 hown' hgrow _
      obtain ⟨g', cap', rfl⟩ := ownsRow_succ hown'
      obtain ⟨hv1, hv2, hr2, hk2, hb2⟩ := hv.appended (n₀ := B12) (by decide) (own_monoE hrow (by omega)) (by omega) (Nat.le_refl _) (own_monoE hown' (by omega)) hgrow
      have hc1 := hv1.cell
      have hf1 := hv1.frozen
      gi_wp2
      have hg' := (hown'.lt g' rfl).1
      refine ⟨hk2, ?_, ⟨_, hv2, ?_⟩, hB.trans (hb2.mono (by omega)), (kept_append hrow hgrow (by omega) (by omega) (by omega)).trans hb6, (kept_append hrow hgrow (by omega) (by omega) (by omega)).trans hb7, Nat.le_trans hsz hb2.size, ?_⟩
      · rintro k (rfl | rfl | rfl) <;> exact kept_append hrow hgrow (by omega) (by omega) (by omega)
      · have := own_other hown' B12 0 (.slice (some ⟨g', 0, none⟩) (pre.length + 1) cap') (by omega)
        simpa using this
      · rw [List.any_append, hall]; simp [hx]
  case done =>
    intro D xs W hD hS hI hd
    subst hS
    exact HN.out D W hD hI hd
  case stop =>
    rintro D c pre W hD ⟨k, hk⟩ hI hd
    obtain ⟨rfl, h3, h4, h5, h7⟩ := hI
    gi_wp2
    refine HRt.out D W hD ⟨rfl, h3, h4, h5, ?_⟩ hd
    rw [hk] at h7
    obtain ⟨e, he, hp⟩ := List.any_eq_true.1 h7
    exact List.any_eq_true.2 ⟨e, List.mem_of_mem_take he, hp⟩
end Go.Proofs.Ytajnoocjjkjfmaa
