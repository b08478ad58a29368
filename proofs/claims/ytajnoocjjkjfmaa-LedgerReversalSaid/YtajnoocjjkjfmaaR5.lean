import Derived.Test.YtajnoocjjkjfmaaL2
import Derived.Deep.RegionHeld3
import Derived.Test.YtajnoocjjkjfmaaA1r
set_option linter.unusedVariables false
set_option linter.unusedSimpArgs false
namespace Go.Proofs.Ytajnoocjjkjfmaa
open Go.RowKit

noncomputable def revReg5 : Code := (regionsOf (Try.f5.body.getD .skip)).getD 5 .skip
noncomputable def revReg6 : Code := (regionsOf (Try.f5.body.getD .skip)).getD 6 .skip
def revE (x : Ent) : Ent := ⟨x.to_, x.fr, x.am, ⟨#[]⟩⟩
def lit0 : Obj := .cells #[] 34
theorem ewf_rev {x : Ent} (h : EWf [x]) : EWf [x, revE x] := fun e he => by
  have h1 := h x (by simp)
  simp at he
  rcases he with rfl | rfl
  · exact h1
  · exact ⟨h1.2.1, h1.1, h1.2.2.1, by show (⟨#[]⟩ : ByteArray).size ≤ maxLen; decide⟩
theorem ung {w w1 : World} {r : Option Nat} (h : w.drew.grownBy w1 r) : w.grownBy w1 r := ⟨h.os, h.tape, h.output, h.size, h.block⟩
theorem litA1 (w : World) : (w.alloc (.cells #[] 34)).ownsRow w.heap.size 34 4 (.slice (some ⟨w.heap.size, 0, none⟩) 0 0) 0 [] := lit_own w
theorem litA2 (w : World) (o : Obj) : ((w.alloc (.cells #[] 34)).alloc o).ownsRow w.heap.size 34 4 (.slice (some ⟨w.heap.size, 0, none⟩) 0 0) 0 [] := (lit_own w).alloc o
theorem litA3 (w : World) (o : Obj) : ((w.alloc o).alloc (.cells #[] 34)).ownsRow w.heap.size 34 4 (.slice (some ⟨w.heap.size + 1, 0, none⟩) 0 0) 0 [] := by
  have h := own_mono (lit_own (w.alloc o)) (base' := w.heap.size) (by simp)
  rw [World.size_alloc] at h; exact h
theorem srcN {w : World} {k : Nat} {xs : List Value} (t : TypeId) (h : xs.length = k * 4) : Src (w.alloc (.cells xs.toArray t)) (some ⟨w.heap.size, 0, none⟩) k 4 xs :=
  ⟨h, fun _ => ⟨_, rfl, fun j u hu => by rw [Addr.add_lit, Nat.zero_add, cell_new]; simpa using hu⟩⟩
theorem srcN2 {w w4 : World} {k : Nat} {xs : List Value} {o : Obj} (t : TypeId) (h : xs.length = k * 4) (g : ((w.alloc o).alloc (.cells xs.toArray t)).grownBy w4 (some w.heap.size)) : Src w4 (some ⟨w.heap.size + 1, 0, none⟩) k 4 xs :=
  ⟨h, fun _ => ⟨_, rfl, fun j u hu => by
    rw [Addr.add_lit, Nat.zero_add]
    refine g.cell ?_ (by simp)
    have := cell_new (w := w.alloc o) (cs := xs.toArray) (t := t) (i := j)
    rw [World.size_alloc] at this
    rw [this]; simpa using hu⟩⟩
theorem srcN3 {w w4 : World} {k : Nat} {xs : List Value} {o : Obj} (t : TypeId) (h : xs.length = k * 4) (g : ((w.alloc (.cells xs.toArray t)).alloc o).grownBy w4 (some (w.heap.size + 1))) : Src w4 (some ⟨w.heap.size, 0, none⟩) k 4 xs :=
  ⟨h, fun _ => ⟨_, rfl, fun j u hu => by
    rw [Addr.add_lit, Nat.zero_add]
    refine g.cell (Keeps.alloc _ _ _ _ ?_) (by simp)
    rw [cell_new]; simpa using hu⟩⟩

set_option maxRecDepth 100000 in
set_option maxHeartbeats 4000000 in
theorem rev_reg5 (Q : Exit → Act → World → Prop) (acc : Int) (p : Option Addr) (n cap b0 : Nat) (l : List Ent) (x : Ent) (w3 : World) (hn1 : n ≤ 100) (Hn : Hid (l.length = n)) (E3 : Hid (EntsAt w3 p l)) (W1 : Hid (EWf l)) (W2 : Hid (EWf [x])) (Hw0 : Hid ((Lit.int .i64 acc).wf = true))
    (hc : w3.cell? ⟨b0, 0, none⟩ = some (.int .i64 x.fr) ∧ w3.cell? ⟨b0, 1, none⟩ = some (.int .i64 x.to_) ∧ w3.cell? ⟨b0, 2, none⟩ = some (.int .i64 x.am) ∧ w3.cell? ⟨b0, 3, none⟩ = some (.string x.ref)) (u2 u3 u4 u6 u7 u8 u9 u10 u11 u12 u13 u14 u15 u16 u17 u18 u19 u20 u21 u22 u23 u24 u25 u26 u27 u28 u29 u30 u31 u32 u33 u34 u35 u36 u37 u38 u39 u40 u41 u42 u43 u44 u45 u46 u47 u48 u49 u50 u51 u52 u53 u54 u55 u56 u57 u58 u59 u60 u61 u62 u63 u64 u65 u66 u67 u68 u69 u70 u71 u72 u73 u74 u75 u76 u77 u78 u79 u80 u81 u82 u83 u84 u85 u86 u87 u88 u89 u90 u91 u92 u93 u94 u95 u96 u97 u98 u99 u100 u101 u102 u103 u104 u105 u106 u107 u108 u109 u110 u111 u112 u113 u114 u115 u116 u117 u118 u119 u120 u121 u122 u123 u124 u125 u126 u127 u128 u129 u130 u131 u132 u133 u134 : Value)
    (HN : Hid (∀ pz cz W v39 v40 v41 v42 v43 v44 v45 v46 v47 v48 v49, Below w3.heap.size w3 W → IntsAt .i64 W pz (balL acc (l ++ [x])) → Q .normal { tmps := #[.int .i64 acc, .slice p n cap, u2, u3, u4, .pointer (some ⟨b0, 0, none⟩), u6, u7, u8, u9, .slice pz (balL acc (l ++ [x])).length cz, .int .i64 (balE acc (l ++ [x])), u12, u13, u14, u15, u16, u17, u18, u19, u20, u21, u22, u23, u24, u25, u26, u27, u28, u29, u30, u31, u32, u33, u34, u35, u36, u37, u38, v39, v40, v41, v42, v43, v44, v45, v46, v47, v48, v49, u50, u51, u52, u53, u54, u55, u56, u57, u58, u59, u60, u61, u62, u63, u64, u65, u66, u67, u68, u69, u70, u71, u72, u73, u74, u75, u76, u77, u78, u79, u80, u81, u82, u83, u84, u85, u86, u87, u88, u89, u90, u91, u92, u93, u94, u95, u96, u97, u98, u99, u100, u101, u102, u103, u104, u105, u106, u107, u108, u109, u110, u111, u112, u113, u114, u115, u116, u117, u118, u119, u120, u121, u122, u123, u124, u125, u126, u127, u128, u129, u130, u131, u132, u133, u134], defers := [] } W)) :
    revReg5.wp Try.prog Q { tmps := #[.int .i64 acc, .slice p n cap, u2, u3, u4, .pointer (some ⟨b0, 0, none⟩), u6, u7, u8, u9, u10, u11, u12, u13, u14, u15, u16, u17, u18, u19, u20, u21, u22, u23, u24, u25, u26, u27, u28, u29, u30, u31, u32, u33, u34, u35, u36, u37, u38, u39, u40, u41, u42, u43, u44, u45, u46, u47, u48, u49, u50, u51, u52, u53, u54, u55, u56, u57, u58, u59, u60, u61, u62, u63, u64, u65, u66, u67, u68, u69, u70, u71, u72, u73, u74, u75, u76, u77, u78, u79, u80, u81, u82, u83, u84, u85, u86, u87, u88, u89, u90, u91, u92, u93, u94, u95, u96, u97, u98, u99, u100, u101, u102, u103, u104, u105, u106, u107, u108, u109, u110, u111, u112, u113, u114, u115, u116, u117, u118, u119, u120, u121, u122, u123, u124, u125, u126, u127, u128, u129, u130, u131, u132, u133, u134], defers := [] } w3 := by
  simp only [revReg5, Try.f5, Option.getD, regionsOf, List.nil_append, List.append_nil, List.cons_append, List.getD, List.getElem?_cons_succ, List.getElem?_cons_zero]
  obtain ⟨i0, hi, hz0, hz1, hz2⟩ := info_parts Try.info34
  obtain ⟨xf, xt, xa, xr⟩ := x
  simp only at hc
  obtain ⟨k1, k2, k3, k4⟩ := hc
  have l1 := block_lt k1
  simp only at l1
  go_region_held3 (fun w' => Below w3.heap.size w3 w' ∧ w'.cell? ⟨b0, 0, none⟩ = some (.int .i64 xf) ∧ w'.cell? ⟨b0, 0 + 1, none⟩ = some (.int .i64 xt) ∧ w'.cell? ⟨b0, 0 + 2, none⟩ = some (.int .i64 xa) ∧ w'.cell? ⟨b0, 0 + 3, none⟩ = some (.string xr))
    (first | exact ⟨b6, cell_later (b6) k1, cell_later (b6) k2, cell_later (b6) k3, cell_later (b6) k4⟩ | exact ⟨b5, cell_later (b5) k1, cell_later (b5) k2, cell_later (b5) k3, cell_later (b5) k4⟩ | exact ⟨balloc b4 _, cell_later (balloc b4 _) k1, cell_later (balloc b4 _) k2, cell_later (balloc b4 _) k3, cell_later (balloc b4 _) k4⟩ | exact ⟨b4, cell_later (b4) k1, cell_later (b4) k2, cell_later (b4) k3, cell_later (b4) k4⟩ | exact ⟨(Below.refl _ _).drew, cell_later ((Below.refl _ _).drew) k1, cell_later ((Below.refl _ _).drew) k2, cell_later ((Below.refl _ _).drew) k3, cell_later ((Below.refl _ _).drew) k4⟩ | exact ⟨((Below.refl _ _).alloc (Nat.le_refl _) _).drew, cell_later (((Below.refl _ _).alloc (Nat.le_refl _) _).drew) k1, cell_later (((Below.refl _ _).alloc (Nat.le_refl _) _).drew) k2, cell_later (((Below.refl _ _).alloc (Nat.le_refl _) _).drew) k3, cell_later (((Below.refl _ _).alloc (Nat.le_refl _) _).drew) k4⟩ | exact ⟨(((Below.refl _ _).alloc (Nat.le_refl _) _).alloc (by simp) _).drew, cell_later ((((Below.refl _ _).alloc (Nat.le_refl _) _).alloc (by simp) _).drew) k1, cell_later ((((Below.refl _ _).alloc (Nat.le_refl _) _).alloc (by simp) _).drew) k2, cell_later ((((Below.refl _ _).alloc (Nat.le_refl _) _).alloc (by simp) _).drew) k3, cell_later ((((Below.refl _ _).alloc (Nat.le_refl _) _).alloc (by simp) _).drew) k4⟩)
    (first
      | (refine step_app rfl (.tmp 41) (.tmp 42) 22 rfl w3.heap.size 34 i0 _ 4 40 Try.underlying22 hi hz0 hz1 hz2 rfl (by omega) _ 0 [] rfl (by first | exact litA1 w3 | exact litA2 w3 _ | exact litA3 w3 _) p n cap (l.flatMap entCells) rfl (Src.keep (Src.ents Hn.out E3.out) (by first | exact Keeps.of_below (((Below.refl _ _).alloc (Nat.le_refl _) _).drew) | exact Keeps.of_below ((((Below.refl _ _).alloc (Nat.le_refl _) _).alloc (by simp) _).drew))) (ents_oneCell _) (by unfold maxLen; omega) (by omega) (by first | (simp; done) | (simp; omega)) ?_
         intro v4 w4 o4 g4
         rw [Nat.zero_add, List.nil_append] at o4
         have b4 : Below w3.heap.size w3 w4 := by
           first
             | exact ((Below.refl _ _).alloc (Nat.le_refl _) _).drew.grown g4 (by simp) (fun k e => by cases e; exact Nat.le_refl _)
             | exact (((Below.refl _ _).alloc (Nat.le_refl _) _).alloc (by simp) _).drew.grown g4 (by simp; omega) (fun k e => by cases e; first | exact Nat.le_refl _ | (simp; done) | (simp; omega) | omega)
         obtain ⟨vp4, vc4, rfl, _⟩ := own_val o4)
      | (refine step_app rfl (.tmp 43) (.tmp 45) 22 rfl w3.heap.size 34 i0 _ 4 40 Try.underlying22 hi hz0 hz1 hz2 rfl (by omega) _ n (l.flatMap entCells) rfl (by first | exact o4 | exact o4.alloc _) _ 1 1 ([.int .i64 xf, .int .i64 xt, .int .i64 xa, .string xr] : List Value) rfl (by first | exact srcN 34 rfl | exact srcN2 34 rfl (ung g4) | exact srcN3 34 rfl (ung g4) | exact srcN2 34 rfl g4 | exact srcN3 34 rfl g4) (ent_one ⟨xf, xt, xa, xr⟩) (by unfold maxLen; omega) (by omega) (by have := b4.size; first | omega | (simp; omega)) ?_
         intro v5 w5 o5 g5
         have b5 : Below w3.heap.size w3 w5 := by
           first
             | exact b4.grown g5 b4.size (fun k e => (o4.lt k e).1)
             | exact (balloc b4 _).grown g5 (balloc b4 _).size (fun k e => (o4.lt k e).1)
         have o5' : w5.ownsRow w3.heap.size 34 4 v5 (n + 1) ((l ++ [(⟨xf, xt, xa, xr⟩ : Ent)]).flatMap entCells) := by rw [List.flatMap_append]; simpa [entCells] using o5
         obtain ⟨vp5, vc5, rfl, _⟩ := own_val o5'
         have e5 := EntsAt.of_own o5')
      | (go_at_call_of 13 (Value.int .i64 acc)
         refine bal_b acc vp5 (n + 1) vc5 (l ++ [(⟨xf, xt, xa, xr⟩ : Ent)]) _ _ (by rw [List.length_append, Hn.out]; rfl) (by unfold maxLen; omega) e5 (EWf.append W1.out W2.out) Hw0.out ?_
         intro pz cz w6 hb6 iz
         have b6 := bseq b5 hb6))
  all_goals exact HN.out _ _ _ _ _ _ _ _ _ _ _ _ _ _ b6 iz
set_option maxRecDepth 100000 in
set_option maxHeartbeats 4000000 in
theorem rev_reg6 (Q : Exit → Act → World → Prop) (acc : Int) (p : Option Addr) (n cap b0 : Nat) (l : List Ent) (x : Ent) (w3 : World) (hn1 : n ≤ 100) (Hn : Hid (l.length = n)) (E3 : Hid (EntsAt w3 p l)) (W1 : Hid (EWf l)) (W2 : Hid (EWf [x])) (Hw0 : Hid ((Lit.int .i64 acc).wf = true))
    (hc : w3.cell? ⟨b0, 0, none⟩ = some (.int .i64 x.fr) ∧ w3.cell? ⟨b0, 1, none⟩ = some (.int .i64 x.to_) ∧ w3.cell? ⟨b0, 2, none⟩ = some (.int .i64 x.am) ∧ w3.cell? ⟨b0, 3, none⟩ = some (.string x.ref)) (u2 u3 u4 u6 u7 u8 u9 u10 u11 u12 u13 u14 u15 u16 u17 u18 u19 u20 u21 u22 u23 u24 u25 u26 u27 u28 u29 u30 u31 u32 u33 u34 u35 u36 u37 u38 u39 u40 u41 u42 u43 u44 u45 u46 u47 u48 u49 u50 u51 u52 u53 u54 u55 u56 u57 u58 u59 u60 u61 u62 u63 u64 u65 u66 u67 u68 u69 u70 u71 u72 u73 u74 u75 u76 u77 u78 u79 u80 u81 u82 u83 u84 u85 u86 u87 u88 u89 u90 u91 u92 u93 u94 u95 u96 u97 u98 u99 u100 u101 u102 u103 u104 u105 u106 u107 u108 u109 u110 u111 u112 u113 u114 u115 u116 u117 u118 u119 u120 u121 u122 u123 u124 u125 u126 u127 u128 u129 u130 u131 u132 u133 u134 : Value)
    (HN : Hid (∀ pz cz W v50 v51 v52 v53 v54 v55 v56 v57 v58 v59 v60 v61 v62 v63 v64 v65 v66 v67, Below w3.heap.size w3 W → IntsAt .i64 W pz (balL acc (l ++ [x, revE x])) → Q .normal { tmps := #[.int .i64 acc, .slice p n cap, u2, u3, u4, .pointer (some ⟨b0, 0, none⟩), u6, u7, u8, u9, u10, u11, .slice pz (balL acc (l ++ [x, revE x])).length cz, .int .i64 (balE acc (l ++ [x, revE x])), u14, u15, u16, u17, u18, u19, u20, u21, u22, u23, u24, u25, u26, u27, u28, u29, u30, u31, u32, u33, u34, u35, u36, u37, u38, u39, u40, u41, u42, u43, u44, u45, u46, u47, u48, u49, v50, v51, v52, v53, v54, v55, v56, v57, v58, v59, v60, v61, v62, v63, v64, v65, v66, v67, u68, u69, u70, u71, u72, u73, u74, u75, u76, u77, u78, u79, u80, u81, u82, u83, u84, u85, u86, u87, u88, u89, u90, u91, u92, u93, u94, u95, u96, u97, u98, u99, u100, u101, u102, u103, u104, u105, u106, u107, u108, u109, u110, u111, u112, u113, u114, u115, u116, u117, u118, u119, u120, u121, u122, u123, u124, u125, u126, u127, u128, u129, u130, u131, u132, u133, u134], defers := [] } W)) :
    revReg6.wp Try.prog Q { tmps := #[.int .i64 acc, .slice p n cap, u2, u3, u4, .pointer (some ⟨b0, 0, none⟩), u6, u7, u8, u9, u10, u11, u12, u13, u14, u15, u16, u17, u18, u19, u20, u21, u22, u23, u24, u25, u26, u27, u28, u29, u30, u31, u32, u33, u34, u35, u36, u37, u38, u39, u40, u41, u42, u43, u44, u45, u46, u47, u48, u49, u50, u51, u52, u53, u54, u55, u56, u57, u58, u59, u60, u61, u62, u63, u64, u65, u66, u67, u68, u69, u70, u71, u72, u73, u74, u75, u76, u77, u78, u79, u80, u81, u82, u83, u84, u85, u86, u87, u88, u89, u90, u91, u92, u93, u94, u95, u96, u97, u98, u99, u100, u101, u102, u103, u104, u105, u106, u107, u108, u109, u110, u111, u112, u113, u114, u115, u116, u117, u118, u119, u120, u121, u122, u123, u124, u125, u126, u127, u128, u129, u130, u131, u132, u133, u134], defers := [] } w3 := by
  simp only [revReg6, Try.f5, Option.getD, regionsOf, List.nil_append, List.append_nil, List.cons_append, List.getD, List.getElem?_cons_succ, List.getElem?_cons_zero]
  obtain ⟨i0, hi, hz0, hz1, hz2⟩ := info_parts Try.info34
  obtain ⟨xf, xt, xa, xr⟩ := x
  simp only at hc
  obtain ⟨k1, k2, k3, k4⟩ := hc
  have l1 := block_lt k1
  simp only at l1
  go_region_held3 (fun w' => Below w3.heap.size w3 w' ∧ w'.cell? ⟨b0, 0, none⟩ = some (.int .i64 xf) ∧ w'.cell? ⟨b0, 0 + 1, none⟩ = some (.int .i64 xt) ∧ w'.cell? ⟨b0, 0 + 2, none⟩ = some (.int .i64 xa) ∧ w'.cell? ⟨b0, 0 + 3, none⟩ = some (.string xr))
    (first | exact ⟨b6, cell_later (b6) k1, cell_later (b6) k2, cell_later (b6) k3, cell_later (b6) k4⟩ | exact ⟨b5, cell_later (b5) k1, cell_later (b5) k2, cell_later (b5) k3, cell_later (b5) k4⟩ | exact ⟨balloc b4 _, cell_later (balloc b4 _) k1, cell_later (balloc b4 _) k2, cell_later (balloc b4 _) k3, cell_later (balloc b4 _) k4⟩ | exact ⟨b4, cell_later (b4) k1, cell_later (b4) k2, cell_later (b4) k3, cell_later (b4) k4⟩ | exact ⟨(Below.refl _ _).drew, cell_later ((Below.refl _ _).drew) k1, cell_later ((Below.refl _ _).drew) k2, cell_later ((Below.refl _ _).drew) k3, cell_later ((Below.refl _ _).drew) k4⟩ | exact ⟨((Below.refl _ _).alloc (Nat.le_refl _) _).drew, cell_later (((Below.refl _ _).alloc (Nat.le_refl _) _).drew) k1, cell_later (((Below.refl _ _).alloc (Nat.le_refl _) _).drew) k2, cell_later (((Below.refl _ _).alloc (Nat.le_refl _) _).drew) k3, cell_later (((Below.refl _ _).alloc (Nat.le_refl _) _).drew) k4⟩ | exact ⟨(((Below.refl _ _).alloc (Nat.le_refl _) _).alloc (by simp) _).drew, cell_later ((((Below.refl _ _).alloc (Nat.le_refl _) _).alloc (by simp) _).drew) k1, cell_later ((((Below.refl _ _).alloc (Nat.le_refl _) _).alloc (by simp) _).drew) k2, cell_later ((((Below.refl _ _).alloc (Nat.le_refl _) _).alloc (by simp) _).drew) k3, cell_later ((((Below.refl _ _).alloc (Nat.le_refl _) _).alloc (by simp) _).drew) k4⟩)
    (first
      | (refine step_app rfl (.tmp 52) (.tmp 53) 22 rfl w3.heap.size 34 i0 _ 4 40 Try.underlying22 hi hz0 hz1 hz2 rfl (by omega) _ 0 [] rfl (by first | exact litA1 w3 | exact litA2 w3 _ | exact litA3 w3 _) p n cap (l.flatMap entCells) rfl (Src.keep (Src.ents Hn.out E3.out) (by first | exact Keeps.of_below (((Below.refl _ _).alloc (Nat.le_refl _) _).drew) | exact Keeps.of_below ((((Below.refl _ _).alloc (Nat.le_refl _) _).alloc (by simp) _).drew))) (ents_oneCell _) (by unfold maxLen; omega) (by omega) (by first | (simp; done) | (simp; omega)) ?_
         intro v4 w4 o4 g4
         rw [Nat.zero_add, List.nil_append] at o4
         have b4 : Below w3.heap.size w3 w4 := by
           first
             | exact ((Below.refl _ _).alloc (Nat.le_refl _) _).drew.grown g4 (by simp) (fun k e => by cases e; exact Nat.le_refl _)
             | exact (((Below.refl _ _).alloc (Nat.le_refl _) _).alloc (by simp) _).drew.grown g4 (by simp; omega) (fun k e => by cases e; first | exact Nat.le_refl _ | (simp; done) | (simp; omega) | omega)
         obtain ⟨vp4, vc4, rfl, _⟩ := own_val o4)
      | (refine step_app rfl (.tmp 54) (.tmp 63) 22 rfl w3.heap.size 34 i0 _ 4 40 Try.underlying22 hi hz0 hz1 hz2 rfl (by omega) _ n (l.flatMap entCells) rfl (by first | exact o4 | exact o4.alloc _) _ 2 2 ([.int .i64 xf, .int .i64 xt, .int .i64 xa, .string xr, .int .i64 xt, .int .i64 xf, .int .i64 xa, .string ⟨#[]⟩] : List Value) rfl (by first | exact srcN 34 rfl | exact srcN2 34 rfl (ung g4) | exact srcN3 34 rfl (ung g4) | exact srcN2 34 rfl g4 | exact srcN3 34 rfl g4) (by intro u hu; simp at hu; rcases hu with rfl | rfl | rfl | rfl | rfl | rfl | rfl | rfl <;> rfl) (by unfold maxLen; omega) (by omega) (by have := b4.size; first | omega | (simp; omega)) ?_
         intro v5 w5 o5 g5
         have b5 : Below w3.heap.size w3 w5 := by
           first
             | exact b4.grown g5 b4.size (fun k e => (o4.lt k e).1)
             | exact (balloc b4 _).grown g5 (balloc b4 _).size (fun k e => (o4.lt k e).1)
         have o5' : w5.ownsRow w3.heap.size 34 4 v5 (n + 2) ((l ++ [(⟨xf, xt, xa, xr⟩ : Ent), revE ⟨xf, xt, xa, xr⟩]).flatMap entCells) := by rw [List.flatMap_append]; simpa [entCells, revE] using o5
         obtain ⟨vp5, vc5, rfl, _⟩ := own_val o5'
         have e5 := EntsAt.of_own o5')
      | (go_at_call_of 13 (Value.int .i64 acc)
         refine bal_b acc vp5 (n + 2) vc5 (l ++ [(⟨xf, xt, xa, xr⟩ : Ent), revE ⟨xf, xt, xa, xr⟩]) _ _ (by rw [List.length_append, Hn.out]; rfl) (by unfold maxLen; omega) e5 (EWf.append W1.out (ewf_rev W2.out)) Hw0.out ?_
         intro pz cz w6 hb6 iz
         have b6 := bseq b5 hb6))
  all_goals exact HN.out _ _ _ _ _ _ _ _ _ _ _ _ _ _ _ _ _ _ _ _ _ b6 iz
end Go.Proofs.Ytajnoocjjkjfmaa
