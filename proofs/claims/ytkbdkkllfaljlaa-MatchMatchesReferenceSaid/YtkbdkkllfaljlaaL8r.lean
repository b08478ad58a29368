import Derived.Test.YtkbdkkllfaljlaaL8
import Derived.Deep.RegionHeld3
import Derived.Test.YtkbdkkllfaljlaaL7
set_option linter.unusedVariables false
set_option linter.unusedSimpArgs false
namespace Go.Proofs.Ytkbdkkllfaljlaa
open Go.RowKit Go.Sort

def regionsOf : Code → List Code
  | .seq a b => regionsOf a ++ regionsOf b
  | .block _ c => regionsOf c
  | .cond _ a b => regionsOf a ++ regionsOf b
  | .scope c => regionsOf c
  | .loop c => regionsOf c
  | .region i o d => [.region i o d]
  | _ => []
noncomputable def strReg6 : Code := (regionsOf (Try.f10.body.getD .skip)).getD 6 .skip
/-- The boxes of the street and of the address. -/
structure Bx (s : Sv) (a : Av) (b0 b1 : Nat) (W : World) : Prop where
  s0 : W.cell? ⟨b0, 0, none⟩ = some (.string s.code)
  s1 : W.cell? ⟨b0, 1, none⟩ = some (.string s.town)
  s2 : W.cell? ⟨b0, 2, none⟩ = some (.string s.name)
  s3 : W.cell? ⟨b0, 3, none⟩ = some (.slice s.ap s.al.length s.ac)
  s4 : W.cell? ⟨b0, 4, none⟩ = some (.int .i64 s.low)
  s5 : W.cell? ⟨b0, 5, none⟩ = some (.int .i64 s.high)
  s6 : W.cell? ⟨b0, 6, none⟩ = some (.int .i64 s.shift)
  s7 : W.cell? ⟨b0, 7, none⟩ = some (.bool s.opn)
  a0 : W.cell? ⟨b1, 0, none⟩ = some (.string a.person)
  a1 : W.cell? ⟨b1, 1, none⟩ = some (.string a.street)
  a2 : W.cell? ⟨b1, 2, none⟩ = some (.int .i64 a.number)
  a3 : W.cell? ⟨b1, 3, none⟩ = some (.string a.code)
  a4 : W.cell? ⟨b1, 4, none⟩ = some (.string a.town)
theorem Bx.later {s : Sv} {a : Av} {b0 b1 : Nat} {W W' : World} (h : Bx s a b0 b1 W) (hb : Below W.heap.size W W') : Bx s a b0 b1 W' :=
  ⟨cell_later hb h.s0, cell_later hb h.s1, cell_later hb h.s2, cell_later hb h.s3, cell_later hb h.s4, cell_later hb h.s5, cell_later hb h.s6, cell_later hb h.s7, cell_later hb h.a0, cell_later hb h.a1, cell_later hb h.a2, cell_later hb h.a3, cell_later hb h.a4⟩
theorem Bx.conj {s : Sv} {a : Av} {b0 b1 : Nat} {W w' : World} (h : Bx s a b0 b1 W) (hb : Below W.heap.size W w') : Below W.heap.size W w' ∧ w'.cell? ⟨b0, 0, none⟩ = some (.string s.code) ∧ w'.cell? ⟨b0, 0 + 1, none⟩ = some (.string s.town) ∧ w'.cell? ⟨b0, 0 + 2, none⟩ = some (.string s.name) ∧ w'.cell? ⟨b0, 0 + 3, none⟩ = some (.slice s.ap s.al.length s.ac) ∧ w'.cell? ⟨b0, 0 + 4, none⟩ = some (.int .i64 s.low) ∧ w'.cell? ⟨b0, 0 + 5, none⟩ = some (.int .i64 s.high) ∧ w'.cell? ⟨b0, 0 + 6, none⟩ = some (.int .i64 s.shift) ∧ w'.cell? ⟨b0, 0 + 7, none⟩ = some (.bool s.opn) ∧ w'.cell? ⟨b1, 0, none⟩ = some (.string a.person) ∧ w'.cell? ⟨b1, 0 + 1, none⟩ = some (.string a.street) ∧ w'.cell? ⟨b1, 0 + 2, none⟩ = some (.int .i64 a.number) ∧ w'.cell? ⟨b1, 0 + 3, none⟩ = some (.string a.code) ∧ w'.cell? ⟨b1, 0 + 4, none⟩ = some (.string a.town) :=
  ⟨hb, cell_later hb h.s0, cell_later hb h.s1, cell_later hb h.s2, cell_later hb h.s3, cell_later hb h.s4, cell_later hb h.s5, cell_later hb h.s6, cell_later hb h.s7, cell_later hb h.a0, cell_later hb h.a1, cell_later hb h.a2, cell_later hb h.a3, cell_later hb h.a4⟩
theorem lit_own (w : World) : (w.alloc (.cells #[] 49)).ownsRow w.heap.size 49 8 (.slice (some ⟨w.heap.size, 0, none⟩) 0 0) 0 [] := World.ownsRow_lit _ #[] 0 (Nat.le_refl _) (by decide) rfl
theorem ung {w w1 : World} {r : Option Nat} (h : w.drew.grownBy w1 r) : w.grownBy w1 r := ⟨h.os, h.tape, h.output, h.size, h.block⟩
theorem litA2 (w : World) (o : Obj) : ((w.alloc (.cells #[] 49)).alloc o).ownsRow w.heap.size 49 8 (.slice (some ⟨w.heap.size, 0, none⟩) 0 0) 0 [] := (lit_own w).alloc o
theorem litA3 (w : World) (o : Obj) : ((w.alloc o).alloc (.cells #[] 49)).ownsRow w.heap.size 49 8 (.slice (some ⟨w.heap.size + 1, 0, none⟩) 0 0) 0 [] := by
  have h := own_mono (lit_own (w.alloc o)) (base' := w.heap.size) (by simp)
  rw [World.size_alloc] at h; exact h
theorem srcN {w : World} {k : Nat} {xs : List Value} (t : TypeId) (h : xs.length = k * 8) : Src (w.alloc (.cells xs.toArray t)) (some ⟨w.heap.size, 0, none⟩) k 8 xs :=
  ⟨h, fun _ => ⟨_, rfl, fun j u hu => by rw [Addr.add_lit, Nat.zero_add, cell_new]; simpa using hu⟩⟩
theorem srcN2 {w w4 : World} {k : Nat} {xs : List Value} {o : Obj} (t : TypeId) (h : xs.length = k * 8) (g : ((w.alloc o).alloc (.cells xs.toArray t)).grownBy w4 (some w.heap.size)) : Src w4 (some ⟨w.heap.size + 1, 0, none⟩) k 8 xs :=
  ⟨h, fun _ => ⟨_, rfl, fun j u hu => by
    rw [Addr.add_lit, Nat.zero_add]
    refine g.cell ?_ (by simp)
    have := cell_new (w := w.alloc o) (cs := xs.toArray) (t := t) (i := j)
    rw [World.size_alloc] at this
    rw [this]; simpa using hu⟩⟩
theorem srcN3 {w w4 : World} {k : Nat} {xs : List Value} {o : Obj} (t : TypeId) (h : xs.length = k * 8) (g : ((w.alloc (.cells xs.toArray t)).alloc o).grownBy w4 (some (w.heap.size + 1))) : Src w4 (some ⟨w.heap.size, 0, none⟩) k 8 xs :=
  ⟨h, fun _ => ⟨_, rfl, fun j u hu => by
    rw [Addr.add_lit, Nat.zero_add]
    refine g.cell (Keeps.alloc _ _ _ _ ?_) (by simp)
    rw [cell_new]; simpa using hu⟩⟩
theorem sv_one (s : Sv) : ∀ u ∈ s.cells, u.oneCell' = true := by
  intro u hu
  simp only [Sv.cells, List.mem_cons, List.not_mem_nil, or_false] at hu
  rcases hu with rfl | rfl | rfl | rfl | rfl | rfl | rfl | rfl <;> rfl

set_option maxRecDepth 100000 in
set_option maxHeartbeats 4000000 in
theorem str_reg6 (Q : Exit → Act → World → Prop) (p : Option Addr) (n cap b0 b1 : Nat) (l : List Sv) (s : Sv) (a : Av) (most : Int) (w3 : World) (hn1 : n ≤ 12) (Hn : Hid (l.length = n)) (E3 : Hid (StsAt w3 p l)) (S3 : Hid (StrsAt w3 s.ap s.al)) (W1 : Hid (∀ x ∈ l ++ [s], x.al.length ≤ 100000)) (h0 : 0 ≤ most) (h6 : most ≤ 6)
    (KB : Bx s a b0 b1 w3) (u1 u2 u3 u4 u7 u8 u9 u11 u12 u13 u14 u15 u16 u17 u18 u19 u20 u21 u22 u23 u24 u25 u26 u27 u28 u29 u30 u31 u32 u33 u34 u35 u36 u37 u38 u39 u40 u41 u42 u43 u44 u45 u46 u47 u48 u49 u50 u51 u52 u53 u54 u55 u56 u57 u58 u59 u60 u61 u62 u63 u64 u65 u66 u67 u68 u69 u70 u71 u72 u73 u74 u75 u76 u77 u78 u79 u80 u81 u82 u83 u84 u85 u86 u87 u88 u89 u90 u91 u92 u93 u94 u95 u96 u97 u98 u99 u100 u101 u102 u103 u104 u105 u106 : Value)
    (HN : Hid (∀ pz cz M W v41 v42 v43 v44 v45 v46 v47 v48 v49, Below w3.heap.size w3 W → CndsAt W pz M → M.length ≤ n + 1 → isCnds a most (l ++ [s]) M → Q .normal { tmps := #[.slice p n cap, u1, u2, u3, u4, .pointer (some ⟨b0, 0, none⟩), .pointer (some ⟨b1, 0, none⟩), u7, u8, u9, .int .i64 most, u11, .slice pz M.length cz, u13, u14, u15, u16, u17, u18, u19, u20, u21, u22, u23, u24, u25, u26, u27, u28, u29, u30, u31, u32, u33, u34, u35, u36, u37, u38, u39, u40, v41, v42, v43, v44, v45, v46, v47, v48, v49, u50, u51, u52, u53, u54, u55, u56, u57, u58, u59, u60, u61, u62, u63, u64, u65, u66, u67, u68, u69, u70, u71, u72, u73, u74, u75, u76, u77, u78, u79, u80, u81, u82, u83, u84, u85, u86, u87, u88, u89, u90, u91, u92, u93, u94, u95, u96, u97, u98, u99, u100, u101, u102, u103, u104, u105, u106], defers := [] } W)) :
    strReg6.wp Try.prog Q { tmps := #[.slice p n cap, u1, u2, u3, u4, .pointer (some ⟨b0, 0, none⟩), .pointer (some ⟨b1, 0, none⟩), u7, u8, u9, .int .i64 most, u11, u12, u13, u14, u15, u16, u17, u18, u19, u20, u21, u22, u23, u24, u25, u26, u27, u28, u29, u30, u31, u32, u33, u34, u35, u36, u37, u38, u39, u40, u41, u42, u43, u44, u45, u46, u47, u48, u49, u50, u51, u52, u53, u54, u55, u56, u57, u58, u59, u60, u61, u62, u63, u64, u65, u66, u67, u68, u69, u70, u71, u72, u73, u74, u75, u76, u77, u78, u79, u80, u81, u82, u83, u84, u85, u86, u87, u88, u89, u90, u91, u92, u93, u94, u95, u96, u97, u98, u99, u100, u101, u102, u103, u104, u105, u106], defers := [] } w3 := by
  simp only [strReg6, Try.f10, Option.getD, regionsOf, List.nil_append, List.append_nil, List.cons_append, List.getD, List.getElem?_cons_succ, List.getElem?_cons_zero]
  obtain ⟨i0, hi, hz0, hz1, hz2⟩ := info_parts Try.info49
  have Als : Hid (∀ W, Below w3.heap.size w3 W → ∀ x ∈ l ++ [s], StrsAt W x.ap x.al) := hide fun W hW x hx => by
    rcases List.mem_append.1 hx with hx | hx
    · exact (StsAt.als E3.out x hx).keep (Keeps.of_below hW)
    · obtain rfl := List.mem_singleton.1 hx; exact S3.out.keep (Keeps.of_below hW)
  have l1 := block_lt KB.s0
  have l2 := block_lt KB.a0
  simp only at l1 l2
  go_region_held3 (fun w' => Below w3.heap.size w3 w' ∧ w'.cell? ⟨b0, 0, none⟩ = some (.string s.code) ∧ w'.cell? ⟨b0, 0 + 1, none⟩ = some (.string s.town) ∧ w'.cell? ⟨b0, 0 + 2, none⟩ = some (.string s.name) ∧ w'.cell? ⟨b0, 0 + 3, none⟩ = some (.slice s.ap s.al.length s.ac) ∧ w'.cell? ⟨b0, 0 + 4, none⟩ = some (.int .i64 s.low) ∧ w'.cell? ⟨b0, 0 + 5, none⟩ = some (.int .i64 s.high) ∧ w'.cell? ⟨b0, 0 + 6, none⟩ = some (.int .i64 s.shift) ∧ w'.cell? ⟨b0, 0 + 7, none⟩ = some (.bool s.opn) ∧ w'.cell? ⟨b1, 0, none⟩ = some (.string a.person) ∧ w'.cell? ⟨b1, 0 + 1, none⟩ = some (.string a.street) ∧ w'.cell? ⟨b1, 0 + 2, none⟩ = some (.int .i64 a.number) ∧ w'.cell? ⟨b1, 0 + 3, none⟩ = some (.string a.code) ∧ w'.cell? ⟨b1, 0 + 4, none⟩ = some (.string a.town))
    (first | exact KB.conj (b6) | exact KB.conj (b5) | exact KB.conj (balloc b4 _) | exact KB.conj (b4) | exact KB.conj ((Below.refl _ _).drew) | exact KB.conj (((Below.refl _ _).alloc (Nat.le_refl _) _).drew) | exact KB.conj ((((Below.refl _ _).alloc (Nat.le_refl _) _).alloc (by simp) _).drew))
    (first
      | (refine step_app rfl (.tmp 41) (.tmp 42) 22 rfl w3.heap.size 49 i0 _ 8 104 Try.underlying22 hi hz0 hz1 hz2 rfl (by omega) _ 0 [] rfl (by first | exact lit_own w3 | exact litA2 w3 _ | exact litA3 w3 _) p n cap (l.flatMap Sv.cells) rfl (Src.keep (Src.sts Hn.out E3.out) (by first | exact Keeps.of_below (((Below.refl _ _).alloc (Nat.le_refl _) _).drew) | exact Keeps.of_below ((((Below.refl _ _).alloc (Nat.le_refl _) _).alloc (by simp) _).drew))) (sts_oneCell _) (by unfold maxLen; omega) (by omega) (by first | (simp; done) | (simp; omega)) ?_
         intro v4 w4 o4 g4
         rw [Nat.zero_add, List.nil_append] at o4
         have b4 : Below w3.heap.size w3 w4 := by
           first
             | exact ((Below.refl _ _).alloc (Nat.le_refl _) _).drew.grown g4 (by simp) (fun k e => by cases e; exact Nat.le_refl _)
             | exact (((Below.refl _ _).alloc (Nat.le_refl _) _).alloc (by simp) _).drew.grown g4 (by simp; omega) (fun k e => by cases e; first | exact Nat.le_refl _ | (simp; done) | (simp; omega) | omega)
         obtain ⟨vp4, vc4, rfl, _⟩ := own_val o4)
      | (refine step_app rfl (.tmp 43) (.tmp 45) 22 rfl w3.heap.size 49 i0 _ 8 104 Try.underlying22 hi hz0 hz1 hz2 rfl (by omega) _ n (l.flatMap Sv.cells) rfl (by first | exact o4 | exact o4.alloc _) _ 1 1 (Sv.cells s) rfl (by first | exact srcN 49 rfl | exact srcN2 49 rfl (ung g4) | exact srcN3 49 rfl (ung g4) | exact srcN2 49 rfl g4 | exact srcN3 49 rfl g4) (sv_one s) (by unfold maxLen; omega) (by omega) (by have := b4.size; first | omega | (simp; omega)) ?_
         intro v5 w5 o5 g5
         have b5 : Below w3.heap.size w3 w5 := by
           first
             | exact b4.grown g5 b4.size (fun k e => (o4.lt k e).1)
             | exact (balloc b4 _).grown g5 (balloc b4 _).size (fun k e => (o4.lt k e).1)
         have o5' : w5.ownsRow w3.heap.size 49 8 v5 (n + 1) ((l ++ [s]).flatMap Sv.cells) := by rw [List.flatMap_append]; simpa using o5
         obtain ⟨vp5, vc5, rfl, _⟩ := own_val o5'
         have e5 := StsAt.of_own o5' (Als.out _ b5))
      | (go_at_call 19
         refine candS_c vp5 (n + 1) vc5 (l ++ [s]) a most _ _ (by rw [List.length_append, Hn.out]; rfl) (by omega) e5 W1.out h0 h6 ?_
         intro pz cz M w6 hb6 iz hMl hM
         have b6 := bseq b5 hb6))
  all_goals exact HN.out _ _ _ _ _ _ _ _ _ _ _ _ _ b6 iz hMl hM
end Go.Proofs.Ytkbdkkllfaljlaa
