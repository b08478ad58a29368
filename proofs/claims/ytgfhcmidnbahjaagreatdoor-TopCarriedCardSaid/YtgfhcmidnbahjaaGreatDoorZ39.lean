/- Boxes: the rules of Put. Boxes: given, Put. The fixed check. -/
import Derived.Test.YtgfhcmidnbahjaaGreatDoorZ38
set_option linter.unusedVariables false
set_option linter.unusedSimpArgs false
namespace Go.Proofs.YtgfhcmidnbahjaaGreatDoor
open Go.RowKit Go.Shelf
attribute [local go_sem] Oper.semAt_some run_store_func

/-- The boxes lie, and one is free to be put into another. -/
structure PutP (l : List Bx) (i j : Nat) : Prop where
  ok : BxsP l
  il : i < l.length
  jl : j < l.length
  free : (l.getD i default).parent = -1
  kind : (l.getD i default).kind < (l.getD j default).kind
  place : (l.getD j default).place = (l.getD i default).place
  open_ : (l.getD j default).closed = false
  lock : lockF l j = false
/-- What a call of Put has boxed. -/
structure PuI (l : List Bx) (p : Option Addr) (c i j g : Nat) (W : World) : Prop where
  b0 : Blk W g #[.slice p l.length c] 66
  b1 : Blk W (g + 1) #[.int .i64 (i : Int)] 3
  b2 : Blk W (g + 1 + 1) #[.int .i64 (j : Int)] 3
  arr : EncAt 5 Bx.cells W p l
theorem PuI.next {l : List Bx} {p : Option Addr} {c i j g : Nat} {W W' : World} (h : PuI l p c i j g W) (hb : Below W.heap.size W W') : PuI l p c i j g W' := ⟨h.b0.next hb, h.b1.next hb, h.b2.next hb, h.arr.keep (Keeps.of_below hb)⟩
theorem EncAt.bx {w : World} {p : Option Addr} {l : List Bx} (h : EncAt 5 Bx.cells w p l) {i : Nat} (hi : i < l.length) : ∃ b o, p = some ⟨b, o, none⟩ ∧ w.cell? ⟨b, o + i * 5, none⟩ = some (.string (l.getD i default).label) ∧ w.cell? ⟨b, o + i * 5 + 1, none⟩ = some (.int .i64 (l.getD i default).kind) ∧
    w.cell? ⟨b, o + i * 5 + 2, none⟩ = some (.int .i64 (l.getD i default).parent) ∧ w.cell? ⟨b, o + i * 5 + 3, none⟩ = some (.int .i64 (l.getD i default).place) ∧ w.cell? ⟨b, o + i * 5 + 4, none⟩ = some (.bool (l.getD i default).closed) := by
  obtain ⟨b, o, x, hp, hx, hc⟩ := h.at_ hi
  rw [getD_some hx]
  exact ⟨b, o, hp, hc 0 _ rfl, hc 1 _ rfl, hc 2 _ rfl, hc 3 _ rfl, hc 4 _ rfl⟩
section
variable {l : List Bx} {p : Option Addr} {c i j g : Nat} {w : World} {R : Ending → World → Prop}
set_option maxHeartbeats 1000000 in
theorem put2_c (hI : PuI l p c i j g w) (hP : PutP l i j) (hR : ∀ w', Below w.heap.size w w' → R (.returned (.bool false)) w') : Calls Tryz.prog 76 #[.pointer (some ⟨g, 0, none⟩), .pointer (some ⟨g + 1, 0, none⟩)] w R := by
  have HR := hide hR
  have x0 := hI.b0.cell (k := 0) (v := .slice p l.length c) rfl; have x1 := hI.b1.cell (k := 0) (v := .int .i64 (i : Int)) rfl
  obtain ⟨b, o, hp, _, _, m2, _⟩ := hI.arr.bx hP.il
  rw [hP.free] at m2
  have q1 : (0 : Int) ≤ (i : Int) := by omega
  have q2 : (i : Int) < (l.length : Int) := by have := hP.il; omega
  rw [hp] at x0
  clear hR hp
  go_enter Tryz.func76, Tryz.ntmps76
  go_wp2
  exact HR.out _ (Below.refl _ _)
set_option maxHeartbeats 1000000 in
theorem put3_c (hI : PuI l p c i j g w) (hP : PutP l i j) (hR : ∀ w', Below w.heap.size w w' → R (.returned (.bool false)) w') : Calls Tryz.prog 77 #[.pointer (some ⟨g, 0, none⟩), .pointer (some ⟨g + 1 + 1, 0, none⟩), .pointer (some ⟨g + 1, 0, none⟩)] w R := by
  have HR := hide hR
  have x0 := hI.b0.cell (k := 0) (v := .slice p l.length c) rfl; have x1 := hI.b1.cell (k := 0) (v := .int .i64 (i : Int)) rfl; have x2 := hI.b2.cell (k := 0) (v := .int .i64 (j : Int)) rfl
  obtain ⟨b, o, hp, _, m1, _, _⟩ := hI.arr.bx hP.il
  obtain ⟨b', o', hp', _, n1, _, _⟩ := hI.arr.bx hP.jl
  rw [hp] at hp'; injection hp' with hp'; injection hp' with e1 e2; subst e1; subst e2
  have hk := hP.kind
  generalize (l.getD i default).kind = ki at *
  generalize (l.getD j default).kind = kj at *
  have q0 : ¬ (kj ≤ ki) := by omega
  have q1 : (0 : Int) ≤ (i : Int) := by omega
  have q2 : (i : Int) < (l.length : Int) := by have := hP.il; omega
  have q3 : (0 : Int) ≤ (j : Int) := by omega
  have q4 : (j : Int) < (l.length : Int) := by have := hP.jl; omega
  rw [hp] at x0
  clear hR hp
  go_enter Tryz.func77, Tryz.ntmps77
  go_wp2
  go_quiet (fail)
  go_wp2
  have hfin := HR.out _ (bdrewN w nq)
  first
  | exact hfin
  | (rw [show decide (kj ≤ ki) = false from decide_eq_false (by omega)]
     exact hfin)
set_option maxHeartbeats 1000000 in
theorem put4_c (hI : PuI l p c i j g w) (hP : PutP l i j) (hR : ∀ w', Below w.heap.size w w' → R (.returned (.bool false)) w') : Calls Tryz.prog 78 #[.pointer (some ⟨g, 0, none⟩), .pointer (some ⟨g + 1 + 1, 0, none⟩), .pointer (some ⟨g + 1, 0, none⟩)] w R := by
  have HR := hide hR
  have x0 := hI.b0.cell (k := 0) (v := .slice p l.length c) rfl; have x1 := hI.b1.cell (k := 0) (v := .int .i64 (i : Int)) rfl; have x2 := hI.b2.cell (k := 0) (v := .int .i64 (j : Int)) rfl
  obtain ⟨b, o, hp, _, _, _, m1, _⟩ := hI.arr.bx hP.il
  obtain ⟨b', o', hp', _, _, _, n1, _⟩ := hI.arr.bx hP.jl
  rw [hp] at hp'; injection hp' with hp'; injection hp' with e1 e2; subst e1; subst e2
  rw [hP.place] at n1
  generalize (l.getD i default).place = ki at *
  have q0 : (ki != ki) = false := by simp
  have q1 : (0 : Int) ≤ (i : Int) := by omega
  have q2 : (i : Int) < (l.length : Int) := by have := hP.il; omega
  have q3 : (0 : Int) ≤ (j : Int) := by omega
  have q4 : (j : Int) < (l.length : Int) := by have := hP.jl; omega
  rw [hp] at x0
  clear hR hp
  go_enter Tryz.func78, Tryz.ntmps78
  go_wp2
  go_quiet (fail)
  go_wp2
  have hfin := HR.out _ (bdrewN w nq)
  first
  | exact hfin
  | (rw [show (ki != ki) = false by simp]
     exact hfin)
set_option maxHeartbeats 1000000 in
theorem put5_c (hI : PuI l p c i j g w) (hP : PutP l i j) (hR : ∀ w', Below w.heap.size w w' → R (.returned (.bool false)) w') : Calls Tryz.prog 79 #[.pointer (some ⟨g, 0, none⟩), .pointer (some ⟨g + 1 + 1, 0, none⟩)] w R := by
  have HR := hide hR; have HI := hide hI; have HP := hide hP
  have x0 := hI.b0.cell (k := 0) (v := .slice p l.length c) rfl; have x2 := hI.b2.cell (k := 0) (v := .int .i64 (j : Int)) rfl
  obtain ⟨b, o, hp, _, _, _, _, m4⟩ := hI.arr.bx hP.jl
  rw [hP.open_] at m4
  have q3 : (0 : Int) ≤ (j : Int) := by omega
  have q4 : (j : Int) < (l.length : Int) := by have := hP.jl; omega
  have hjl := hP.jl
  have Hp := hide hp
  rw [hp] at x0
  clear hR hp hI hP
  go_enter Tryz.func79, Tryz.ntmps79
  go_wp2_with (go_at_call 80; refine Stop.out ?_)
  refine Stop.go (locked_c l (some ⟨b, o, none⟩) c j w _ (Hp.out ▸ HI.out.arr) HP.out.ok hjl ?_)
  rw [HP.out.lock]
  intro w2 hb
  have HF := hide (HR.out w2 hb)
  clear hb
  go_wp2
  exact HF.out
/-- The owned row of boxes with a field of one set. -/
theorem bx_set (l : List Bx) (i k : Nat) (hi : i < l.length) (v : Value) (y : Bx) (hy : (l.getD i default).cells.set k v = y.cells) (hk : k < 5) : (l.flatMap Bx.cells).set (i * 5 + k) v = (l.set i y).flatMap Bx.cells := by
  induction l generalizing i with
  | nil => simp at hi
  | cons x l ih =>
    cases i with
    | zero =>
      rw [List.getD_cons_zero] at hy
      rw [List.flatMap_cons, List.set_cons_zero, List.flatMap_cons, Nat.zero_mul, Nat.zero_add, List.set_append, if_pos (by rw [bx_len]; exact hk), hy]
    | succ i =>
      rw [List.getD_cons_succ] at hy
      rw [List.flatMap_cons, List.set_cons_succ, List.flatMap_cons, List.set_append, if_neg (by rw [bx_len]; omega), bx_len, show (i + 1) * 5 + k - 5 = i * 5 + k by omega, ih i (by simpa using hi) hy]
set_option maxHeartbeats 1000000 in
theorem put1_c (B : Nat) (W0 : World) (hI : PuI l p c i j g w) (hP : PutP l i j) (hb0 : Below B W0 w) (hgB : g + 1 + 1 < B ∨ True) (q : Nat) (cap : Nat) (hown : w.ownsRow B 69 5 (.slice (some ⟨q, 0, none⟩) l.length cap) l.length (l.flatMap Bx.cells))
    (hR : ∀ w', Below B W0 w' → w'.ownsRow B 69 5 (.slice (some ⟨q, 0, none⟩) l.length cap) l.length ((l.set i { l.getD i default with parent := (j : Int) }).flatMap Bx.cells) → R (.returned (.tuple #[])) w') :
    Calls Tryz.prog 74 #[.slice (some ⟨q, 0, none⟩) l.length cap, .pointer (some ⟨g + 1 + 1, 0, none⟩), .pointer (some ⟨g + 1, 0, none⟩)] w R := by
  have HR := hide hR
  have x1 := hI.b1.cell (k := 0) (v := .int .i64 (i : Int)) rfl; have x2 := hI.b2.cell (k := 0) (v := .int .i64 (j : Int)) rfl
  have q1 : (0 : Int) ≤ (i : Int) := by omega
  have q2 : (i : Int) < (l.length : Int) := by have := hP.il; omega
  have hil := hP.il
  obtain ⟨z, hz⟩ : ∃ z, (l.flatMap Bx.cells)[i * 5 + 2]? = some z := ⟨_, List.getElem?_eq_getElem (by rw [flatMap_len bx_len]; omega)⟩
  have g1' := hown.cells (g := q) rfl _ _ hz
  have f1' := hown.frozenAt (i * 5 + 2)
  rw [Addr.add_lit, Nat.zero_add] at g1'
  have hS := (hown.stored (i * 5 + 2) (.int .i64 (j : Int))).1
  rw [bx_set l i 2 hil _ { l.getD i default with parent := (j : Int) } rfl (by omega)] at hS
  have hBq := (hown.lt q rfl).1
  have HF := hide (HR.out _ (hb0.setCell (p := ⟨q, i * 5 + 2, none⟩) hBq _) hS)
  clear hR hown hS hb0 hz
  go_enter Tryz.func74, Tryz.ntmps74
  go_wp2
  first
  | exact bodyPost_end (results_none Tryz.results74 _ _ _) rfl HF.out
  | exact HF.out
end
end Go.Proofs.YtgfhcmidnbahjaaGreatDoor

namespace Go.Proofs.YtgfhcmidnbahjaaGreatDoor
open Go.RowKit Go.Shelf
attribute [local go_sem] Oper.semAt_some run_store_func

/-- What a call of given has boxed. -/
structure GvI (l : List Bx) (xs : List Int) (p p2 : Option Addr) (c c2 g : Nat) (W : World) : Prop where
  b0 : Blk W g #[.slice p l.length c] 66
  b1 : Blk W (g + 1) #[.slice p2 xs.length c2] 40
  arr : EncAt 5 Bx.cells W p l
  idx : IntsAt .i64 W p2 xs
theorem GvI.next {l : List Bx} {xs : List Int} {p p2 : Option Addr} {c c2 g : Nat} {W W' : World} (h : GvI l xs p p2 c c2 g W) (hb : Below W.heap.size W W') : GvI l xs p p2 c c2 g W' := ⟨h.b0.next hb, h.b1.next hb, h.arr.keep (Keeps.of_below hb), h.idx.keep (Keeps.of_below hb)⟩
set_option maxHeartbeats 1000000 in
theorem given1_c (l : List Bx) (xs : List Int) (p p2 : Option Addr) (c c2 g : Nat) (w : World) (R) (hI : GvI l xs p p2 c c2 g w) (hL : BxsP l) (hx : ∀ x ∈ xs, 0 ≤ x ∧ x < l.length) (hn : xs.length ≤ 100) (hR : ∀ w', Below w.heap.size w w' → R (.returned (.bool false)) w') : Calls Tryz.prog 141 #[.pointer (some ⟨g, 0, none⟩), .pointer (some ⟨g + 1, 0, none⟩)] w R := by
  have HR := hide hR; have HI := hide hI
  have x0 := hI.b0.cell (k := 0) (v := .slice p l.length c) rfl; have x1 := hI.b1.cell (k := 0) (v := .slice p2 xs.length c2) rfl
  clear hR hI
  go_enter Tryz.func141, Tryz.ntmps141
  go_wp2_with (go_at_call 88; refine Stop.out ?_)
  refine Stop.go (nHas_c l xs p p2 c c2 w _ hL HI.out.arr HI.out.idx hx hn ?_)
  intro w2 hb
  have HF := hide (HR.out w2 hb)
  clear hb
  go_wp2
  exact HF.out
set_option maxHeartbeats 1000000 in
theorem given_c (l : List Bx) (xs : List Int) (p p2 : Option Addr) (c c2 : Nat) (w : World) (R) (hE : EncAt 5 Bx.cells w p l) (hX : IntsAt .i64 w p2 xs)
    (hR : ∀ w', Below w.heap.size w w' → GvI l xs p p2 c c2 w.heap.size w' → R (.returned (.agg #[.func (.func 141) #[] #[.pointer (some ⟨w.heap.size, 0, none⟩), .pointer (some ⟨w.heap.size + 1, 0, none⟩)], .int .i64 1])) w') :
    Calls Tryz.prog 75 #[.slice p l.length c, .slice p2 xs.length c2] w R := by
  have hmf : ∀ (fn : Fn) (first cap : Array Value) (w : World), (Instr.makeFunc fn first cap).run Tryz.prog w = .ok (.func fn first cap) w := fun _ _ _ _ => rfl
  have HR := hide hR; have HE := hide hE; have HX := hide hX
  clear hR hE hX
  go_enter Tryz.func75, Tryz.ntmps75
  go_wp2
  refine bodyPost_ret (v := .agg #[.func (.func 141) #[] #[.pointer (some ⟨w.heap.size, 0, none⟩), .pointer (some ⟨w.heap.size + 1, 0, none⟩)], .int .i64 1]) ?_ rfl (HR.out _ ?_ ?_)
  · rw [results_cell1 (p := 4) (ty := 129) Tryz.results75]
    simp [go_sem]
  · exact balloc (balloc (balloc (Below.refl _ _) _) _) _
  · refine ⟨?_, ?_, HE.out.keep (Keeps.of_below (balloc (balloc (balloc (Below.refl _ _) _) _) _)), HX.out.keep (Keeps.of_below (balloc (balloc (balloc (Below.refl _ _) _) _) _))⟩ <;> repeat (first | exact Blk.new_at (by simp) | refine Blk.alloc ?_ _)
/-- The cells that Put's region reads. -/
def PuS (p : Option Addr) (n c i j B : Nat) (W : World) : Prop :=
  W.cell? ⟨B, 0, none⟩ = some (.slice p n c) ∧ W.cell? ⟨B + 1, 0, none⟩ = some (.int .i64 (i : Int)) ∧ W.cell? ⟨B + 1 + 1, 0, none⟩ = some (.int .i64 (j : Int))
theorem idx2 {w : World} {g : Nat} {t : TypeId} {i j : Int} (h : Blk w g #[.int .i64 i, .int .i64 j] t) : IntsAt .i64 w (some ⟨g, 0, none⟩) [i, j] := fun _ => by
  refine ⟨g, 0, rfl, fun k x hx => ?_⟩
  match k, hx with
  | 0, hx => injection hx with hx; subst hx; exact h.cell rfl
  | 1, hx => injection hx with hx; subst hx; exact h.cell rfl
  | k + 2, hx => cases hx
/-- The rules of Put. -/
def putRs (B g : Nat) : List Rul :=
  [⟨141, #[.pointer (some ⟨g, 0, none⟩), .pointer (some ⟨g + 1, 0, none⟩)], 1⟩, ⟨76, #[.pointer (some ⟨B, 0, none⟩), .pointer (some ⟨B + 1, 0, none⟩)], 4⟩,
   ⟨77, #[.pointer (some ⟨B, 0, none⟩), .pointer (some ⟨B + 1 + 1, 0, none⟩), .pointer (some ⟨B + 1, 0, none⟩)], 150⟩, ⟨78, #[.pointer (some ⟨B, 0, none⟩), .pointer (some ⟨B + 1 + 1, 0, none⟩), .pointer (some ⟨B + 1, 0, none⟩)], 150⟩,
   ⟨79, #[.pointer (some ⟨B, 0, none⟩), .pointer (some ⟨B + 1 + 1, 0, none⟩)], 150⟩]
theorem putEg {B g : Nat} : ∀ r ∈ putRs B g, ∀ args w, (callFunc r.f args).run Tryz.prog w = .ok (.enter r.f args) w := by
  intro r hr
  simp only [putRs, List.mem_cons, List.not_mem_nil, or_false] at hr
  rcases hr with rfl | rfl | rfl | rfl | rfl
  · exact enters_of Tryz.func141 (by kernel_rfl) rfl
  · exact enters_of Tryz.func76 (by kernel_rfl) rfl
  · exact enters_of Tryz.func77 (by kernel_rfl) rfl
  · exact enters_of Tryz.func78 (by kernel_rfl) rfl
  · exact enters_of Tryz.func79 (by kernel_rfl) rfl
theorem putQ {l : List Bx} {p p2 : Option Addr} {c c2 i j B g : Nat} {W : World} (hP : PutP l i j) (hI : PuI l p c i j B W) (hG : GvI l [(i : Int), (j : Int)] p p2 c c2 g W) : ∀ r ∈ putRs B g, ∀ R : Ending → World → Prop, (∀ W', Below W.heap.size W W' → R (.returned (.bool false)) W') → Calls Tryz.prog r.f r.cap W R := by
  intro r hr R hR
  simp only [putRs, List.mem_cons, List.not_mem_nil, or_false] at hr
  rcases hr with rfl | rfl | rfl | rfl | rfl
  · refine given1_c l _ p p2 c c2 g W R hG hP.ok (fun x hx => ?_) (by simp) hR
    have h1 := hP.il; have h2 := hP.jl
    rcases List.mem_cons.1 hx with rfl | hx
    · omega
    · obtain rfl := List.mem_singleton.1 hx; omega
  · exact put2_c hI hP hR
  · exact put3_c hI hP hR
  · exact put4_c hI hP hR
  · exact put5_c hI hP hR
def putF (l : List Bx) (i j : Nat) : List Bx := l.set i { l.getD i default with parent := (j : Int) }
set_option maxRecDepth 100000 in
set_option maxHeartbeats 2000000 in
theorem nPut_c (l : List Bx) (i j : Nat) (p : Option Addr) (c : Nat) (w : World) (R) (hE : EncAt 5 Bx.cells w p l) (hP : PutP l i j)
    (hR : ∀ w' g cap, Below w.heap.size w w' → w'.ownsRow w.heap.size 69 5 (.slice (some ⟨g, 0, none⟩) l.length cap) l.length ((putF l i j).flatMap Bx.cells) → R (.returned (.tuple #[.slice (some ⟨g, 0, none⟩) l.length cap, .int .i64 0])) w') :
    Calls Tryz.prog 20 #[.slice p l.length c, .int .i64 (i : Int), .int .i64 (j : Int)] w R := by
  have hmf : ∀ (fn : Fn) (first cap : Array Value) (w : World), (Instr.makeFunc fn first cap).run Tryz.prog w = .ok (.func fn first cap) w := fun _ _ _ _ => rfl
  have HR := hide hR; have HP := hide hP
  obtain ⟨w1, hw1⟩ : ∃ w1, ((w.alloc (.cells #[.slice p l.length c] 66)).alloc (.cells #[.int .i64 (i : Int)] 3)).alloc (.cells #[.int .i64 (j : Int)] 3) = w1 := ⟨_, rfl⟩
  have hb1 : Below w.heap.size w w1 := hw1 ▸ balloc (balloc (balloc (Below.refl _ _) _) _) _
  have hI : PuI l p c i j w.heap.size w1 := by
    refine ⟨?_, ?_, ?_, hE.keep (Keeps.of_below hb1)⟩ <;> rw [← hw1] <;> repeat (first | exact Blk.new_at (by simp) | refine Blk.alloc ?_ _)
  have HI := hide hI; have HB1 := hide hb1
  have hH : PuS p l.length c i j w.heap.size w1 := ⟨hI.b0.cell rfl, hI.b1.cell rfl, hI.b2.cell rfl⟩
  clear hR hE hP hb1 hI
  go_enter Tryz.func20, Tryz.ntmps20
  go_wp2
  have x0 := hH.1; have x1 := hH.2.1; have x2 := hH.2.2
  clear hw1
  have KB : Hid (∀ W, Below w1.heap.size w1 W → PuS p l.length c i j w.heap.size W) := hide (fun W hb => ⟨(HI.out.next hb).b0.cell rfl, (HI.out.next hb).b1.cell rfl, (HI.out.next hb).b2.cell rfl⟩)
  have hHeld : PuS p l.length c i j w.heap.size w1.drew := hH
  clear x0 x1 x2 hH
  refine wp_region_held (S := PuS p l.length c i j w.heap.size) (by kernel_rfl) ?_
  change wpAnyH _ _ _ _ _ _ _ _ (World.drew _)
  refine wpAnyH_take (i := 0) (v := ?v0) rfl (by kernel_rfl) (by kernel_rfl) (by kernel_rfl) (fun _ _ _ h => h) (Or.inl ⟨by rfl, ?hy0⟩) hHeld ?rest0
  case hy0 => (intro w0 hSw; (try unfold PuS at hSw); go_simp; all_goals with_reducible rfl)
  try simp only [Act.put, List.getElem_toArray, List.getElem_cons_zero, List.getElem_cons_succ, List.setIfInBounds_toArray, List.set_cons_zero, List.set_cons_succ]
  refine wpAnyH_take (i := 1) (v := ?v1) rfl (by kernel_rfl) (by kernel_rfl) (by kernel_rfl) (fun _ _ _ h => h) (Or.inl ⟨by rfl, ?hy1⟩) hHeld ?rest1
  case hy1 => (intro w0 hSw; (try unfold PuS at hSw); go_simp; all_goals with_reducible rfl)
  try simp only [Act.put, List.getElem_toArray, List.getElem_cons_zero, List.getElem_cons_succ, List.setIfInBounds_toArray, List.set_cons_zero, List.set_cons_succ]
  refine wpAnyH_take (i := 2) (v := ?v2) rfl (by kernel_rfl) (by kernel_rfl) (by kernel_rfl) (fun _ _ _ h => h) (Or.inl ⟨by rfl, ?hy2⟩) hHeld ?rest2
  case hy2 => (intro w0 hSw; (try unfold PuS at hSw); go_simp; all_goals with_reducible rfl)
  try simp only [Act.put, List.getElem_toArray, List.getElem_cons_zero, List.getElem_cons_succ, List.setIfInBounds_toArray, List.set_cons_zero, List.set_cons_succ]
  refine wpAnyH_take (i := 3) (v := ?v3) rfl (by kernel_rfl) (by kernel_rfl) (by kernel_rfl) (fun _ _ _ h => h) (Or.inl ⟨by rfl, ?hy3⟩) hHeld ?rest3
  case hy3 => (intro w0 hSw; (try unfold PuS at hSw); go_simp; all_goals with_reducible rfl)
  try simp only [Act.put, List.getElem_toArray, List.getElem_cons_zero, List.getElem_cons_succ, List.setIfInBounds_toArray, List.set_cons_zero, List.set_cons_succ]
  refine wpAnyH_take (i := 4) (v := ?v4) rfl (by kernel_rfl) (by kernel_rfl) (by kernel_rfl) (fun _ _ _ h => h) (Or.inl ⟨by rfl, ?hy4⟩) hHeld ?rest4
  case hy4 => (intro w0 hSw; (try unfold PuS at hSw); go_simp; all_goals with_reducible rfl)
  try simp only [Act.put, List.getElem_toArray, List.getElem_cons_zero, List.getElem_cons_succ, List.setIfInBounds_toArray, List.set_cons_zero, List.set_cons_succ]
  refine wpAnyH_take (i := 7) (v := ?v7) rfl (by kernel_rfl) (by kernel_rfl) (by kernel_rfl) (fun _ _ _ h => h) (Or.inl ⟨by rfl, ?hy7⟩) hHeld ?rest7
  case hy7 => (intro w0 hSw; (try unfold PuS at hSw); go_simp; all_goals with_reducible rfl)
  try simp only [Act.put, List.getElem_toArray, List.getElem_cons_zero, List.getElem_cons_succ, List.setIfInBounds_toArray, List.set_cons_zero, List.set_cons_succ]
  refine wpAnyH_take (i := 8) (v := ?v8) rfl (by kernel_rfl) (by kernel_rfl) (by kernel_rfl) (fun _ _ _ h => h) (Or.inl ⟨by rfl, ?hy8⟩) hHeld ?rest8
  case hy8 => (intro w0 hSw; (try unfold PuS at hSw); go_simp; all_goals with_reducible rfl)
  try simp only [Act.put, List.getElem_toArray, List.getElem_cons_zero, List.getElem_cons_succ, List.setIfInBounds_toArray, List.set_cons_zero, List.set_cons_succ]
  refine wpAnyH_take (i := 9) (v := ?v9) rfl (by kernel_rfl) (by kernel_rfl) (by kernel_rfl) (fun _ _ _ h => h) (Or.inl ⟨by rfl, ?hy9⟩) hHeld ?rest9
  case hy9 => (intro w0 hSw; (try unfold PuS at hSw); go_simp; all_goals with_reducible rfl)
  try simp only [Act.put, List.getElem_toArray, List.getElem_cons_zero, List.getElem_cons_succ, List.setIfInBounds_toArray, List.set_cons_zero, List.set_cons_succ]
  refine wpAnyH_take (i := 10) (v := ?v10) rfl (by kernel_rfl) (by kernel_rfl) (by kernel_rfl) (fun _ _ _ h => h) (Or.inl ⟨by rfl, ?hy10⟩) hHeld ?rest10
  case hy10 => (intro w0 hSw; (try unfold PuS at hSw); go_simp; all_goals with_reducible rfl)
  try simp only [Act.put, List.getElem_toArray, List.getElem_cons_zero, List.getElem_cons_succ, List.setIfInBounds_toArray, List.set_cons_zero, List.set_cons_succ]
  refine wpAnyH_take (i := 11) (v := ?v11) rfl (by kernel_rfl) (by kernel_rfl) (by kernel_rfl) (fun _ _ _ h => h) (Or.inl ⟨by rfl, ?hy11⟩) hHeld ?rest11
  case hy11 => (intro w0 hSw; (try unfold PuS at hSw); go_simp; all_goals with_reducible rfl)
  try simp only [Act.put, List.getElem_toArray, List.getElem_cons_zero, List.getElem_cons_succ, List.setIfInBounds_toArray, List.set_cons_zero, List.set_cons_succ]
  refine wpAnyH_take (i := 12) (v := ?v12) rfl (by kernel_rfl) (by kernel_rfl) (by kernel_rfl) (fun _ _ _ h => h) (Or.inl ⟨by rfl, ?hy12⟩) hHeld ?rest12
  case hy12 => (intro w0 hSw; (try unfold PuS at hSw); go_simp; all_goals with_reducible rfl)
  try simp only [Act.put, List.getElem_toArray, List.getElem_cons_zero, List.getElem_cons_succ, List.setIfInBounds_toArray, List.set_cons_zero, List.set_cons_succ]
  refine wpAnyH_take (i := 13) (v := ?v13) rfl (by kernel_rfl) (by kernel_rfl) (by kernel_rfl) (fun _ _ _ h => h) (Or.inl ⟨by rfl, ?hy13⟩) hHeld ?rest13
  case hy13 => (intro w0 hSw; (try unfold PuS at hSw); go_simp; all_goals with_reducible rfl)
  try simp only [Act.put, List.getElem_toArray, List.getElem_cons_zero, List.getElem_cons_succ, List.setIfInBounds_toArray, List.set_cons_zero, List.set_cons_succ]
  refine wpAnyH_take (i := 14) (v := ?v14) rfl (by kernel_rfl) (by kernel_rfl) (by kernel_rfl) (fun _ _ _ h => h) (Or.inl ⟨by rfl, ?hy14⟩) hHeld ?rest14
  case hy14 => (intro w0 hSw; (try unfold PuS at hSw); go_simp; all_goals with_reducible rfl)
  try simp only [Act.put, List.getElem_toArray, List.getElem_cons_zero, List.getElem_cons_succ, List.setIfInBounds_toArray, List.set_cons_zero, List.set_cons_succ]
  refine wpAnyH_ready (rs := [5]) (by kernel_rfl) (by simp) ?_
  refine AllReadyH.cons rfl (fun K hK => ?_) AllReadyH.nil
  go_simp
  obtain ⟨w2, hw2⟩ : ∃ w2, (w1.alloc (.cells #[.int .i64 (i : Int), .int .i64 (j : Int)] 3)).drew = w2 := ⟨_, rfl⟩
  rw [hw2]
  have hb2 : Below w1.heap.size w1 w2 := hw2 ▸ (balloc (Below.refl _ _) _).drew
  have k2 : Blk w2 w1.heap.size #[.int .i64 (i : Int), .int .i64 (j : Int)] 3 := hw2 ▸ (show Blk (World.drew _) _ _ _ from Blk.new _ _ _)
  have HB2 := hide hb2
  have HK2 := hide k2
  refine hK.out _ _ (KB.out _ HB2.out) (fun hHeld' => ?_)
  clear hb2 k2 hw2
  clear hK K hHeld
  have hHeld := hHeld'
  clear hHeld'
  try simp only [Act.put, List.getElem_toArray, List.getElem_cons_zero, List.getElem_cons_succ, List.setIfInBounds_toArray, List.set_cons_zero, List.set_cons_succ]
  refine wpAnyH_ready (rs := [6]) (by kernel_rfl) (by simp) ?_
  refine AllReadyH.cons rfl (fun K hK => ?_) AllReadyH.nil
  go_simp
  refine given_c l [(i : Int), (j : Int)] p (some ⟨w1.heap.size, 0, none⟩) c 2 w2 _ (HI.out.next HB2.out).arr (idx2 HK2.out) ?_
  intro w3 hb hG
  have HB3 := hide (bseq HB2.out hb)
  have HG := hide hG
  refine hK.out _ _ (KB.out _ HB3.out) (fun hHeld' => ?_)
  clear hb hG
  clear hK K hHeld
  have hHeld := hHeld'
  clear hHeld'
  try simp only [Act.put, List.getElem_toArray, List.getElem_cons_zero, List.getElem_cons_succ, List.setIfInBounds_toArray, List.set_cons_zero, List.set_cons_succ]
  refine wpAnyH_ready (rs := [15]) (by kernel_rfl) (by simp) ?_
  refine AllReadyH.cons rfl (fun K hK => ?_) AllReadyH.nil
  go_simp
  obtain ⟨w4, hw4⟩ : ∃ w4, w3.alloc (.cells ((putRs w.heap.size w2.heap.size).flatMap Rul.cells).toArray 129) = w4 := ⟨_, rfl⟩
  have hw4' := hw4
  simp only [putRs, List.flatMap_cons, List.flatMap_nil, Rul.cells, List.append_nil, List.cons_append, List.nil_append] at hw4'
  rw [hw4']
  have hb4 : Below w1.heap.size w1 w4 := hw4 ▸ balloc HB3.out _
  have k4 : EncAt 2 Rul.cells w4 (some ⟨w3.heap.size, 0, none⟩) (putRs w.heap.size w2.heap.size) := hw4 ▸ EncAt.lit (enc := Rul.cells) (k := 2) (fun _ => rfl) _
  have HG4 := hide (HG.out.next (hw4 ▸ balloc (Below.refl _ _) _))
  have HB4 := hide hb4
  have HK4 := hide k4
  refine hK.out _ _ (KB.out _ HB4.out) (fun hHeld' => ?_)
  clear hb4 k4 hw4 hw4'
  clear hK K hHeld
  have hHeld := hHeld'
  clear hHeld'
  try simp only [Act.put, List.getElem_toArray, List.getElem_cons_zero, List.getElem_cons_succ, List.setIfInBounds_toArray, List.set_cons_zero, List.set_cons_succ]
  refine wpAnyH_ready (rs := [16]) (by kernel_rfl) (by simp) ?_
  refine AllReadyH.cons rfl (fun K hK => ?_) AllReadyH.nil
  go_simp
  refine change_c l (putF l i j) p c (putRs w.heap.size w2.heap.size) (some ⟨w3.heap.size, 0, none⟩) 5 74 #[.pointer (some ⟨w.heap.size + 1 + 1, 0, none⟩), .pointer (some ⟨w.heap.size + 1, 0, none⟩)] w4 _ (by have := HP.out.il; omega) (by have := HP.out.ok.len; omega) (HI.out.next HB4.out).arr HK4.out (by simp [putRs]) ?eg (enters_of Tryz.func74 (by kernel_rfl) rfl) ?hq ?ha ?fin
  case eg => exact putEg
  case hq => exact fun r hr W hb R hR => putQ HP.out ((HI.out.next HB4.out).next hb) (HG4.out.next hb) r hr R hR
  case ha => exact fun W g cap hb hown R hR => put1_c _ _ ((HI.out.next HB4.out).next hb) HP.out hb (.inr trivial) g cap hown (fun w' h1 h2 => hR _ w' h1 h2)
  case fin =>
    intro w5 g cap hb hown
    have HF := hide (HR.out w5 g cap (bseq (bseq HB1.out HB4.out) hb) (own_mono hown (bseq HB1.out HB4.out).size))
    refine hK.out _ _ (KB.out _ (bseq HB4.out hb)) (fun hHeld' => ?_)
    clear hb hown
    clear hK K hHeld
    have hHeld := hHeld'
    clear hHeld'
    try simp only [Act.put, List.getElem_toArray, List.getElem_cons_zero, List.getElem_cons_succ, List.setIfInBounds_toArray, List.set_cons_zero, List.set_cons_succ]
    refine wpAnyH_take (i := 17) (v := ?v17) rfl (by kernel_rfl) (by kernel_rfl) (by kernel_rfl) (fun _ _ _ h => h) (Or.inl ⟨by rfl, ?hy17⟩) hHeld ?rest17
    case hy17 => (intro w0 hSw; (try unfold PuS at hSw); go_simp; all_goals with_reducible rfl)
    try simp only [Act.put, List.getElem_toArray, List.getElem_cons_zero, List.getElem_cons_succ, List.setIfInBounds_toArray, List.set_cons_zero, List.set_cons_succ]
    refine wpAnyH_take (i := 18) (v := ?v18) rfl (by kernel_rfl) (by kernel_rfl) (by kernel_rfl) (fun _ _ _ h => h) (Or.inl ⟨by rfl, ?hy18⟩) hHeld ?rest18
    case hy18 => (intro w0 hSw; (try unfold PuS at hSw); go_simp; all_goals with_reducible rfl)
    try simp only [Act.put, List.getElem_toArray, List.getElem_cons_zero, List.getElem_cons_succ, List.setIfInBounds_toArray, List.set_cons_zero, List.set_cons_succ]
    refine wpAnyH_take (i := 19) (v := ?v19) rfl (by kernel_rfl) (by kernel_rfl) (by kernel_rfl) (fun _ _ _ h => h) (Or.inl ⟨by rfl, ?hy19⟩) hHeld ?rest19
    case hy19 => (intro w0 hSw; (try unfold PuS at hSw); go_simp; all_goals with_reducible rfl)
    try simp only [Act.put, List.getElem_toArray, List.getElem_cons_zero, List.getElem_cons_succ, List.setIfInBounds_toArray, List.set_cons_zero, List.set_cons_succ]
    refine wpAnyH_take (i := 20) (v := ?v20) rfl (by kernel_rfl) (by kernel_rfl) (by kernel_rfl) (fun _ _ _ h => h) (Or.inl ⟨by rfl, ?hy20⟩) hHeld ?rest20
    case hy20 => (intro w0 hSw; (try unfold PuS at hSw); go_simp; all_goals with_reducible rfl)
    try simp only [Act.put, List.getElem_toArray, List.getElem_cons_zero, List.getElem_cons_succ, List.setIfInBounds_toArray, List.set_cons_zero, List.set_cons_succ]
    refine wpAnyH_done (by kernel_rfl) ?_ _
    try refine NoPanic.normal ?_
    try go_wp2
    exact HF.out
end Go.Proofs.YtgfhcmidnbahjaaGreatDoor

namespace Go.Proofs.YtgfhcmidnbahjaaGreatDoor
open Go.RowKit Go.Shelf
attribute [local go_sem] Oper.semAt_some run_store_func

/-! ### A plan that leads -/
theorem passF_leads {N : Net} {nx φ : Mat} (hs : Snd N) (hp : PlanP N nx φ) {d : Nat} (hd : d < N.offs.length) (hl : ∀ x, x < N.offs.length → x ≠ d → nx x d ≠ -1) :
    ∀ (k x : Nat), x < N.offs.length → rankF N.offs.length (fun y => φ y d) x ≤ k → d ∈ passF N nx d k x := by
  intro k
  induction k with
  | zero =>
    intro x hx hr
    by_cases e : x = d
    · subst e; simp [passF]
    · obtain ⟨_, _, _, hd0, hd1⟩ := hp.dst hs hx hd (hl x hx e)
      have := rank_lt (n := N.offs.length) (f := fun y => φ y d) (o := x) (x := (linOf N (nx x d)).dst.toNat) (by omega) (hp.falls x d hx hd e (hl x hx e))
      omega
  | succ k ih =>
    intro x hx hr
    by_cases e : x = d
    · subst e; rw [passF]; simp
    · rw [passF_more e (hl x hx e)]
      obtain ⟨_, _, _, hd0, hd1⟩ := hp.dst hs hx hd (hl x hx e)
      have := rank_lt (n := N.offs.length) (f := fun y => φ y d) (o := x) (x := (linOf N (nx x d)).dst.toNat) (by omega) (hp.falls x d hx hd e (hl x hx e))
      exact List.mem_cons_of_mem _ (ih _ (by omega) (by omega))
theorem leads_all {N : Net} {fr till : Int} (hs : Snd N) (h6 : N.offs.length ≤ 20) (hl : ∀ a b, a < N.offs.length → b < N.offs.length → a ≠ b → nextF' N fr till a b ≠ -1) :
    ∀ x d, x < N.offs.length → d < N.offs.length → leadsF N (nextF' N fr till) x d = true := by
  intro x d hx hd
  have hp : PlanP N (nextF' N fr till) (boundF N fr till) := ⟨next_formed, next_falls hs⟩
  have hr := rank_bound (n := N.offs.length) (f := fun y => boundF N fr till y d) hx
  unfold leadsF
  exact decide_eq_true (passF_leads hs hp hd (fun y hy he => hl y d hy hd he) 19 x hx (by omega))
/-! ### The boxes of the check -/
def bx9 : List Bx := [⟨str1 73, 0, -1, 0, false⟩, ⟨str1 66, 1, -1, 0, false⟩]
theorem str1_ne : str1 73 ≠ str1 66 := fun h => by
  have := congrArg (fun b : ByteArray => b.data.toList) h
  exact absurd this (by decide)
theorem bxsP9 (q : Int) (hq : q = -1 ∨ q = 1) : BxsP [⟨str1 73, 0, q, 0, false⟩, ⟨str1 66, 1, -1, 0, false⟩] := by
  rcases hq with rfl | rfl
  all_goals
    refine ⟨by simp, ?_, ?_, ?_, ?_, ?_, ?_, ?_⟩
    · intro b hb; simp only [List.mem_cons, List.not_mem_nil, or_false] at hb; rcases hb with rfl | rfl <;> exact ⟨by decide, by decide⟩
    · simp only [List.map_cons, List.map_nil, List.nodup_cons, List.mem_singleton, List.not_mem_nil, not_false_eq_true, List.nodup_nil, and_true]; exact str1_ne
    · intro b hb; simp only [List.mem_cons, List.not_mem_nil, or_false] at hb; rcases hb with rfl | rfl <;> exact ⟨by decide, by decide⟩
    · intro b hb; simp only [List.mem_cons, List.not_mem_nil, or_false] at hb; rcases hb with rfl | rfl <;> exact ⟨by decide, by decide⟩
    · intro b hb; simp only [List.mem_cons, List.not_mem_nil, or_false] at hb; rcases hb with rfl | rfl <;> exact ⟨by decide, by decide⟩
    · intro b hb; simp only [List.mem_cons, List.not_mem_nil, or_false] at hb; rcases hb with rfl | rfl <;> (intro h; cases h)
    · intro b hb h0
      simp only [List.mem_cons, List.not_mem_nil, or_false] at hb
      rcases hb with rfl | rfl
      · first
        | exact absurd h0 (by decide)
        | exact ⟨⟨str1 66, 1, -1, 0, false⟩, rfl, by decide, rfl⟩
      · exact absurd h0 (by decide)
theorem putP9 : PutP bx9 0 1 := ⟨bxsP9 (-1) (.inl rfl), by decide, by decide, rfl, by decide, rfl, rfl, rfl⟩
theorem put9 : putF bx9 0 1 = [⟨str1 73, 0, 1, 0, false⟩, ⟨str1 66, 1, -1, 0, false⟩] := rfl
theorem root9 : rootF (putF bx9 0 1) 0 = 1 := by rw [put9]; rfl
end Go.Proofs.YtgfhcmidnbahjaaGreatDoor
