/- Boxes: Move. Boxes: Inside. Sorting in passes, as a function on plain lists: each pass keeps the items. -/
import Derived.Test.YtgfhcmidnbahjaaGreatDoorJ42
import Derived.Test.YtgfhcmidnbahjaaGreatDoorJ1
set_option linter.unusedVariables false
set_option linter.unusedSimpArgs false
namespace Go.Proofs.YtgfhcmidnbahjaaGreatDoor
section
open Go.RowKit Go.Shelf
attribute [local go_sem] Oper.semAt_some run_store_func
structure MvI (l : List Bx) (p : Option Addr) (c i : Nat) (P : Int) (g : Nat) (W : World) : Prop where
 on : BoI l p c i g W
 b2 : Blk W (g + 1 + 1) #[.int .i64 P] 3
theorem MvI.next {l : List Bx} {p : Option Addr} {c i : Nat} {P : Int} {g : Nat} {W W' : World} (h : MvI l p c i P g W) (hb : Below W.heap.size W W') : MvI l p c i P g W' := ⟨h.on.next hb, h.b2.next hb⟩
section
variable {l : List Bx} {p : Option Addr} {c i : Nat} {P : Int} {g : Nat} {w : World} {R : Ending → World → Prop}
set_option maxHeartbeats 1000000 in
theorem move2_c (hI : MvI l p c i P g w) (h0 : 0 ≤ P) (h12 : P < 12) (hR : ∀ w', Below w.heap.size w w' → R (.returned (.bool false)) w') : Calls Tryz.prog 86 #[.pointer (some ⟨g + 1 + 1, 0, none⟩)] w R := by
 have HR := hide hR
 have x2 := hI.b2.cell (k := 0) (v := .int .i64 P) rfl
 have q1 : ¬ (P < 0) := by omega
 have q2 : ¬ (12 ≤ P) := by omega
 clear hR
 go_enter Tryz.func86, Tryz.ntmps86
 go_wp2
 have hfin := HR.out w (Below.refl _ _)
 first
 | exact hfin
 | (rw [show decide (12 ≤ P) = false from decide_eq_false q2]; exact hfin)
set_option maxHeartbeats 1000000 in
theorem move3_c (hI : MvI l p c i P g w) (hil : i < l.length) (hf : (l.getD i default).parent = -1) (hR : ∀ w', Below w.heap.size w w' → R (.returned (.bool false)) w') : Calls Tryz.prog 87 #[.pointer (some ⟨g, 0, none⟩), .pointer (some ⟨g + 1, 0, none⟩)] w R := by
 have HR := hide hR
 have x0 := hI.on.b0.cell (k := 0) (v := .slice p l.length c) rfl; have x1 := hI.on.b1.cell (k := 0) (v := .int .i64 (i : Int)) rfl
 obtain ⟨b, o, hp, _, _, m2, _⟩ := hI.on.arr.bx hil
 rw [hf] at m2
 have q1 : (0 : Int) ≤ (i : Int) := by omega
 have q2 : (i : Int) < (l.length : Int) := by omega
 rw [hp] at x0
 clear hR hp
 go_enter Tryz.func87, Tryz.ntmps87
 go_wp2
 exact HR.out _ (Below.refl _ _)
structure MvR (l : List Bx) (is : List Nat) (P : Int) (i q cap B C : Nat) (p2 : Option Addr) (c2 k : Nat) (W0 W : World) : Prop where
 below : Below W0.heap.size W0 W
 row : W.ownsRow W0.heap.size 69 5 (.slice (some ⟨q, 0, none⟩) l.length cap) l.length ((mvF l P (i :: is.take k)).flatMap Bx.cells)
 lst : W.ownsRow C 3 1 (.slice p2 is.length c2) is.length ((intsN is).map (Value.int .i64))
 far : q < C
set_option maxRecDepth 100000 in
set_option maxHeartbeats 2000000 in
theorem move1_c (W0 : World) (hI : MvI l p c i P g W0) (hil : i < l.length) (hl : l.length ≤ 1000) (hleaf : ∀ j, j < l.length → (l.getD j default).parent = (i : Int) → ∀ k, k < l.length → (l.getD k default).parent ≠ (j : Int)) (hb0 : Below W0.heap.size W0 w) (q : Nat) (cap : Nat) (hown : w.ownsRow W0.heap.size 69 5 (.slice (some ⟨q, 0, none⟩) l.length cap) l.length (l.flatMap Bx.cells))
  (hR : ∀ w', Below W0.heap.size W0 w' → w'.ownsRow W0.heap.size 69 5 (.slice (some ⟨q, 0, none⟩) l.length cap) l.length ((mvF l P (i :: insF l i)).flatMap Bx.cells) → R (.returned (.tuple #[])) w') :
  Calls Tryz.prog 84 #[.slice (some ⟨q, 0, none⟩) l.length cap, .pointer (some ⟨g + 1 + 1, 0, none⟩), .pointer (some ⟨g + 1, 0, none⟩), .pointer (some ⟨g, 0, none⟩)] w R := by
 have HR := hide hR; have HL := hide hleaf
 have hI1 := hI.next hb0
 have x0 := hI1.on.b0.cell (k := 0) (v := .slice p l.length c) rfl; have x1 := hI1.on.b1.cell (k := 0) (v := .int .i64 (i : Int)) rfl; have x2 := hI1.b2.cell (k := 0) (v := .int .i64 P) rfl
 have q1 : (0 : Int) ≤ (i : Int) := by omega
 have q2 : (i : Int) < (l.length : Int) := by omega
 obtain ⟨z, hz⟩ : ∃ z, (l.flatMap Bx.cells)[i * 5 + 3]? = some z := ⟨_, List.getElem?_eq_getElem (by rw [flatMap_len bx_len]; omega)⟩
 have g1' := hown.cells (g := q) rfl _ _ hz
 have f1' := hown.frozenAt (i * 5 + 3)
 rw [Addr.add_lit, Nat.zero_add] at g1'
 have hS := (hown.stored (i * 5 + 3) (.int .i64 P)).1
 rw [bx_set l i 3 hil _ { l.getD i default with place := P } rfl (by omega)] at hS
 have hBq := (hown.lt q rfl)
 have hb1 := hb0.setCell (p := ⟨q, i * 5 + 3, none⟩) hBq.1 (.int .i64 P)
 obtain ⟨w1, hw1⟩ : ∃ w1, w.setCell ⟨q, i * 5 + 3, none⟩ (.int .i64 P) = w1 := ⟨_, rfl⟩
 have hqw : q < w1.heap.size := by rw [← hw1]; simpa using hBq.2
 rw [hw1] at hS hb1
 have HI := hide hI; have HB1 := hide hb1; have HO1 := hide hS; have Hq := hide hBq.1; have Hqw := hide hqw
 have hI2 := hI.next hb1
 have y0 := hI2.on.b0.cell (k := 0) (v := .slice p l.length c) rfl; have y1 := hI2.on.b1.cell (k := 0) (v := .int .i64 (i : Int)) rfl
 clear hR hown hS hb1 hb0 hz hleaf hI hI1 hI2 hBq hqw
 go_enter Tryz.func84, Tryz.ntmps84
 go_wp2_with (go_at_call 85; refine Stop.out ?_)
 try rw [hw1]
 clear hw1 x0 x1 x2 g1' f1'
 refine Stop.go (contents_c l p c i w1 _ (HI.out.next HB1.out).on.arr hl HL.out ?_)
 intro w2 p2 c2 hb hown
 obtain ⟨is, his⟩ : ∃ is, insF l i = is := ⟨_, rfl⟩
 have hisl : is.length ≤ 1000 := by rw [← his]; exact Nat.le_trans (insF_len l i) hl
 have hism : ∀ k ∈ is, k < l.length := by
  rw [← his]; unfold insF
  intro k hk
  exact List.mem_range.1 (List.mem_filter.1 hk).1
 rw [his] at hown ⊢
 rw [his] at HR
 have HM : Hid (MvR l is P i q cap w1.heap.size w1.heap.size p2 c2 0 W0 w2) := hide ⟨bseq HB1.out hb, own_below HO1.out hb, hown, Hqw.out⟩
 have HIm := hide hism
 clear hb hown his hism y0 y1 HO1 HB1
 go_wp2
 go_loopw [16] (fun sk wr => ∃ k : Nat, k ≤ is.length ∧ sk = .int .i64 k ∧ Hid (MvR l is P i q cap w1.heap.size w1.heap.size p2 c2 k W0 wr)) (fun sk _ => is.length - (intOf sk).toNat)
 case atStart => exact ⟨0, Nat.zero_le _, rfl, HM⟩
 case round =>
  clear HM
  obtain ⟨k, hk, rfl, HM⟩ := hrel
  by_cases hlt : k < is.length
  ·obtain ⟨y, hy⟩ : ∃ y, is[k]? = some y := ⟨_, List.getElem?_eq_getElem hlt⟩
   have hyl := HIm.out y (List.mem_of_getElem? hy)
   obtain ⟨b2, o2, yv, hp2, hyv, c0⟩ := (IntsAt.of_own (l := intsN is) HM.out.lst).at_ (i := k) (by rw [intsN_len]; exact hlt)
   rw [intsN_at hy] at hyv; injection hyv with hyv; subst hyv
   have x2 := (HI.out.next HM.out.below).b2.cell (k := 0) (v := .int .i64 P) rfl
   have hL : (mvF l P (i :: is.take k)).length = l.length := mvF_len _ _ _
   obtain ⟨z, hz⟩ : ∃ z, ((mvF l P (i :: is.take k)).flatMap Bx.cells)[y * 5 + 3]? = some z := ⟨_, List.getElem?_eq_getElem (by rw [flatMap_len bx_len, hL]; omega)⟩
   have g1' := HM.out.row.cells (g := q) rfl _ _ hz
   have f1' := HM.out.row.frozenAt (y * 5 + 3)
   rw [Addr.add_lit, Nat.zero_add] at g1'
   have hS := (HM.out.row.stored (y * 5 + 3) (.int .i64 P)).1
   rw [bx_set _ y 3 (by rw [hL]; exact hyl) _ { (mvF l P (i :: is.take k)).getD y default with place := P } rfl (by omega), ← mvF_snoc] at hS
   have e : i :: is.take k ++ [y] = i :: is.take (k + 1) := by rw [List.take_add_one, hy]; rfl
   rw [e] at hS
   have HM2 : Hid (MvR l is P i q cap w1.heap.size w1.heap.size p2 c2 (k + 1) W0 (wr.setCell ⟨q, y * 5 + 3, none⟩ (.int .i64 P))) :=
    hide ⟨HM.out.below.setCell (p := ⟨q, y * 5 + 3, none⟩) Hq.out _, hS, ownsRow_setCell_other HM.out.lst (fun e => by have : w1.heap.size ≤ q := (HM.out.lst.lt _ e).1; have := Hqw.out; omega) _, HM.out.far⟩
   have q3 : (0 : Int) ≤ (k : Int) := by omega
   have q4 : (k : Int) < (is.length : Int) := by omega
   have q5 : (0 : Int) ≤ (y : Int) := by omega
   have q6 : (y : Int) < (l.length : Int) := by omega
   subst hp2
   clear hy hz hS hL e HM
   go_wp2
   go_roundw
   case rel => exact ⟨k + 1, by omega, by go_num, HM2⟩
   case measure => simp [intOf]; omega
  ·have q3 : ¬ (k : Int) < (is.length : Int) := by omega
   have e : is.take k = is := List.take_of_length_le (by omega)
   have hrow := HM.out.row
   rw [e] at hrow
   have HF := hide (HR.out wr HM.out.below hrow)
   clear hrow e
   go_wp2
   first
   | exact bodyPost_end (results_none Tryz.results84 _ _ _) rfl HF.out
   | exact HF.out
end
def MvS (p : Option Addr) (n c i : Nat) (P : Int) (B : Nat) (W : World) : Prop := W.cell? ⟨B, 0, none⟩ = some (.slice p n c) ∧ W.cell? ⟨B + 1, 0, none⟩ = some (.int .i64 (i : Int)) ∧ W.cell? ⟨B + 1 + 1, 0, none⟩ = some (.int .i64 P)
def moveRs (B g : Nat) : List Rul :=
 [⟨141, #[.pointer (some ⟨g, 0, none⟩), .pointer (some ⟨g + 1, 0, none⟩)], 1⟩, ⟨86, #[.pointer (some ⟨B + 1 + 1, 0, none⟩)], 1⟩,
  ⟨87, #[.pointer (some ⟨B, 0, none⟩), .pointer (some ⟨B + 1, 0, none⟩)], 150⟩]
theorem moveEg {B g : Nat} : ∀ r ∈ moveRs B g, ∀ args w, (callFunc r.f args).run Tryz.prog w = .ok (.enter r.f args) w := by
 intro r hr
 simp only [moveRs, List.mem_cons, List.not_mem_nil, or_false] at hr
 rcases hr with rfl | rfl | rfl
 ·exact enters_of Tryz.func141 (by kernel_rfl) rfl
 ·exact enters_of Tryz.func86 (by kernel_rfl) rfl
 ·exact enters_of Tryz.func87 (by kernel_rfl) rfl
theorem moveQ {l : List Bx} {p p2 : Option Addr} {c c2 i B g : Nat} {P : Int} {W : World} (hok : BxsP l) (hil : i < l.length) (hf : (l.getD i default).parent = -1) (h0 : 0 ≤ P) (h12 : P < 12) (hI : MvI l p c i P B W) (hG : GvI l [(i : Int)] p p2 c c2 g W) : ∀ r ∈ moveRs B g, ∀ R : Ending → World → Prop, (∀ W', Below W.heap.size W W' → R (.returned (.bool false)) W') → Calls Tryz.prog r.f r.cap W R := by
 intro r hr R hR
 simp only [moveRs, List.mem_cons, List.not_mem_nil, or_false] at hr
 rcases hr with rfl | rfl | rfl
 ·exact given1_c l _ p p2 c c2 g W R hG hok (given_one hil) (by simp) hR
 ·exact move2_c hI h0 h12 hR
 ·exact move3_c hI hil hf hR
set_option maxRecDepth 100000 in
set_option maxHeartbeats 2000000 in
theorem nMove_c (l : List Bx) (i : Nat) (P : Int) (p : Option Addr) (c : Nat) (w : World) (R) (hE : EncAt 5 Bx.cells w p l) (hok : BxsP l) (hil : i < l.length) (hf : (l.getD i default).parent = -1) (h0 : 0 ≤ P) (h12 : P < 12)
  (hleaf : ∀ j, j < l.length → (l.getD j default).parent = (i : Int) → ∀ k, k < l.length → (l.getD k default).parent ≠ (j : Int))
  (hR : ∀ w' g cap, Below w.heap.size w w' → w'.ownsRow w.heap.size 69 5 (.slice (some ⟨g, 0, none⟩) l.length cap) l.length ((mvF l P (i :: insF l i)).flatMap Bx.cells) → R (.returned (.tuple #[.slice (some ⟨g, 0, none⟩) l.length cap, .int .i64 0])) w') :
  Calls Tryz.prog 22 #[.slice p l.length c, .int .i64 (i : Int), .int .i64 P] w R := by
 have hmf : ∀ (fn : Fn) (first cap : Array Value) (w : World), (Instr.makeFunc fn first cap).run Tryz.prog w = .ok (.func fn first cap) w := fun _ _ _ _ => rfl
 have HR := hide hR; have HOk := hide hok; have HIl := hide hil; have HFr := hide hf; have HLe := hide hleaf; have H0 := hide h0; have H12 := hide h12
 obtain ⟨w1, hw1⟩ : ∃ w1, ((w.alloc (.cells #[.slice p l.length c] 66)).alloc (.cells #[.int .i64 (i : Int)] 3)).alloc (.cells #[.int .i64 P] 3) = w1 := ⟨_, rfl⟩
 have hb1 : Below w.heap.size w w1 := hw1 ▸ balloc (balloc (balloc (Below.refl _ _) _) _) _
 have hI : MvI l p c i P w.heap.size w1 := by
  refine ⟨⟨?_, ?_, hE.keep (Keeps.of_below hb1)⟩, ?_⟩ <;> rw [← hw1] <;> repeat (first | exact Blk.new_at (by simp) | refine Blk.alloc ?_ _)
 have HI := hide hI; have HB1 := hide hb1
 have hH : MvS p l.length c i P w.heap.size w1 := ⟨hI.on.b0.cell rfl, hI.on.b1.cell rfl, hI.b2.cell rfl⟩
 clear hR hE hok hb1 hI hil hf hleaf h0 h12
 go_enter Tryz.func22, Tryz.ntmps22
 go_wp2
 have x0 := hH.1; have x1 := hH.2.1; have x2 := hH.2.2
 clear hw1
 have KB : Hid (∀ W, Below w1.heap.size w1 W → MvS p l.length c i P w.heap.size W) := hide (fun W hb => ⟨(HI.out.next hb).on.b0.cell rfl, (HI.out.next hb).on.b1.cell rfl, (HI.out.next hb).b2.cell rfl⟩)
 have hHeld : MvS p l.length c i P w.heap.size w1.drew := hH
 clear x0 x1 x2 hH
 refine wp_region_held (S := MvS p l.length c i P w.heap.size) (by kernel_rfl) ?_
 change wpAnyH _ _ _ _ _ _ _ _ (World.drew _)
 refine wpAnyH_take (i := 0) (v := ?v0) rfl (by kernel_rfl) (by kernel_rfl) (by kernel_rfl) (fun _ _ _ h => h) (Or.inl ⟨by rfl, ?hy0⟩) hHeld ?rest0
 case hy0 => (intro w0 hSw; (try unfold MvS at hSw); go_simp; all_goals with_reducible rfl)
 try simp only [aP, Act.put]
 refine wpAnyH_take (i := 1) (v := ?v1) rfl (by kernel_rfl) (by kernel_rfl) (by kernel_rfl) (fun _ _ _ h => h) (Or.inl ⟨by rfl, ?hy1⟩) hHeld ?rest1
 case hy1 => (intro w0 hSw; (try unfold MvS at hSw); go_simp; all_goals with_reducible rfl)
 try simp only [aP, Act.put]
 refine wpAnyH_take (i := 2) (v := ?v2) rfl (by kernel_rfl) (by kernel_rfl) (by kernel_rfl) (fun _ _ _ h => h) (Or.inl ⟨by rfl, ?hy2⟩) hHeld ?rest2
 case hy2 => (intro w0 hSw; (try unfold MvS at hSw); go_simp; all_goals with_reducible rfl)
 try simp only [aP, Act.put]
 refine wpAnyH_take (i := 3) (v := ?v3) rfl (by kernel_rfl) (by kernel_rfl) (by kernel_rfl) (fun _ _ _ h => h) (Or.inl ⟨by rfl, ?hy3⟩) hHeld ?rest3
 case hy3 => (intro w0 hSw; (try unfold MvS at hSw); go_simp; all_goals with_reducible rfl)
 try simp only [aP, Act.put]
 refine wpAnyH_take (i := 6) (v := ?v6) rfl (by kernel_rfl) (by kernel_rfl) (by kernel_rfl) (fun _ _ _ h => h) (Or.inl ⟨by rfl, ?hy6⟩) hHeld ?rest6
 case hy6 => (intro w0 hSw; (try unfold MvS at hSw); go_simp; all_goals with_reducible rfl)
 try simp only [aP, Act.put]
 refine wpAnyH_take (i := 7) (v := ?v7) rfl (by kernel_rfl) (by kernel_rfl) (by kernel_rfl) (fun _ _ _ h => h) (Or.inl ⟨by rfl, ?hy7⟩) hHeld ?rest7
 case hy7 => (intro w0 hSw; (try unfold MvS at hSw); go_simp; all_goals with_reducible rfl)
 try simp only [aP, Act.put]
 refine wpAnyH_take (i := 8) (v := ?v8) rfl (by kernel_rfl) (by kernel_rfl) (by kernel_rfl) (fun _ _ _ h => h) (Or.inl ⟨by rfl, ?hy8⟩) hHeld ?rest8
 case hy8 => (intro w0 hSw; (try unfold MvS at hSw); go_simp; all_goals with_reducible rfl)
 try simp only [aP, Act.put]
 refine wpAnyH_take (i := 9) (v := ?v9) rfl (by kernel_rfl) (by kernel_rfl) (by kernel_rfl) (fun _ _ _ h => h) (Or.inl ⟨by rfl, ?hy9⟩) hHeld ?rest9
 case hy9 => (intro w0 hSw; (try unfold MvS at hSw); go_simp; all_goals with_reducible rfl)
 try simp only [aP, Act.put]
 refine wpAnyH_ready (rs := [4]) (by kernel_rfl) (by simp) ?_
 refine AllReadyH.cons rfl (fun K hK => ?_) AllReadyH.nil
 go_simp
 obtain ⟨w2, hw2⟩ : ∃ w2, (w1.alloc (.cells #[.int .i64 (i : Int)] 3)).drew = w2 := ⟨_, rfl⟩
 rw [hw2]
 have hb2 : Below w1.heap.size w1 w2 := hw2 ▸ (balloc (Below.refl _ _) _).drew
 have k2 : Blk w2 w1.heap.size #[.int .i64 (i : Int)] 3 := hw2 ▸ (show Blk (World.drew _) _ _ _ from Blk.new _ _ _)
 have HB2 := hide hb2
 have HK2 := hide k2
 refine hK.out _ _ (KB.out _ HB2.out) (fun hHeld' => ?_)
 clear hb2 k2 hw2
 clear hK K hHeld
 have hHeld := hHeld'
 clear hHeld'
 try simp only [aP, Act.put]
 refine wpAnyH_ready (rs := [5]) (by kernel_rfl) (by simp) ?_
 refine AllReadyH.cons rfl (fun K hK => ?_) AllReadyH.nil
 go_simp
 refine given_c l [(i : Int)] p (some ⟨w1.heap.size, 0, none⟩) c 1 w2 _ (HI.out.next HB2.out).on.arr (idx1 HK2.out) ?_
 intro w3 hb hG
 have HB3 := hide (bseq HB2.out hb)
 have HG := hide hG
 refine hK.out _ _ (KB.out _ HB3.out) (fun hHeld' => ?_)
 clear hb hG
 clear hK K hHeld
 have hHeld := hHeld'
 clear hHeld'
 try simp only [aP, Act.put]
 refine wpAnyH_ready (rs := [10]) (by kernel_rfl) (by simp) ?_
 refine AllReadyH.cons rfl (fun K hK => ?_) AllReadyH.nil
 go_simp
 obtain ⟨w5, hw5⟩ : ∃ w5, w3.alloc (.cells ((moveRs w.heap.size w2.heap.size).flatMap Rul.cells).toArray 129) = w5 := ⟨_, rfl⟩
 have hw5' := hw5
 simp only [moveRs, List.flatMap_cons, List.flatMap_nil, Rul.cells, List.append_nil, List.cons_append, List.nil_append] at hw5'
 rw [hw5']
 have hb5 : Below w1.heap.size w1 w5 := hw5 ▸ balloc HB3.out _
 have k5 : EncAt 2 Rul.cells w5 (some ⟨w3.heap.size, 0, none⟩) (moveRs w.heap.size w2.heap.size) := hw5 ▸ EncAt.lit (enc := Rul.cells) (k := 2) (fun _ => rfl) _
 have HG5 := hide (HG.out.next (hw5 ▸ balloc (Below.refl _ _) _))
 have HB5 := hide hb5
 have HK5 := hide k5
 refine hK.out _ _ (KB.out _ HB5.out) (fun hHeld' => ?_)
 clear hb5 k5 hw5 hw5'
 clear hK K hHeld
 have hHeld := hHeld'
 clear hHeld'
 try simp only [aP, Act.put]
 refine wpAnyH_ready (rs := [11]) (by kernel_rfl) (by simp) ?_
 refine AllReadyH.cons rfl (fun K hK => ?_) AllReadyH.nil
 go_simp
 refine change_c l (mvF l P (i :: insF l i)) p c (moveRs w.heap.size w2.heap.size) (some ⟨w3.heap.size, 0, none⟩) 3 84 #[.pointer (some ⟨w.heap.size + 1 + 1, 0, none⟩), .pointer (some ⟨w.heap.size + 1, 0, none⟩), .pointer (some ⟨w.heap.size, 0, none⟩)] w5 _ (by have := HIl.out; omega) (by have := HOk.out.len; omega) (HI.out.next HB5.out).on.arr HK5.out (by simp [moveRs]) ?eg (enters_of Tryz.func84 (by kernel_rfl) rfl) ?hq ?ha ?fin
 case eg => exact moveEg
 case hq => exact fun r hr W hb R hR => moveQ HOk.out HIl.out HFr.out H0.out H12.out ((HI.out.next HB5.out).next hb) (HG5.out.next hb) r hr R hR
 case ha => exact fun W g cap hb hown R hR => move1_c w5 (HI.out.next HB5.out) HIl.out (by have := HOk.out.len; omega) HLe.out hb g cap hown (fun w' h1 h2 => hR _ w' h1 h2)
 case fin =>
  intro w6 g cap hb hown
  have HF := hide (HR.out w6 g cap (bseq (bseq HB1.out HB5.out) hb) (own_mono hown (bseq HB1.out HB5.out).size))
  refine hK.out _ _ (KB.out _ (bseq HB5.out hb)) (fun hHeld' => ?_)
  clear hb hown
  clear hK K hHeld
  have hHeld := hHeld'
  clear hHeld'
  try simp only [aP, Act.put]
  refine wpAnyH_take (i := 12) (v := ?v12) rfl (by kernel_rfl) (by kernel_rfl) (by kernel_rfl) (fun _ _ _ h => h) (Or.inl ⟨by rfl, ?hy12⟩) hHeld ?rest12
  case hy12 => (intro w0 hSw; (try unfold MvS at hSw); go_simp; all_goals with_reducible rfl)
  try simp only [aP, Act.put]
  refine wpAnyH_take (i := 13) (v := ?v13) rfl (by kernel_rfl) (by kernel_rfl) (by kernel_rfl) (fun _ _ _ h => h) (Or.inl ⟨by rfl, ?hy13⟩) hHeld ?rest13
  case hy13 => (intro w0 hSw; (try unfold MvS at hSw); go_simp; all_goals with_reducible rfl)
  try simp only [aP, Act.put]
  refine wpAnyH_take (i := 14) (v := ?v14) rfl (by kernel_rfl) (by kernel_rfl) (by kernel_rfl) (fun _ _ _ h => h) (Or.inl ⟨by rfl, ?hy14⟩) hHeld ?rest14
  case hy14 => (intro w0 hSw; (try unfold MvS at hSw); go_simp; all_goals with_reducible rfl)
  try simp only [aP, Act.put]
  refine wpAnyH_take (i := 15) (v := ?v15) rfl (by kernel_rfl) (by kernel_rfl) (by kernel_rfl) (fun _ _ _ h => h) (Or.inl ⟨by rfl, ?hy15⟩) hHeld ?rest15
  case hy15 => (intro w0 hSw; (try unfold MvS at hSw); go_simp; all_goals with_reducible rfl)
  try simp only [aP, Act.put]
  refine wpAnyH_done (by kernel_rfl) ?_ _
  try refine NoPanic.normal ?_
  try go_wp2
  exact HF.out
end
section
open Go.RowKit Go.Shelf
attribute [local go_sem] Oper.semAt_some run_store_func
set_option maxRecDepth 100000 in
set_option maxHeartbeats 1000000 in
theorem nInside_c (l : List Bx) (o : Nat) (p : Option Addr) (c : Nat) (w : World) (R : Ending → World → Prop) (hE : EncAt 5 Bx.cells w p l) (hok : BxsP l) (ho : o < l.length)
  (hleaf : ∀ j, j < l.length → (l.getD j default).parent = (o : Int) → ∀ k, k < l.length → (l.getD k default).parent ≠ (j : Int))
  (hR : ∀ w' p2 c2, Below w.heap.size w w' → R (.returned (.slice p2 (insF l o).length c2)) w') :
  Calls Tryz.prog 23 #[.slice p l.length c, .int .i64 (o : Int)] w R := by
 have HR := hide hR; have HE := hide hE; have HOk := hide hok; have HLe := hide hleaf
 have hlen := hok.len
 obtain ⟨w1, hw1⟩ : ∃ w1, w.alloc (.cells #[.int .i64 (o : Int)] 3) = w1 := ⟨_, rfl⟩
 have hb1 : Below w.heap.size w w1 := hw1 ▸ balloc (Below.refl _ _) _
 have hx1 : IntsAt .i64 w1 (some ⟨w.heap.size, 0, none⟩) [(o : Int)] := hw1 ▸ idx1 (Blk.new w 3 #[.int .i64 (o : Int)])
 have HB1 := hide hb1; have HX1 := hide hx1
 clear hR hE hok hleaf hb1 hx1
 go_enter Tryz.func23, Tryz.ntmps23
 go_wp2_with (go_at_call 88; refine Stop.out ?_)
 clear hw1
 refine Stop.go (nHas_c l [(o : Int)] p (some ⟨w.heap.size, 0, none⟩) c 1 w1 _ HOk.out (HE.out.keep (Keeps.of_below HB1.out)) HX1.out (given_one ho) (by simp) ?_)
 intro w2 hb
 have HB2 := hide (bseq HB1.out hb)
 clear hb
 go_wp2_with (go_at_call 85; refine Stop.out ?_)
 refine Stop.go (contents_c l p c o w2 _ (HE.out.keep (Keeps.of_below HB2.out)) (by omega) HLe.out ?_)
 intro w3 p2 c2 hb _
 have HF := hide (HR.out w3 p2 c2 (bseq HB2.out hb))
 clear hb
 go_wp2
 exact HF.out
end
section
open Go.RowKit
def binL (pk : Nat → Nat) (l : List Nat) (a : Nat) : List Nat := l.filter fun x => decide (pk x = a)
def passL (pk : Nat → Nat) (P : Nat) (l : List Nat) : List Nat := (List.range P).flatMap (binL pk l)
theorem passL_succ (pk : Nat → Nat) (P : Nat) (l : List Nat) : passL pk (P + 1) l = passL pk P l ++ binL pk l P := by
 unfold passL; rw [List.range_succ, List.flatMap_append]; simp
theorem passL_low (pk : Nat → Nat) (l : List Nat) : ∀ P, (passL pk P l).Perm (l.filter fun x => decide (pk x < P))
 | 0 => by
  have : l.filter (fun x => decide (pk x < 0)) = [] := by rw [List.filter_eq_nil_iff]; intro x _; simp
  rw [this]; exact List.Perm.refl _
 | P + 1 => by
  rw [passL_succ]
  refine ((passL_low pk l P).append_right _).trans ?_
  have h := List.filter_append_perm (fun x => decide (pk x < P)) (l.filter fun x => decide (pk x < P + 1))
  rw [List.filter_filter, List.filter_filter] at h
  have e1 : l.filter (fun a => decide (pk a < P) && decide (pk a < P + 1)) = l.filter fun x => decide (pk x < P) := by
   refine List.filter_congr fun x _ => ?_
   rw [Bool.eq_iff_iff]; simp; omega
  have e2 : l.filter (fun a => !decide (pk a < P) && decide (pk a < P + 1)) = binL pk l P := by
   unfold binL
   refine List.filter_congr fun x _ => ?_
   rw [Bool.eq_iff_iff]; simp; omega
  rw [e1, e2] at h
  exact h
theorem passL_perm {pk : Nat → Nat} {P : Nat} {l : List Nat} (h : ∀ x ∈ l, pk x < P) : (passL pk P l).Perm l := by
 have := passL_low pk l P
 rwa [List.filter_eq_self.2 (fun x hx => by simpa using h x hx)] at this
theorem binL_snoc (pk : Nat → Nat) (l : List Nat) (x a : Nat) : binL pk (l ++ [x]) a = if pk x = a then binL pk l a ++ [x] else binL pk l a := by
 unfold binL
 rw [List.filter_append]
 by_cases h : pk x = a
 ·rw [if_pos h]; simp [h]
 ·rw [if_neg h]; simp [h]
theorem binL_len (pk : Nat → Nat) (l : List Nat) (a : Nat) : (binL pk l a).length ≤ l.length := List.length_filter_le _ _
def runL (pk : Nat → Nat → Nat) (P : Nat) (l : List Nat) : Nat → List Nat
 | 0 => l
 | k + 1 => passL (pk k) P (runL pk P l k)
end
end Go.Proofs.YtgfhcmidnbahjaaGreatDoor
