/- Boxes: what is in a box that holds no box with boxes (contents). Boxes: Close. -/
import Derived.Test.YtgfhcmidnbahjaaGreatDoorJ37
import Derived.Test.YtgfhcmidnbahjaaGreatDoorJ23
import Derived.Test.YtgfhcmidnbahjaaGreatDoorJ41
import Derived.Sort.OwnSortedInts
set_option linter.unusedVariables false
set_option linter.unusedSimpArgs false
namespace Go.Proofs.YtgfhcmidnbahjaaGreatDoor
section
open Go.RowKit Go.Shelf
attribute [local go_sem] Oper.semAt_some run_store_func
structure CtI (l : List Bx) (p : Option Addr) (c g : Nat) (W0 : World) (a : List Nat) (v : Value) (W : World) : Prop where
 b0 : Blk W g #[.slice p l.length c] 66
 b1 : Blk W (g + 1) #[v] 40
 b2 : Blk W (g + 1 + 1) #[.func (.func 143) #[] #[.pointer (some ⟨g, 0, none⟩), .pointer (some ⟨g + 1, 0, none⟩), .pointer (some ⟨g + 1 + 1, 0, none⟩)]] 203
 own : W.ownsRow (g + 3) 3 1 v a.length ((intsN a).map (Value.int .i64))
 arr : EncAt 5 Bx.cells W0 p l
 below : Below W0.heap.size W0 W
 eq : W0.heap.size = g
 le : g + 3 ≤ W.heap.size
section
variable {l : List Bx} {p : Option Addr} {c g : Nat} {W0 W W' : World} {a : List Nat} {v : Value}
theorem CtI.next (h : CtI l p c g W0 a v W) (hb : Below W.heap.size W W') : CtI l p c g W0 a v W' :=
 ⟨h.b0.next hb, h.b1.next hb, h.b2.next hb, own_below h.own hb, h.arr, bseq h.below hb, h.eq, Nat.le_trans h.le hb.size⟩
theorem CtI.arr' (h : CtI l p c g W0 a v W) : EncAt 5 Bx.cells W p l := h.arr.keep (Keeps.of_below h.below)
theorem CtI.not0 (h : CtI l p c g W0 a v W) {k : Nat} (hk : k < g + 3) : some k ≠ v.ownBlock := fun e => by have := (h.own.lt _ e.symm).1; omega
theorem CtI.app {v' : Value} {k : Nat} (h : CtI l p c g W0 a v W) (hown : W'.ownsRow (g + 3) 3 1 v' (a.length + 1) ((intsN a).map (Value.int .i64) ++ [.int .i64 (k : Int)])) (hg : W.grownBy W' v.ownBlock) :
  CtI l p c g W0 (a ++ [k]) v' (W'.setCell ⟨g + 1, 0, none⟩ v') := by
 have e := h.eq
 have hv' : v'.ownBlock ≠ some (⟨g + 1, 0, none⟩ : Addr).block := fun e => by have : g + 3 ≤ g + 1 := (hown.lt _ e).1; omega
 refine ⟨(h.b0.grown hg (h.not0 (by omega))).far (p := ⟨g + 1, 0, none⟩) (show g ≠ g + 1 by omega) _, (h.b1.grown hg (h.not0 (by omega))).set 0 v', (h.b2.grown hg (h.not0 (by omega))).far (p := ⟨g + 1, 0, none⟩) (show g + 1 + 1 ≠ g + 1 by omega) _, ?_, h.arr, ?_, h.eq, ?_⟩
 ·rw [List.length_append]
  show World.ownsRow _ _ _ _ _ (a.length + 1) _
  have e2 : (intsN (a ++ [k])).map (Value.int .i64) = (intsN a).map (Value.int .i64) ++ [.int .i64 (k : Int)] := by unfold intsN; simp
  rw [e2]
  exact ownsRow_setCell_other hown hv' _
 ·exact (h.below.grown hg h.below.size (fun k hk => by have := (h.own.lt _ hk).1; omega)).setCell (p := ⟨g + 1, 0, none⟩) (show W0.heap.size ≤ g + 1 by omega) _
 ·have := h.le; have := hg.size; simp; omega
end
set_option maxRecDepth 100000 in
set_option maxHeartbeats 1000000 in
theorem visit_leaf (l : List Bx) (p : Option Addr) (c g : Nat) (o : Nat) (W0 : World) (a : List Nat) (v : Value) (w : World) (R : Ending → World → Prop) (hI : CtI l p c g W0 a v w) (hl : l.length ≤ 1000) (hno : ∀ k, k < l.length → (l.getD k default).parent ≠ (o : Int))
  (hR : R (.returned (.tuple #[])) w) :
  Calls Tryz.prog 143 #[.int .i64 (o : Int), .pointer (some ⟨g, 0, none⟩), .pointer (some ⟨g + 1, 0, none⟩), .pointer (some ⟨g + 1 + 1, 0, none⟩)] w R := by
 have HR := hide hR; have HN := hide hno; have HA := hide hI.arr'
 have x0 := hI.b0.cell (k := 0) (v := .slice p l.length c) rfl
 clear hR hno hI
 go_enter Tryz.func143, Tryz.ntmps143
 go_wp2
 go_loopw [8] (fun si wr => ∃ k : Nat, k ≤ l.length ∧ si = .int .i64 k ∧ wr = w) (fun si _ => l.length - (intOf si).toNat)
 case atStart => exact ⟨0, Nat.zero_le _, rfl, rfl⟩
 case round =>
  obtain ⟨k, hk, rfl, rfl⟩ := hrel
  by_cases hlt : k < l.length
  ·obtain ⟨b, bo, hp, _, _, m2, _⟩ := HA.out.bx hlt
   have hne := HN.out k hlt
   obtain ⟨q, hq⟩ : ∃ q, (l.getD k default).parent = q := ⟨_, rfl⟩
   rw [hq] at m2 hne
   have t1 : (q == (o : Int)) = false := by simpa using hne
   have q1 : (0 : Int) ≤ (k : Int) := by omega
   have q2 : (k : Int) < (l.length : Int) := by omega
   rw [hp] at x0
   clear hne hq hp
   go_wp2
   go_roundw
   case rel => exact ⟨k + 1, by omega, by go_num, trivial⟩
   case measure => simp [intOf]; omega
  ·have q1 : ¬ (k : Int) < (l.length : Int) := by omega
   have HF := hide HR.out
   go_wp2
   first
   | exact bodyPost_end (results_none Tryz.results143 _ _ _) rfl HF.out
   | exact HF.out
def insT (l : List Bx) (i n : Nat) : List Nat := (List.range n).filter fun k => decide ((l.getD k default).parent = (i : Int))
theorem insT_succ (l : List Bx) (i n : Nat) : insT l i (n + 1) = if (l.getD n default).parent = (i : Int) then insT l i n ++ [n] else insT l i n := by
 unfold insT
 rw [List.range_succ, List.filter_append]
 by_cases h : (l.getD n default).parent = (i : Int)
 ·rw [if_pos h]; simp only [List.filter_cons, List.filter_nil]; rw [if_pos (decide_eq_true h)]
 ·rw [if_neg h]; simp only [List.filter_cons, List.filter_nil]; rw [if_neg (by rw [decide_eq_false h]; decide), List.append_nil]
theorem insT_len (l : List Bx) (i n : Nat) : (insT l i n).length ≤ n := by
 unfold insT; exact Nat.le_trans (List.length_filter_le _ _) (by simp)
set_option maxRecDepth 100000 in
set_option maxHeartbeats 2000000 in
theorem visit_c (l : List Bx) (p : Option Addr) (c g : Nat) (o : Nat) (W0 : World) (w : World) (R : Ending → World → Prop) (hI : CtI l p c g W0 [] (.slice none 0 0) w) (hl : l.length ≤ 1000)
  (hleaf : ∀ i, i < l.length → (l.getD i default).parent = (o : Int) → ∀ k, k < l.length → (l.getD k default).parent ≠ (i : Int))
  (hR : ∀ v w', CtI l p c g W0 (insF l o) v w' → R (.returned (.tuple #[])) w') :
  Calls Tryz.prog 143 #[.int .i64 (o : Int), .pointer (some ⟨g, 0, none⟩), .pointer (some ⟨g + 1, 0, none⟩), .pointer (some ⟨g + 1 + 1, 0, none⟩)] w R := by
 have HR := hide hR; have HL := hide hleaf; have HI0 := hide hI
 have x0 := hI.b0.cell (k := 0) (v := .slice p l.length c) rfl
 clear hR hleaf hI
 go_enter Tryz.func143, Tryz.ntmps143
 go_wp2
 clear x0
 go_loopw [8] (fun si wr => ∃ k : Nat, k ≤ l.length ∧ si = .int .i64 k ∧ Hid (∃ v, CtI l p c g W0 (insT l o k) v wr)) (fun si _ => l.length - (intOf si).toNat)
 case atStart => exact ⟨0, Nat.zero_le _, rfl, hide ⟨_, HI0.out⟩⟩
 case round =>
  clear HI0
  obtain ⟨k, hk, rfl, HI⟩ := hrel
  obtain ⟨v, hI⟩ := HI.out
  clear HI
  by_cases hlt : k < l.length
  ·obtain ⟨b, bo, hp, _, _, m2, _⟩ := hI.arr'.bx hlt
   have x0 := hI.b0.cell (k := 0) (v := .slice p l.length c) rfl
   have HI := hide hI
   obtain ⟨q, hq⟩ : ∃ q, (l.getD k default).parent = q := ⟨_, rfl⟩
   have hsucc := insT_succ l o k
   rw [hq] at m2 hsucc
   have HS := hide hsucc
   have HQ := hide hq
   have q1 : (0 : Int) ≤ (k : Int) := by omega
   have q2 : (k : Int) < (l.length : Int) := by omega
   have HP := hide hp
   rw [hp] at x0
   clear hq hp hsucc hI
   by_cases he : q = (o : Int)
   ·have t1 : (q == (o : Int)) = true := by simpa using he
    have HE := hide he
    rw [HE.out] at HS
    rw [show (if (o : Int) = (o : Int) then insT l o k ++ [k] else insT l o k) = insT l o k ++ [k] from if_pos rfl] at HS
    have x1 := HI.out.b1.cell (k := 0) (v := v) rfl
    clear he
    obtain ⟨i0, hi0, hz0, hz1, hz2⟩ := info_parts infoI2
    obtain ⟨w4, hw4⟩ : ∃ w4, wr.alloc (.cells #[.int .i64 (k : Int)] 3) = w4 := ⟨_, rfl⟩
    have HI4 := hide (HI.out.next (hw4 ▸ balloc (Below.refl _ _) _))
    have hsrc : Src w4 (some ⟨wr.heap.size, 0, none⟩) 1 1 [.int .i64 (k : Int)] := hw4 ▸ Src.lit rfl 1 rfl
    have HSr := hide hsrc
    clear hsrc
    go_wp2_with (at_builtin; refine Stop.out ?_)
    try rw [hw4]
    clear hw4
    have hal := insT_len l o k
    have Hal := hide hal
    have hle := HI4.out.le
    clear hal
    refine Stop.go ?_
    refine wpList_app _ rfl (.tmp 18) (.tmp 20) 40 rfl (g + 3) 3 i0 _ 1 8 Tryz.underlying40 hi0 hz0 hz1 hz2 rfl (by omega) v (insT l o k).length _ rfl HI4.out.own (some ⟨wr.heap.size, 0, none⟩) 1 1 [.int .i64 (k : Int)] rfl HSr.out (by simp [Value.oneCell']) (by have := Hal.out; unfold maxLen; omega) (by have := Hal.out; omega) hle ?_
    intro v5 w5 hown hg5
    obtain ⟨p5, k5, hv5, _⟩ := own_val hown
    subst hv5
    have hI6 := HI4.out.app hown hg5
    rw [← HS.out] at hI6
    have z1 := (HI4.out.b1.grown hg5 (HI4.out.not0 (by omega))).cell (k := 0) (v := v) rfl
    have f1 := (HI4.out.b1.grown hg5 (HI4.out.not0 (by omega))).free 0
    have z2 := hI6.b2.cell (k := 0) (v := .func (.func 143) #[] #[.pointer (some ⟨g, 0, none⟩), .pointer (some ⟨g + 1, 0, none⟩), .pointer (some ⟨g + 1 + 1, 0, none⟩)]) rfl
    have HI6 := hide hI6
    clear hown hg5 hI6 hi0 hz0 hz1 hz2 hle x0 x1 m2
    go_wp2_with (go_at_call 143; refine Stop.out ?_)
    refine Stop.go (visit_leaf l p c g k W0 _ _ _ _ HI6.out hl (HL.out k hlt (by rw [HQ.out, HE.out])) ?_)
    clear z1 f1 z2
    go_wp2
    go_roundw
    case rel => exact ⟨k + 1, by omega, by go_num, hide ⟨_, HI6.out⟩⟩
    case measure => simp [intOf]; omega
   ·have t1 : (q == (o : Int)) = false := by simpa using he
    have HE := hide he
    rw [show (if q = (o : Int) then insT l o k ++ [k] else insT l o k) = insT l o k from if_neg HE.out] at HS
    clear he
    have HI2 : Hid (∃ v, CtI l p c g W0 (insT l o (k + 1)) v wr) := hide (by rw [HS.out]; exact ⟨v, HI.out⟩)
    go_wp2
    go_roundw
    case rel => exact ⟨k + 1, by omega, by go_num, HI2⟩
    case measure => simp [intOf]; omega
  ·have q1 : ¬ (k : Int) < (l.length : Int) := by omega
   have e : k = l.length := by omega
   subst e
   have HF := hide (HR.out v wr hI)
   clear hI
   go_wp2
   first
   | exact bodyPost_end (results_none Tryz.results143 _ _ _) rfl HF.out
   | exact HF.out
theorem insF_pair (l : List Bx) (o : Nat) : (intsN (insF l o)).Pairwise (fun x y => decide (x ≤ y) = true) := by
 unfold intsN
 rw [List.pairwise_map]
 unfold insF
 refine List.Pairwise.filter _ ?_
 refine List.Pairwise.imp (R := fun (x y : Nat) => x < y) (fun {x y} h => ?_) List.pairwise_lt_range
 exact decide_eq_true (by omega)
theorem insF_len (l : List Bx) (o : Nat) : (insF l o).length ≤ l.length := by
 unfold insF; exact Nat.le_trans (List.length_filter_le _ _) (by simp)
set_option maxRecDepth 100000 in
set_option maxHeartbeats 2000000 in
theorem contents_c (l : List Bx) (p : Option Addr) (c : Nat) (o : Nat) (w : World) (R : Ending → World → Prop) (hE : EncAt 5 Bx.cells w p l) (hl : l.length ≤ 1000)
  (hleaf : ∀ i, i < l.length → (l.getD i default).parent = (o : Int) → ∀ k, k < l.length → (l.getD k default).parent ≠ (i : Int))
  (hR : ∀ w' p2 c2, Below w.heap.size w w' → w'.ownsRow w.heap.size 3 1 (.slice p2 (insF l o).length c2) (insF l o).length ((intsN (insF l o)).map (Value.int .i64)) → R (.returned (.slice p2 (insF l o).length c2)) w') :
  Calls Tryz.prog 85 #[.slice p l.length c, .int .i64 (o : Int)] w R := by
 have hmf : ∀ (fn : Fn) (first cap : Array Value) (w : World), (Instr.makeFunc fn first cap).run Tryz.prog w = .ok (.func fn first cap) w := fun _ _ _ _ => rfl
 have HR := hide hR; have HE := hide hE; have HL := hide hleaf
 obtain ⟨g, hg⟩ : ∃ g, w.heap.size = g := ⟨_, rfl⟩
 have hI : CtI l p c g w [] (.slice none 0 0) ((((w.alloc (.cells #[.slice p l.length c] 66)).alloc (.cells #[.slice none 0 0] 40)).alloc (.cells #[.func (.func 143) #[] #[.pointer (some ⟨g, 0, none⟩), .pointer (some ⟨g + 1, 0, none⟩), .pointer (some ⟨g + 1 + 1, 0, none⟩)]] 203))) := by
  refine ⟨?_, ?_, ?_, World.ownsRow_nil _ _ _ _, hE, balloc (balloc (balloc (Below.refl _ _) _) _) _, hg, by simp; omega⟩ <;> repeat (first | exact Blk.new_at (by first | omega | (simp; done) | (simp; omega)) | refine Blk.alloc ?_ _)
 have HI := hide hI
 have HG := hide hg
 clear hR hE hleaf hI
 go_enter Tryz.func85, Tryz.ntmps85
 go_wp2_with (go_at_call 143; refine Stop.out ?_)
 refine Stop.go (visit_c l p c g o w _ _ HI.out hl HL.out ?_)
 intro v w2 hI2
 have HI2 := hide hI2
 obtain ⟨q2, c2, hv, hnone⟩ := own_val hI2.own
 subst hv
 have z1 := hI2.b1.cell (k := 0) (v := .slice q2 (insF l o).length c2) rfl
 have hown := hI2.own
 clear hI2
 have hpw := insF_pair l o
 have hms : (intsN (insF l o)).mergeSort (fun x y => decide (x ≤ y)) = intsN (insF l o) := List.mergeSort_of_pairwise hpw
 obtain ⟨a, ha⟩ : ∃ a, insF l o = a := ⟨_, rfl⟩
 have hal : a.length ≤ 1000 := by rw [← ha]; exact Nat.le_trans (insF_len l o) hl
 rw [ha] at hown z1 hms HI2 HR hnone
 have HOwn := hide hown
 clear hown hpw ha
 rcases HOwn.out.2 with ⟨h0, h1⟩ | ⟨gq, cq, cur, hv, hgq, hh, h3, h4, h5, h6⟩
 ·injection h0 with e1 e2 e3
  subst e1
  obtain rfl : a = [] := List.eq_nil_of_length_eq_zero h1
  have hg0 : w.heap.size ≤ g + 3 := by omega
  have HF := hide (HR.out w2 none c2 HI2.out.below (own_mono HOwn.out hg0))
  clear h1 e2 e3 hnone hms HOwn
  go_wp2_with (go_at_call 144; refine Stop.out ?_)
  refine Stop.go ((show Calls Tryz.prog 144 #[.slice none 0 c2] w2 _ from AnyM.slices_Sort_int_none Tryz.sortK none c2 w2).mono fun e w' h => ?_)
  obtain ⟨rfl, rfl⟩ := h
  go_wp2
  exact HF.out
 ·injection hv with e1 e2 e3
  subst e1; subst e3
  have hgg : gq < w2.heap.size := (Array.getElem?_eq_some_iff.1 hh).1
  have hH : Go.Sort.Holds (Value.int .i64) w2 gq 0 (intsN a).toArray := holds_of_blockI hh (by rw [intsN_len]; rw [Nat.mul_one] at h6; exact h6)
  have hsort := AnyM.slices_Sort_int Tryz.sortK gq 0 c2 (intsN a) w2 hH hgg (by rw [intsN_len]; omega)
  rw [hms, intsN_len] at hsort
  have HSo := hide hsort
  have Hh := hide hh; have H3 := hide h3; have H4 := hide h4; have H5 := hide h5; have Hgq := hide hgq
  clear hsort hms hH hnone h6 hh h3 h4 h5 hgq hgg e2
  go_wp2_with (go_at_call 144; refine Stop.out ?_)
  refine Stop.go ((show Calls Tryz.prog 144 #[.slice (some ⟨gq, 0, none⟩) a.length c2] w2 _ from HSo.out).mono fun e w' h => ?_)
  obtain ⟨rfl, n, os, rfl⟩ := h
  have hgb : w2.grownBy (Go.Sort.grow (Go.Sort.putRow (Value.int .i64) (Go.Sort.ahead w2 n) gq 0 (intsN a).toArray) os) (some gq) := grownBy_sortedI _
  have hrow := ownsRow_sortedI (n := n) (os := os) (e := 3) (base := g + 3) (ss := intsN a) (ts := intsN a) rfl Hgq.out Hh.out (by rw [intsN_len]; exact H3.out) H4.out H5.out
  rw [intsN_len] at hrow
  obtain ⟨w3, hw3⟩ : ∃ w3, Go.Sort.grow (Go.Sort.putRow (Value.int .i64) (Go.Sort.ahead w2 n) gq 0 (intsN a).toArray) os = w3 := ⟨_, rfl⟩
  rw [hw3] at hgb hrow ⊢
  have z3 := (HI2.out.b1.grown hgb (fun e => by injection e with e; have := Hgq.out; omega)).cell (k := 0) (v := .slice (some ⟨gq, 0, none⟩) a.length c2) rfl
  have hb3 : Below w.heap.size w w3 := HI2.out.below.grown hgb HI2.out.below.size (fun k hk => by injection hk with hk; have := Hgq.out; omega)
  have HF := hide (HR.out w3 (some ⟨gq, 0, none⟩) c2 hb3 (own_mono hrow (by omega)))
  clear hgb hrow hb3 hw3 HOwn z1
  go_wp2
  exact HF.out
end
section
open Go.RowKit Go.Shelf
attribute [local go_sem] Oper.semAt_some run_store_func
structure BagP (l : List Bx) (i : Nat) : Prop where
 ok : BxsP l
 il : i < l.length
 kind : (l.getD i default).kind ≠ 0
 lock : lockF l i = false
structure BoI (l : List Bx) (p : Option Addr) (c i g : Nat) (W : World) : Prop where
 b0 : Blk W g #[.slice p l.length c] 66
 b1 : Blk W (g + 1) #[.int .i64 (i : Int)] 3
 arr : EncAt 5 Bx.cells W p l
theorem BoI.next {l : List Bx} {p : Option Addr} {c i g : Nat} {W W' : World} (h : BoI l p c i g W) (hb : Below W.heap.size W W') : BoI l p c i g W' := ⟨h.b0.next hb, h.b1.next hb, h.arr.keep (Keeps.of_below hb)⟩
set_option maxHeartbeats 1000000 in
theorem fixed_c (l : List Bx) (p : Option Addr) (c i : Nat) (w : World) (R) (hE : EncAt 5 Bx.cells w p l)
  (hR : ∀ w', Below w.heap.size w w' → BoI l p c i w.heap.size w' → R (.returned (.agg #[.func (.func 142) #[] #[.pointer (some ⟨w.heap.size, 0, none⟩), .pointer (some ⟨w.heap.size + 1, 0, none⟩)], .int .i64 150])) w') :
  Calls Tryz.prog 82 #[.slice p l.length c, .int .i64 (i : Int)] w R := by
 have hmf : ∀ (fn : Fn) (first cap : Array Value) (w : World), (Instr.makeFunc fn first cap).run Tryz.prog w = .ok (.func fn first cap) w := fun _ _ _ _ => rfl
 have HR := hide hR; have HE := hide hE
 clear hR hE
 go_enter Tryz.func82, Tryz.ntmps82
 go_wp2
 refine bodyPost_ret (v := .agg #[.func (.func 142) #[] #[.pointer (some ⟨w.heap.size, 0, none⟩), .pointer (some ⟨w.heap.size + 1, 0, none⟩)], .int .i64 150]) ?_ rfl (HR.out _ ?_ ?_)
 ·rw [results_cell1 (p := 4) (ty := 129) Tryz.results82]
  simp [go_sem]
 ·exact balloc (balloc (balloc (Below.refl _ _) _) _) _
 ·refine ⟨?_, ?_, HE.out.keep (Keeps.of_below (balloc (balloc (balloc (Below.refl _ _) _) _) _))⟩ <;> repeat (first | exact Blk.new_at (by simp) | refine Blk.alloc ?_ _)
section
variable {l : List Bx} {p : Option Addr} {c i g : Nat} {w : World} {R : Ending → World → Prop}
set_option maxHeartbeats 1000000 in
theorem fixed1_c (hI : BoI l p c i g w) (hP : BagP l i) (hR : ∀ w', Below w.heap.size w w' → R (.returned (.bool false)) w') : Calls Tryz.prog 142 #[.pointer (some ⟨g, 0, none⟩), .pointer (some ⟨g + 1, 0, none⟩)] w R := by
 have HR := hide hR; have HI := hide hI; have HP := hide hP
 have x0 := hI.b0.cell (k := 0) (v := .slice p l.length c) rfl; have x1 := hI.b1.cell (k := 0) (v := .int .i64 (i : Int)) rfl
 obtain ⟨b, o, hp, _, m1, _, _, _⟩ := hI.arr.bx hP.il
 have hk := hP.kind
 generalize (l.getD i default).kind = ki at *
 have t0 : (ki == (0 : Int)) = false := by simpa using hk
 have q3 : (0 : Int) ≤ (i : Int) := by omega
 have q4 : (i : Int) < (l.length : Int) := by have := hP.il; omega
 have hil := hP.il
 have Hp := hide hp
 rw [hp] at x0
 clear hR hp hI hP hk
 go_enter Tryz.func142, Tryz.ntmps142
 go_wp2_with (go_at_call 80; refine Stop.out ?_)
 refine Stop.go (locked_c l (some ⟨b, o, none⟩) c i w _ (Hp.out ▸ HI.out.arr) HP.out.ok hil ?_)
 rw [HP.out.lock]
 intro w2 hb
 have HF := hide (HR.out w2 hb)
 clear hb
 go_wp2
 exact HF.out
set_option maxHeartbeats 1000000 in
theorem close2_c (hI : BoI l p c i g w) (hil : i < l.length) (ho : (l.getD i default).closed = false) (hR : ∀ w', Below w.heap.size w w' → R (.returned (.bool false)) w') : Calls Tryz.prog 83 #[.pointer (some ⟨g, 0, none⟩), .pointer (some ⟨g + 1, 0, none⟩)] w R := by
 have HR := hide hR
 have x0 := hI.b0.cell (k := 0) (v := .slice p l.length c) rfl; have x1 := hI.b1.cell (k := 0) (v := .int .i64 (i : Int)) rfl
 obtain ⟨b, o, hp, _, _, _, _, m4⟩ := hI.arr.bx hil
 rw [ho] at m4
 have q1 : (0 : Int) ≤ (i : Int) := by omega
 have q2 : (i : Int) < (l.length : Int) := by omega
 rw [hp] at x0
 clear hR hp ho
 go_enter Tryz.func83, Tryz.ntmps83
 go_wp2
 exact HR.out _ (Below.refl _ _)
def closeF (l : List Bx) (i : Nat) : List Bx := l.set i { l.getD i default with closed := true }
set_option maxHeartbeats 1000000 in
theorem close1_c (B : Nat) (W0 : World) (hI : BoI l p c i g w) (hil : i < l.length) (hb0 : Below B W0 w) (q : Nat) (cap : Nat) (hown : w.ownsRow B 69 5 (.slice (some ⟨q, 0, none⟩) l.length cap) l.length (l.flatMap Bx.cells))
  (hR : ∀ w', Below B W0 w' → w'.ownsRow B 69 5 (.slice (some ⟨q, 0, none⟩) l.length cap) l.length ((closeF l i).flatMap Bx.cells) → R (.returned (.tuple #[])) w') :
  Calls Tryz.prog 81 #[.slice (some ⟨q, 0, none⟩) l.length cap, .pointer (some ⟨g + 1, 0, none⟩)] w R := by
 have HR := hide hR
 have x1 := hI.b1.cell (k := 0) (v := .int .i64 (i : Int)) rfl
 have q1 : (0 : Int) ≤ (i : Int) := by omega
 have q2 : (i : Int) < (l.length : Int) := by omega
 obtain ⟨z, hz⟩ : ∃ z, (l.flatMap Bx.cells)[i * 5 + 4]? = some z := ⟨_, List.getElem?_eq_getElem (by rw [flatMap_len bx_len]; omega)⟩
 have g1' := hown.cells (g := q) rfl _ _ hz
 have f1' := hown.frozenAt (i * 5 + 4)
 rw [Addr.add_lit, Nat.zero_add] at g1'
 have hS := (hown.stored (i * 5 + 4) (.bool true)).1
 rw [bx_set l i 4 hil _ { l.getD i default with closed := true } rfl (by omega)] at hS
 have hBq := (hown.lt q rfl).1
 have HF := hide (HR.out _ (hb0.setCell (p := ⟨q, i * 5 + 4, none⟩) hBq _) hS)
 clear hR hown hS hb0 hz
 go_enter Tryz.func81, Tryz.ntmps81
 go_wp2
 first
 | exact bodyPost_end (results_none Tryz.results81 _ _ _) rfl HF.out
 | exact HF.out
end
def ClS (p : Option Addr) (n c i B : Nat) (W : World) : Prop := W.cell? ⟨B, 0, none⟩ = some (.slice p n c) ∧ W.cell? ⟨B + 1, 0, none⟩ = some (.int .i64 (i : Int))
theorem idx1 {w : World} {g : Nat} {t : TypeId} {i : Int} (h : Blk w g #[.int .i64 i] t) : IntsAt .i64 w (some ⟨g, 0, none⟩) [i] := fun _ => by
 refine ⟨g, 0, rfl, fun k x hx => ?_⟩
 match k, hx with
 | 0, hx => injection hx with hx; subst hx; exact h.cell rfl
 | k + 1, hx => cases hx
def closeRs (B g f : Nat) : List Rul :=
 [⟨141, #[.pointer (some ⟨g, 0, none⟩), .pointer (some ⟨g + 1, 0, none⟩)], 1⟩, ⟨142, #[.pointer (some ⟨f, 0, none⟩), .pointer (some ⟨f + 1, 0, none⟩)], 150⟩,
  ⟨83, #[.pointer (some ⟨B, 0, none⟩), .pointer (some ⟨B + 1, 0, none⟩)], 4⟩]
theorem closeEg {B g f : Nat} : ∀ r ∈ closeRs B g f, ∀ args w, (callFunc r.f args).run Tryz.prog w = .ok (.enter r.f args) w := by
 intro r hr
 simp only [closeRs, List.mem_cons, List.not_mem_nil, or_false] at hr
 rcases hr with rfl | rfl | rfl
 ·exact enters_of Tryz.func141 (by kernel_rfl) rfl
 ·exact enters_of Tryz.func142 (by kernel_rfl) rfl
 ·exact enters_of Tryz.func83 (by kernel_rfl) rfl
theorem given_one {l : List Bx} {i : Nat} (hil : i < l.length) : ∀ x ∈ [(i : Int)], 0 ≤ x ∧ x < l.length := fun x hx => by obtain rfl := List.mem_singleton.1 hx; omega
theorem closeQ {l : List Bx} {p p2 : Option Addr} {c c2 i B g f : Nat} {W : World} (hP : BagP l i) (ho : (l.getD i default).closed = false) (hI : BoI l p c i B W) (hG : GvI l [(i : Int)] p p2 c c2 g W) (hF : BoI l p c i f W) : ∀ r ∈ closeRs B g f, ∀ R : Ending → World → Prop, (∀ W', Below W.heap.size W W' → R (.returned (.bool false)) W') → Calls Tryz.prog r.f r.cap W R := by
 intro r hr R hR
 simp only [closeRs, List.mem_cons, List.not_mem_nil, or_false] at hr
 rcases hr with rfl | rfl | rfl
 ·exact given1_c l _ p p2 c c2 g W R hG hP.ok (given_one hP.il) (by simp) hR
 ·exact fixed1_c hF hP hR
 ·exact close2_c hI hP.il ho hR
set_option maxRecDepth 100000 in
set_option maxHeartbeats 2000000 in
theorem nClose_c (l : List Bx) (i : Nat) (p : Option Addr) (c : Nat) (w : World) (R) (hE : EncAt 5 Bx.cells w p l) (hP : BagP l i) (ho : (l.getD i default).closed = false)
  (hR : ∀ w' g cap, Below w.heap.size w w' → w'.ownsRow w.heap.size 69 5 (.slice (some ⟨g, 0, none⟩) l.length cap) l.length ((closeF l i).flatMap Bx.cells) → R (.returned (.tuple #[.slice (some ⟨g, 0, none⟩) l.length cap, .int .i64 0])) w') :
  Calls Tryz.prog 21 #[.slice p l.length c, .int .i64 (i : Int)] w R := by
 have hmf : ∀ (fn : Fn) (first cap : Array Value) (w : World), (Instr.makeFunc fn first cap).run Tryz.prog w = .ok (.func fn first cap) w := fun _ _ _ _ => rfl
 have HR := hide hR; have HP := hide hP; have HO := hide ho
 obtain ⟨w1, hw1⟩ : ∃ w1, (w.alloc (.cells #[.slice p l.length c] 66)).alloc (.cells #[.int .i64 (i : Int)] 3) = w1 := ⟨_, rfl⟩
 have hb1 : Below w.heap.size w w1 := hw1 ▸ balloc (balloc (Below.refl _ _) _) _
 have hI : BoI l p c i w.heap.size w1 := by
  refine ⟨?_, ?_, hE.keep (Keeps.of_below hb1)⟩ <;> rw [← hw1] <;> repeat (first | exact Blk.new_at (by simp) | refine Blk.alloc ?_ _)
 have HI := hide hI; have HB1 := hide hb1
 have hH : ClS p l.length c i w.heap.size w1 := ⟨hI.b0.cell rfl, hI.b1.cell rfl⟩
 clear hR hE hP hb1 hI ho
 go_enter Tryz.func21, Tryz.ntmps21
 go_wp2
 have x0 := hH.1; have x1 := hH.2
 clear hw1
 have KB : Hid (∀ W, Below w1.heap.size w1 W → ClS p l.length c i w.heap.size W) := hide (fun W hb => ⟨(HI.out.next hb).b0.cell rfl, (HI.out.next hb).b1.cell rfl⟩)
 have hHeld : ClS p l.length c i w.heap.size w1.drew := hH
 clear x0 x1 hH
 refine wp_region_held (S := ClS p l.length c i w.heap.size) (by kernel_rfl) ?_
 change wpAnyH _ _ _ _ _ _ _ _ (World.drew _)
 refine wpAnyH_take (i := 0) (v := ?v0) rfl (by kernel_rfl) (by kernel_rfl) (by kernel_rfl) (fun _ _ _ h => h) (Or.inl ⟨by rfl, ?hy0⟩) hHeld ?rest0
 case hy0 => (intro w0 hSw; (try unfold ClS at hSw); go_simp; all_goals with_reducible rfl)
 try simp only [aP, Act.put]
 refine wpAnyH_take (i := 1) (v := ?v1) rfl (by kernel_rfl) (by kernel_rfl) (by kernel_rfl) (fun _ _ _ h => h) (Or.inl ⟨by rfl, ?hy1⟩) hHeld ?rest1
 case hy1 => (intro w0 hSw; (try unfold ClS at hSw); go_simp; all_goals with_reducible rfl)
 try simp only [aP, Act.put]
 refine wpAnyH_take (i := 2) (v := ?v2) rfl (by kernel_rfl) (by kernel_rfl) (by kernel_rfl) (fun _ _ _ h => h) (Or.inl ⟨by rfl, ?hy2⟩) hHeld ?rest2
 case hy2 => (intro w0 hSw; (try unfold ClS at hSw); go_simp; all_goals with_reducible rfl)
 try simp only [aP, Act.put]
 refine wpAnyH_take (i := 3) (v := ?v3) rfl (by kernel_rfl) (by kernel_rfl) (by kernel_rfl) (fun _ _ _ h => h) (Or.inl ⟨by rfl, ?hy3⟩) hHeld ?rest3
 case hy3 => (intro w0 hSw; (try unfold ClS at hSw); go_simp; all_goals with_reducible rfl)
 try simp only [aP, Act.put]
 refine wpAnyH_take (i := 6) (v := ?v6) rfl (by kernel_rfl) (by kernel_rfl) (by kernel_rfl) (fun _ _ _ h => h) (Or.inl ⟨by rfl, ?hy6⟩) hHeld ?rest6
 case hy6 => (intro w0 hSw; (try unfold ClS at hSw); go_simp; all_goals with_reducible rfl)
 try simp only [aP, Act.put]
 refine wpAnyH_take (i := 7) (v := ?v7) rfl (by kernel_rfl) (by kernel_rfl) (by kernel_rfl) (fun _ _ _ h => h) (Or.inl ⟨by rfl, ?hy7⟩) hHeld ?rest7
 case hy7 => (intro w0 hSw; (try unfold ClS at hSw); go_simp; all_goals with_reducible rfl)
 try simp only [aP, Act.put]
 refine wpAnyH_take (i := 9) (v := ?v9) rfl (by kernel_rfl) (by kernel_rfl) (by kernel_rfl) (fun _ _ _ h => h) (Or.inl ⟨by rfl, ?hy9⟩) hHeld ?rest9
 case hy9 => (intro w0 hSw; (try unfold ClS at hSw); go_simp; all_goals with_reducible rfl)
 try simp only [aP, Act.put]
 refine wpAnyH_take (i := 10) (v := ?v10) rfl (by kernel_rfl) (by kernel_rfl) (by kernel_rfl) (fun _ _ _ h => h) (Or.inl ⟨by rfl, ?hy10⟩) hHeld ?rest10
 case hy10 => (intro w0 hSw; (try unfold ClS at hSw); go_simp; all_goals with_reducible rfl)
 try simp only [aP, Act.put]
 refine wpAnyH_ready (rs := [4]) (by kernel_rfl) (by simp) ?_
 refine AllReadyH.cons rfl (fun K hK => ?_) AllReadyH.nil
 go_simp
 obtain ⟨w2, hw2⟩ : ∃ w2, (w1.alloc (.cells #[.int .i64 (i : Int)] 3)).drew = w2 := ⟨_, rfl⟩
 rw [hw2]
 have hb2 : Below w1.heap.size w1 w2 := hw2 ▸ (balloc (Below.refl _ _) _).drew
 have k2 : Blk w2 w1.heap.size #[.int .i64 (i : Int)] 3 := hw2 ▸ (show Blk (World.drew _) _ _ _ from Blk.new _ _ _)
 have HB2 := hide hb2
 have HK2 := hide k2
 refine hK.out _ _ (KB.out _ HB2.out) (fun hHeld' => ?_)
 clear hb2 k2 hw2
 clear hK K hHeld
 have hHeld := hHeld'
 clear hHeld'
 try simp only [aP, Act.put]
 refine wpAnyH_ready (rs := [5]) (by kernel_rfl) (by simp) ?_
 refine AllReadyH.cons rfl (fun K hK => ?_) AllReadyH.nil
 go_simp
 refine given_c l [(i : Int)] p (some ⟨w1.heap.size, 0, none⟩) c 1 w2 _ (HI.out.next HB2.out).arr (idx1 HK2.out) ?_
 intro w3 hb hG
 have HB3 := hide (bseq HB2.out hb)
 have HG := hide hG
 refine hK.out _ _ (KB.out _ HB3.out) (fun hHeld' => ?_)
 clear hb hG
 clear hK K hHeld
 have hHeld := hHeld'
 clear hHeld'
 try simp only [aP, Act.put]
 refine wpAnyH_ready (rs := [8]) (by kernel_rfl) (by simp) ?_
 refine AllReadyH.cons rfl (fun K hK => ?_) AllReadyH.nil
 go_simp
 refine fixed_c l p c i w3 _ (HI.out.next HB3.out).arr ?_
 intro w4 hb hF
 have HB4 := hide (bseq HB3.out hb)
 have HG4 := hide (HG.out.next hb)
 have HF4 := hide hF
 refine hK.out _ _ (KB.out _ HB4.out) (fun hHeld' => ?_)
 clear hb hF
 clear hK K hHeld
 have hHeld := hHeld'
 clear hHeld'
 try simp only [aP, Act.put]
 refine wpAnyH_ready (rs := [11]) (by kernel_rfl) (by simp) ?_
 refine AllReadyH.cons rfl (fun K hK => ?_) AllReadyH.nil
 go_simp
 obtain ⟨w5, hw5⟩ : ∃ w5, w4.alloc (.cells ((closeRs w.heap.size w2.heap.size w3.heap.size).flatMap Rul.cells).toArray 129) = w5 := ⟨_, rfl⟩
 have hw5' := hw5
 simp only [closeRs, List.flatMap_cons, List.flatMap_nil, Rul.cells, List.append_nil, List.cons_append, List.nil_append] at hw5'
 rw [hw5']
 have hb5 : Below w1.heap.size w1 w5 := hw5 ▸ balloc HB4.out _
 have k5 : EncAt 2 Rul.cells w5 (some ⟨w4.heap.size, 0, none⟩) (closeRs w.heap.size w2.heap.size w3.heap.size) := hw5 ▸ EncAt.lit (enc := Rul.cells) (k := 2) (fun _ => rfl) _
 have HG5 := hide (HG4.out.next (hw5 ▸ balloc (Below.refl _ _) _))
 have HF5 := hide (HF4.out.next (hw5 ▸ balloc (Below.refl _ _) _))
 have HB5 := hide hb5
 have HK5 := hide k5
 refine hK.out _ _ (KB.out _ HB5.out) (fun hHeld' => ?_)
 clear hb5 k5 hw5 hw5'
 clear hK K hHeld
 have hHeld := hHeld'
 clear hHeld'
 try simp only [aP, Act.put]
 refine wpAnyH_ready (rs := [12]) (by kernel_rfl) (by simp) ?_
 refine AllReadyH.cons rfl (fun K hK => ?_) AllReadyH.nil
 go_simp
 refine change_c l (closeF l i) p c (closeRs w.heap.size w2.heap.size w3.heap.size) (some ⟨w4.heap.size, 0, none⟩) 3 81 #[.pointer (some ⟨w.heap.size + 1, 0, none⟩)] w5 _ (by have := HP.out.il; omega) (by have := HP.out.ok.len; omega) (HI.out.next HB5.out).arr HK5.out (by simp [closeRs]) ?eg (enters_of Tryz.func81 (by kernel_rfl) rfl) ?hq ?ha ?fin
 case eg => exact closeEg
 case hq => exact fun r hr W hb R hR => closeQ HP.out HO.out ((HI.out.next HB5.out).next hb) (HG5.out.next hb) (HF5.out.next hb) r hr R hR
 case ha => exact fun W g cap hb hown R hR => close1_c _ _ ((HI.out.next HB5.out).next hb) HP.out.il hb g cap hown (fun w' h1 h2 => hR _ w' h1 h2)
 case fin =>
  intro w6 g cap hb hown
  have HF := hide (HR.out w6 g cap (bseq (bseq HB1.out HB5.out) hb) (own_mono hown (bseq HB1.out HB5.out).size))
  refine hK.out _ _ (KB.out _ (bseq HB5.out hb)) (fun hHeld' => ?_)
  clear hb hown
  clear hK K hHeld
  have hHeld := hHeld'
  clear hHeld'
  try simp only [aP, Act.put]
  refine wpAnyH_take (i := 13) (v := ?v13) rfl (by kernel_rfl) (by kernel_rfl) (by kernel_rfl) (fun _ _ _ h => h) (Or.inl ⟨by rfl, ?hy13⟩) hHeld ?rest13
  case hy13 => (intro w0 hSw; (try unfold ClS at hSw); go_simp; all_goals with_reducible rfl)
  try simp only [aP, Act.put]
  refine wpAnyH_take (i := 14) (v := ?v14) rfl (by kernel_rfl) (by kernel_rfl) (by kernel_rfl) (fun _ _ _ h => h) (Or.inl ⟨by rfl, ?hy14⟩) hHeld ?rest14
  case hy14 => (intro w0 hSw; (try unfold ClS at hSw); go_simp; all_goals with_reducible rfl)
  try simp only [aP, Act.put]
  refine wpAnyH_take (i := 15) (v := ?v15) rfl (by kernel_rfl) (by kernel_rfl) (by kernel_rfl) (fun _ _ _ h => h) (Or.inl ⟨by rfl, ?hy15⟩) hHeld ?rest15
  case hy15 => (intro w0 hSw; (try unfold ClS at hSw); go_simp; all_goals with_reducible rfl)
  try simp only [aP, Act.put]
  refine wpAnyH_take (i := 16) (v := ?v16) rfl (by kernel_rfl) (by kernel_rfl) (by kernel_rfl) (fun _ _ _ h => h) (Or.inl ⟨by rfl, ?hy16⟩) hHeld ?rest16
  case hy16 => (intro w0 hSw; (try unfold ClS at hSw); go_simp; all_goals with_reducible rfl)
  try simp only [aP, Act.put]
  refine wpAnyH_done (by kernel_rfl) ?_ _
  try refine NoPanic.normal ?_
  try go_wp2
  exact HF.out
end
end Go.Proofs.YtgfhcmidnbahjaaGreatDoor
