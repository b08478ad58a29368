/- Boxes: what is outside a box, as an iterator; locked. Boxes: locked, Root. Boxes: Clone, change. Boxes: the rules of Put. -/
import Derived.Test.YtgfhcmidnbahjaaGreatDoorJ35
set_option linter.unusedVariables false
set_option linter.unusedSimpArgs false
namespace Go.Proofs.YtgfhcmidnbahjaaGreatDoor
section
open Go.RowKit Go.Shelf
attribute [local go_sem] Oper.semAt_some run_store_func
def outF (l : List Bx) : Nat → Int → List Int
 | 0, _ => []
 | k + 1, p => if p < 0 then [] else p :: outF l k ((l.getD p.toNat default).parent)
theorem outF_more {l : List Bx} {k : Nat} {q : Int} (h : 0 ≤ q) : outF l (k + 1) q = q :: outF l k ((l.getD q.toNat default).parent) := by rw [outF, if_neg (by omega)]
structure OuI (l : List Bx) (p : Option Addr) (c i g : Nat) (W : World) : Prop where
 b0 : Blk W g #[.slice p l.length c] 66
 b1 : Blk W (g + 1) #[.int .i64 (i : Int)] 3
 arr : EncAt 5 Bx.cells W p l
def OuK (l : List Bx) (p : Option Addr) (g k : Nat) : Prop := k = g ∨ k = g + 1 ∨ BlkOf p l.length k
section
variable {l : List Bx} {p : Option Addr} {c i g : Nat} {W W' : World}
theorem OuI.next (h : OuI l p c i g W) (hb : Below W.heap.size W W') : OuI l p c i g W' := ⟨h.b0.next hb, h.b1.next hb, h.arr.keep (Keeps.of_below hb)⟩
theorem OuI.kpb {bad : World → Nat → Prop} (h : OuI l p c i g W) (hk : Kpb bad W W') (hb : ∀ j, OuK l p g j → ¬ bad W j) : OuI l p c i g W' :=
 ⟨h.b0.kpb hk (hb _ (.inl rfl)), h.b1.kpb hk (hb _ (.inr (.inl rfl))), h.arr.kpb hk (fun k e => hb k (.inr (.inr e)))⟩
theorem OuI.lt (h : OuI l p c i g W) {j : Nat} (hj : OuK l p g j) : j < W.heap.size := by
 rcases hj with rfl | rfl | e
 ·exact h.b0.lt
 ·exact h.b1.lt
 ·exact h.arr.lt (fun x => by simp [Bx.cells]) e
end
set_option maxRecDepth 100000 in
theorem outside_c (l : List Bx) (p : Option Addr) (c i : Nat) (w : World) (R) (hE : EncAt 5 Bx.cells w p l)
  (hR : ∀ w', Below w.heap.size w w' → OuI l p c i w.heap.size w' → w'.heap.size = w.heap.size + 2 →
   R (.returned (.func (.func 163) #[] #[.pointer (some ⟨w.heap.size, 0, none⟩), .pointer (some ⟨w.heap.size + 1, 0, none⟩)])) w') :
  Calls Tryz.prog 106 #[.slice p l.length c, .int .i64 (i : Int)] w R := by
 obtain ⟨w1, hw1⟩ : ∃ w1, (w.alloc (.cells #[.slice p l.length c] 66)).alloc (.cells #[.int .i64 (i : Int)] 3) = w1 := ⟨_, rfl⟩
 have hb1 : Below w.heap.size w w1 := hw1 ▸ balloc (balloc (Below.refl _ _) _) _
 have hI : OuI l p c i w.heap.size w1 := by
  refine ⟨?_, ?_, hE.keep (Keeps.of_below hb1)⟩ <;> rw [← hw1] <;> repeat (first | exact Blk.new_at (by simp) | refine Blk.alloc ?_ _)
 have HF := hide (hR w1 hb1 hI (by rw [← hw1]; simp))
 have hmf : ∀ (fn : Fn) (first cap : Array Value) (w : World), (Instr.makeFunc fn first cap).run Tryz.prog w = .ok (.func fn first cap) w := fun _ _ _ _ => rfl
 clear hR hb1 hI hE
 go_enter Tryz.func106, Tryz.ntmps106
 go_wp2
 exact HF.out
set_option maxRecDepth 100000 in
set_option maxHeartbeats 1000000 in
theorem outside_it (l : List Bx) (p : Option Addr) (c i g : Nat) (w : World) (hI : OuI l p c i g w) (hL : BxsP l) (hi : i < l.length) :
  IterAt Tryz.prog 163 #[.pointer (some ⟨g, 0, none⟩), .pointer (some ⟨g + 1, 0, none⟩)] (fun x : Int => #[.int .i64 x]) (outF l 4 ((l.getD i default).parent)) (OuK l p g) w := by
 intro lb J T Pn bad W hbW hJs hK hY h0
 have HJs := hide hJs; have HY := hide hY; have HJ0 := hide h0; have HK := hide hK; have HL := hide hL
 have HI := hide (hI.next hbW)
 have x0 := HI.out.b0.cell (k := 0) (v := .slice p l.length c) rfl
 have x1 := HI.out.b1.cell (k := 0) (v := .int .i64 (i : Int)) rfl
 obtain ⟨b, bo, x, hp, hx, hcell⟩ := HI.out.arr.at_ hi
 have m2 := hcell 2 _ rfl
 have hgx : l.getD i default = x := getD_some hx
 have q1 : (0 : Int) ≤ (i : Int) := by omega
 have q2 : (i : Int) < (l.length : Int) := by omega
 have hxm := List.mem_of_getElem? hx
 have hpar := HL.out.par x hxm
 have hkd := HL.out.kind x hxm
 have hnest := HL.out.nest x hxm
 rw [hgx] at hY ⊢
 have HY := hide hY
 have hst : ∀ (q : Int), q = x.parent → (q < 0 ∨ ∃ (y : Bx), l[q.toNat]? = some y ∧ 4 ≤ y.kind + 4) := fun q hq => by
  subst hq
  by_cases h : 0 ≤ x.parent
  ·obtain ⟨y, hy, hk, _⟩ := hnest h
   exact .inr ⟨y, hy, by omega⟩
  ·exact .inl (by omega)
 have Hst := hide (hst _ rfl)
 have Hpar := hide hpar
 rw [hp] at x0
 clear hJs hY h0 hK hI hbW hL hcell hgx hx hxm hkd hnest hst
 refine (callsIn_wide (n := 8)).1 ?_
 refine callsIn_of_wp Tryz.func163 rfl trivial ?_ rfl
 simp only [Tryz.ntmps163, List.size_toArray, List.length_cons, List.length_nil, Nat.reduceAdd, Nat.reduceSub, Array.replicate_succ, Array.replicate_zero, List.push_toArray, List.append_toArray, List.nil_append, List.cons_append]
 refine wpIn_wide.2 ?_
 go_wp2
 refine (wpIn_wide (n := 8)).1 ?_
 clear x0 x1 m2
 gi_loopw [4] (fun sv wq => ∃ (k : Nat) (q : Int) (pre : List Int), k ≤ 4 ∧ sv = .int .i64 q ∧ (-1 ≤ q ∧ q < l.length) ∧ (q < 0 ∨ ∃ (y : Bx), l[q.toNat]? = some y ∧ 4 ≤ y.kind + (k : Int)) ∧ Hid (outF l 4 x.parent = pre ++ outF l k q) ∧ Hid (J pre wq) ∧ Hid (OuI l p c i g wq) ∧ Hid (∀ k, OuK l p g k → ¬ bad wq k)) (fun sv _ => (if intOf sv < 0 then 0 else 5 - ((l.getD (intOf sv).toNat default).kind).toNat))
 case atStart => exact ⟨4, _, [], by omega, rfl, Hpar.out, Hst.out, hide rfl, HJ0, HI, HK⟩
 case round =>
  clear HI HK HJ0 Hst Hpar
  obtain ⟨k, q, pre, hk, rfl, hq, hy, HP, HJ, HI, HK⟩ := hrel
  rcases hy with hy | ⟨y, hy, hyk⟩
  ·have r1 : ¬ (0 ≤ q) := by omega
   have HE : Hid (J (outF l 4 x.parent) wr) := hide (by
    rw [HP.out]
    have : outF l k q = [] := by cases k with | zero => rfl | succ k => rw [outF, if_pos hy]
    rw [this, List.append_nil]; exact HJ.out)
   gi_wp2
   exact bodyPost_end (results_none Tryz.results163 _ _ _) rfl (.inl HE.out)
  ·by_cases h0 : q < 0
   ·have r1 : ¬ (0 ≤ q) := by omega
    have HE : Hid (J (outF l 4 x.parent) wr) := hide (by
     rw [HP.out]
     have : outF l k q = [] := by cases k with | zero => rfl | succ k => rw [outF, if_pos h0]
     rw [this, List.append_nil]; exact HJ.out)
    gi_wp2
    exact bodyPost_end (results_none Tryz.results163 _ _ _) rfl (.inl HE.out)
   ·obtain ⟨n, rfl⟩ : ∃ n : Nat, q = (n : Int) := ⟨q.toNat, by omega⟩
    rw [show ((n : Int)).toNat = n by omega] at hy
    have hym := List.mem_of_getElem? hy
    have hykd := HL.out.kind y hym
    obtain ⟨k', rfl⟩ : ∃ k', k = k' + 1 := ⟨k - 1, by omega⟩
    have r1 : (0 : Int) ≤ (n : Int) := by omega
    have r2 : (n : Int) < (l.length : Int) := by omega
    have HP2 := HP.out
    rw [outF_more (k := k') (q := (n : Int)) (by omega), show ((n : Int)).toNat = n by omega, getD_some hy] at HP2
    obtain ⟨fn, tmps, assign, body, hyy, hRd⟩ := HY.out pre (n : Int) _ HP2 wr HJ.out
    have HRd := hide hRd
    have HP3 : Hid (outF l 4 x.parent = (pre ++ [(n : Int)]) ++ outF l k' y.parent) := hide (by rw [HP2]; simp)
    have Hyp := hide (HL.out.par y hym)
    have Hys : Hid (y.parent < 0 ∨ ∃ (z : Bx), l[y.parent.toNat]? = some z ∧ 4 ≤ z.kind + (k' : Int)) := hide (by
     by_cases h : 0 ≤ y.parent
     ·obtain ⟨z, hz, hkz, _⟩ := HL.out.nest y hym h
      exact .inr ⟨z, hz, by omega⟩
     ·exact .inl (by omega))
    have Hms : Hid ((if y.parent < 0 then 0 else 5 - ((l.getD y.parent.toNat default).kind).toNat) < (if ((n : Int)) < 0 then 0 else 5 - ((l.getD ((n : Int)).toNat default).kind).toNat)) := hide (by
     rw [if_neg (show ¬ (n : Int) < 0 by omega), show ((n : Int)).toNat = n by omega, getD_some hy]
     by_cases h : 0 ≤ y.parent
     ·obtain ⟨z, hz, hkz, _⟩ := HL.out.nest y hym h
      rw [if_neg (show ¬ y.parent < 0 by omega), getD_some hz]
      omega
     ·rw [if_pos (by omega)]; omega)
    have Hy := hide hy
    have Hk := hide hk
    clear hRd HP2 hy hyk hym hykd hk
    gi_wp2
    refine HRd.out.mono ?_
    intro e W3 h3
    cases e with
    | outgrown => exact h3.elim
    | panicked ch => exact ⟨rfl, h3⟩
    | returned v =>
     rcases h3 with ⟨rfl, hj, hkp⟩ | ⟨rfl, hT⟩
     ·have HJ4 : Hid (J (pre ++ [(n : Int)]) W3) := hide hj
      have HI4 := hide (HI.out.kpb hkp HK.out)
      have HK4 : Hid (∀ k, OuK l p g k → ¬ bad W3 k) := hide (fun k hk' => (hkp.2 k (HI.out.lt hk') (HK.out k hk')).2)
      have x0 := HI4.out.b0.cell (k := 0) (v := .slice p l.length c) rfl
      obtain ⟨b2, bo2, y', hp2, hy', hcell⟩ := HI4.out.arr.at_ (i := n) (by omega)
      rw [Hy.out] at hy'; injection hy' with hy'; subst hy'
      have m2 := hcell 2 _ rfl
      rw [hp2] at x0
      clear hj hkp hcell hp2
      gi_wp2
      go_roundw
      case rel => exact ⟨k', y.parent, pre ++ [(n : Int)], by have := Hk.out; omega, rfl, Hyp.out, Hys.out, HP3, HJ4, HI4, HK4⟩
      case measure => exact Hms.out
     ·have HT := hide hT
      clear hT
      gi_wp2
      refine bodyPost_ret (results_none Tryz.results163 _ _ _) rfl ?_
      exact .inr HT.out
end
section
open Go.RowKit Go.Shelf
attribute [local go_sem] Oper.semAt_some run_store_func
theorem outF_range {l : List Bx} (hL : BxsP l) : ∀ (k : Nat) (q : Int), q < l.length → ∀ x ∈ outF l k q, 0 ≤ x ∧ x < l.length := by
 intro k
 induction k with
 | zero => intro q hq x hx; simp [outF] at hx
 | succ k ih =>
  intro q hq x hx
  by_cases h : q < 0
  ·rw [outF, if_pos h] at hx; cases hx
  ·rw [outF_more (by omega)] at hx
   rcases List.mem_cons.1 hx with rfl | hx
   ·omega
   ·refine ih _ ?_ x hx
    obtain ⟨y, hy⟩ : ∃ y, l[q.toNat]? = some y := ⟨_, List.getElem?_eq_getElem (by omega)⟩
    rw [getD_some hy]
    exact (hL.par y (List.mem_of_getElem? hy)).2
def outOf (l : List Bx) (i : Nat) : List Int := outF l 4 ((l.getD i default).parent)
theorem outOf_range {l : List Bx} (hL : BxsP l) {i : Nat} (hi : i < l.length) : ∀ x ∈ outOf l i, 0 ≤ x ∧ x < l.length := by
 refine outF_range hL 4 _ ?_
 obtain ⟨y, hy⟩ : ∃ y, l[i]? = some y := ⟨_, List.getElem?_eq_getElem hi⟩
 rw [getD_some hy]
 exact (hL.par y (List.mem_of_getElem? hy)).2
def lockF (l : List Bx) (i : Nat) : Bool := (outOf l i).any fun p => (l.getD p.toNat default).closed
set_option maxRecDepth 100000 in
set_option maxHeartbeats 1000000 in
theorem locked_c (l : List Bx) (p : Option Addr) (c i : Nat) (w : World) (R) (hE : EncAt 5 Bx.cells w p l) (hL : BxsP l) (hi : i < l.length)
  (hR : ∀ w', Below w.heap.size w w' → R (.returned (.bool (lockF l i))) w') :
  Calls Tryz.prog 80 #[.slice p l.length c, .int .i64 (i : Int)] w R := by
 have HR := hide hR; have HE := hide hE; have HL := hide hL
 obtain ⟨w1, hw1⟩ : ∃ w1, (w.alloc (.cells #[.slice p l.length c] 66)).alloc (.cells #[.bool false] 4) = w1 := ⟨_, rfl⟩
 have hb1 : Below w.heap.size w w1 := hw1 ▸ balloc (balloc (Below.refl _ _) _) _
 have k1 : Blk w1 w.heap.size #[.slice p l.length c] 66 := by rw [← hw1]; exact Blk.alloc (Blk.new _ _ _) _
 have k2 : Blk w1 (w.heap.size + 1) #[.bool false] 4 := by rw [← hw1]; exact Blk.new_at (by simp)
 have HI := hide (show TwI w w.heap.size (w.heap.size + 1) (.slice p l.length c) (.bool false) 66 4 w1 from ⟨hb1, k1, k2⟩)
 have x0 := k1.cell (k := 0) (v := .slice p l.length c) rfl
 have hmf : ∀ (fn : Fn) (first cap : Array Value) (w : World), (Instr.makeFunc fn first cap).run Tryz.prog w = .ok (.func fn first cap) w := fun _ _ _ _ => rfl
 clear hR hE hL hb1 k1 k2
 refine (callsIn_wide (n := 8)).1 ?_
 refine callsIn_of_wp_marks Tryz.func80 rfl trivial ?_ rfl
 simp only [Tryz.ntmps80, List.size_toArray, List.length_cons, List.length_nil, Nat.reduceAdd, Nat.reduceSub, Array.replicate_succ, Array.replicate_zero, List.push_toArray, List.append_toArray, List.nil_append, List.cons_append]
 refine wpIn_wide.2 ?_
 go_wp2_with (go_at_call 106; refine Stop.out ?_)
 clear hw1
 refine Stop.go (outside_c l p c i w1 _ (HE.out.keep (Keeps.of_below HI.out.below)) ?_)
 intro w2 hb hPI hsz
 have HI2 := hide (HI.out.next hb)
 have HPI := hide hPI
 have hg1 : w.heap.size + 1 < w1.heap.size := HI.out.b2.lt
 clear hb hPI x0
 generalize w1.heap.size = g at *
 go_wp2
 refine (wpIn_wide (n := 8)).1 ?_
 refine rangeFunc_G rfl (enters_of Tryz.func163 (by kernel_rfl) rfl) (outside_it l p c i g w2 HPI.out HL.out hi) (fun _ k => k = w.heap.size + 1) ?hK (fun _ => rfl)
  (fun pre W => pre.any (fun p => (l.getD p.toNat default).closed) = false ∧ TwI w w.heap.size (w.heap.size + 1) (.slice p l.length c) (.bool false) 66 4 W)
  (fun cd W => cd = .ret ∧ lockF l i = true ∧ TwI w w.heap.size (w.heap.size + 1) (.slice p l.length c) (.bool true) 66 4 W) ?hI ?hIb ?hTx ⟨by simp, HI2.out⟩ ?hround ?hdone ?hstop
 case hK =>
  intro k hk
  refine ⟨HPI.out.lt hk, ?_⟩
  have hB : ∀ k, BlkOf p l.length k → k < w.heap.size := fun k hk => HE.out.lt (fun x => by simp [Bx.cells]) hk
  rcases hk with rfl | rfl | hk
  ·omega
  ·omega
  ·have := hB k hk; omega
 case hI => exact fun s W W' row h hg hr => ⟨h.1, h.2.own HI2.out.below.size hg hr⟩
 case hIb =>
  intro s W W' row h hg hr k hk
  refine ⟨hk, ?_⟩
  have e2 := h.2.b2.lt
  have hk' : k = w.heap.size + 1 := hk
  omega
 case hTx => exact fun cd s W W' row h hg hr => ⟨h.1, h.2.1, h.2.2.own HI2.out.below.size hg hr⟩
 case hround =>
  intro lb pre x post hxs W hI K' hK'
  obtain ⟨hpre, hT⟩ := hI
  have hxr := outOf_range HL.out hi x (by unfold outOf; rw [hxs]; simp)
  have HT := hide hT; have HK' := hide hK'; have Hpre := hide hpre; have Hxs := hide hxs
  clear hT hK' hxs hpre
  gi_wp2
  refine HK'.out _ _ (KeepsFrom.refl _ _) (Kpb.refl _ _) ⟨Hpre.out, HT.out⟩ (fun W2 hB2 hI2 => ?_)
  have HT2 := hide hI2.2
  have c1 := HT2.out.b1.cell (k := 0) (v := .slice p l.length c) rfl; have c2 := HT2.out.b2.cell (k := 0) rfl
  have f2 := HT2.out.b2.free 0
  obtain ⟨n, rfl⟩ : ∃ n : Nat, x = (n : Int) := ⟨x.toNat, by omega⟩
  obtain ⟨b, bo, y, hp, hy, hcell⟩ := (HE.out.keep (Keeps.of_below HT2.out.below)).at_ (i := n) (by omega)
  have m4 := hcell 4 _ rfl
  rw [hp] at c1
  have r1 : (0 : Int) ≤ (n : Int) := by omega
  have r2 : (n : Int) < (l.length : Int) := by omega
  have Hy := hide hy
  clear hB2 hI2 hcell hp hy
  cases hcl : y.closed with
  | true =>
   have HLk : Hid (lockF l i = true) := hide (by unfold lockF outOf; rw [Hxs.out, List.any_append, List.any_cons, show ((n : Int)).toNat = n by omega, getD_some Hy.out, hcl]; simp)
   rw [hcl] at m4
   clear hcl
   gi_wp2
   exact ⟨(KeepsOthers.setCell _ _ _).from _, rfl, HLk.out, HT2.out.set2 (by omega) (by omega) _⟩
  | false =>
   have HLk : Hid ((pre ++ [(n : Int)]).any (fun p => (l.getD p.toNat default).closed) = false) := hide (by rw [List.any_append, Hpre.out, List.any_cons, show ((n : Int)).toNat = n by omega, getD_some Hy.out, hcl]; simp)
   rw [hcl] at m4
   clear hcl
   gi_wp2
   exact ⟨KeepsFrom.refl _ _, Kpb.refl _ _, HLk.out, HT2.out⟩
 case hdone =>
  rintro D W hD ⟨hxs, hT⟩ hdd
  have HT := hide hT; have Hd := hide hdd
  have HLk : Hid (lockF l i = false) := hide (by unfold lockF outOf; exact hxs)
  have c2 := HT.out.b2.cell (k := 0) rfl
  have f2 := HT.out.b2.free 0
  have hDn : D ≠ w.heap.size + 1 := fun e => by have h7 : W.heap[w.heap.size + 1]? = _ := HT.out.b2; rw [← e, Hd.out] at h7; cases h7
  have HT2 := hide (HT.out.set2 (by omega) (by omega) (.bool false))
  have hd2 : (W.setCell ⟨w.heap.size + 1, 0, none⟩ (.bool false)).heap[D]? = some (.deferred (some [])) := by
   rw [Below.heap_setCell _ _ _ _ hDn]; exact Hd.out
  have Hd2 := hide hd2
  clear hxs hT hdd hd2 hDn
  go_wp2
  refine ⟨by simp, .inl ⟨_, _, rfl, run_takeDeferred Hd2.out, ?_⟩⟩
  have hg := grownBy_putObj' (W.setCell ⟨w.heap.size + 1, 0, none⟩ (.bool false)) D (.deferred none)
  have hI2 := HT2.out.own (B := w2.heap.size) HI2.out.below.size hg (fun r e => by cases e; exact ⟨hD, _, Hd2.out, rfl⟩)
  have z4 := hI2.b2.cell (k := 0) rfl
  have hf := HR.out _ hI2.below
  rw [HLk.out] at hf
  refine ⟨.bool false, ?_, hf⟩
  clear hg hI2 hf
  simp [results, Tryz.results80, go_sem, z4]
 case hstop =>
  rintro D cd W hD ⟨rfl, hl, hT⟩ hdd
  have HT := hide hT; have Hd := hide hdd; have Hl := hide hl
  clear hT hdd hl
  refine wpIn_ret ?_
  try rw [Exit.noGoto_ret]
  refine ⟨by simp, .inl ⟨_, _, rfl, run_takeDeferred Hd.out, ?_⟩⟩
  have hg := grownBy_putObj' W D (.deferred none)
  have hI2 := HT.out.own (B := w2.heap.size) HI2.out.below.size hg (fun r e => by cases e; exact ⟨hD, _, Hd.out, rfl⟩)
  have z4 := hI2.b2.cell (k := 0) rfl
  have hf := HR.out _ hI2.below
  rw [Hl.out] at hf
  refine ⟨.bool true, ?_, hf⟩
  clear hg hI2 hf
  simp [results, Tryz.results80, go_sem, z4]
structure OnV (w : World) (g : Nat) (v : Value) (t : TypeId) (W : World) : Prop where
 below : Below w.heap.size w W
 b : Blk W g #[v] t
theorem OnV.next {w W W' : World} {g : Nat} {v : Value} {t : TypeId} (k : OnV w g v t W) (hb : Below W.heap.size W W') : OnV w g v t W' := ⟨bseq k.below hb, k.b.next hb⟩
theorem OnV.own {w W W' : World} {g : Nat} {v : Value} {t : TypeId} {row : Option Nat} {B : Nat} (k : OnV w g v t W) (hB : w.heap.size ≤ B) (hg : W.grownBy W' row) (hr : ∀ r, row = some r → B ≤ r ∧ ∃ o : Obj, W.heap[r]? = some o ∧ o.isCells = false) : OnV w g v t W' :=
 ⟨below_own k.below hB hg hr, k.b.own hg hr⟩
theorem OnV.set {w W : World} {g : Nat} {v : Value} {t : TypeId} (k : OnV w g v t W) (hg : w.heap.size ≤ g) (u : Value) : OnV w g u t (W.setCell ⟨g, 0, none⟩ u) :=
 ⟨k.below.setCell (p := ⟨g, 0, none⟩) hg _, k.b.set 0 u⟩
def rootF (l : List Bx) (i : Nat) : Int := ((outOf l i).getLast?).getD (i : Int)
set_option maxRecDepth 100000 in
set_option maxHeartbeats 1000000 in
theorem root_c (l : List Bx) (p : Option Addr) (c i : Nat) (w : World) (R) (hE : EncAt 5 Bx.cells w p l) (hL : BxsP l) (hi : i < l.length)
  (hR : ∀ w', Below w.heap.size w w' → R (.returned (.int .i64 (rootF l i))) w') :
  Calls Tryz.prog 33 #[.slice p l.length c, .int .i64 (i : Int)] w R := by
 have HR := hide hR; have HE := hide hE; have HL := hide hL
 have hmf : ∀ (fn : Fn) (first cap : Array Value) (w : World), (Instr.makeFunc fn first cap).run Tryz.prog w = .ok (.func fn first cap) w := fun _ _ _ _ => rfl
 clear hR hE hL
 refine (callsIn_wide (n := 8)).1 ?_
 refine callsIn_of_wp_marks Tryz.func33 rfl trivial ?_ rfl
 simp only [Tryz.ntmps33, List.size_toArray, List.length_cons, List.length_nil, Nat.reduceAdd, Nat.reduceSub, Array.replicate_succ, Array.replicate_zero, List.push_toArray, List.append_toArray, List.nil_append, List.cons_append]
 refine wpIn_wide.2 ?_
 go_wp2_with (go_at_call 88; refine Stop.out ?_)
 refine Stop.go (nHas_c l [(i : Int)] p (some ⟨w.heap.size, 0, none⟩) c 1 _ _ HL.out (HE.out.keep (Keeps.alloc _ _)) ?_ ?_ (by simp) ?_)
 ·intro _
  refine ⟨w.heap.size, 0, rfl, fun k x hx => ?_⟩
  cases k with
  | zero => injection hx with hx; subst hx; exact (Blk.new _ _ _).cell rfl
  | succ k => cases hx
 ·intro x hx; obtain rfl := List.mem_singleton.1 hx; omega
 intro w1 hb1
 have HB1 : Hid (Below w.heap.size w w1) := hide (bseq (balloc (Below.refl _ _) _) hb1)
 clear hb1
 obtain ⟨w2, hw2⟩ : ∃ w2, w1.alloc (.cells #[.int .i64 (i : Int)] 3) = w2 := ⟨_, rfl⟩
 have k1 : Blk w2 w1.heap.size #[.int .i64 (i : Int)] 3 := hw2 ▸ Blk.new _ _ _
 have hb2 : Below w.heap.size w w2 := hw2 ▸ balloc HB1.out _
 have hge : w.heap.size ≤ w1.heap.size := HB1.out.size
 have HK := hide (show OnV w w1.heap.size (.int .i64 (i : Int)) 3 w2 from ⟨hb2, k1⟩)
 clear hb2 k1
 go_wp2_with (go_at_call 106; refine Stop.out ?_)
 clear hw2
 refine Stop.go (outside_c l p c i w2 _ (HE.out.keep (Keeps.of_below HK.out.below)) ?_)
 intro w3 hb hPI hsz
 have HI2 := hide (HK.out.next hb)
 have HPI := hide hPI
 have hg1 : w1.heap.size < w2.heap.size := HK.out.b.lt
 clear hb hPI
 generalize w2.heap.size = g at *
 generalize w1.heap.size = h at *
 go_wp2
 refine (wpIn_wide (n := 8)).1 ?_
 refine rangeFunc_G rfl (enters_of Tryz.func163 (by kernel_rfl) rfl) (outside_it l p c i g w3 HPI.out HL.out hi) (fun _ k => k = h) ?hK (fun _ => rfl)
  (fun pre W => OnV w h (.int .i64 ((pre.getLast?).getD (i : Int))) 3 W) (fun _ _ => False) ?hI ?hIb ?hTx HI2.out ?hround ?hdone ?hstop
 case hK =>
  intro k hk
  refine ⟨HPI.out.lt hk, ?_⟩
  have hB : ∀ k, BlkOf p l.length k → k < w.heap.size := fun k hk => HE.out.lt (fun x => by simp [Bx.cells]) hk
  rcases hk with rfl | rfl | hk
  ·omega
  ·omega
  ·have := hB k hk; omega
 case hI => exact fun s W W' row k hg hr => k.own HI2.out.below.size hg hr
 case hIb =>
  intro s W W' row hh hg hr k hk
  refine ⟨hk, ?_⟩
  have e2 := hh.b.lt
  have hk' : k = h := hk
  omega
 case hTx => exact fun cd s W W' row h hg hr => h.elim
 case hround =>
  intro lb pre x post hxs W hI K' hK'
  have HT := hide hI; have HK' := hide hK'
  clear hI hK' hxs
  gi_wp2
  refine HK'.out _ _ (KeepsFrom.refl _ _) (Kpb.refl _ _) HT.out (fun W2 hB2 hI2 => ?_)
  have HT2 := hide hI2
  have c2 := HT2.out.b.cell (k := 0) rfl
  have f2 := HT2.out.b.free 0
  clear hB2 hI2
  gi_wp2
  refine ⟨(KeepsOthers.setCell _ _ _).from _, kpb_set _ _ _ rfl (fun k h => h), ?_⟩
  have := HT2.out.set hge (.int .i64 x)
  show OnV w h (.int .i64 (((pre ++ [x]).getLast?).getD (i : Int))) 3 _
  rw [List.getLast?_append]
  exact this
 case hdone =>
  rintro D W hD hT hdd
  have HT := hide hT; have Hd := hide hdd
  have c2 := HT.out.b.cell (k := 0) rfl
  have hrt : ((outF l 4 ((l.getD i default).parent)).getLast?).getD (i : Int) = rootF l i := rfl
  rw [hrt] at c2
  clear hT hdd hrt
  go_wp2
  refine ⟨by simp, .inl ⟨_, _, rfl, run_takeDeferred Hd.out, ?_⟩⟩
  have hg := grownBy_putObj' W D (.deferred none)
  have hI2 := HT.out.own (B := w3.heap.size) HI2.out.below.size hg (fun r e => by cases e; exact ⟨hD, _, Hd.out, rfl⟩)
  have hf := HR.out _ hI2.below
  refine ⟨.int .i64 (rootF l i), ?_, hf⟩
  clear hg hI2 hf
  simp [results, Tryz.results33, go_sem]
 case hstop => exact fun _ _ _ _ h => h.elim
end
section
open Go.RowKit Go.Shelf
attribute [local go_sem] Oper.semAt_some run_store_func
theorem infoBox : (Tryz.prog.info? 69).map (fun i => (i.zero, i.size, i.bytes)) = some (some (.agg #[.string ⟨#[]⟩, .int .i64 0, .int .i64 0, .int .i64 0, .bool false]), 5, 48) := by kernel_rfl
theorem bxs_one (l : List Bx) : ∀ u ∈ l.flatMap Bx.cells, u.oneCell' = true := fun u hu => by
 obtain ⟨s, _, hs⟩ := List.mem_flatMap.1 hu
 simp only [Bx.cells, List.mem_cons, List.not_mem_nil, or_false] at hs
 rcases hs with rfl | rfl | rfl | rfl | rfl <;> rfl
theorem src_bx {w : World} {p : Option Addr} {l : List Bx} (h : EncAt 5 Bx.cells w p l) : Src w p l.length 5 (l.flatMap Bx.cells) := by
 refine ⟨by rw [flatMap_len bx_len], fun h0 => ?_⟩
 obtain ⟨b, o, hp, hc⟩ := h h0
 refine ⟨_, hp, fun j u hu => ?_⟩
 have hj : j < l.length * 5 := by rw [← flatMap_len bx_len l]; exact (List.getElem?_eq_some_iff.1 hu).1
 have hi : l[j / 5]? = some l[j / 5] := List.getElem?_eq_getElem (by omega)
 have h1 := flatMap_at bx_len l (j / 5) (j % 5) _ hi (Nat.mod_lt _ (by omega))
 rw [show j / 5 * 5 + j % 5 = j by omega, hu] at h1
 have h2 := hc (j / 5) _ hi (j % 5) u h1.symm
 rw [Addr.add_lit, show o + j = o + j / 5 * 5 + j % 5 by omega]
 exact h2
set_option maxHeartbeats 1000000 in
theorem nClone_c (l : List Bx) (p : Option Addr) (c : Nat) (w : World) (R) (h0 : 0 < l.length) (hl : l.length ≤ 1000) (h : EncAt 5 Bx.cells w p l)
  (hR : ∀ w' g cap, Below w.heap.size w w' → w'.ownsRow w.heap.size 69 5 (.slice (some ⟨g, 0, none⟩) l.length cap) l.length (l.flatMap Bx.cells) → R (.returned (.slice (some ⟨g, 0, none⟩) l.length cap)) w') : Calls Tryz.prog 140 #[.slice p l.length c] w R := by
 obtain ⟨i0, hi0, hz0, hz1, hz2⟩ := info_parts infoBox
 have q := fun (w : World) a n c n' c' => Lib.run_eql_slice_nil (P := Tryz.prog) w 66 69 a n c n' c' Tryz.underlying66
 have HR := hide hR; have Hs := hide (src_bx h)
 obtain ⟨b, o, hp, _⟩ := h h0
 subst hp
 clear hR h
 go_enter Tryz.func140, Tryz.ntmps140
 go_wp2_with (at_builtin; refine wpList_app _ rfl (.tmp 5) (.tmp 6) 66 rfl w.heap.size 69 i0 _ 5 48 Tryz.underlying66 hi0 hz0 hz1 hz2 rfl (by omega) _ 0 [] rfl (World.ownsRow_lit _ #[] 0 (Nat.le_refl _) (by decide) rfl) (some ⟨b, o, none⟩) l.length c (l.flatMap Bx.cells) rfl (Hs.out.keep (Keeps.alloc _ _)) (bxs_one _) (by unfold maxLen; omega) (by omega) (by simp) ?_; intro v1 w1 hown1 hg1)
 have hg2 : (w.alloc (.cells #[] 69)).grownBy w1 (some w.heap.size) := hg1
 have hb := ((Below.refl w.heap.size w).alloc (Nat.le_refl _) (.cells #[] 69)).grown hg2 (by simp) (fun k hk => by injection hk with hk; omega)
 rw [Nat.zero_add, List.nil_append] at hown1
 obtain ⟨g, cap, hv, _⟩ := own_form hown1 h0
 subst hv
 exact HR.out _ _ _ hb hown1
structure Rul where
 f : Nat
 cap : Array Value
 e : Int
def Rul.cells (r : Rul) : List Value := [.func (.func r.f) #[] r.cap, .int .i64 r.e]
set_option maxRecDepth 100000 in
set_option maxHeartbeats 2000000 in
theorem change_c (l l' : List Bx) (p : Option Addr) (c : Nat) (rs : List Rul) (rp : Option Addr) (rc : Nat) (fa : Nat) (capa : Array Value) (w : World) (R) (h0 : 0 < l.length) (hl : l.length ≤ 1000) (hE : EncAt 5 Bx.cells w p l) (hr : EncAt 2 Rul.cells w rp rs) (hn : rs.length ≤ 10)
  (eg : ∀ r ∈ rs, ∀ args w, (callFunc r.f args).run Tryz.prog w = .ok (.enter r.f args) w) (ega : ∀ args w, (callFunc fa args).run Tryz.prog w = .ok (.enter fa args) w)
  (hq : ∀ r ∈ rs, ∀ W, Below w.heap.size w W → ∀ R : Ending → World → Prop, (∀ W', Below W.heap.size W W' → R (.returned (.bool false)) W') → Calls Tryz.prog r.f r.cap W R)
  (ha : ∀ W g cap, Below w.heap.size w W → W.ownsRow w.heap.size 69 5 (.slice (some ⟨g, 0, none⟩) l.length cap) l.length (l.flatMap Bx.cells) → ∀ R : Ending → World → Prop,
   (∀ v W', Below w.heap.size w W' → W'.ownsRow w.heap.size 69 5 (.slice (some ⟨g, 0, none⟩) l.length cap) l.length (l'.flatMap Bx.cells) → R (.returned v) W') → Calls Tryz.prog fa (#[.slice (some ⟨g, 0, none⟩) l.length cap] ++ capa) W R)
  (hR : ∀ w' g cap, Below w.heap.size w w' → w'.ownsRow w.heap.size 69 5 (.slice (some ⟨g, 0, none⟩) l.length cap) l.length (l'.flatMap Bx.cells) → R (.returned (.tuple #[.slice (some ⟨g, 0, none⟩) l.length cap, .int .i64 0])) w') :
  Calls Tryz.prog 73 #[.slice p l.length c, .func (.func fa) #[] capa, .slice rp rs.length rc] w R := by
 have HR := hide hR; have HE := hide hE; have Hr := hide hr; have Hq := hide hq; have Ha := hide ha; have Heg := hide eg
 clear hR hE hr hq ha eg
 go_enter Tryz.func73, Tryz.ntmps73
 go_wp2
 go_loopw [13] (fun sv wq => ∃ i : Nat, i ≤ rs.length ∧ sv = .int .i64 (i : Int) ∧ Hid (Below w.heap.size w wq)) (fun sv _ => rs.length - (intOf sv).toNat)
 case atStart => exact ⟨0, by omega, rfl, hide (Below.refl _ _)⟩
 case round =>
  obtain ⟨i, hi, rfl, HB⟩ := hrel
  by_cases hlt : i < rs.length
  ·obtain ⟨b, bo, x, hp, hx, hcell⟩ := (Hr.out.keep (Keeps.of_below HB.out)).at_ hlt
   have hxm := List.mem_of_getElem? hx
   have m0 : wr.cell? ⟨b, bo + i * 2, none⟩ = some (.func (.func x.f) #[] x.cap) := hcell 0 _ rfl; have m1 := hcell 1 _ rfl
   have eg' := Heg.out x hxm
   have Hqx := hide (Hq.out x hxm)
   have q1 : (0 : Int) ≤ (i : Int) := by omega
   have q2 : (i : Int) < (rs.length : Int) := by omega
   obtain ⟨w1, hw1⟩ : ∃ w1, wr.alloc (.cells #[.func (.func x.f) #[] x.cap, .int .i64 x.e] 129) = w1 := ⟨_, rfl⟩
   have hb1 : Below wr.heap.size wr w1 := hw1 ▸ balloc (Below.refl _ _) _
   have k1 : Blk w1 wr.heap.size #[.func (.func x.f) #[] x.cap, .int .i64 x.e] 129 := hw1 ▸ Blk.new _ _ _
   have n0 := k1.cell (k := 0) (v := .func (.func x.f) #[] x.cap) rfl
   have HB1 := hide (bseq HB.out hb1)
   have Hlt := hide hlt
   rw [hp]
   generalize x.f = f at *
   generalize x.cap = lb at *
   clear hcell hxm hb1 k1 hx
   go_wp2
   refine Hqx.out w1 HB1.out _ ?_
   intro w2 hb
   have HB2 := hide (bseq HB1.out hb)
   clear hb n0 m0 m1 hw1
   go_wp2
   go_roundw
   case rel => exact ⟨i + 1, Hlt.out, by go_num, HB2⟩
   case measure => have := Hlt.out; simp [intOf]; omega
  ·have q2 : ¬ ((i : Int) < (rs.length : Int)) := by omega
   go_wp2_with (go_at_call 140; refine Stop.out ?_)
   refine Stop.go (nClone_c l p c _ _ h0 hl (HE.out.keep (Keeps.of_below HB.out)) ?_)
   intro w2 g cap hb hown
   have HB2 := hide (bseq HB.out hb)
   have HO := hide (own_mono hown HB.out.size)
   clear hb hown
   go_wp2
   refine Ha.out w2 g cap HB2.out HO.out _ ?_
   intro v w3 hb hown
   have HF := hide (HR.out w3 g cap hb hown)
   clear hb hown
   go_wp2
   exact HF.out
end
section
open Go.RowKit Go.Shelf
attribute [local go_sem] Oper.semAt_some run_store_func
structure PutP (l : List Bx) (i j : Nat) : Prop where
 ok : BxsP l
 il : i < l.length
 jl : j < l.length
 free : (l.getD i default).parent = -1
 kind : (l.getD i default).kind < (l.getD j default).kind
 place : (l.getD j default).place = (l.getD i default).place
 open_ : (l.getD j default).closed = false
 lock : lockF l j = false
structure PuI (l : List Bx) (p : Option Addr) (c i j g : Nat) (W : World) : Prop where
 b0 : Blk W g #[.slice p l.length c] 66
 b1 : Blk W (g + 1) #[.int .i64 (i : Int)] 3
 b2 : Blk W (g + 1 + 1) #[.int .i64 (j : Int)] 3
 arr : EncAt 5 Bx.cells W p l
theorem PuI.next {l : List Bx} {p : Option Addr} {c i j g : Nat} {W W' : World} (h : PuI l p c i j g W) (hb : Below W.heap.size W W') : PuI l p c i j g W' := ⟨h.b0.next hb, h.b1.next hb, h.b2.next hb, h.arr.keep (Keeps.of_below hb)⟩
theorem EncAt.bx {w : World} {p : Option Addr} {l : List Bx} (h : EncAt 5 Bx.cells w p l) {i : Nat} (hi : i < l.length) : ∃ b o, p = some ⟨b, o, none⟩ ∧ w.cell? ⟨b, o + i * 5, none⟩ = some (.string (l.getD i default).label) ∧ w.cell? ⟨b, o + i * 5 + 1, none⟩ = some (.int .i64 (l.getD i default).kind) ∧
  w.cell? ⟨b, o + i * 5 + 2, none⟩ = some (.int .i64 (l.getD i default).parent) ∧ w.cell? ⟨b, o + i * 5 + 3, none⟩ = some (.int .i64 (l.getD i default).place) ∧ w.cell? ⟨b, o + i * 5 + 4, none⟩ = some (.bool (l.getD i default).closed) := by
 obtain ⟨b, o, x, hp, hx, hc⟩ := h.at_ hi
 rw [getD_some hx]
 exact ⟨b, o, hp, hc 0 _ rfl, hc 1 _ rfl, hc 2 _ rfl, hc 3 _ rfl, hc 4 _ rfl⟩
section
variable {l : List Bx} {p : Option Addr} {c i j g : Nat} {w : World} {R : Ending → World → Prop}
set_option maxHeartbeats 1000000 in
theorem put2_c (hI : PuI l p c i j g w) (hP : PutP l i j) (hR : ∀ w', Below w.heap.size w w' → R (.returned (.bool false)) w') : Calls Tryz.prog 76 #[.pointer (some ⟨g, 0, none⟩), .pointer (some ⟨g + 1, 0, none⟩)] w R := by
 have HR := hide hR
 have x0 := hI.b0.cell (k := 0) (v := .slice p l.length c) rfl; have x1 := hI.b1.cell (k := 0) (v := .int .i64 (i : Int)) rfl
 obtain ⟨b, o, hp, _, _, m2, _⟩ := hI.arr.bx hP.il
 rw [hP.free] at m2
 have q1 : (0 : Int) ≤ (i : Int) := by omega
 have q2 : (i : Int) < (l.length : Int) := by have := hP.il; omega
 rw [hp] at x0
 clear hR hp
 go_enter Tryz.func76, Tryz.ntmps76
 go_wp2
 exact HR.out _ (Below.refl _ _)
set_option maxHeartbeats 1000000 in
theorem put3_c (hI : PuI l p c i j g w) (hP : PutP l i j) (hR : ∀ w', Below w.heap.size w w' → R (.returned (.bool false)) w') : Calls Tryz.prog 77 #[.pointer (some ⟨g, 0, none⟩), .pointer (some ⟨g + 1 + 1, 0, none⟩), .pointer (some ⟨g + 1, 0, none⟩)] w R := by
 have HR := hide hR
 have x0 := hI.b0.cell (k := 0) (v := .slice p l.length c) rfl; have x1 := hI.b1.cell (k := 0) (v := .int .i64 (i : Int)) rfl; have x2 := hI.b2.cell (k := 0) (v := .int .i64 (j : Int)) rfl
 obtain ⟨b, o, hp, _, m1, _, _⟩ := hI.arr.bx hP.il
 obtain ⟨b', o', hp', _, n1, _, _⟩ := hI.arr.bx hP.jl
 rw [hp] at hp'; injection hp' with hp'; injection hp' with e1 e2; subst e1; subst e2
 have hk := hP.kind
 generalize (l.getD i default).kind = ki at *
 generalize (l.getD j default).kind = kj at *
 have q0 : ¬ (kj ≤ ki) := by omega
 have q1 : (0 : Int) ≤ (i : Int) := by omega
 have q2 : (i : Int) < (l.length : Int) := by have := hP.il; omega
 have q3 : (0 : Int) ≤ (j : Int) := by omega
 have q4 : (j : Int) < (l.length : Int) := by have := hP.jl; omega
 rw [hp] at x0
 clear hR hp
 go_enter Tryz.func77, Tryz.ntmps77
 go_wp2
 go_quiet (fail)
 go_wp2
 have hfin := HR.out _ (bdrewN w nq)
 first
 | exact hfin
 | (rw [show decide (kj ≤ ki) = false from decide_eq_false (by omega)]
    exact hfin)
set_option maxHeartbeats 1000000 in
theorem put4_c (hI : PuI l p c i j g w) (hP : PutP l i j) (hR : ∀ w', Below w.heap.size w w' → R (.returned (.bool false)) w') : Calls Tryz.prog 78 #[.pointer (some ⟨g, 0, none⟩), .pointer (some ⟨g + 1 + 1, 0, none⟩), .pointer (some ⟨g + 1, 0, none⟩)] w R := by
 have HR := hide hR
 have x0 := hI.b0.cell (k := 0) (v := .slice p l.length c) rfl; have x1 := hI.b1.cell (k := 0) (v := .int .i64 (i : Int)) rfl; have x2 := hI.b2.cell (k := 0) (v := .int .i64 (j : Int)) rfl
 obtain ⟨b, o, hp, _, _, _, m1, _⟩ := hI.arr.bx hP.il
 obtain ⟨b', o', hp', _, _, _, n1, _⟩ := hI.arr.bx hP.jl
 rw [hp] at hp'; injection hp' with hp'; injection hp' with e1 e2; subst e1; subst e2
 rw [hP.place] at n1
 generalize (l.getD i default).place = ki at *
 have q0 : (ki != ki) = false := by simp
 have q1 : (0 : Int) ≤ (i : Int) := by omega
 have q2 : (i : Int) < (l.length : Int) := by have := hP.il; omega
 have q3 : (0 : Int) ≤ (j : Int) := by omega
 have q4 : (j : Int) < (l.length : Int) := by have := hP.jl; omega
 rw [hp] at x0
 clear hR hp
 go_enter Tryz.func78, Tryz.ntmps78
 go_wp2
 go_quiet (fail)
 go_wp2
 have hfin := HR.out _ (bdrewN w nq)
 first
 | exact hfin
 | (rw [show (ki != ki) = false by simp]
    exact hfin)
set_option maxHeartbeats 1000000 in
theorem put5_c (hI : PuI l p c i j g w) (hP : PutP l i j) (hR : ∀ w', Below w.heap.size w w' → R (.returned (.bool false)) w') : Calls Tryz.prog 79 #[.pointer (some ⟨g, 0, none⟩), .pointer (some ⟨g + 1 + 1, 0, none⟩)] w R := by
 have HR := hide hR; have HI := hide hI; have HP := hide hP
 have x0 := hI.b0.cell (k := 0) (v := .slice p l.length c) rfl; have x2 := hI.b2.cell (k := 0) (v := .int .i64 (j : Int)) rfl
 obtain ⟨b, o, hp, _, _, _, _, m4⟩ := hI.arr.bx hP.jl
 rw [hP.open_] at m4
 have q3 : (0 : Int) ≤ (j : Int) := by omega
 have q4 : (j : Int) < (l.length : Int) := by have := hP.jl; omega
 have hjl := hP.jl
 have Hp := hide hp
 rw [hp] at x0
 clear hR hp hI hP
 go_enter Tryz.func79, Tryz.ntmps79
 go_wp2_with (go_at_call 80; refine Stop.out ?_)
 refine Stop.go (locked_c l (some ⟨b, o, none⟩) c j w _ (Hp.out ▸ HI.out.arr) HP.out.ok hjl ?_)
 rw [HP.out.lock]
 intro w2 hb
 have HF := hide (HR.out w2 hb)
 clear hb
 go_wp2
 exact HF.out
theorem bx_set (l : List Bx) (i k : Nat) (hi : i < l.length) (v : Value) (y : Bx) (hy : (l.getD i default).cells.set k v = y.cells) (hk : k < 5) : (l.flatMap Bx.cells).set (i * 5 + k) v = (l.set i y).flatMap Bx.cells := by
 induction l generalizing i with
 | nil => simp at hi
 | cons x l ih =>
  cases i with
  | zero =>
   rw [List.getD_cons_zero] at hy
   rw [List.flatMap_cons, List.set_cons_zero, List.flatMap_cons, Nat.zero_mul, Nat.zero_add, List.set_append, if_pos (by rw [bx_len]; exact hk), hy]
  | succ i =>
   rw [List.getD_cons_succ] at hy
   rw [List.flatMap_cons, List.set_cons_succ, List.flatMap_cons, List.set_append, if_neg (by rw [bx_len]; omega), bx_len, show (i + 1) * 5 + k - 5 = i * 5 + k by omega, ih i (by simpa using hi) hy]
set_option maxHeartbeats 1000000 in
theorem put1_c (B : Nat) (W0 : World) (hI : PuI l p c i j g w) (hP : PutP l i j) (hb0 : Below B W0 w) (hgB : g + 1 + 1 < B ∨ True) (q : Nat) (cap : Nat) (hown : w.ownsRow B 69 5 (.slice (some ⟨q, 0, none⟩) l.length cap) l.length (l.flatMap Bx.cells))
  (hR : ∀ w', Below B W0 w' → w'.ownsRow B 69 5 (.slice (some ⟨q, 0, none⟩) l.length cap) l.length ((l.set i { l.getD i default with parent := (j : Int) }).flatMap Bx.cells) → R (.returned (.tuple #[])) w') :
  Calls Tryz.prog 74 #[.slice (some ⟨q, 0, none⟩) l.length cap, .pointer (some ⟨g + 1 + 1, 0, none⟩), .pointer (some ⟨g + 1, 0, none⟩)] w R := by
 have HR := hide hR
 have x1 := hI.b1.cell (k := 0) (v := .int .i64 (i : Int)) rfl; have x2 := hI.b2.cell (k := 0) (v := .int .i64 (j : Int)) rfl
 have q1 : (0 : Int) ≤ (i : Int) := by omega
 have q2 : (i : Int) < (l.length : Int) := by have := hP.il; omega
 have hil := hP.il
 obtain ⟨z, hz⟩ : ∃ z, (l.flatMap Bx.cells)[i * 5 + 2]? = some z := ⟨_, List.getElem?_eq_getElem (by rw [flatMap_len bx_len]; omega)⟩
 have g1' := hown.cells (g := q) rfl _ _ hz
 have f1' := hown.frozenAt (i * 5 + 2)
 rw [Addr.add_lit, Nat.zero_add] at g1'
 have hS := (hown.stored (i * 5 + 2) (.int .i64 (j : Int))).1
 rw [bx_set l i 2 hil _ { l.getD i default with parent := (j : Int) } rfl (by omega)] at hS
 have hBq := (hown.lt q rfl).1
 have HF := hide (HR.out _ (hb0.setCell (p := ⟨q, i * 5 + 2, none⟩) hBq _) hS)
 clear hR hown hS hb0 hz
 go_enter Tryz.func74, Tryz.ntmps74
 go_wp2
 first
 | exact bodyPost_end (results_none Tryz.results74 _ _ _) rfl HF.out
 | exact HF.out
end
end
end Go.Proofs.YtgfhcmidnbahjaaGreatDoor
