/- Sorting: a pass. Sorting: runs, Run. TopBags: the rows that the first loops make. -/
import Derived.Test.YtgfhcmidnbahjaaGreatDoorJ29
import Derived.Test.YtgfhcmidnbahjaaGreatDoorJ43
import Derived.Test.YtgfhcmidnbahjaaGreatDoorJ41
import Derived.Test.YtgfhcmidnbahjaaGreatDoorJ39
set_option linter.unusedVariables false
set_option linter.unusedSimpArgs false
namespace Go.Proofs.YtgfhcmidnbahjaaGreatDoor
section
open Go.RowKit Go.Shelf
attribute [local go_sem] Oper.semAt_some run_store_func
theorem und_lst : Tryz.prog.underlying 123 = some (.slice 3) := by kernel_rfl
theorem arr_set (n a : Nat) (f : Nat → Value) (v : Value) : ((List.range n).map f).toArray.setIfInBounds a v = ((List.range n).map (fun b => if b = a then v else f b)).toArray := by
 apply Array.ext'
 simp only [Array.toList_setIfInBounds]
 apply List.ext_getElem?
 intro k
 rw [List.getElem?_set]
 by_cases hk : k < n
 ·simp only [List.length_map, List.length_range, List.getElem?_map, List.getElem?_range hk, Option.map_some]
  by_cases e : a = k
  ·subst e; simp [hk]
  ·rw [if_neg e, if_neg (fun e' => e e'.symm)]
 ·simp only [List.length_map, List.length_range]
  have h1 : ((List.range n).map f)[k]? = none := List.getElem?_eq_none (by simp; omega)
  have h2 : ((List.range n).map fun b => if b = a then v else f b)[k]? = none := List.getElem?_eq_none (by simp; omega)
  rw [h1, h2]
  by_cases e : a = k
  ·rw [if_pos e, if_neg (by omega)]
  ·rw [if_neg e]
structure BinI (g : Nat) (bins : Nat → List Nat) (vs : Nat → Value) (W0 W : World) : Prop where
 blk : Blk W g ((List.range 64).map vs).toArray 200
 own : ∀ a, a < 64 → W.ownsRow (g + 1) 3 1 (vs a) (bins a).length ((intsN (bins a)).map (Value.int .i64))
 ne : ∀ a b k, a < 64 → b < 64 → a ≠ b → (vs a).ownBlock = some k → (vs b).ownBlock ≠ some k
 below : Below W0.heap.size W0 W
 eq : W0.heap.size = g
 le : g + 1 ≤ W.heap.size
section
variable {g : Nat} {bins : Nat → List Nat} {vs : Nat → Value} {W0 W W' : World}
theorem BinI.next (h : BinI g bins vs W0 W) (hb : Below W.heap.size W W') : BinI g bins vs W0 W' :=
 ⟨h.blk.next hb, fun a ha => own_below (h.own a ha) hb, h.ne, bseq h.below hb, h.eq, Nat.le_trans h.le hb.size⟩
theorem BinI.cell (h : BinI g bins vs W0 W) {a : Nat} (ha : a < 64) : W.cell? ⟨g, a, none⟩ = some (vs a) := h.blk.cell (by simp [ha])
theorem BinI.app {a x : Nat} {v' : Value} (h : BinI g bins vs W0 W) (ha : a < 64) (hown : W'.ownsRow (g + 1) 3 1 v' ((bins a).length + 1) ((intsN (bins a)).map (Value.int .i64) ++ [.int .i64 (x : Int)])) (hg : W.grownBy W' (vs a).ownBlock)
  (hw : v'.ownBlock = (vs a).ownBlock ∨ ∀ k, v'.ownBlock = some k → W.heap.size ≤ k) :
  BinI g (fun b => if b = a then bins b ++ [x] else bins b) (fun b => if b = a then v' else vs b) W0 (W'.setCell ⟨g, a, none⟩ v') := by
 have e := h.eq
 have hlt : ∀ b, b < 64 → ∀ k, (vs b).ownBlock = some k → g + 1 ≤ k ∧ k < W.heap.size := fun b hb k hk => (h.own b hb).lt k hk
 have hg0 : some g ≠ (vs a).ownBlock := fun e => by have := (hlt a ha g e.symm).1; omega
 have hsep : ∀ b, b < 64 → b ≠ a → (vs b).ownBlock ≠ (vs a).ownBlock ∨ (vs b).ownBlock = none := fun b hb hne => by
  cases hv : (vs b).ownBlock with
  | none => exact .inr rfl
  | some k => exact .inl (fun e2 => h.ne b a k hb ha hne hv e2.symm)
 refine ⟨?_, ?_, ?_, ?_, h.eq, ?_⟩
 ·have := (h.blk.grown hg hg0).set a v'
  rwa [arr_set] at this
 ·intro b hb
  have hoff : ∀ {v : Value} {n : Nat} {xs : List Value}, W'.ownsRow (g + 1) 3 1 v n xs → (W'.setCell ⟨g, a, none⟩ v').ownsRow (g + 1) 3 1 v n xs := fun ho =>
   ownsRow_setCell_other ho (fun e2 => by have : g + 1 ≤ g := (ho.lt _ e2).1; omega) _
  by_cases hba : b = a
  ·subst hba
   simp only [if_pos]
   rw [List.length_append]
   have e2 : (intsN (bins b ++ [x])).map (Value.int .i64) = (intsN (bins b)).map (Value.int .i64) ++ [.int .i64 (x : Int)] := by unfold intsN; simp
   rw [e2]
   exact hoff hown
  ·simp only [if_neg hba]
   refine hoff ((h.own b hb).kept hg ?_)
   rcases hsep b hb hba with h1 | h1
   ·exact .inr h1
   ·exact .inl h1
 ·intro b c k hb hc hne hk hk2
  by_cases hba : b = a
  ·subst hba
   simp only [if_pos] at hk
   rw [if_neg (fun e2 => hne e2.symm)] at hk2
   rcases hw with hw | hw
   ·rw [hw] at hk; exact h.ne b c k hb hc hne hk hk2
   ·have := hw k hk; have := (hlt c hc k hk2).2; omega
  ·rw [if_neg hba] at hk
   by_cases hca : c = a
   ·subst hca
    simp only [if_pos] at hk2
    rcases hw with hw | hw
    ·rw [hw] at hk2; exact h.ne b c k hb hc hne hk hk2
    ·have := hw k hk2; have := (hlt b hb k hk).2; omega
   ·rw [if_neg hca] at hk2
    exact h.ne b c k hb hc hne hk hk2
 ·exact (h.below.grown hg h.below.size (fun k hk => by have := (hlt a ha k hk).1; omega)).setCell (p := ⟨g, a, none⟩) (show W0.heap.size ≤ g by omega) _
 ·have := h.le; have := hg.size; simp; omega
end
def z64 : Array Value := #[.slice none 0 0, .slice none 0 0, .slice none 0 0, .slice none 0 0, .slice none 0 0, .slice none 0 0, .slice none 0 0, .slice none 0 0, .slice none 0 0, .slice none 0 0, .slice none 0 0, .slice none 0 0, .slice none 0 0, .slice none 0 0, .slice none 0 0, .slice none 0 0, .slice none 0 0, .slice none 0 0, .slice none 0 0, .slice none 0 0, .slice none 0 0, .slice none 0 0, .slice none 0 0, .slice none 0 0, .slice none 0 0, .slice none 0 0, .slice none 0 0, .slice none 0 0, .slice none 0 0, .slice none 0 0, .slice none 0 0, .slice none 0 0, .slice none 0 0, .slice none 0 0, .slice none 0 0, .slice none 0 0, .slice none 0 0, .slice none 0 0, .slice none 0 0, .slice none 0 0, .slice none 0 0, .slice none 0 0, .slice none 0 0, .slice none 0 0, .slice none 0 0, .slice none 0 0, .slice none 0 0, .slice none 0 0, .slice none 0 0, .slice none 0 0, .slice none 0 0, .slice none 0 0, .slice none 0 0, .slice none 0 0, .slice none 0 0, .slice none 0 0, .slice none 0 0, .slice none 0 0, .slice none 0 0, .slice none 0 0, .slice none 0 0, .slice none 0 0, .slice none 0 0, .slice none 0 0]
theorem z64_eq : z64 = ((List.range 64).map fun _ => Value.slice none 0 0).toArray := by rfl
theorem mkList (w : World) (n : Nat) (hn : n ≤ 100000) : ∃ cs : Array Value, cs.size = n ∧ Sem.run Tryz.prog (Instr.makeSlice 123 (.int .i64 (0 : Int)) (.int .i64 (n : Int))) w = .ok (.slice (some ⟨w.heap.size, 0, none⟩) 0 n) (w.alloc (.cells cs 3)) := by
 obtain ⟨i, hi, h⟩ := Option.map_eq_some_iff.1 infoI2
 simp only [Prod.mk.injEq] at h
 obtain ⟨hz, hs, hb⟩ := h
 exact ⟨_, by rw [size_madeCells, hs]; simp, run_make w 123 3 i _ und_lst hi hz .i64 .i64 0 n (by omega) (by omega) (by rw [hb]; omega) (by omega)⟩
theorem own_made (w : World) (cs : Array Value) (n : Nat) (hn : n ≤ 100000) (hcs : cs.size = n) : (w.alloc (.cells cs 3)).ownsRow w.heap.size 3 1 (.slice (some ⟨w.heap.size, 0, none⟩) 0 n) 0 [] :=
 ⟨rfl, .inr ⟨w.heap.size, n, cs, rfl, Nat.le_refl _, World.alloc_heap_new _ _, Nat.zero_le _, by unfold maxLen; omega, by omega, by simp⟩⟩
set_option maxRecDepth 100000 in
set_option maxHeartbeats 4000000 in
theorem pass_c (l : List Nat) (p : Option Addr) (c P : Nat) (f : FuncId) (lb : Array Value) (pk : Nat → Nat) (w : World) (R : Ending → World → Prop) (hx : IntsAt .i64 w p (intsN l)) (hl : l.length ≤ 1000) (hP : P ≤ 64) (hpk : ∀ x ∈ l, pk x < P)
  (eg : ∀ args w, (callFunc f args).run Tryz.prog w = .ok (.enter f args) w)
  (hf : ∀ x ∈ l, ∀ W, Below w.heap.size w W → ∀ R : Ending → World → Prop, (∀ W', Below W.heap.size W W' → R (.returned (.int .i64 (pk x : Int))) W') → Calls Tryz.prog f (#[.int .i64 (x : Int)] ++ lb) W R)
  (hR : ∀ w' q cq, Below w.heap.size w w' → w'.ownsRow w.heap.size 3 1 (.slice q l.length cq) l.length ((intsN (passL pk P l)).map (Value.int .i64)) → R (.returned (.slice q l.length cq)) w') :
  Calls Tryz.prog 71 #[.slice p l.length c, .int .i64 (P : Int), .func (.func f) #[] lb] w R := by
 have HR := hide hR; have HX := hide hx; have HPk := hide hpk; have HF := hide hf
 obtain ⟨w1, hw1⟩ : ∃ w1, w.alloc (.cells z64 200) = w1 := ⟨_, rfl⟩
 have hI : BinI w.heap.size (fun _ => []) (fun _ => .slice none 0 0) w w1 := by
  refine ⟨?_, fun a ha => World.ownsRow_nil _ _ _ _, fun a b k _ _ _ h => by simp [Value.ownBlock] at h, ?_, rfl, ?_⟩
  ·rw [← hw1, z64_eq]; exact Blk.new _ _ _
  ·rw [← hw1]; exact balloc (Below.refl _ _) _
  ·rw [← hw1]; simp
 have HI := hide hI
 unfold z64 at hw1
 have eg' := eg
 clear hR hx hpk hf hI
 go_enter Tryz.func71, Tryz.ntmps71
 go_wp2
 try rw [hw1]
 clear hw1
 go_loopw [15] (fun si wr => ∃ k : Nat, k ≤ l.length ∧ si = .int .i64 k ∧ Hid (∃ vs, BinI w.heap.size (binL pk (l.take k)) vs w wr)) (fun si _ => l.length - (intOf si).toNat)
 case atStart => exact ⟨0, Nat.zero_le _, rfl, hide ⟨_, HI.out⟩⟩
 case round =>
  clear HI
  obtain ⟨k, hk, rfl, HI⟩ := hrel
  obtain ⟨vs, hI⟩ := HI.out
  clear HI
  by_cases hlt : k < l.length
  ·obtain ⟨x, hx⟩ : ∃ x, l[k]? = some x := ⟨_, List.getElem?_eq_getElem hlt⟩
   have hxm := List.mem_of_getElem? hx
   obtain ⟨b, o, y, hp, hy, c0⟩ := (HX.out.keep (Keeps.of_below hI.below)).at_ (i := k) (by rw [intsN_len]; exact hlt)
   rw [intsN_at hx] at hy; injection hy with hy; subst hy
   have hpx := HPk.out x hxm
   have HFx := hide (HF.out x hxm)
   have hsn := binL_snoc pk (l.take k) x
   have etk : l.take (k + 1) = l.take k ++ [x] := by rw [List.take_add_one, hx]; rfl
   have Hetk := hide etk
   have Hsn := hide hsn
   have HI := hide hI
   have q1 : (0 : Int) ≤ (k : Int) := by omega
   have q2 : (k : Int) < (l.length : Int) := by omega
   obtain ⟨a, ha⟩ : ∃ a, pk x = a := ⟨_, rfl⟩
   rw [ha] at hpx
   have HA := hide ha
   have ha64 : a < 64 := by omega
   subst hp
   clear hx hxm hsn etk hI ha
   go_wp2
   refine HFx.out wr HI.out.below _ (fun W' hb => ?_)
   rw [HA.out]
   obtain ⟨W4, hw4⟩ : ∃ W4, W'.alloc (.cells #[.int .i64 (x : Int)] 3) = W4 := ⟨_, rfl⟩
   have hb4 : Below W'.heap.size W' W4 := hw4 ▸ balloc (Below.refl _ _) _
   have HI4 := hide ((HI.out.next hb).next hb4)
   have c1 := (HI.out.next hb).cell ha64
   have hbk0 := HI4.out.blk
   obtain ⟨pa, ca, hva, _⟩ := own_val (HI4.out.own a ha64)
   have hown := HI4.out.own a ha64
   rw [hva] at c1 hown
   have hnews : ∀ j u, ([.int .i64 (x : Int)] : List Value)[j]? = some u → W4.cell? ((⟨W'.heap.size, 0, none⟩ : Addr).add j) = some u := fun j u hu => by
    match j, hu with
    | 0, hu =>
     injection hu with hu; subst hu
     rw [Addr.add_lit, ← hw4]; exact (Blk.new W' _ _).cell rfl
    | j + 1, hu => simp at hu
   have c4 := HI4.out.cell ha64
   rw [hva] at c4
   have HNews := hide hnews; have HOwn := hide hown; have HVa := hide hva
   have hlen := binL_len pk (l.take k) a
   rw [List.length_take] at hlen
   have hB := HI4.out.le
   have q3 : (0 : Int) ≤ (a : Int) := by omega
   have q4 : (a : Int) < 64 := by omega
   obtain ⟨i0, hi0, hz0, hz1, hz2⟩ := info_parts infoI2
   clear hb hb4 hnews hown hva hbk0 c0
   go_wp2_with (at_builtin; refine Stop.out ?_)
   try rw [hw4]
   clear hw4
   refine Stop.go ?_
   refine wpList_append_where rfl (.tmp 25) (.tmp 27) 123 rfl (w.heap.size + 1) 3 i0 _ 1 8 und_lst hi0 hz0 hz1 hz2 rfl (by omega) (.slice pa (binL pk (l.take k) a).length ca) (binL pk (l.take k) a).length _ rfl HOwn.out ⟨W'.heap.size, 0, none⟩ 1 1 [.int .i64 (x : Int)] rfl rfl HNews.out (by simp [Value.oneCell']) (by unfold maxLen; omega) (by omega) hB ?_
   intro v5 W5 hown5 hg5 hw5
   obtain ⟨p5, k5, hv5, _⟩ := own_val hown5
   subst hv5
   have hg0 : some w.heap.size ≠ (Value.slice pa (binL pk (l.take k) a).length ca).ownBlock := fun e => by have : w.heap.size + 1 ≤ w.heap.size := (HOwn.out.lt _ e.symm).1; omega
   have hbk := HI4.out.blk.grown hg5 hg0
   have c5 := hbk.cell (k := a) (v := vs a) (by simp [ha64])
   have f5 := hbk.free a
   rw [HVa.out] at c5
   have hI6 := HI4.out.app ha64 hown5 (by rw [HVa.out]; exact hg5) (by rw [HVa.out]; exact hw5)
   have e6 : (fun b => if b = a then binL pk (l.take k) b ++ [x] else binL pk (l.take k) b) = binL pk (l.take (k + 1)) := by
    funext b
    rw [Hetk.out, Hsn.out b, HA.out]
    by_cases e : b = a
    ·rw [if_pos e, if_pos e.symm]
    ·rw [if_neg e, if_neg (fun e' => e e'.symm)]
   rw [e6] at hI6
   have HI6 := hide (show ∃ vs, BinI w.heap.size (binL pk (l.take (k + 1))) vs w (W5.setCell ⟨w.heap.size, a, none⟩ (.slice p5 ((binL pk (l.take k) a).length + 1) k5)) from ⟨_, hI6⟩)
   clear hown5 hg5 hw5 hg0 hbk hI6 e6 hi0 hz0 hz1 hz2 c1 c4 hB hlen
   go_wp2
   go_roundw
   case rel => exact ⟨k + 1, by omega, by go_num, HI6⟩
   case measure => simp [intOf]; omega
  ·have q1 : ¬ (k : Int) < (l.length : Int) := by omega
   obtain ⟨w3, hw3⟩ : ∃ w3, w3 = wr := ⟨_, rfl⟩
   subst hw3
   have etk : l.take k = l := List.take_of_length_le (by omega)
   rw [etk] at hI
   have HI := hide hI
   obtain ⟨cs, hcs, hmk⟩ := mkList w3 l.length (by omega)
   obtain ⟨W2, hw2⟩ : ∃ W2, w3.alloc (.cells cs 3) = W2 := ⟨_, rfl⟩
   rw [hw2] at hmk
   have hown0 : W2.ownsRow w3.heap.size 3 1 (.slice (some ⟨w3.heap.size, 0, none⟩) 0 l.length) 0 [] := by rw [← hw2]; exact own_made w3 cs l.length (by omega) hcs
   have HBw := hide (show Below w3.heap.size w3 W2 from hw2 ▸ balloc (Below.refl _ _) _)
   have HO0 := hide hown0
   have hgr : w.heap.size + 1 ≤ w3.heap.size := hI.le
   have HGr := hide hgr
   clear hI etk hw2 hown0
   go_wp2
   clear hmk
   go_loopw [11, 35] (fun sv sk wr => ∃ k : Nat, k ≤ P ∧ sk = .int .i64 k ∧ Hid (wr.ownsRow w3.heap.size 3 1 sv (passL pk k l).length ((intsN (passL pk k l)).map (Value.int .i64))) ∧ Hid (Below w3.heap.size w3 wr)) (fun _ sk _ => P - (intOf sk).toNat)
   case atStart => exact ⟨0, Nat.zero_le _, rfl, HO0, HBw⟩
   case round =>
    clear HO0 HBw
    obtain ⟨j, hj, rfl, HO, HB⟩ := hrel
    by_cases hlj : j < P
    ·have hj64 : j < 64 := by omega
     obtain ⟨pa, ca, hva, _⟩ := own_val (HI.out.own j hj64)
     have c1 := (HB.out.cell (p := ⟨w.heap.size, j, none⟩) (show w.heap.size < w3.heap.size from HGr.out)).trans (HI.out.cell hj64)
     rw [hva] at c1
     have hown := HI.out.own j hj64
     rw [hva] at hown
     have hsrc : Src wr pa (binL pk l j).length 1 ((intsN (binL pk l j)).map (Value.int .i64)) := Src.ints (intsN_len _) ((IntsAt.of_own (l := intsN (binL pk l j)) hown).keep (Keeps.of_below HB.out))
     have HSr := hide hsrc
     have hln := binL_len pk l j
     have hsc := passL_succ pk j l
     have hlow := (passL_low pk l j).length_eq
     have hlo2 := List.length_filter_le (fun x => decide (pk x < j)) l
     have HSc := hide hsc
     have q3 : (0 : Int) ≤ (j : Int) := by omega
     have q4 : (j : Int) < (P : Int) := by omega
     have q5 : (j : Int) < 64 := by omega
     have hsz := HB.out.size
     obtain ⟨i0, hi0, hz0, hz1, hz2⟩ := info_parts infoI2
     clear hva hown hsrc hsc
     go_wp2_with (at_builtin; refine Stop.out ?_)
     refine Stop.go ?_
     refine wpList_app _ rfl (.tmp 38) (.tmp 41) 123 rfl w3.heap.size 3 i0 _ 1 8 und_lst hi0 hz0 hz1 hz2 rfl (by omega) _ (passL pk j l).length _ rfl HO.out pa (binL pk l j).length ca ((intsN (binL pk l j)).map (Value.int .i64)) rfl HSr.out (ints_oneCell .i64 _) (by unfold maxLen; omega) (by omega) hsz ?_
     intro v5 W5 hown5 hg5
     have HO5 : Hid (W5.ownsRow w3.heap.size 3 1 v5 (passL pk (j + 1) l).length ((intsN (passL pk (j + 1) l)).map (Value.int .i64))) := hide (by
      rw [HSc.out, List.length_append]
      have e : (intsN (passL pk j l ++ binL pk l j)).map (Value.int .i64) = (intsN (passL pk j l)).map (Value.int .i64) ++ (intsN (binL pk l j)).map (Value.int .i64) := by unfold intsN; simp
      rw [e]; exact hown5)
     have HB5 := hide (HB.out.grown hg5 hsz (fun k hk => (HO.out.lt k hk).1))
     clear hown5 hg5 hi0 hz0 hz1 hz2 hln hlow hlo2 hsz c1
     go_wp2
     go_roundw
     case rel => exact ⟨j + 1, by omega, by go_num, HO5, HB5⟩
     case measure => simp [intOf]; omega
    ·obtain rfl : j = P := by omega
     have q3 : ¬ (j : Int) < (j : Int) := by omega
     have hle : (passL pk j l).length = l.length := (passL_perm HPk.out).length_eq
     have hown := HO.out
     rw [hle] at hown
     obtain ⟨pa, ca, hva, _⟩ := own_val hown
     subst hva
     have HF := hide (HR.out wr pa ca ((HI.out.below).trans (HB.out.mono (by have := HGr.out; omega))) (own_mono hown (by have := HGr.out; omega)))
     clear hown hle
     go_wp2
     exact HF.out
end
section
open Go.RowKit Go.Shelf
attribute [local go_sem] Oper.semAt_some run_store_func
theorem RowAt.ints {w : World} {b o n : Nat} {f : Nat → Int} (h : RowAt w b o n f) : IntsAt .i64 w (some ⟨b, o, none⟩) ((List.range n).map f) := fun _ => by
 refine ⟨b, o, rfl, fun j x hx => ?_⟩
 have hj : j < n := by have := (List.getElem?_eq_some_iff.1 hx).1; simpa using this
 rw [List.getElem?_map, List.getElem?_range hj] at hx
 injection hx with hx
 rw [← hx]; exact h j hj
def RecAt (w : World) (q n m : Nat) (M : Nat → Nat → Int) : Prop := ∀ k, k < n → ∃ r c, w.cell? ⟨q, k, none⟩ = some (.slice (some ⟨r, 0, none⟩) m c) ∧ RowAt w r 0 m (M k)
theorem RecAt.next {w w' : World} {q n m : Nat} {M : Nat → Nat → Int} (h : RecAt w q n m M) (hb : Below w.heap.size w w') : RecAt w' q n m M := fun k hk => by
 obtain ⟨r, c, h1, h2⟩ := h k hk
 exact ⟨r, c, cell_later hb h1, h2.next hb⟩
theorem MrO.rec_ {A : Nat} {W : World} {g n m : Nat} {M : Nat → Nat → Int} (h : MrO A W g n m M) : RecAt W g n m M := fun i hi => by
 obtain ⟨_, os, B, h1, _, r, h2, _⟩ := h
 obtain ⟨h4, _, _, cs, h6, h7⟩ := h2 i hi
 exact ⟨r i, m, h1.cell h4, fun j hj => by rw [Nat.zero_add]; exact h6.cell (h7 j hj)⟩
set_option maxRecDepth 100000 in
set_option maxHeartbeats 1000000 in
theorem sbelow_c (xs : List Int) (n : Nat) (p : Option Addr) (c : Nat) (b : Int) (w : World) (R : Ending → World → Prop) (hn : xs.length = n) (hl : n ≤ 1000000) (hx : IntsAt .i64 w p xs) (hb : ∀ x ∈ xs, 0 ≤ x ∧ x < b) (hR : R (.returned (.bool true)) w) :
  Calls Tryz.prog 139 #[.slice p n c, .int .i64 b] w R := by
 have HR := hide hR; have HX := hide hx; have HB := hide hb; have HN := hide hn
 clear hR hx hb hn
 go_enter Tryz.func139, Tryz.ntmps139
 go_wp2
 go_loopw [9] (fun si wr => ∃ k : Nat, k ≤ n ∧ si = .int .i64 k ∧ wr = w) (fun si _ => n - (intOf si).toNat)
 case atStart => exact ⟨0, Nat.zero_le _, rfl, rfl⟩
 case round =>
  obtain ⟨k, hk, rfl, rfl⟩ := hrel
  by_cases hlt : k < n
  ·obtain ⟨b', o, x, hp, hxx, c0⟩ := HX.out.at_ (i := k) (by rw [HN.out]; exact hlt)
   obtain ⟨h0, h1⟩ := HB.out x (List.mem_of_getElem? hxx)
   have q1 : (0 : Int) ≤ (k : Int) := by omega
   have q2 : (k : Int) < (n : Int) := by omega
   have t1 : ¬ (x < 0) := by omega
   have t2 : ¬ (b ≤ x) := by omega
   subst hp
   clear hxx
   go_wp2
   go_roundw
   case rel => exact ⟨k + 1, by omega, by go_num, trivial⟩
   case measure => simp [intOf]; omega
  ·have q1 : ¬ (k : Int) < (n : Int) := by omega
   have HF := hide HR.out
   go_wp2
   exact HF.out
set_option maxRecDepth 100000 in
set_option maxHeartbeats 1000000 in
theorem runs_c (P np G : Nat) (M : Nat → Nat → Int) (q cq : Nat) (p : Option Addr) (c : Nat) (dest : List Nat) (w : World) (R : Ending → World → Prop) (h1 : 2 ≤ P) (h2 : P ≤ 64) (h3 : 1 ≤ np) (h4 : np ≤ 4) (hG : G ≤ 2000) (hM : RecAt w q np G M)
  (hr : ∀ k g, k < np → g < G → 0 ≤ M k g ∧ M k g < (P : Int)) (hd : IntsAt .i64 w p (intsN dest)) (hl : dest.length ≤ 5000) (hdd : ∀ d ∈ dest, d < G) (hR : R (.returned (.bool true)) w) :
  Calls Tryz.prog 70 #[.int .i64 (P : Int), .slice (some ⟨q, 0, none⟩) np cq, .slice p dest.length c] w R := by
 have HR := hide hR; have HD := hide hd; have HM := hide hM; have HRg := hide hr; have HDd := hide hdd
 obtain ⟨r0, c0, m0, hrow0⟩ := hM 0 (by omega)
 clear hR hd hM hr hdd hrow0
 go_enter Tryz.func70, Tryz.ntmps70
 go_wp2_with (go_at_call 68; refine Stop.out ?_)
 refine Stop.go (machine_c (P : Int) w _ (by omega) (by omega) ?_)
 have q1 : (0 : Int) < (np : Int) := by omega
 have t1 : ¬ ((np : Int) < 1) := by omega
 have t2 : ¬ ((4 : Int) < (np : Int)) := by omega
 have t3 : ¬ ((5000 : Int) < (dest.length : Int)) := by omega
 have t4 : ¬ ((2000 : Int) < (G : Int)) := by omega
 go_wp2
 clear m0
 go_loopw [36] (fun si wr => ∃ k : Nat, k ≤ np ∧ si = .int .i64 k ∧ wr = w) (fun si _ => np - (intOf si).toNat)
 case atStart => exact ⟨0, Nat.zero_le _, rfl, rfl⟩
 case round =>
  obtain ⟨k, hk, rfl, rfl⟩ := hrel
  by_cases hlt : k < np
  ·obtain ⟨r1, c1, m1, hrow⟩ := HM.out k hlt
   have HRow := hide hrow
   have q3 : (0 : Int) ≤ (k : Int) := by omega
   have q4 : (k : Int) < (np : Int) := by omega
   have t5 : ((G : Int) != (G : Int)) = false := by simp
   clear hrow
   go_wp2_with (go_at_call 139; refine Stop.out ?_)
   refine Stop.go (sbelow_c ((List.range G).map (M k)) G (some ⟨r1, 0, none⟩) c1 (P : Int) wr _ (by simp) (by omega) HRow.out.ints (fun x hx => ?_) ?_)
   ·obtain ⟨g, hg, rfl⟩ := List.mem_map.1 hx
    exact HRg.out k g hlt (List.mem_range.1 hg)
   go_wp2
   go_roundw
   case rel => exact ⟨k + 1, by omega, by go_num, trivial⟩
   case measure => simp [intOf]; omega
  ·have q3 : ¬ (k : Int) < (np : Int) := by omega
   have HF := hide HR.out
   go_wp2_with (go_at_call 139; refine Stop.out ?_)
   refine Stop.go (sbelow_c (intsN dest) dest.length p c (G : Int) wr _ (intsN_len _) (by omega) HD.out (fun x hx => ?_) ?_)
   ·obtain ⟨d, hd, rfl⟩ := List.mem_map.1 hx
    have := HDd.out d hd
    exact ⟨by omega, by omega⟩
   go_wp2
   exact HF.out
structure RnI (p : Option Addr) (n c : Nat) (r : Nat) (m cr : Nat) (g5 g11 : Nat) (W : World) : Prop where
 b5 : Blk W g5 #[.slice p n c] 40
 b11 : Blk W g11 #[.slice (some ⟨r, 0, none⟩) m cr] 40
set_option maxHeartbeats 1000000 in
theorem run1_c (dest : List Nat) (p : Option Addr) (c r G cr g5 g11 : Nat) (f : Nat → Int) (x d : Nat) (w : World) (R : Ending → World → Prop) (hI : RnI p dest.length c r G cr g5 g11 w) (hd : IntsAt .i64 w p (intsN dest)) (hrow : RowAt w r 0 G f) (hx : dest[x]? = some d) (hdG : d < G)
  (hR : ∀ w', Below w.heap.size w w' → R (.returned (.int .i64 (f d))) w') :
  Calls Tryz.prog 72 #[.int .i64 (x : Int), .pointer (some ⟨g11, 0, none⟩), .pointer (some ⟨g5, 0, none⟩)] w R := by
 have HR := hide hR
 have hlt : x < dest.length := (List.getElem?_eq_some_iff.1 hx).1
 obtain ⟨b, o, y, hp, hy, c0⟩ := hd.at_ (i := x) (by rw [intsN_len]; exact hlt)
 rw [intsN_at hx] at hy; injection hy with hy; subst hy
 have x5 := hI.b5.cell (k := 0) (v := .slice p dest.length c) rfl
 have x11 := hI.b11.cell (k := 0) (v := .slice (some ⟨r, 0, none⟩) G cr) rfl
 have c1 := hrow d hdG
 rw [Nat.zero_add] at c1
 have q1 : (0 : Int) ≤ (x : Int) := by omega
 have q2 : (x : Int) < (dest.length : Int) := by omega
 have q3 : (0 : Int) ≤ (d : Int) := by omega
 have q4 : (d : Int) < (G : Int) := by omega
 subst hp
 clear hR hI hd hrow hx
 go_enter Tryz.func72, Tryz.ntmps72
 go_wp2
 go_quiet (fail)
 go_wp2
 exact HR.out _ (below_drewN' (Below.refl _ _) nq)
theorem mkList2 (w : World) (n : Nat) (hn : n ≤ 100000) : ∃ cs : Array Value, cs.size = n ∧ Sem.run Tryz.prog (Instr.makeSlice 123 (.int .i64 (n : Int)) (.int .i64 (n : Int))) w = .ok (.slice (some ⟨w.heap.size, 0, none⟩) n n) (w.alloc (.cells cs 3)) := by
 obtain ⟨i, hi, h⟩ := Option.map_eq_some_iff.1 infoI2
 simp only [Prod.mk.injEq] at h
 obtain ⟨hz, hs, hb⟩ := h
 exact ⟨_, by rw [size_madeCells, hs]; simp, run_make w 123 3 i _ und_lst hi hz .i64 .i64 n n (by omega) (by omega) (by rw [hb]; omega) (by omega)⟩
set_option maxRecDepth 100000 in
set_option maxHeartbeats 4000000 in
theorem run_c (P np G : Nat) (M : Nat → Nat → Nat) (q cq : Nat) (p : Option Addr) (c : Nat) (dest : List Nat) (w : World) (R : Ending → World → Prop) (h1 : 2 ≤ P) (h2 : P ≤ 64) (h3 : 1 ≤ np) (h4 : np ≤ 4) (hG : G ≤ 2000) (hM : RecAt w q np G (fun k g => (M k g : Int)))
  (hr : ∀ k g, k < np → g < G → M k g < P) (hd : IntsAt .i64 w p (intsN dest)) (hl : dest.length ≤ 1000) (hdd : ∀ d ∈ dest, d < G)
  (hR : ∀ w' p' c' l, Below w.heap.size w w' → l.Perm (List.range dest.length) → IntsAt .i64 w' p' (intsN l) → R (.returned (.tuple #[.slice p' dest.length c', .int .i64 0])) w') :
  Calls Tryz.prog 19 #[.int .i64 (P : Int), .slice (some ⟨q, 0, none⟩) np cq, .slice p dest.length c] w R := by
 have HR := hide hR; have HD := hide hd; have HM := hide hM; have HRg := hide hr; have HDd := hide hdd
 have hmf : ∀ (fn : Fn) (first cap : Array Value) (w : World), (Instr.makeFunc fn first cap).run Tryz.prog w = .ok (.func fn first cap) w := fun _ _ _ _ => rfl
 obtain ⟨w1, hw1⟩ : ∃ w1, w.alloc (.cells #[.slice p dest.length c] 40) = w1 := ⟨_, rfl⟩
 have hb1 : Below w.heap.size w w1 := hw1 ▸ balloc (Below.refl _ _) _
 have k1 : Blk w1 w.heap.size #[.slice p dest.length c] 40 := hw1 ▸ Blk.new _ _ _
 have HB1 := hide hb1; have K1 := hide k1
 have x5 := k1.cell (k := 0) (v := .slice p dest.length c) rfl
 clear hR hd hM hr hdd hb1 k1
 go_enter Tryz.func19, Tryz.ntmps19
 go_wp2_with (go_at_call 70; refine Stop.out ?_)
 clear hw1
 refine Stop.go (runs_c P np G _ q cq p c dest w1 _ h1 h2 h3 h4 hG (HM.out.next HB1.out) (fun k g hk hg => by have := HRg.out k g hk hg; omega) (HD.out.keep (Keeps.of_below HB1.out)) (by omega) HDd.out ?_)
 obtain ⟨n, hn⟩ : ∃ n, dest.length = n := ⟨_, rfl⟩
 have Hn := hide hn
 rw [hn] at x5 K1 HR hl ⊢
 obtain ⟨cs, hcs, hmk⟩ := mkList2 w1 n (by omega)
 obtain ⟨w2, hw2⟩ : ∃ w2, w1.alloc (.cells cs 3) = w2 := ⟨_, rfl⟩
 rw [hw2] at hmk
 have hb2 : Below w1.heap.size w1 w2 := hw2 ▸ balloc (Below.refl _ _) _
 have hR0 : RwI w1.heap.size n (fun j => (j : Int)) 0 w2 := ⟨cs, hw2 ▸ Blk.new _ _ _, hcs, fun j hj => absurd hj (by omega)⟩
 have HR0 := hide hR0
 have HB2 := hide hb2
 clear hn hb2 hR0 hw2 hcs
 go_wp2
 clear hmk x5
 go_loopw [22] (fun si wr => ∃ k : Nat, k ≤ n ∧ si = .int .i64 k ∧ Hid (RwI w1.heap.size n (fun j => (j : Int)) k wr) ∧ Hid (Below w1.heap.size w1 wr)) (fun si _ => n - (intOf si).toNat)
 case atStart => exact ⟨0, Nat.zero_le _, rfl, HR0, HB2⟩
 case round =>
  clear HR0 HB2
  obtain ⟨k, hk, rfl, HRw, HB⟩ := hrel
  by_cases hlt : k < n
  ·obtain ⟨⟨v, hv⟩, hfz⟩ := HRw.out.here hlt
   have HR1 := hide (HRw.out.put hlt (x := (k : Int)) rfl)
   have HBk := hide (HB.out.setCell (p := ⟨w1.heap.size, k, none⟩) (Nat.le_refl _) (.int .i64 (k : Int)))
   have q1 : (0 : Int) ≤ (k : Int) := by omega
   have q2 : (k : Int) < (n : Int) := by omega
   go_wp2
   go_roundw
   case rel => exact ⟨k + 1, by omega, by go_num, HR1, HBk⟩
   case measure => simp [intOf]; omega
  ·obtain rfl : k = n := by omega
   have q1 : ¬ (k : Int) < (k : Int) := by omega
   have hI0 : IntsAt .i64 wr (some ⟨w1.heap.size, 0, none⟩) (intsN (List.range k)) := HRw.out.row.ints
   have HI0 := hide hI0
   obtain ⟨w3, hw3⟩ : ∃ w3, w3 = wr := ⟨_, rfl⟩
   subst hw3
   have HB3 := hide (bseq HB1.out HB.out)
   have HI3 : Hid (∃ l : List Nat, l.Perm (List.range k) ∧ IntsAt .i64 w3 (some ⟨w1.heap.size, 0, none⟩) (intsN l)) := hide ⟨_, List.Perm.refl _, HI0.out⟩
   have HK3 := hide (K1.out.next HB.out)
   clear hI0 HI0 HRw HB
   go_wp2
   go_loopw [8, 32] (fun sl si wr => ∃ (j : Nat) (pl : Option Addr) (cl : Nat), j ≤ np ∧ si = .int .i64 j ∧ sl = .slice pl k cl ∧ Hid (∃ l : List Nat, l.Perm (List.range k) ∧ IntsAt .i64 wr pl (intsN l)) ∧ Hid (Below w.heap.size w wr) ∧ Hid (Blk wr w.heap.size #[.slice p k c] 40)) (fun _ si _ => np - (intOf si).toNat)
   case atStart => exact ⟨0, _, _, Nat.zero_le _, rfl, rfl, HI3, HB3, HK3⟩
   case round =>
    clear HI3 HB3 HK3
    obtain ⟨j, pl, cl, hj, rfl, rfl, HI, HB, HK⟩ := hrel
    by_cases hlj : j < np
    ·obtain ⟨r1, cr, m1, hrow⟩ := HM.out j hlj
     have m1' := cell_later HB.out m1
     have HRow := hide hrow
     obtain ⟨w4, hw4⟩ : ∃ w4, wr.alloc (.cells #[.slice (some ⟨r1, 0, none⟩) G cr] 40) = w4 := ⟨_, rfl⟩
     have hb4 : Below wr.heap.size wr w4 := hw4 ▸ balloc (Below.refl _ _) _
     have HN4 : Hid (RnI p k c r1 G cr w.heap.size wr.heap.size w4) := hide ⟨HK.out.next hb4, hw4 ▸ Blk.new _ _ _⟩
     have HB4 := hide (bseq HB.out hb4); have HK4 := hide (HK.out.next hb4)
     obtain ⟨l, hperm, hil⟩ := HI.out
     have HPm := hide hperm
     have HIl := hide (hil.keep (Keeps.of_below hb4))
     have y0 := HN4.out.b11.cell (k := 0) (v := .slice (some ⟨r1, 0, none⟩) G cr) rfl
     have q3 : (0 : Int) ≤ (j : Int) := by omega
     have q4 : (j : Int) < (np : Int) := by omega
     clear hrow hb4 hperm hil m1 HI HB HK
     go_wp2_with (go_at_call 71; refine Stop.out ?_)
     clear hw4 y0 m1'
     have hll : l.length = k := by rw [HPm.out.length_eq, List.length_range]
     have hxd : ∀ x ∈ l, ∃ d, dest[x]? = some d ∧ d < G ∧ dest.getD x 0 = d := fun x hx => by
      have hxk : x < dest.length := by rw [Hn.out]; exact List.mem_range.1 (HPm.out.mem_iff.1 hx)
      refine ⟨dest[x], List.getElem?_eq_getElem hxk, HDd.out _ (List.getElem_mem hxk), ?_⟩
      rw [List.getD_eq_getElem?_getD, List.getElem?_eq_getElem hxk]; rfl
     have HXd := hide hxd
     have hcall := pass_c l pl cl P 72 #[.pointer (some ⟨wr.heap.size, 0, none⟩), .pointer (some ⟨w.heap.size, 0, none⟩)] (fun x => M j (dest.getD x 0)) w4
     rw [hll] at hcall
     clear hxd hll
     refine Stop.go (hcall _ HIl.out (by omega) h2 (fun x hx => ?_) (enters_of Tryz.func72 (by kernel_rfl) rfl) (fun x hx W hbW R' hR' => ?_) ?_)
     ·obtain ⟨d, h1, h2, h3⟩ := HXd.out x hx
      show M j (dest.getD x 0) < P
      rw [h3]; exact HRg.out j d hlj h2
     ·obtain ⟨d, h1, h2, h3⟩ := HXd.out x hx
      have e : dest.length = k := Hn.out
      have hN : RnI p dest.length c r1 G cr w.heap.size wr.heap.size W := by rw [e]; exact ⟨HN4.out.b5.next hbW, HN4.out.b11.next hbW⟩
      refine run1_c dest p c r1 G cr w.heap.size wr.heap.size (fun g => (M j g : Int)) x d W R' hN (HD.out.keep (Keeps.of_below (bseq HB4.out hbW))) (HRow.out.next (bseq HB4.out hbW)) h1 h2 (fun W' hb => ?_)
      have := hR' W' hb
      rw [show dest.getD x 0 = d from h3] at this
      exact this
     intro w5 q5 c5 hb hown
     have HB5 := hide (bseq HB4.out hb); have HK5 := hide (HK4.out.next hb)
     have HI5 : Hid (∃ l : List Nat, l.Perm (List.range k) ∧ IntsAt .i64 w5 q5 (intsN l)) := hide ⟨_, (passL_perm (fun x hx => by
      obtain ⟨d, h1, h2, h3⟩ := HXd.out x hx
      show M j (dest.getD x 0) < P
      rw [h3]; exact HRg.out j d hlj h2)).trans HPm.out, IntsAt.of_own hown⟩
     clear hb hown hcall HXd HPm HIl HN4 HB4 HK4
     go_wp2
     go_roundw
     case rel => exact ⟨j + 1, _, _, by omega, by go_num, rfl, HI5, HB5, HK5⟩
     case measure => simp [intOf]; omega
    ·have q3 : ¬ (j : Int) < (np : Int) := by omega
     obtain ⟨l, hperm, hil⟩ := HI.out
     have HF := hide (HR.out wr pl cl l HB.out hperm hil)
     clear hperm hil
     go_wp2
     exact HF.out
end
section
open Go.RowKit Go.Shelf
def loopsOf : Code → List Code
 | .seq a b => loopsOf a ++ loopsOf b
 | .block _ c => loopsOf c
 | .cond _ a b => loopsOf a ++ loopsOf b
 | .scope c => loopsOf c
 | .loop c => [.loop c]
 | _ => []
structure L1I (w : World) (ts ds : List Int) (bs : List Bx) (vt vd vb : Value) (W : World) : Prop where
 t : W.ownsRow w.heap.size 3 1 vt ts.length (ts.map (Value.int .i64))
 d : W.ownsRow w.heap.size 3 1 vd ds.length (ds.map (Value.int .i64))
 b : W.ownsRow w.heap.size 69 5 vb bs.length (bs.flatMap Bx.cells)
 ne : ∀ k, vt.ownBlock = some k → vd.ownBlock ≠ some k
 below : Below w.heap.size w W
section
variable {w W W' : World} {ts ds : List Int} {bs : List Bx} {vt vd vb v' : Value}
theorem L1I.start (w : World) : L1I w [] [] [] (.slice none 0 0) (.slice none 0 0) (.slice none 0 0) w :=
 ⟨World.ownsRow_nil _ _ _ _, World.ownsRow_nil _ _ _ _, World.ownsRow_nil _ _ _ _, fun k h => by simp [Value.ownBlock] at h, Below.refl _ _⟩
theorem L1I.next (h : L1I w ts ds bs vt vd vb W) (hb : Below W.heap.size W W') : L1I w ts ds bs vt vd vb W' := ⟨own_below h.t hb, own_below h.d hb, own_below h.b hb, h.ne, bseq h.below hb⟩
theorem L1I.sep (h : L1I w ts ds bs vt vd vb W) : vd.ownBlock ≠ vt.ownBlock ∨ vd.ownBlock = none := by
 cases hv : vd.ownBlock with
 | none => exact .inr rfl
 | some k => exact .inl (fun e => h.ne k e.symm hv)
theorem L1I.sep' (h : L1I w ts ds bs vt vd vb W) : vt.ownBlock ≠ vd.ownBlock ∨ vt.ownBlock = none := by
 cases hv : vt.ownBlock with
 | none => exact .inr rfl
 | some k => exact .inl (fun e => h.ne k hv e.symm)
theorem own_sep {B B' e e' s s' n n' : Nat} {v v' : Value} {xs xs' : List Value} (h : W.ownsRow B e s v n xs) (h' : W.ownsRow B' e' s' v' n' xs') (hne : e ≠ e') : v.ownBlock ≠ v'.ownBlock ∨ v.ownBlock = none := by
 cases hv : v.ownBlock with
 | none => exact .inr rfl
 | some k => exact .inl (fun e => own_ne h h' hne hv e.symm)
theorem own_kept {B e s n : Nat} {v u : Value} {xs : List Value} (h : W.ownsRow B e s v n xs) (hg : W.grownBy W' u.ownBlock) (hs : v.ownBlock ≠ u.ownBlock ∨ v.ownBlock = none) : W'.ownsRow B e s v n xs := by
 refine h.kept hg ?_
 rcases hs with h1 | h1
 ·exact .inr h1
 ·exact .inl h1
theorem L1I.appT {x : Int} (h : L1I w ts ds bs vt vd vb W) (ho : W'.ownsRow w.heap.size 3 1 v' (ts.length + 1) (ts.map (Value.int .i64) ++ [.int .i64 x])) (hg : W.grownBy W' vt.ownBlock) (hw : v'.ownBlock = vt.ownBlock ∨ ∀ k, v'.ownBlock = some k → W.heap.size ≤ k) : L1I w (ts ++ [x]) ds bs v' vd vb W' := by
 refine ⟨by rw [List.length_append, List.map_append]; exact ho, own_kept h.d hg h.sep, own_kept h.b hg (own_sep h.b h.t (by decide)), fun k hk hk2 => ?_, h.below.grown hg h.below.size (fun k hk => (h.t.lt k hk).1)⟩
 rcases hw with e | e
 ·rw [e] at hk; exact h.ne k hk hk2
 ·have := e k hk; have := (h.d.lt k hk2).2; omega
theorem L1I.appD {x : Int} (h : L1I w ts ds bs vt vd vb W) (ho : W'.ownsRow w.heap.size 3 1 v' (ds.length + 1) (ds.map (Value.int .i64) ++ [.int .i64 x])) (hg : W.grownBy W' vd.ownBlock) (hw : v'.ownBlock = vd.ownBlock ∨ ∀ k, v'.ownBlock = some k → W.heap.size ≤ k) : L1I w ts (ds ++ [x]) bs vt v' vb W' := by
 refine ⟨own_kept h.t hg h.sep', by rw [List.length_append, List.map_append]; exact ho, own_kept h.b hg (own_sep h.b h.d (by decide)), fun k hk hk2 => ?_, h.below.grown hg h.below.size (fun k hk => (h.d.lt k hk).1)⟩
 rcases hw with e | e
 ·rw [e] at hk2; exact h.ne k hk hk2
 ·have := e k hk2; have := (h.t.lt k hk).2; omega
theorem L1I.appB {x : Bx} (h : L1I w ts ds bs vt vd vb W) (ho : W'.ownsRow w.heap.size 69 5 v' (bs.length + 1) (bs.flatMap Bx.cells ++ x.cells)) (hg : W.grownBy W' vb.ownBlock) : L1I w ts ds (bs ++ [x]) vt vd v' W' :=
 ⟨own_kept h.t hg (own_sep h.t h.b (by decide)), own_kept h.d hg (own_sep h.d h.b (by decide)), by rw [List.length_append, List.flatMap_append]; simpa using ho, h.ne, h.below.grown hg h.below.size (fun k hk => (h.b.lt k hk).1)⟩
end
theorem lit_news {w w' : World} {v : Value} {t : TypeId} (h : w.alloc (.cells #[v] t) = w') : ∀ j u, ([v] : List Value)[j]? = some u → w'.cell? ((⟨w.heap.size, 0, none⟩ : Addr).add j) = some u := fun j u hu => by
 match j, hu with
 | 0, hu =>
  injection hu with hu; subst hu
  rw [Addr.add_lit, ← h]; exact (Blk.new w _ _).cell rfl
 | j + 1, hu => simp at hu
end
end Go.Proofs.YtgfhcmidnbahjaaGreatDoor
