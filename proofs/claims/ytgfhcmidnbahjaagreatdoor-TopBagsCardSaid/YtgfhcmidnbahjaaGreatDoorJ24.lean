/- Warrant: the writer; an office's calendar; when an item is ready. Warrant: numbers are appended. Warrant: numbers are appended, raised. A range over an iterator that reads what the caller's rounds may write, as long as the caller's word says what it needs. -/
import Derived.Test.YtgfhcmidnbahjaaGreatDoorJ22
import Derived.Test.YtgfhcmidnbahjaaGreatDoorJ23
import Derived.Test.YtgfhcmidnbahjaaGreatDoorJ16
import Derived.Test.YtgfhcmidnbahjaaGreatDoorJ19
import Derived.Test.YtgfhcmidnbahjaaGreatDoorJ2
set_option linter.unusedVariables false
set_option linter.unusedSimpArgs false
namespace Go.Proofs.YtgfhcmidnbahjaaGreatDoor
section
open Go.RowKit Go.Shelf
def wrtC (N : Net) (P : Pln) (v : Value) : Array Value := (N.cells.toList ++ P.cells ++ [v]).toArray
section
variable {W : World} {g : Nat} {N : Net} {P : Pln} {v : Value} {t : TypeId}
theorem Blk.wrtN (h : Blk W g (wrtC N P v) t) : W.cell? ⟨g, 0, none⟩ = some (.slice N.cp N.cals.length N.cc) ∧ W.cell? ⟨g, 1, none⟩ = some (.slice N.np N.names.length N.nc) ∧
  W.cell? ⟨g, 2, none⟩ = some (.slice N.op N.oprs.length N.oc) ∧ W.cell? ⟨g, 3, none⟩ = some (.slice N.fp N.offs.length N.fc) ∧ W.cell? ⟨g, 4, none⟩ = some (.slice N.lp N.lins.length N.lc) ∧ W.cell? ⟨g, 5, none⟩ = some (.slice N.kp N.clss.length N.kc) :=
 ⟨h.cell rfl, h.cell rfl, h.cell rfl, h.cell rfl, h.cell rfl, h.cell rfl⟩
theorem Blk.wrtP (h : Blk W g (wrtC N P v) t) : W.cell? ⟨g, 6, none⟩ = some (.int .i64 P.fr) ∧ W.cell? ⟨g, 7, none⟩ = some (.int .i64 P.till) ∧ W.cell? ⟨g, 8, none⟩ = some (.slice P.np P.nn P.nc) ∧ W.cell? ⟨g, 9, none⟩ = some (.slice P.dp P.dn P.dc) ∧ W.cell? ⟨g, 10, none⟩ = some v :=
 ⟨h.cell rfl, h.cell rfl, h.cell rfl, h.cell rfl, h.cell rfl⟩
theorem wrtC_set (N : Net) (P : Pln) (v u : Value) : (wrtC N P v).setIfInBounds 10 u = wrtC N P u := rfl
end
set_option maxRecDepth 100000 in
set_option maxHeartbeats 2000000 in
theorem wCal_c (N : Net) (P : Pln) (v : Value) (g s k : Nat) (o : Off) (c : Cal) (w : World) (R) (hg : Blk w g (wrtC N P v) 230) (hN : NetAt w N) (hX : OffX N s k o c) (hR : ∀ w', Below w.heap.size w w' → R (.returned (.agg c.cells.toArray)) w') : Calls Tryz.prog 219 #[.pointer (some ⟨g, 0, none⟩), .int .i64 (s : Int)] w R := by
 have HR := hide hR
 obtain ⟨w1, hw1⟩ : ∃ w1, w.alloc (.cells #[.int .i64 0, .slice none 0 0, .slice none 0 0] 164) = w1 := ⟨_, rfl⟩
 have hb1 : Below w.heap.size w w1 := hw1 ▸ balloc (Below.refl _ _) _
 have k2 : Blk w1 w.heap.size #[.int .i64 0, .slice none 0 0, .slice none 0 0] 164 := by rw [← hw1]; exact Blk.new _ _ _
 have hN1 := hN.next hb1
 have k1 := hg.next hb1
 have hs := (List.getElem?_eq_some_iff.1 hX.off).1
 have hk := (List.getElem?_eq_some_iff.1 hX.c).1
 obtain ⟨b2, o2, o', hp2, ho', _, _, _, m2, _⟩ := hN1.off_ hs
 rw [hX.off] at ho'; injection ho' with ho'; subst ho'
 obtain ⟨b3, o3, c', hp3, hc', _, c0, c1, c2⟩ := hN1.cal_ hk
 rw [hX.c] at hc'; injection hc' with hc'; subst hc'
 rw [hX.cal] at m2
 have x0 := k1.cell (k := 0) (v := .slice N.cp N.cals.length N.cc) rfl; have x3 := k1.cell (k := 3) (v := .slice N.fp N.offs.length N.fc) rfl
 rw [hp3] at x0; rw [hp2] at x3
 have q3 : (0 : Int) ≤ (s : Int) := by omega
 have q4 : (s : Int) < (N.offs.length : Int) := by omega
 have q5 : (0 : Int) ≤ (k : Int) := by omega
 have q6 : (k : Int) < (N.cals.length : Int) := by omega
 have HB := hide hb1.drew
 have HK := hide (k2.next (Below.refl _ _).drew)
 clear hR hN hb1 k1 k2 hN1 hX hp2 hp3 hs hk hg
 go_enter Tryz.func219, Tryz.ntmps219
 go_wp2
 clear hw1
 go_still_tail 16, (by kernel_rfl)
 change wpList _ _ _ _ _ w1.drew
 clear x0 x3 m2 c0 c1 c2
 generalize w1.drew = w2 at *
 have y0 := HK.out.cell (k := 0) rfl; have y1 := HK.out.cell (k := 1) rfl; have y2 := HK.out.cell (k := 2) rfl
 have f0 := HK.out.free 0; have f1 := HK.out.free 1; have f2 := HK.out.free 2
 have HK3 := hide (((HK.out.set 0 (.int .i64 c.zone)).set 1 (.slice c.wp c.week.length c.wc)).set 2 (.slice c.hp c.hol.length c.hc))
 have HF := hide (HR.out _ (((HB.out.setCell (p := ⟨w.heap.size, 0, none⟩) (Nat.le_refl _) (.int .i64 c.zone)).setCell (p := ⟨w.heap.size, 1, none⟩) (Nat.le_refl _) (.slice c.wp c.week.length c.wc)).setCell (p := ⟨w.heap.size, 2, none⟩) (Nat.le_refl _) (.slice c.hp c.hol.length c.hc)))
 clear HB HK
 go_wp2
 refine bodyPost_ret (v := .agg c.cells.toArray) ?_ rfl HF.out
 have z0 := HK3.out.cell (k := 0) rfl; have z1 := HK3.out.cell (k := 1) rfl; have z2 := HK3.out.cell (k := 2) rfl
 rw [results_cell1 (p := 4) (ty := 164) Tryz.results219]
 simp [go_sem, z0, z1, z2, Cal.cells]
set_option maxRecDepth 100000 in
set_option maxHeartbeats 2000000 in
theorem wready_c (N : Net) (P : Pln) (v : Value) (g s : Nat) (t : Int) (w : World) (R) (hg : Blk w g (wrtC N P v) 230) (hN : NetAt w N) (hS : Snd N) (hs : s < N.offs.length) (h1 : -100000000 ≤ t) (h2 : t ≤ 100000000) (hR : ∀ w', Below w.heap.size w w' → R (.returned (.int .i64 (readyF N (s : Int) t))) w') : Calls Tryz.prog 222 #[.pointer (some ⟨g, 0, none⟩), .int .i64 (s : Int), .int .i64 t] w R := by
 have HR := hide hR
 obtain ⟨b2, o2, o', hp2, ho', _, _, _, _, _, m4, m5, _⟩ := hN.off_ hs
 have hof : offOf N (s : Int) = o' := by unfold offOf; rw [show ((s : Int)).toNat = s by omega, getD_some ho']
 have hO := hS.offP (o := (s : Int)) (by omega) (by omega)
 rw [hof] at hO
 have hmul := mul_small hO.passes.1 hO.passes.2 hO.minutes.1 hO.minutes.2
 have e1 : IntKind.i64.wrap (o'.passes * o'.minutes) = o'.passes * o'.minutes := IntWalk.i64_in _ (by omega)
 have e2 : IntKind.i64.wrap (t + o'.passes * o'.minutes) = t + o'.passes * o'.minutes := IntWalk.i64_in _ (by omega)
 have hE : readyF N (s : Int) t = t + o'.passes * o'.minutes := by unfold readyF; rw [hof]
 rw [hE] at HR
 have x3 := hg.cell (k := 3) (v := .slice N.fp N.offs.length N.fc) rfl
 rw [hp2] at x3
 have q3 : (0 : Int) ≤ (s : Int) := by omega
 have q4 : (s : Int) < (N.offs.length : Int) := by omega
 clear hR hg hN hS hs hof hO hmul hE hp2 ho'
 go_enter Tryz.func222, Tryz.ntmps222
 go_wp2
 go_quiet (fail)
 go_wp2
 exact HR.out _ (below_drewN' (Below.refl _ _) _)
end
section
open Go.RowKit Go.Shelf
def WtBad (gw : Nat) (W : World) (k : Nat) : Prop := k = gw ∨ ∃ v, W.cell? ⟨gw, 10, none⟩ = some v ∧ v.ownBlock = some k
structure WtS (w : World) (N : Net) (P : Pln) (gw : Nat) (xs : List Int) (W : World) : Prop where
 below : Below w.heap.size w W
 base : w.heap.size ≤ gw
 row : ∃ v, Blk W gw (wrtC N P v) 230 ∧ W.ownsRow w.heap.size 3 1 v xs.length (xs.map (Value.int .i64))
section
variable {w : World} {N : Net} {P : Pln} {gw : Nat} {xs : List Int} {W W' : World}
theorem WtS.next (h : WtS w N P gw xs W) (hb : Below W.heap.size W W') : WtS w N P gw xs W' := by
 obtain ⟨v, h1, h2⟩ := h.row
 exact ⟨bseq h.below hb, h.base, v, h1.next hb, own_below h2 hb⟩
theorem WtS.lt (h : WtS w N P gw xs W) : gw < W.heap.size := by obtain ⟨v, h1, _⟩ := h.row; exact h1.lt
theorem WtS.bad (h : WtS w N P gw xs W) {k : Nat} (hk : WtBad gw W k) : w.heap.size ≤ k ∧ k < W.heap.size := by
 obtain ⟨v, h1, h2⟩ := h.row
 rcases hk with rfl | ⟨v', hc, hb⟩
 ·exact ⟨h.base, h1.lt⟩
 ·rw [h1.cell (k := 10) (v := v) rfl] at hc
  injection hc with hc; subst hc
  exact h2.lt k hb
theorem WtS.kp (h : WtS w N P gw xs W) (hb : Below W.heap.size W W') : Kpb (WtBad gw) W W' := by
 obtain ⟨v, h1, h2⟩ := h.row
 refine kpb_below hb (fun k hk => ?_)
 rcases hk with rfl | ⟨v', hc, hv⟩
 ·exact .inl rfl
 ·refine .inr ⟨v', ?_, hv⟩
  rwa [World.cell?_of_block (hb.block gw h1.lt)] at hc
theorem WtS.bad_back (h : WtS w N P gw xs W) (hb : Below W.heap.size W W') {k : Nat} (hk : WtBad gw W' k) : WtBad gw W k := by
 obtain ⟨v, h1, h2⟩ := h.row
 rcases hk with rfl | ⟨v', hc, hv⟩
 ·exact .inl rfl
 ·refine .inr ⟨v', ?_, hv⟩
  rwa [World.cell?_of_block (hb.block gw h1.lt)] at hc
theorem WtS.not_bad (h : WtS w N P gw xs W) {k : Nat} {cs : Array Value} {t : TypeId} (hb : Blk W k cs t) (h1 : t ≠ 230) (h2 : t ≠ 3) : ¬ WtBad gw W k := by
 obtain ⟨v, k1, k2⟩ := h.row
 rintro (rfl | ⟨v', hc, hv⟩)
 ·exact absurd rfl (Blk.ne_ hb k1 h1)
 ·rw [k1.cell (k := 10) (v := v) rfl] at hc
  injection hc with hc; subst hc
  exact own_ne_blk k2 hb (fun e => h2 e.symm) hv.symm
theorem WtS.own {row : Option Nat} {B : Nat} (k : WtS w N P gw xs W) (hB : w.heap.size ≤ B) (hg : W.grownBy W' row) (hr : ∀ r, row = some r → B ≤ r ∧ ∃ o : Obj, W.heap[r]? = some o ∧ o.isCells = false) : WtS w N P gw xs W' := by
 obtain ⟨v, h1, h2⟩ := k.row
 refine ⟨below_own k.below hB hg hr, k.base, v, h1.own hg hr, h2.kept hg ?_⟩
 rcases h2.2 with ⟨rfl, _⟩ | ⟨g', cap, cur, rfl, _, hh, _⟩
 ·exact .inl rfl
 ·refine .inr (fun e => ?_)
  obtain ⟨_, o, ho, hc⟩ := hr g' e.symm
  rw [hh] at ho; injection ho with ho; subst ho
  exact absurd hc (by simp [Obj.isCells])
theorem WtS.app {v v' : Value} {ys : List Int} {W1 : World} (h : WtS w N P gw xs W) (h1 : Blk W gw (wrtC N P v) 230) (h2 : W.ownsRow w.heap.size 3 1 v xs.length (xs.map (Value.int .i64)))
  (hown : W1.ownsRow w.heap.size 3 1 v' (xs.length + ys.length) (xs.map (Value.int .i64) ++ ys.map (Value.int .i64))) (hg : W.grownBy W1 v.ownBlock) (hw : v'.ownBlock = v.ownBlock ∨ ∀ k, v'.ownBlock = some k → W.heap.size ≤ k) :
  WtS w N P gw (xs ++ ys) (W1.setCell ⟨gw, 10, none⟩ v') ∧ Kpb (WtBad gw) W (W1.setCell ⟨gw, 10, none⟩ v') := by
 have hne := own_ne_blk h2 h1 (by decide)
 have k1 : Blk W1 gw (wrtC N P v) 230 := h1.grown hg hne
 have hne' := own_ne_blk hown k1 (by decide)
 have k2 : Blk (W1.setCell ⟨gw, 10, none⟩ v') gw (wrtC N P v') 230 := by have := k1.set 10 v'; rwa [wrtC_set] at this
 have hb1 : Below w.heap.size w W1 := h.below.grown hg h.below.size (fun k hk => (h2.lt k hk).1)
 refine ⟨⟨hb1.setCell (p := ⟨gw, 10, none⟩) h.base _, h.base, v', k2, ?_⟩, ?_, fun k hk hn => ?_⟩
 ·have := ownsRow_setCell_other hown (a := ⟨gw, 10, none⟩) (fun e => hne' e.symm) v'
  simpa using this
 ·have := hg.size; simpa [World.setCell] using this
 ·have n1 : k ≠ gw := fun e => hn (.inl e)
  have n2 : v.ownBlock ≠ some k := fun e => hn (.inr ⟨v, h1.cell (k := 10) (v := v) rfl, e⟩)
  refine ⟨(Below.heap_setCell _ _ _ _ n1).trans (hg.block k hk (fun e => n2 e.symm)), ?_⟩
  rintro (e | ⟨u, hu, hv⟩)
  ·exact n1 e
  ·rw [k2.cell (k := 10) (v := v') rfl] at hu
   injection hu with hu; subst hu
   rcases hw with e | e
   ·exact n2 (e ▸ hv)
   ·have := e k hv; omega
end
set_option maxRecDepth 100000 in
set_option maxHeartbeats 1000000 in
theorem put_c (N : Net) (P : Pln) (gw : Nat) (xs ys : List Int) (ad : Addr) (c : Nat) (w0 w : World) (R) (hS : WtS w0 N P gw xs w) (hy : ∀ j (x : Int), ys[j]? = some x → w.cell? (ad.add j) = some (.int .i64 x)) (hlen : xs.length + ys.length ≤ 2000000000)
  (hR : ∀ w', WtS w0 N P gw (xs ++ ys) w' → Kpb (WtBad gw) w w' → ∀ v, R (.returned v) w') :
  Calls Tryz.prog 179 #[.pointer (some ⟨gw, 0, none⟩), .slice (some ad) ys.length c] w R := by
 obtain ⟨v, h1, h2⟩ := hS.row
 have HR := hide hR; have HS := hide hS; have H1 := hide h1; have H2 := hide h2
 have x10 := h1.wrtP.2.2.2.2
 have hnews : ∀ j u, (ys.map (Value.int .i64))[j]? = some u → w.cell? (ad.add j) = some u := fun j u hu => by
  rw [List.getElem?_map] at hu
  obtain ⟨x, hx, rfl⟩ := Option.map_eq_some_iff.1 hu
  exact hy j x hx
 have Hnews := hide hnews
 obtain ⟨i0, hi0, hz0, hz1, hz2⟩ := info_parts infoI2
 have HT := hide (And.intro hi0 (And.intro hz0 (And.intro hz1 hz2)))
 clear hR hS h1 h2 hy hnews hi0 hz0 hz1 hz2
 go_enter Tryz.func179, Tryz.ntmps179
 go_wp2_with (at_builtin; refine Stop.out ?_)
 refine Stop.go ?_
 obtain ⟨hi0, hz0, hz1, hz2⟩ := HT.out
 refine wpList_append_where rfl (.tmp 8) (.tmp 9) 40 rfl w0.heap.size 3 i0 _ 1 8 Tryz.underlying40 hi0 hz0 hz1 hz2 rfl (by omega) v xs.length (xs.map (Value.int .i64)) rfl H2.out ad ys.length c (ys.map (Value.int .i64)) rfl (by simp) Hnews.out (ints_oneCell .i64 _) (by unfold maxLen; omega) (by omega) HS.out.below.size ?_
 intro v' w' hown hg hw
 obtain ⟨k1, k2⟩ := HS.out.app H1.out H2.out hown hg hw
 have HF := hide (HR.out _ k1 k2)
 have hb1 := H1.out.grown hg (own_ne_blk H2.out H1.out (by decide))
 have c10 := hb1.cell (k := 10) (v := v) rfl
 have f10 := hb1.free 10
 obtain ⟨pv, capv, rfl, _⟩ := own_val hown
 clear hown hg hw k1 k2 hi0 hz0 hz1 hz2 HT x10 hb1
 go_wp2
 first
 | exact HF.out _
 | exact bodyPost_end (results_none Tryz.results179 _ _ _) rfl (HF.out _)
end
section
open Go.RowKit Go.Shelf
theorem ints_kpb {bad : World → Nat → Prop} {W W' : World} {p : Option Addr} {l : List Int} (h : IntsAt .i64 W p l) (hk : Kpb bad W W') (hb : ∀ k, BlkOf p l.length k → ¬ bad W k) : IntsAt .i64 W' p l := fun hl => by
 obtain ⟨b, o, hp, hc⟩ := h hl
 refine ⟨b, o, hp, fun i x hx => ?_⟩
 have h1 := hc i x hx
 exact (World.cell?_of_block (hk.2 b (block_lt h1) (hb b ⟨hl, o, hp⟩)).1).trans h1
set_option maxRecDepth 100000 in
set_option maxHeartbeats 1000000 in
theorem raised_c (N : Net) (P : Pln) (gw : Nat) (xs ys : List Int) (b : Int) (q : Option Addr) (c : Nat) (w0 w : World) (R) (hS : WtS w0 N P gw xs w) (hy : IntsAt .i64 w q ys) (hq : ∀ k, BlkOf q ys.length k → ¬ WtBad gw w k) (hlen : xs.length + ys.length ≤ 2000000000)
  (hrg : ∀ x ∈ ys, -1000000000 ≤ x ∧ x ≤ 1000000000) (hb : -1000000000 ≤ b ∧ b ≤ 1000000000)
  (hR : ∀ w', WtS w0 N P gw (xs ++ ys.map (· + b)) w' → Kpb (WtBad gw) w w' → ∀ v, R (.returned v) w') :
  Calls Tryz.prog 180 #[.pointer (some ⟨gw, 0, none⟩), .int .i64 b, .slice q ys.length c] w R := by
 have HR := hide hR; have HS := hide hS; have HY := hide hy; have HQ := hide hq; have HG := hide hrg
 have hn : ys.length ≤ 2000000000 := by omega
 clear hR hS hy hq hrg
 go_enter Tryz.func180, Tryz.ntmps180
 go_wp2
 go_loopw [10] (fun si wr => ∃ k : Nat, k ≤ ys.length ∧ si = .int .i64 k ∧ Hid (WtS w0 N P gw (xs ++ (ys.take k).map (· + b)) wr) ∧ Hid (Kpb (WtBad gw) w wr)) (fun si _ => ys.length - (intOf si).toNat)
 case atStart => exact ⟨0, Nat.zero_le _, rfl, hide (by simpa using HS.out), hide (Kpb.refl _ _)⟩
 case round =>
  obtain ⟨k, hk, rfl, HW, HK⟩ := hrel
  by_cases hlt : k < ys.length
  ·obtain ⟨bb, oo, x, hp, hx, hc⟩ := (ints_kpb HY.out HK.out HQ.out).at_ hlt
   have hxr := HG.out x (List.mem_of_getElem? hx)
   have Hx := hide hx
   have e1 : IntKind.i64.wrap (x + b) = x + b := IntWalk.i64_in _ (by omega)
   have q1 : (0 : Int) ≤ (k : Int) := by omega
   have q2 : (k : Int) < (ys.length : Int) := by omega
   have HN0 := hide (HW.out.next (balloc (Below.refl _ _) (.cells #[.int .i64 (x + b)] 3)))
   have HKp := hide (HW.out.kp (balloc (Below.refl _ _) (.cells #[.int .i64 (x + b)] 3)))
   subst hp
   clear hx
   go_wp2_with (go_at_call 179; refine Stop.out ?_)
   refine Stop.go (put_c N P gw (xs ++ (ys.take k).map (· + b)) [x + b] ⟨wr.heap.size, 0, none⟩ 1 w0 _ _ HN0.out (fun j u hu => ?_) (by simp; omega) ?_)
   ·match j, hu with
    | 0, hu =>
     simp at hu; subst hu
     rw [Addr.add_lit]
     exact (Blk.new wr 3 #[.int .i64 (x + b)]).cell rfl
   intro w' hS' hK' v
   have HS2 : Hid (WtS w0 N P gw (xs ++ (ys.take (k + 1)).map (· + b)) w') := hide (by
    have := hS'
    rw [List.take_add_one, Hx.out]
    simpa using this)
   have HK2 := hide ((HK.out.trans HKp.out).trans hK')
   clear hS' hK' hc HN0 HKp e1
   go_wp2
   go_roundw
   case rel => exact ⟨k + 1, by omega, by go_num, HS2, HK2⟩
   case measure => simp [intOf]; omega
  ·have q1 : ¬ (k : Int) < (ys.length : Int) := by omega
   obtain rfl : k = ys.length := by omega
   rw [List.take_length] at HW
   have HF := hide (HR.out _ HW.out HK.out)
   go_wp2
   first
   | exact HF.out _
   | exact bodyPost_end (results_none Tryz.results180 _ _ _) rfl (HF.out _)
end
section
open Go.RowKit
def IterG {α : Type} (P : Program) (g : Nat) (lb : Array Value) (encs : α → Array Value) (xs : List α) (K : Nat → Prop) (Inv : World → Prop) (w : World) : Prop :=
 ∀ (l : Nat) (J : List α → World → Prop) (T : World → Prop) (Pn : List PanicEntry → World → Prop) (bad : World → Nat → Prop) (W : World), Below w.heap.size w W →
  JSt J bad → (∀ k, K k → ¬ bad W k) → (∀ s W, J s W → Inv W) →
  (∀ pre x post, xs = pre ++ x :: post → ∀ W1, J pre W1 → YieldAt Fence.wide 7 P l (encs x) W1 (YP J T Pn bad pre x W1)) →
  J [] W → Calls P g (#[.func (.yield l) #[] #[]] ++ lb) W (IP J T Pn xs)
theorem range_coreI {α : Type} {P : Program} {fn : FuncId} {g : Operand} {ps : Array Tmp} {assign body : Code} {a : Act} {w : World} {R : Ending → World → Prop}
  {gf : Nat} {lb : Array Value} (hg : a.eval g = .func (.func gf) #[] lb) (eg : ∀ args w, (callFunc gf args).run P w = .ok (.enter gf args) w)
  {encs : α → Array Value} {xs : List α} {K : Nat → Prop} {Inv : World → Prop} (hit : IterG P gf lb encs xs K Inv w) (bad : World → Nat → Prop) (hK : ∀ k, K k → k < w.heap.size ∧ ¬ bad w k) (hps : ∀ x, (encs x).size = ps.size)
  (I : List α → World → Prop) (Tx : Code → World → Prop) (Pn : List PanicEntry → World → Prop) (hIv : ∀ s W, I s W → Inv W) (hI : OwnB w.heap.size I) (hIb : BadB w.heap.size I bad) (hTx : ∀ c, OwnB w.heap.size (fun (_ : Unit) => Tx c))
  (hPn : ∀ ch W, Pn ch W → ∃ F, P.funcs[fn]? = some F) (h0 : I [] w)
  (hround : ∀ (l : Nat) (pre : List α) (x : α) (post : List α), xs = pre ++ x :: post → ∀ (W : World), I pre W → ∀ K' : Act → World → Prop,
   (∀ a1 W1, KeepsFrom w.heap.size W W1 → Kpb bad W W1 → I pre W1 → (∀ W2, Bump w.heap.size W1 W2 → I pre W2 → body.wpIn (Fence.wide.inRound l) 6 P (RP w.heap.size I Tx Pn bad pre x W2) a1 W2) → K' a1 W1) →
   assign.wpIn (Fence.wide.inRound l) 6 P (Exit.then K' (fun _ _ _ => False)) { tmps := (ps.zip (encs x)).foldl (fun t (p, v) => t.setIfInBounds p v) a.tmps, defers := [] } W)
  (hdone : ∀ (l D : Nat) (W : World), w.heap.size ≤ D → I xs W → W.heap[D]? = some (.deferred (some [])) → ∀ W', (Instr.endLoop l).run P W = .ok none W' → I xs W' → W'.heap[D]? = some (.deferred (some [])) → D = w.heap.size → l = w.heap.size + 1 → R (.returned undef) W)
  (hstop : ∀ (l D : Nat) (c : Code) (W : World), w.heap.size ≤ D → Tx c W → ∀ W', (Instr.endLoop l).run P W = .ok (some c) W' → Tx c W' → W'.heap[D]? = some (.deferred (some [])) → D = w.heap.size → l = w.heap.size + 1 → R (.returned undef) W)
  (hpanic : ∀ (ch : List PanicEntry) (W : World), Pn ch W → W.heap[w.heap.size]? = some (.deferred (some [])) → R (.panicked ch) W)
  (hR : ∀ v v' W, R (.returned v) W → R (.returned v') W) :
  ∃ w₁ w₂, (Instr.enterLoop fn a.tmps ps assign body none).run P w = .ok (w.heap.size + 1, [{ target := .collected w.heap.size, args := #[] }]) w₁ ∧
   (resolve a.eval (rangeCall g (w.heap.size + 1)) 0).run P w₁ = .ok { target := .fn (.func gf) lb, args := #[.func (.yield (w.heap.size + 1)) #[] #[]] } w₁ ∧
   (invoke (.fn (.func gf) lb) #[.func (.yield (w.heap.size + 1)) #[] #[]]).run P w₁ = .ok (.enter gf (#[.func (.yield (w.heap.size + 1)) #[] #[]] ++ lb)) w₂ ∧
   Calls P gf (#[.func (.yield (w.heap.size + 1)) #[] #[]] ++ lb) w₂ R := by
 let rc : LoopState → Option Code → Loop := fun st pe => { state := st, pending := pe, fn, tmps := a.tmps, params := ps, assign, body, defers := w.heap.size }
 obtain ⟨W1, hW1⟩ : ∃ W1, (w.alloc (.deferred (some []))).alloc (.loop (rc .ready none)) = W1 := ⟨_, rfl⟩
 have hL1 : W1.heap[w.heap.size + 1]? = some (.loop (rc .ready none)) := by
  rw [← hW1]; have := World.alloc_heap_new (w.alloc (.deferred (some []))) (.loop (rc .ready none)); rwa [World.size_alloc] at this
 have hD1 : W1.heap[w.heap.size]? = some (.deferred (some [])) := by
  rw [← hW1]; exact (Below.heap_alloc _ _ _ (by simp)).trans (World.alloc_heap_new w _)
 have hB1 : Below w.heap.size w W1 := by rw [← hW1]; exact ((Below.refl _ w).alloc (Nat.le_refl _) _).alloc (by simp) _
 have hg1 : w.grownBy W1 none := by rw [← hW1]; exact (World.grownBy_alloc _ _ none).trans (World.grownBy_alloc _ _ none)
 have step : ∀ {A A' : World} {k : Nat} {o : Obj}, A.grownBy A' none → A.heap[k]? = some o → A'.heap[k]? = some o := fun h ho =>
  (h.block _ (Array.getElem?_eq_some_iff.1 ho).1 (by simp)).trans ho
 have put : ∀ {β : Type} {J : β → World → Prop}, OwnB w.heap.size J → ∀ {s : β} {A : World} {o : Obj} (o' : Obj), J s A → A.heap[w.heap.size + 1]? = some o → o.isCells = false → J s (A.putObj (w.heap.size + 1) o') := fun hJ s A o o' hs ho hc =>
  hJ s A _ (some (w.heap.size + 1)) hs (grownBy_putObj' A _ o') (fun r e => by cases e; exact ⟨by omega, o, ho, hc⟩)
 have kput : ∀ (s : List α) (A : World) (o o' : Obj), I s A → A.heap[w.heap.size + 1]? = some o → o.isCells = false → Kpb (fun W k => k = w.heap.size + 1 ∨ bad W k) A (A.putObj (w.heap.size + 1) o') := fun s A o o' hs ho hc =>
  ⟨(grownBy_putObj' A (w.heap.size + 1) o').size, fun k hk hb => ⟨World.putObj_heap_other (fun e => hb (.inl e)), fun hh => by
    rcases hh with hh | hh
    ·exact hb (.inl hh)
    ·exact hb (.inr (hIb s A _ (some (w.heap.size + 1)) hs (grownBy_putObj' A _ o') (fun r e => by cases e; exact ⟨by omega, o, ho, hc⟩) k hh).1)⟩⟩
 refine ⟨W1, W1, ?_, ?_, ?_, ?_⟩
 ·rw [← hW1]; exact run_enterLoop_outer _ _ _ _ _
 ·simp only [resolve, hg]; simp [go_sem]
 ·simp [invoke, go_sem, eg]
 refine (hit (w.heap.size + 1)
  (fun pre W => I pre W ∧ W.heap[w.heap.size + 1]? = some (.loop (rc .ready none)) ∧ W.heap[w.heap.size]? = some (.deferred (some [])))
  (fun W => ∃ c, Tx c W ∧ W.heap[w.heap.size + 1]? = some (.loop (rc .done (some c))) ∧ W.heap[w.heap.size]? = some (.deferred (some [])))
  (fun ch W => Pn ch W ∧ W.heap[w.heap.size]? = some (.deferred (some [])))
  (fun W k => k = w.heap.size + 1 ∨ bad W k)
  W1 hB1 (fun s A A' hs hA => ⟨⟨hI s A A' _ hs.1 (grown_of_below hA) (fun r e => by cases e), step (grown_of_below hA) hs.2.1, step (grown_of_below hA) hs.2.2⟩, fun k hk => by
   rcases hk with rfl | hk
   ·exact ⟨.inl rfl, (Array.getElem?_eq_some_iff.1 hs.2.1).1⟩
   ·obtain ⟨h1, h2⟩ := hIb s A A' none hs.1 (grown_of_below hA) (fun r e => by cases e) k hk
    exact ⟨.inr h1, h2⟩⟩)
  (fun k hk => by
   obtain ⟨h1, h2⟩ := hK k hk
   rintro (hh | hh)
   ·omega
   ·exact h2 (hIb [] w W1 none h0 hg1 (fun r e => by cases e) k hh).1)
  (fun s W h => hIv s W h.1)
  ?_ ⟨hI [] w W1 none h0 hg1 (fun r e => by cases e), hL1, hD1⟩).mono ?_
 ·
  rintro pre x post hx W0 ⟨hi0, hl0, hk0⟩
  refine ⟨fn, _, assign, body, run_yield (P := P) (args := encs x) hl0 (hps x), roundIn_any (n := 6) (round_of (∃ F, P.funcs[fn]? = some F) id (hround _ pre x post hx W0 hi0 _ (fun a' W hKO hKK hi hbody => ?_)))⟩
  have hl := hKO.same _ _ (Nat.le_succ _) hl0 rfl
  have hk := hKO.same _ _ (Nat.le_refl _) hk0 rfl
  refine ⟨_, run_beginRound hl rfl, ?_⟩
  have hlt : w.heap.size + 1 < W.heap.size := (Array.getElem?_eq_some_iff.1 hl).1
  have hl2 : (W.putObj (w.heap.size + 1) (.loop { rc .ready none with state := .busy })).heap[w.heap.size + 1]? = some (.loop { rc .ready none with state := .busy }) := World.putObj_heap_same hlt
  have hk2 : (W.putObj (w.heap.size + 1) (.loop { rc .ready none with state := .busy })).heap[w.heap.size]? = some (.deferred (some [])) := (World.putObj_heap_other (by omega)).trans hk
  refine wpIn_mono (hbody _ ⟨w.heap.size + 1, _, by omega, hl, rfl, grownBy_putObj' W _ _⟩ (put hI _ hi hl rfl)) ?_
  have fin : ∀ (jump : Option Code) (W3 : World), KeepsFrom w.heap.size (W.putObj (w.heap.size + 1) (.loop { rc .ready none with state := .busy })) W3 →
    ∃ W4, (Instr.endRound (w.heap.size + 1) jump).run P W3 = .ok (.bool jump.isNone) W4 ∧ W4 = W3.putObj (w.heap.size + 1) (.loop (rc (if jump.isNone then .ready else .done) jump)) ∧
    W3.heap[w.heap.size + 1]? = some (.loop { rc .ready none with state := .busy }) ∧ W4.heap[w.heap.size + 1]? = some (.loop (rc (if jump.isNone then .ready else .done) jump)) ∧ W4.heap[w.heap.size]? = some (.deferred (some [])) := fun jump W3 h3 => by
   have hl3 := h3.same _ _ (Nat.le_succ _) hl2 rfl
   exact ⟨_, run_endRound (P := P) jump hl3, rfl, hl3, World.putObj_heap_same (Array.getElem?_eq_some_iff.1 hl3).1, (World.putObj_heap_other (by omega)).trans (h3.same _ _ (Nat.le_refl _) hk2 rfl)⟩
  rintro e a3 W3 hp
  cases e with
  | normal =>
   obtain ⟨hk3, hkp3, hi3⟩ := hp
   obtain ⟨W4, hr, rfl, hl3, hl4, hk4⟩ := fin none W3 hk3
   exact ⟨_, _, hr, .inl ⟨rfl, ⟨put hI _ hi3 hl3 rfl, hl4, hk4⟩, ((hKK.more _).trans (kput pre W _ _ hi hl rfl)).trans ((hkp3.more _).trans (kput _ W3 _ _ hi3 hl3 rfl))⟩⟩
  | ret =>
   obtain ⟨W4, hr, rfl, hl3, hl4, hk4⟩ := fin (some .ret) W3 hp.1
   exact ⟨_, _, hr, .inr ⟨rfl, .ret, put (hTx _) (s := ()) _ hp.2 hl3 rfl, hl4, hk4⟩⟩
  | exit id =>
   obtain ⟨W4, hr, rfl, hl3, hl4, hk4⟩ := fin (some (.exit id)) W3 hp.1
   exact ⟨_, _, hr, .inr ⟨rfl, .exit id, put (hTx _) (s := ()) _ hp.2 hl3 rfl, hl4, hk4⟩⟩
  | goto t =>
   obtain ⟨W4, hr, rfl, hl3, hl4, hk4⟩ := fin (some (.goto t)) W3 hp.1
   exact ⟨_, _, hr, .inr ⟨rfl, .goto t, put (hTx _) (s := ()) _ hp.2 hl3 rfl, hl4, hk4⟩⟩
  | panic ch => exact ⟨hPn ch W3 hp.2.2, hp.1, hp.2.2, hp.2.1.same _ _ (Nat.le_refl _) hk2 rfl⟩
  | outgrown => exact hp.elim
 ·
  rintro e W2 hh
  cases e with
  | outgrown => exact hh.elim
  | panicked ch => exact hpanic ch W2 hh.1 hh.2
  | returned v =>
   rcases hh with ⟨hi, hl, hk⟩ | ⟨c, hi, hl, hk⟩
   ·exact hR _ _ _ (hdone _ _ W2 (Nat.le_refl _) hi hk _ (run_endLoop (P := P) hl (by simp [rc])) (put hI _ hi hl rfl) ((World.putObj_heap_other (by omega)).trans hk) rfl rfl)
   ·exact hR _ _ _ (hstop _ _ c W2 (Nat.le_refl _) hi _ (run_endLoop (P := P) hl (by simp [rc])) (put (hTx c) (s := ()) _ hi hl rfl) ((World.putObj_heap_other (by omega)).trans hk) rfl rfl)
theorem rangeFunc_GI {α : Type} {P : Program} {n : Nat} {g : Operand} {ps : Array Tmp} {assign body : Code} {Q : Exit → Act → World → Prop} {a : Act} {w : World}
  {gf : Nat} {lb : Array Value} (hg : a.eval g = .func (.func gf) #[] lb) (eg : ∀ args w, (callFunc gf args).run P w = .ok (.enter gf args) w)
  {encs : α → Array Value} {xs : List α} {K : Nat → Prop} {Inv : World → Prop} (hit : IterG P gf lb encs xs K Inv w) (bad : World → Nat → Prop) (hK : ∀ k, K k → k < w.heap.size ∧ ¬ bad w k) (hps : ∀ x, (encs x).size = ps.size)
  (I : List α → World → Prop) (Tx : Code → World → Prop) (hIv : ∀ s W, I s W → Inv W) (hI : OwnB w.heap.size I) (hIb : BadB w.heap.size I bad) (hTx : ∀ c, OwnB w.heap.size (fun (_ : Unit) => Tx c)) (h0 : I [] w)
  (hround : ∀ (l : Nat) (pre : List α) (x : α) (post : List α), xs = pre ++ x :: post → ∀ (W : World), I pre W → ∀ K' : Act → World → Prop,
   (∀ a1 W1, KeepsFrom w.heap.size W W1 → Kpb bad W W1 → I pre W1 → (∀ W2, Bump w.heap.size W1 W2 → I pre W2 → body.wpIn (Fence.wide.inRound l) 6 P (RP w.heap.size I Tx (fun _ _ => False) bad pre x W2) a1 W2) → K' a1 W1) →
   assign.wpIn (Fence.wide.inRound l) 6 P (Exit.then K' (fun _ _ _ => False)) { tmps := (ps.zip (encs x)).foldl (fun t (p, v) => t.setIfInBounds p v) a.tmps, defers := [] } W)
  (hdone : ∀ (D : Nat) (W : World), w.heap.size ≤ D → I xs W → W.heap[D]? = some (.deferred (some [])) → Q .normal { a with defers := { target := .collected D, args := #[] } :: a.defers } W)
  (hstop : ∀ (D : Nat) (c : Code) (W : World), w.heap.size ≤ D → Tx c W → W.heap[D]? = some (.deferred (some [])) → c.wpIn Fence.wide n P Q { a with defers := { target := .collected D, args := #[] } :: a.defers } W) :
  (Code.rangeFunc g ps assign body).wpIn Fence.wide n P Q a w := by
 refine wpIn_rangeFunc ?_
 intro fn hfn
 obtain ⟨w₁, w₂, h1, h2, h3, h4⟩ := range_coreI (fn := fn) (R := rangePost Fence.wide n P (w.heap.size + 1) Q { a with defers := { target := .collected w.heap.size, args := #[] } :: a.defers }) hg eg hit bad hK hps I Tx (fun _ _ => False) hIv hI hIb hTx (fun _ _ h => h.elim) h0 hround
  (fun l D W hD hi hk W' he hi' hk' hDe hle => by subst hDe; subst hle; exact ⟨none, W', he, hdone _ W' hD hi' hk'⟩)
  (fun l D c W hD hi W' he hi' hk' hDe hle => by subst hDe; subst hle; exact ⟨some c, W', he, hstop _ c W' hD hi' hk'⟩)
  (fun _ _ h => h.elim) (fun v v' W h => h)
 exact ⟨_, _, w₁, _, w₁, gf, _, w₂, h1, h2, fun f' hf' => trivial, h3, (fun h => by simp [Fence.wide] at h), callsIn_wide.2 h4⟩
end
end Go.Proofs.YtgfhcmidnbahjaaGreatDoor
