/- Promise: the table. Promise: the table of promises. Promise: Way: what recovers. Promise: Way. Warrant: first, must, code (printed by genWA.py from promise's texts). -/
import Derived.Test.YtgfhcmidnbahjaaGreatDoorJ21
import Derived.Test.YtgfhcmidnbahjaaGreatDoorJ12
set_option linter.unusedVariables false
set_option linter.unusedSimpArgs false
namespace Go.Proofs.YtgfhcmidnbahjaaGreatDoor
section
open Go.RowKit Go.Shelf
attribute [local go_sem] Oper.semAt_some run_store_func
theorem inside_yes (i n : Nat) (h : i < n) (w : World) (R) (hR : R (.returned (.bool true)) w) : Calls Tryz.prog 56 #[.int .i64 (i : Int), .int .i64 (n : Int)] w R := by
 have HR := hide hR
 have q1 : (0 : Int) ≤ (i : Int) := by omega
 have q2 : (i : Int) < (n : Int) := by omega
 clear hR h
 go_enter Tryz.func56, Tryz.ntmps56
 go_wp2
 exact HR.out
set_option maxRecDepth 100000 in
set_option maxHeartbeats 1000000 in
theorem psound_c (N : Net) (g : Nat) (w : World) (R) (hk : KwAt w) (hg : Blk w g N.cells 29) (hN : NetAt w N) (hS : soundB N = true) (hR : ∀ w', Below w.heap.size w w' → R (.returned (.bool true)) w') : Calls Tryz.prog 58 #[.pointer (some ⟨g, 0, none⟩)] w R := by
 have HR := hide hR; have HN := hide hN; have HK := hide hk; have HS := hide hS
 obtain ⟨y0, y1, y2, y3, y4, y5⟩ := hg.net6
 clear hR hN hk hg hS
 go_enter Tryz.func58, Tryz.ntmps58
 go_wp2_with (go_at_call 115; refine Stop.out ?_)
 refine Stop.go (check_c N w _ HK.out HN.out ?_)
 intro w' p n cap hb h0 _
 have hn : n = 0 := h0.2 HS.out
 subst hn
 have HF := hide (HR.out _ hb)
 clear hb h0 y0 y1 y2 y3 y4 y5
 go_wp2
 exact HF.out
set_option maxRecDepth 100000 in
set_option maxHeartbeats 1000000 in
theorem formed_c (N : Net) (g : Nat) (np : Option Addr) (nc : Nat) (nx : Nat → Nat → Int) (w : World) (R) (hg : Blk w g N.cells 29) (hN : NetAt w N) (hn : N.offs.length ≤ 12) (hl : N.lins.length ≤ 40) (hM : MatAt w np N.offs.length nx) (hF : Formed N nx)
  (hR : ∀ w', Below w.heap.size w w' → R (.returned (.bool true)) w') : Calls Tryz.prog 59 #[.pointer (some ⟨g, 0, none⟩), .slice np N.offs.length nc] w R := by
 have HR := hide hR; have HN := hide hN; have HM := hide hM; have HF := hide hF; have HG := hide hg
 have y3 := hg.net6.2.2.2.1
 have y4 := hg.net6.2.2.2.2.1
 clear hR hN hM hF hg
 go_enter Tryz.func59, Tryz.ntmps59
 go_wp2
 go_loopw [19] (fun si wr => ∃ k : Nat, k ≤ N.offs.length ∧ si = .int .i64 k ∧ wr = w) (fun si _ => N.offs.length - (intOf si).toNat)
 case atStart => exact ⟨0, Nat.zero_le _, rfl, rfl⟩
 case round =>
  obtain ⟨k, hk, rfl, rfl⟩ := hrel
  by_cases hlt : k < N.offs.length
  ·obtain ⟨b, bo, b', o', c', hnp, hrw, hcl⟩ := HM.out k hlt
   have Hcl := hide hcl
   have q1 : (0 : Int) ≤ (k : Int) := by omega
   have q2 : (k : Int) < (N.offs.length : Int) := by omega
   subst hnp
   clear hcl
   go_wp2
   go_loopw [34] (fun sj wq => ∃ j : Nat, j ≤ N.offs.length ∧ sj = .int .i64 j ∧ wq = wr) (fun sj _ => N.offs.length - (intOf sj).toNat)
   case atStart => exact ⟨0, Nat.zero_le _, rfl, rfl⟩
   case round =>
    obtain ⟨j, hj, rfl, hw⟩ := hrel
    subst hw
    by_cases hlj : j < N.offs.length
    ·have c0 := Hcl.out j hlj
     have q3 : (0 : Int) ≤ (j : Int) := by omega
     have q4 : (j : Int) < (N.offs.length : Int) := by omega
     by_cases hx : nx k j = -1
     ·rw [hx] at c0
      go_wp2
      all_goals
       try refine ⟨(fun f e => by cases e), ?_⟩
       try apply_assumption
       try go_wp2
      all_goals
       go_roundw
       case rel => exact ⟨j + 1, by omega, by go_num, by trivial⟩
       case measure => simp [intOf]; omega
     ·obtain ⟨i, hi, hil, hsrc⟩ : ∃ i : Nat, nx k j = (i : Int) ∧ i < N.lins.length ∧ (linOf N (nx k j)).src = k := by
       rcases HF.out k j hlt hlj with h | ⟨h1, h2, h3⟩
       ·exact absurd h hx
       ·exact ⟨(nx k j).toNat, by omega, by omega, h3⟩
      rw [hi] at c0 hsrc
      obtain ⟨b1, o1, l, hp1, hl', hlr, l0, l1, l2, l3, l4, l5⟩ := HN.out.lin_ hil
      have hls : l.src = (k : Int) := by rw [← hsrc]; unfold linOf; rw [show ((i : Int)).toNat = i by omega, getD_some hl']
      rw [hls] at l1
      rw [hp1] at y4
      have q5 : (0 : Int) ≤ (i : Int) := by omega
      have q6 : (i : Int) < (N.lins.length : Int) := by omega
      have t2 : ((i : Int) != (-1 : Int)) = true := by simp
      clear hx hi hsrc hl' hlr l0 l2 l3 l4 l5 hls
      go_wp2_with (go_at_call 56; refine Stop.out ?_)
      refine Stop.go (inside_yes i N.lins.length hil _ _ ?_)
      go_wp2
      go_roundw
      case rel => exact ⟨j + 1, by omega, by go_num, by trivial⟩
      case measure => simp [intOf]; omega
    ·have q3 : ¬ (j : Int) < (N.offs.length : Int) := by omega
     go_wp2
     go_roundw
     case rel => exact ⟨k + 1, by omega, by go_num, by trivial⟩
     case measure => simp [intOf]; omega
  ·have q1 : ¬ (k : Int) < (N.offs.length : Int) := by omega
   have HE := hide (HR.out _ (Below.refl _ _))
   go_wp2
   exact HE.out
end
section
open Go.RowKit Go.Shelf
attribute [local go_sem] Oper.semAt_some run_store_func
def RowB (W : World) (n : Nat) (f : Nat → Int) (g : Nat) : Prop := ∃ cs, Blk W g cs 3 ∧ cs.size = n ∧ ∀ j, j < n → cs[j]? = some (.int .i64 (f j))
def MatB (W : World) (n : Nat) (M : Nat → Nat → Int) (g : Nat) : Prop := ∃ cs, Blk W g cs 40 ∧ cs.size = n ∧ ∀ i, i < n → ∃ gi, cs[i]? = some (.slice (some ⟨gi, 0, none⟩) n n) ∧ g < gi ∧ RowB W n (M i) gi
def CubeAt (W : World) (p : Option Addr) (nk n : Nat) (C : Cube) : Prop := ∀ k, k < nk → ∃ b o q c, p = some ⟨b, o, none⟩ ∧ W.cell? ⟨b, o + k, none⟩ = some (.slice q n c) ∧ MatAt W q n (C k)
section
variable {W W' : World} {n : Nat}
theorem RowB.next {f : Nat → Int} {g : Nat} (h : RowB W n f g) (hb : Below W.heap.size W W') : RowB W' n f g := by obtain ⟨cs, h1, h2, h3⟩ := h; exact ⟨cs, h1.next hb, h2, h3⟩
theorem RowB.far {f : Nat → Int} {g : Nat} (h : RowB W n f g) {p : Addr} (hp : g ≠ p.block) (u : Value) : RowB (W.setCell p u) n f g := by obtain ⟨cs, h1, h2, h3⟩ := h; exact ⟨cs, h1.far hp u, h2, h3⟩
theorem MatB.next {M : Nat → Nat → Int} {g : Nat} (h : MatB W n M g) (hb : Below W.heap.size W W') : MatB W' n M g := by
 obtain ⟨cs, h1, h2, h3⟩ := h
 exact ⟨cs, h1.next hb, h2, fun i hi => by obtain ⟨gi, k1, k2, k3⟩ := h3 i hi; exact ⟨gi, k1, k2, k3.next hb⟩⟩
theorem MatB.far {M : Nat → Nat → Int} {g : Nat} (h : MatB W n M g) {p : Addr} (hp : p.block < g) (u : Value) : MatB (W.setCell p u) n M g := by
 obtain ⟨cs, h1, h2, h3⟩ := h
 exact ⟨cs, h1.far (by omega) u, h2, fun i hi => by obtain ⟨gi, k1, k2, k3⟩ := h3 i hi; exact ⟨gi, k1, k2, k3.far (by omega) u⟩⟩
theorem MatB.mat {M : Nat → Nat → Int} {g : Nat} (h : MatB W n M g) : MatAt W (some ⟨g, 0, none⟩) n M := fun i hi => by
 obtain ⟨cs, h1, h2, h3⟩ := h
 obtain ⟨gi, k1, k2, ds, d1, d2, d3⟩ := h3 i hi
 exact ⟨g, 0, gi, 0, n, rfl, by rw [Nat.zero_add]; exact h1.cell k1, fun j hj => by rw [Nat.zero_add]; exact d1.cell (d3 j hj)⟩
theorem CubeAt.keep {p : Option Addr} {nk : Nat} {C : Cube} (hk : Keeps W W') (h : CubeAt W p nk n C) : CubeAt W' p nk n C := fun k hk' => by
 obtain ⟨b, o, q, c, h1, h2, h3⟩ := h k hk'
 exact ⟨b, o, q, c, h1, hk _ _ h2, h3.keep hk⟩
theorem CubeAt.next {p : Option Addr} {nk : Nat} {C : Cube} (h : CubeAt W p nk n C) (hb : Below W.heap.size W W') : CubeAt W' p nk n C := h.keep (Keeps.of_below hb)
end
def CubeB (W : World) (nk n : Nat) (C : Cube) (g : Nat) : Prop := ∃ cs, Blk W g cs 36 ∧ cs.size = nk ∧ ∀ k, k < nk → ∃ gk, cs[k]? = some (.slice (some ⟨gk, 0, none⟩) n n) ∧ MatB W n (C k) gk
theorem CubeB.at_ {W : World} {nk n : Nat} {C : Cube} {g : Nat} (h : CubeB W nk n C g) : CubeAt W (some ⟨g, 0, none⟩) nk n C := fun k hk => by
 obtain ⟨cs, h1, h2, h3⟩ := h
 obtain ⟨gk, k1, k2⟩ := h3 k hk
 exact ⟨g, 0, _, n, rfl, by rw [Nat.zero_add]; exact h1.cell k1, k2.mat⟩
structure TbI (N : Net) (np : Option Addr) (nc : Nat) (nx : Nat → Nat → Int) (fr till : Int) (gn : Nat) (W : World) : Prop where
 box : Blk W gn N.cells 29
 b1 : Blk W (gn + 1) #[.slice np N.offs.length nc] 36
 b2 : Blk W (gn + 1 + 1) #[.int .i64 fr] 3
 b3 : Blk W (gn + 1 + 1 + 1) #[.int .i64 till] 3
 net : NetAt W N
 mat : MatAt W np N.offs.length nx
theorem TbI.next {N : Net} {np : Option Addr} {nc : Nat} {nx : Nat → Nat → Int} {fr till : Int} {gn : Nat} {W W' : World} (h : TbI N np nc nx fr till gn W) (hb : Below W.heap.size W W') : TbI N np nc nx fr till gn W' :=
 ⟨h.box.next hb, h.b1.next hb, h.b2.next hb, h.b3.next hb, h.net.next hb, h.mat.next hb⟩
structure TbP (N : Net) (nx : Nat → Nat → Int) (fr till : Int) : Prop where
 snd : Snd N
 formed : Formed N nx
 h1 : 0 ≤ fr
 h2 : fr < till
 h3 : till ≤ 600
set_option maxRecDepth 100000 in
set_option maxHeartbeats 1000000 in
theorem table3_c (N : Net) (np : Option Addr) (nc : Nat) (nx : Nat → Nat → Int) (fr till : Int) (gn gk go k o d : Nat) (w : World) (R) (hI : TbI N np nc nx fr till gn w) (hP : TbP N nx fr till) (bk : Blk w gk #[.int .i64 (k : Int)] 3) (bo : Blk w go #[.int .i64 (o : Int)] 3)
  (hk : k < N.clss.length) (ho : o < N.offs.length) (hd : d < N.offs.length) (hR : ∀ w', Below w.heap.size w w' → R (.returned (.int .i64 (mostF N nx k o d fr till))) w') :
  Calls Tryz.prog 174 #[.int .i64 (d : Int), .pointer (some ⟨gn, 0, none⟩), .pointer (some ⟨gn + 1, 0, none⟩), .pointer (some ⟨gk, 0, none⟩), .pointer (some ⟨go, 0, none⟩), .pointer (some ⟨gn + 1 + 1, 0, none⟩), .pointer (some ⟨gn + 1 + 1 + 1, 0, none⟩)] w R := by
 have HR := hide hR; have HI := hide hI
 have x1 := hI.b1.cell (k := 0) rfl; have x2 := hI.b2.cell (k := 0) (v := .int .i64 fr) rfl; have x3 := hI.b3.cell (k := 0) (v := .int .i64 till) rfl
 have x4 := bk.cell (k := 0) (v := .int .i64 (k : Int)) rfl; have x5 := bo.cell (k := 0) (v := .int .i64 (o : Int)) rfl
 clear hR hI bk bo
 go_enter Tryz.func174, Tryz.ntmps174
 go_wp2_with (go_at_call 175; refine Stop.out ?_)
 refine Stop.go (most_c N gn np nc nx k o d fr till w _ HI.out.box HI.out.net hP.snd HI.out.mat hP.formed hk ho hd hP.h1 hP.h2 hP.h3 ?_)
 intro w' hb
 have HF := hide (HR.out w' hb)
 clear hb x1 x2 x3 x4 x5
 go_wp2
 exact HF.out
theorem stable_int (B : Nat) (M : Nat → Int) : StableP B (fun i v _ => v = .int .i64 (M i)) := ⟨fun _ _ _ _ h _ => h, fun _ _ _ _ _ h => h⟩
theorem stable_row (B n : Nat) (M : Nat → Nat → Int) : StableP B (fun i v W => ∃ g, v = .slice (some ⟨g, 0, none⟩) n n ∧ B < g ∧ RowB W n (M i) g) :=
 ⟨fun i v W W' h hb => by obtain ⟨g, h1, h2, h3⟩ := h; exact ⟨g, h1, h2, h3.next hb⟩, fun i v W j u h => by obtain ⟨g, h1, h2, h3⟩ := h; exact ⟨g, h1, h2, h3.far (p := ⟨B, j, none⟩) (show g ≠ B by omega) u⟩⟩
theorem stable_mat (B n : Nat) (C : Cube) : StableP B (fun i v W => ∃ g, v = .slice (some ⟨g, 0, none⟩) n n ∧ B < g ∧ MatB W n (C i) g) :=
 ⟨fun i v W W' h hb => by obtain ⟨g, h1, h2, h3⟩ := h; exact ⟨g, h1, h2, h3.next hb⟩, fun i v W j u h => by obtain ⟨g, h1, h2, h3⟩ := h; exact ⟨g, h1, h2, h3.far (p := ⟨B, j, none⟩) (show B < g by omega) u⟩⟩
set_option maxRecDepth 100000 in
set_option maxHeartbeats 1000000 in
theorem table2_c (N : Net) (np : Option Addr) (nc : Nat) (nx : Nat → Nat → Int) (fr till : Int) (gn gk k o : Nat) (w : World) (R) (hI : TbI N np nc nx fr till gn w) (hP : TbP N nx fr till) (bk : Blk w gk #[.int .i64 (k : Int)] 3)
  (hk : k < N.clss.length) (ho : o < N.offs.length) (hR : ∀ w' g, Below w.heap.size w w' → w.heap.size ≤ g → RowB w' N.offs.length (fun d => mostF N nx k o d fr till) g → R (.returned (.slice (some ⟨g, 0, none⟩) N.offs.length N.offs.length)) w') :
  Calls Tryz.prog 172 #[.int .i64 (o : Int), .pointer (some ⟨gn, 0, none⟩), .pointer (some ⟨gn + 1, 0, none⟩), .pointer (some ⟨gk, 0, none⟩), .pointer (some ⟨gn + 1 + 1, 0, none⟩), .pointer (some ⟨gn + 1 + 1 + 1, 0, none⟩)] w R := by
 obtain ⟨w1, hw1⟩ : ∃ w1, w.alloc (.cells #[.int .i64 (o : Int)] 3) = w1 := ⟨_, rfl⟩
 have hb1 : Below w.heap.size w w1 := hw1 ▸ balloc (Below.refl _ _) _
 have HR := hide hR; have HI := hide (hI.next hb1)
 have HB1 := hide hb1
 have HK := hide (bk.next hb1)
 have HO : Hid (Blk w1 w.heap.size #[.int .i64 (o : Int)] 3) := hide (hw1 ▸ Blk.new _ _ _)
 have y3 := HI.out.box.net6.2.2.2.1
 have hno : N.offs.length ≤ 12 := hP.snd.noff
 clear hR hI bk hb1
 go_enter Tryz.func172, Tryz.ntmps172
 go_wp2_with (go_at_call 173; refine Stop.out ?_)
 clear hw1
 refine Stop.go (rowsI_c N.offs.length 174 _ (fun i v _ => v = .int .i64 (mostF N nx k o i fr till)) w1 _ (by omega) (stable_int _ _) (enters_of Tryz.func174 (by kernel_rfl) rfl) ?_ ?_)
 ·intro i W hi hb _ R' hR'
  exact table3_c N np nc nx fr till gn gk w.heap.size k o i W R' (HI.out.next hb) hP (HK.out.next hb) (HO.out.next hb) hk ho hi (fun W' hb' => hR' W' _ hb' rfl)
 ·intro w2 cs hb hbl hsz hcs
  have HF := hide (HR.out w2 _ (bseq HB1.out hb) HB1.out.size ⟨cs, hbl, hsz, fun j hj => by obtain ⟨v, hv, rfl⟩ := hcs j hj; exact hv⟩)
  clear hb hbl hsz hcs y3
  go_wp2
  exact HF.out
set_option maxRecDepth 100000 in
set_option maxHeartbeats 1000000 in
theorem table1_c (N : Net) (np : Option Addr) (nc : Nat) (nx : Nat → Nat → Int) (fr till : Int) (gn k : Nat) (w : World) (R) (hI : TbI N np nc nx fr till gn w) (hP : TbP N nx fr till)
  (hk : k < N.clss.length) (hR : ∀ w' g, Below w.heap.size w w' → w.heap.size ≤ g → MatB w' N.offs.length (fun o d => mostF N nx k o d fr till) g → R (.returned (.slice (some ⟨g, 0, none⟩) N.offs.length N.offs.length)) w') :
  Calls Tryz.prog 170 #[.int .i64 (k : Int), .pointer (some ⟨gn, 0, none⟩), .pointer (some ⟨gn + 1, 0, none⟩), .pointer (some ⟨gn + 1 + 1, 0, none⟩), .pointer (some ⟨gn + 1 + 1 + 1, 0, none⟩)] w R := by
 obtain ⟨w1, hw1⟩ : ∃ w1, w.alloc (.cells #[.int .i64 (k : Int)] 3) = w1 := ⟨_, rfl⟩
 have hb1 : Below w.heap.size w w1 := hw1 ▸ balloc (Below.refl _ _) _
 have HR := hide hR; have HI := hide (hI.next hb1)
 have HB1 := hide hb1
 have HK : Hid (Blk w1 w.heap.size #[.int .i64 (k : Int)] 3) := hide (hw1 ▸ Blk.new _ _ _)
 have y3 := HI.out.box.net6.2.2.2.1
 have hno : N.offs.length ≤ 12 := hP.snd.noff
 clear hR hI hb1
 go_enter Tryz.func170, Tryz.ntmps170
 go_wp2_with (go_at_call 171; refine Stop.out ?_)
 clear hw1
 refine Stop.go (rowsR_c N.offs.length 172 _ (fun i v W => ∃ g, v = .slice (some ⟨g, 0, none⟩) N.offs.length N.offs.length ∧ w1.heap.size < g ∧ RowB W N.offs.length (fun d => mostF N nx k i d fr till) g) w1 _ (by omega) (stable_row _ _ (fun i d => mostF N nx k i d fr till)) (enters_of Tryz.func172 (by kernel_rfl) rfl) ?_ ?_)
 ·intro i W hi hb hlt R' hR'
  exact table2_c N np nc nx fr till gn w.heap.size k i W R' (HI.out.next hb) hP (HK.out.next hb) hk hi (fun W' g hb' hg hrow => hR' W' g _ hb' ⟨g, rfl, by omega, hrow⟩)
 ·intro w2 cs hb hbl hsz hcs
  have HF := hide (HR.out w2 _ (bseq HB1.out hb) HB1.out.size ⟨cs, hbl, hsz, fun j hj => by obtain ⟨v, hv, g, rfl, hg, hr⟩ := hcs j hj; exact ⟨g, hv, hg, hr⟩⟩)
  clear hb hbl hsz hcs y3
  go_wp2
  exact HF.out
set_option maxRecDepth 100000 in
set_option maxHeartbeats 1000000 in
theorem pTable_c (N : Net) (np : Option Addr) (nc : Nat) (nx : Nat → Nat → Int) (fr till : Int) (w : World) (R) (hk : KwAt w) (hN : NetAt w N) (hS : soundB N = true) (hM : MatAt w np N.offs.length nx) (hF : Formed N nx) (h1 : 0 ≤ fr) (h2 : fr < till) (h3 : till ≤ 600) (h4 : till - fr ≤ 60)
  (hR : ∀ w' g, Below w.heap.size w w' → CubeB w' N.clss.length N.offs.length (fun k o d => mostF N nx k o d fr till) g → R (.returned (.slice (some ⟨g, 0, none⟩) N.clss.length N.clss.length)) w') :
  Calls Tryz.prog 111 #[.agg N.cells, .slice np N.offs.length nc, .int .i64 fr, .int .i64 till] w R := by
 have HP := hide (show TbP N nx fr till from ⟨snd_of hS, hF, h1, h2, h3⟩)
 obtain ⟨w1, hw1⟩ : ∃ w1, (((w.alloc (.cells N.cells 29)).alloc (.cells #[.slice np N.offs.length nc] 36)).alloc (.cells #[.int .i64 fr] 3)).alloc (.cells #[.int .i64 till] 3) = w1 := ⟨_, rfl⟩
 have hb1 : Below w.heap.size w w1 := hw1 ▸ balloc (balloc (balloc (balloc (Below.refl _ _) _) _) _) _
 have hI : TbI N np nc nx fr till w.heap.size w1 := by
  refine ⟨?_, ?_, ?_, ?_, hN.next hb1, hM.next hb1⟩ <;> rw [← hw1] <;> repeat (first | exact Blk.new_at (by simp) | refine Blk.alloc ?_ _)
 have HR := hide hR; have HI := hide hI; have HB1 := hide hb1; have HKw := hide (hk.next hb1); have HS := hide hS
 have hno : N.offs.length ≤ 12 := HP.out.snd.noff
 have hnk : N.clss.length ≤ 4 := HP.out.snd.ncls
 have e1 : IntKind.i64.wrap (till - fr) = till - fr := IntWalk.i64_in _ (by omega)
 have x2 := hI.b2.cell (k := 0) (v := .int .i64 fr) rfl; have x3 := hI.b3.cell (k := 0) (v := .int .i64 till) rfl; have x1 := hI.b1.cell (k := 0) (v := .slice np N.offs.length nc) rfl
 unfold Net.cells at hw1
 clear hR hI hk hN hS hM hF hb1
 unfold Net.cells
 go_enter Tryz.func111, Tryz.ntmps111
 go_wp2_with (go_at_call 58; refine Stop.out ?_)
 clear hw1
 refine Stop.go (psound_c N w.heap.size w1 _ HKw.out HI.out.box HI.out.net HS.out ?_)
 intro w2 hb
 have HB2 := hide (bseq HB1.out hb)
 have HI2 := hide (HI.out.next hb)
 clear hb x1 x2 x3 e1
 have x1 := HI2.out.b1.cell (k := 0) (v := .slice np N.offs.length nc) rfl
 go_wp2_with (go_at_call 59; refine Stop.out ?_)
 refine Stop.go (formed_c N w.heap.size np nc nx w2 _ HI2.out.box HI2.out.net hno HP.out.snd.nlin HI2.out.mat HP.out.formed ?_)
 intro w3 hb
 have HB3 := hide (bseq HB2.out hb)
 have HI3 := hide (HI2.out.next hb)
 clear hb x1
 have y5 := HI3.out.box.net6.2.2.2.2.2
 go_wp2_with (go_at_call 169; refine Stop.out ?_)
 refine Stop.go (rowsM_c N.clss.length 170 _ (fun i v W => ∃ g, v = .slice (some ⟨g, 0, none⟩) N.offs.length N.offs.length ∧ w3.heap.size < g ∧ MatB W N.offs.length (fun o d => mostF N nx i o d fr till) g) w3 _ (by omega) (stable_mat _ _ (fun k o d => mostF N nx k o d fr till)) (enters_of Tryz.func170 (by kernel_rfl) rfl) ?_ ?_)
 ·intro i W hi hb hlt R' hR'
  exact table1_c N np nc nx fr till w.heap.size i W R' (HI3.out.next hb) HP.out hi (fun W' g hb' hg hm => hR' W' g _ hb' ⟨g, rfl, by omega, hm⟩)
 ·intro w4 cs hb hbl hsz hcs
  have HF := hide (HR.out w4 _ (bseq HB3.out hb) ⟨cs, hbl, hsz, fun k hk => by
   obtain ⟨v, hv, g, rfl, hg, hm⟩ := hcs k hk
   exact ⟨g, hv, hm⟩⟩)
  clear hb hbl hsz hcs y5
  go_wp2
  exact HF.out
end
section
open Go.RowKit Go.Shelf
theorem run_assert_errno (e : Int) (w : World) : (Instr.typeAssert (.iface 43 (.int .i64 e)) 20 43 true).run Tryz.prog w = .ok (.tuple #[.int .i64 e, .bool true]) w := by
 simp [Instr.typeAssert, run_underlying Tryz.underlying43]
set_option maxRecDepth 100000 in
theorem pcode_c (e : Int) (w : World) (R) (hR : R (.returned (.int .i64 e)) w) : Calls Tryz.prog 54 #[.iface 43 (.int .i64 e)] w R := by
 have HR := hide hR
 have hta := run_assert_errno e
 clear hR
 go_enter Tryz.func54, Tryz.ntmps54
 go_wp2
 exact HR.out
theorem way_calm (n : Nat) (p q : Addr) (w : World) :
  CallsDIn Fence.wide n Tryz.prog 53 #[.pointer (some p), .pointer (some q)] .returning w fun e u' w' => e = .returned (.tuple #[]) ∧ u' = .returning ∧ w' = w := by
 refine callsDIn_of_wpSIn Tryz.func53 rfl trivial fun c₀ cs hu => ?_
 apply wpSIn_seq
 apply wpSIn_region
 simp [wpOpsSIn, go_sem, recoverD, hu, Tryz.ntmps53, Exit.thenS]
 apply wpSIn_seq
 apply wpSIn_region
 simp [wpOpsSIn, go_sem, hu, Exit.thenS]
 refine wpSIn_cond (t := false) (by simp [Act.eval, Array.replicate]) ?_
 simp only [Bool.false_eq_true, if_false]
 refine wpSIn_of_wpIn rfl (wpIn_skip ?_)
 cases c₀
 simp_all [bodyPostS, results, Tryz.results53]
theorem way_catch (n : Nat) (p q : Addr) (x y : Value) (e : Int) (older : List PanicEntry) (w : World) (hc : w.cell? p = some x) (hz : w.frozen? p = false) (hc2 : w.cell? q = some y) (hz2 : w.frozen? q = false) (hne : p ≠ q) :
  CallsDIn Fence.wide n Tryz.prog 53 #[.pointer (some p), .pointer (some q)] (.panicking ({ v := .iface 43 (.int .i64 e), recovered := false } :: older)) w fun e' u' w' =>
   e' = .returned (.tuple #[]) ∧ u' = .panicking ({ v := .iface 43 (.int .i64 e), recovered := true } :: older) ∧ w' = (w.setCell p (.slice none 0 0)).setCell q (.int .i64 e) := by
 refine callsDIn_of_wpSIn Tryz.func53 rfl trivial fun c₀ cs hu => ?_
 apply wpSIn_seq
 apply wpSIn_region
 simp [wpOpsSIn, go_sem, recoverD, hu, Tryz.ntmps53, Exit.thenS]
 apply wpSIn_seq
 apply wpSIn_region
 simp [wpOpsSIn, go_sem, hu, Exit.thenS]
 refine wpSIn_cond (t := true) (by simp [Act.eval, Array.replicate]) ?_
 simp only [if_true]
 refine wpSIn_of_wpIn rfl ?_
 refine wpIn_wide.2 ?_
 have c2 : (w.setCell p (.slice none 0 0)).cell? q = some y := (World.cell?_setCell_other w p q _ hne).trans hc2
 have z2 : (w.setCell p (.slice none 0 0)).frozen? q = false := (World.frozen?_setCell w p q _).trans hz2
 go_wp2_with (go_at_call 54; refine Stop.out ?_)
 refine Stop.go (pcode_c e _ _ ?_)
 go_wp2
 simp [bodyPostS, results, Tryz.results53]
end
section
open Go.RowKit Go.Shelf
attribute [local go_sem] Oper.semAt_some run_store_func
theorem inRange_p (t : Int) (w : World) (R) (hR : R (.returned (.bool (decide (0 ≤ t ∧ t ≤ 2000000)))) w) : Calls Tryz.prog 57 #[.int .i64 t] w R := by
 by_cases h0 : 0 ≤ t
 ·by_cases h1 : t ≤ 2000000
  ·rw [decide_eq_true ⟨h0, h1⟩] at hR
   have HR := hide hR
   clear hR
   go_enter Tryz.func57, Tryz.ntmps57
   go_wp2
   exact HR.out
  ·rw [decide_eq_false (fun h => h1 h.2)] at hR
   have HR := hide hR
   have h2 : 2000000 < t := by omega
   clear hR
   go_enter Tryz.func57, Tryz.ntmps57
   go_wp2
   exact HR.out
 ·rw [decide_eq_false (fun h => h0 h.1)] at hR
  have HR := hide hR
  have h2 : t < 0 := by omega
  clear hR
  go_enter Tryz.func57, Tryz.ntmps57
  go_wp2
  exact HR.out
structure WaI (w : World) (N : Net) (u v : Value) (W : World) : Prop where
 below : Below w.heap.size w W
 box : Blk W w.heap.size N.cells 29
 st : Blk W (w.heap.size + 1) #[u] 48
 er : Blk W (w.heap.size + 1 + 1) #[v] 43
section
variable {w : World} {N : Net} {u v : Value} {W W' : World}
theorem WaI.next (h : WaI w N u v W) (hb : Below W.heap.size W W') : WaI w N u v W' := ⟨bseq h.below hb, h.box.next hb, h.st.next hb, h.er.next hb⟩
theorem WaI.set (h : WaI w N u v W) (x y : Value) : WaI w N x y ((W.setCell ⟨w.heap.size + 1, 0, none⟩ x).setCell ⟨w.heap.size + 1 + 1, 0, none⟩ y) :=
 ⟨(h.below.setCell (p := ⟨w.heap.size + 1, 0, none⟩) (show w.heap.size ≤ w.heap.size + 1 by omega) _).setCell (p := ⟨w.heap.size + 1 + 1, 0, none⟩) (show w.heap.size ≤ w.heap.size + 1 + 1 by omega) _,
  (h.box.far (p := ⟨w.heap.size + 1, 0, none⟩) (show w.heap.size ≠ w.heap.size + 1 by omega) _).far (p := ⟨w.heap.size + 1 + 1, 0, none⟩) (show w.heap.size ≠ w.heap.size + 1 + 1 by omega) _,
  (h.st.set 0 x).far (p := ⟨w.heap.size + 1 + 1, 0, none⟩) (show w.heap.size + 1 ≠ w.heap.size + 1 + 1 by omega) _,
  (h.er.far (p := ⟨w.heap.size + 1, 0, none⟩) (show w.heap.size + 1 + 1 ≠ w.heap.size + 1 by omega) _).set 0 y⟩
end
set_option maxRecDepth 100000 in
set_option maxHeartbeats 1000000 in
theorem pWay_c (N : Net) (np : Option Addr) (nc : Nat) (nx : Nat → Nat → Int) (o tt : Nat) (t : Int) (w : World) (R) (hk : KwAt w) (hN : NetAt w N) (hS : soundB N = true) (hM : MatAt w np N.offs.length nx) (hF : Formed N nx) (ho : o < N.offs.length) (htt : tt < N.offs.length)
  (hok : ∀ l w' g cap, wayF N nx o tt t = .ok l → Below w.heap.size w w' → w'.ownsRow w.heap.size 53 4 (.slice (some ⟨g, 0, none⟩) l.length cap) l.length (l.flatMap Stp.cells) → R (.returned (.tuple #[.slice (some ⟨g, 0, none⟩) l.length cap, .int .i64 0])) w')
  (her : ∀ e w', wayF N nx o tt t = .error e → Below w.heap.size w w' → R (.returned (.tuple #[.slice none 0 0, .int .i64 e])) w') :
  Calls Tryz.prog 13 #[.agg N.cells, .slice np N.offs.length nc, .int .i64 (o : Int), .int .i64 (tt : Int), .int .i64 t] w R := by
 have HOk := hide hok; have HEr := hide her; have HSn := hide (snd_of hS); have HF := hide hF; have HN := hide hN; have HM := hide hM; have HKw := hide hk; have HS := hide hS
 have hmf : ∀ (fn : Fn) (first cap : Array Value) (w : World), (Instr.makeFunc fn first cap).run Tryz.prog w = .ok (.func fn first cap) w := fun _ _ _ _ => rfl
 obtain ⟨w1, hw1⟩ : ∃ w1, ((w.alloc (.cells N.cells 29)).alloc (.cells #[.slice none 0 0] 48)).alloc (.cells #[.int .i64 0] 43) = w1 := ⟨_, rfl⟩
 have hb1 : Below w.heap.size w w1 := hw1 ▸ balloc (balloc (balloc (Below.refl _ _) _) _) _
 have hI : WaI w N (.slice none 0 0) (.int .i64 0) w1 := by
  refine ⟨hb1, ?_, ?_, ?_⟩ <;> rw [← hw1] <;> repeat (first | exact Blk.new_at (by simp) | refine Blk.alloc ?_ _)
 have HI := hide hI
 have y3 := hI.box.net6.2.2.2.1
 unfold Net.cells at hw1
 clear hok her hS hF hN hM hk hb1 hI
 unfold Net.cells
 refine calls_of_wpAt Tryz.func13 rfl (wpAt_of_wp ?_)
 simp only [Tryz.ntmps13, List.size_toArray, List.length_cons, List.length_nil, Nat.reduceAdd, Nat.reduceSub, Array.replicate_succ, Array.replicate_zero, List.push_toArray, List.append_toArray, List.nil_append, List.cons_append]
 go_wp2_with (go_at_call 56; refine Stop.out ?_)
 clear hw1
 refine Stop.go (inside_yes o N.offs.length ho _ _ ?_)
 go_wp2_with (go_at_call 56; refine Stop.out ?_)
 refine Stop.go (inside_yes tt N.offs.length htt _ _ ?_)
 go_wp2_with (go_at_call 57; refine Stop.out ?_)
 refine Stop.go (inRange_p t _ _ ?_)
 by_cases hr : 0 ≤ t ∧ t ≤ 2000000
 ·rw [decide_eq_true hr]
  have hway : wayF N nx o tt t = walkF N nx tt 19 o t := by unfold wayF; rw [if_pos hr]
  rw [hway] at HOk HEr
  clear hway
  go_wp2_with (go_at_call 55; refine Stop.out ?_)
  refine Stop.go (demand_ok _ _ (fun v0 => ?_))
  go_wp2_with (go_at_call 58; refine Stop.out ?_)
  refine Stop.go (psound_c N w.heap.size w1 _ (HKw.out.next HI.out.below) HI.out.box (HN.out.next HI.out.below) HS.out ?_)
  intro w2 hb
  have HI2 := hide (HI.out.next hb)
  clear hb y3
  go_wp2_with (go_at_call 59; refine Stop.out ?_)
  refine Stop.go (formed_c N w.heap.size np nc nx w2 _ HI2.out.box (HN.out.next HI2.out.below) HSn.out.noff HSn.out.nlin (HM.out.next HI2.out.below) HF.out ?_)
  intro w3 hb
  have HI3 := hide (HI2.out.next hb)
  clear hb
  go_wp2_with (go_at_call 55; refine Stop.out ?_)
  refine Stop.go (demand_ok _ _ (fun v1 => ?_))
  go_wp2_with (go_at_call 60; refine Stop.out ?_)
  refine Stop.go (walk_c N w.heap.size np nc nx o tt t w3 _ HI3.out.box (HN.out.next HI3.out.below) HSn.out (HM.out.next HI3.out.below) HF.out ho htt hr.1 hr.2 ?_ ?_)
  ·intro l w4 g cap hl hb hrow
   have HI4 := hide (HI3.out.next hb)
   have hB : w3.heap.size ≤ g := (hrow.lt g rfl).1
   have hlt : w.heap.size + 1 + 1 < w3.heap.size := HI3.out.er.lt
   have HRow := hide (own_mono hrow HI3.out.below.size)
   have Hl := hide hl
   clear hb hrow hl
   have c1 := HI4.out.st.cell (k := 0) (v := .slice none 0 0) rfl
   have c2 : (w4.setCell ⟨w.heap.size + 1, 0, none⟩ (.slice (some ⟨g, 0, none⟩) l.length cap)).cell? ⟨w.heap.size + 1 + 1, 0, none⟩ = some (.int .i64 0) := (HI4.out.er.far (p := ⟨w.heap.size + 1, 0, none⟩) (show w.heap.size + 1 + 1 ≠ w.heap.size + 1 by omega) _).cell rfl
   have f1 := HI4.out.st.free 0
   have f2 : (w4.setCell ⟨w.heap.size + 1, 0, none⟩ (.slice (some ⟨g, 0, none⟩) l.length cap)).frozen? ⟨w.heap.size + 1 + 1, 0, none⟩ = false := (HI4.out.er.far (p := ⟨w.heap.size + 1, 0, none⟩) (show w.heap.size + 1 + 1 ≠ w.heap.size + 1 by omega) _).free 0
   have HI5 := hide (HI4.out.set (.slice (some ⟨g, 0, none⟩) l.length cap) (.int .i64 0))
   have HRow5 : Hid (World.ownsRow ((w4.setCell ⟨w.heap.size + 1, 0, none⟩ (.slice (some ⟨g, 0, none⟩) l.length cap)).setCell ⟨w.heap.size + 1 + 1, 0, none⟩ (.int .i64 0)) w.heap.size 53 4 (.slice (some ⟨g, 0, none⟩) l.length cap) l.length (l.flatMap Stp.cells)) :=
    hide (ownsRow_setCell_other (ownsRow_setCell_other HRow.out (fun e => by injection e with e; have e' : g = w.heap.size + 1 := e; omega) _) (fun e => by injection e with e; have e' : g = w.heap.size + 1 + 1 := e; omega) _)
   go_wp2
   refine ⟨by simp, .inr ⟨(fun h => by simp [Fence.wide] at h), _, _, 53, #[.pointer (some ⟨w.heap.size + 1, 0, none⟩), .pointer (some ⟨w.heap.size + 1 + 1, 0, none⟩)], rfl, (by simp [invoke, go_sem]), (fun _ _ => trivial), (way_calm _ _ _ _).mono ?_⟩⟩
   rintro e' u' w' ⟨rfl, rfl, rfl⟩
   have z1 := HI5.out.st.cell (k := 0) (v := .slice (some ⟨g, 0, none⟩) l.length cap) rfl
   have z2 := HI5.out.er.cell (k := 0) (v := .int .i64 0) rfl
   refine ⟨.tuple #[.slice (some ⟨g, 0, none⟩) l.length cap, .int .i64 0], ?_, HOk.out l _ g cap Hl.out HI5.out.below HRow5.out⟩
   clear c1 c2 f1 f2
   simp [results, Tryz.results13, go_sem, z1, z2]
  ·intro e w4 hl hb
   have HI4 := hide (HI3.out.next hb)
   have Hl := hide hl
   clear hb hl
   refine ⟨by simp, .inr ⟨(fun h => by simp [Fence.wide] at h), _, _, 53, #[.pointer (some ⟨w.heap.size + 1, 0, none⟩), .pointer (some ⟨w.heap.size + 1 + 1, 0, none⟩)], rfl, (by simp [invoke, go_sem]), (fun _ _ => trivial), (way_catch _ _ _ (.slice none 0 0) (.int .i64 0) e _ _ (HI4.out.st.cell (k := 0) rfl) (HI4.out.st.free 0) (HI4.out.er.cell (k := 0) rfl) (HI4.out.er.free 0) (fun h => by injection h with h; omega)).mono ?_⟩⟩
   rintro e' u' w' ⟨rfl, rfl, rfl⟩
   have hI9 := HI4.out.set (.slice none 0 0) (.int .i64 e)
   have z1 := hI9.st.cell (k := 0) (v := .slice none 0 0) rfl
   have z2 := hI9.er.cell (k := 0) (v := .int .i64 e) rfl
   refine ⟨.tuple #[.slice none 0 0, .int .i64 e], ?_, HEr.out e _ Hl.out hI9.below⟩
   clear hI9
   simp [results, Tryz.results13, go_sem, z1, z2]
 ·rw [decide_eq_false hr]
  have hway : wayF N nx o tt t = .error 1 := by unfold wayF; rw [if_neg hr]
  go_wp2_with (go_at_call 55; refine Stop.out ?_)
  refine Stop.go (demand_err _ _ ?_)
  refine ⟨by simp, .inr ⟨(fun h => by simp [Fence.wide] at h), _, _, 53, #[.pointer (some ⟨w.heap.size + 1, 0, none⟩), .pointer (some ⟨w.heap.size + 1 + 1, 0, none⟩)], rfl, (by simp [invoke, go_sem]), (fun _ _ => trivial), (way_catch _ _ _ (.slice none 0 0) (.int .i64 0) 1 _ _ (HI.out.st.cell (k := 0) rfl) (HI.out.st.free 0) (HI.out.er.cell (k := 0) rfl) (HI.out.er.free 0) (fun h => by injection h with h; omega)).mono ?_⟩⟩
  rintro e' u' w' ⟨rfl, rfl, rfl⟩
  have hI9 := HI.out.set (.slice none 0 0) (.int .i64 1)
  have z1 := hI9.st.cell (k := 0) (v := .slice none 0 0) rfl
  have z2 := hI9.er.cell (k := 0) (v := .int .i64 1) rfl
  refine ⟨.tuple #[.slice none 0 0, .int .i64 1], ?_, HEr.out 1 _ hway hI9.below⟩
  clear hI9
  simp [results, Tryz.results13, go_sem, z1, z2]
end
section
open Go.RowKit Go.Shelf
set_option maxRecDepth 100000 in
set_option maxHeartbeats 2000000 in
theorem wFirst_c (c : Cal) (m t : Int) (w : World) (R) (hC : CalAt w c) (hok : calOk c = true) (h1 : 0 ≤ m) (h2 : m ≤ 1439) (h3 : 0 ≤ t) (h4 : t ≤ 100000000)
  (hs : ∀ x w', firstF c m t = some x → Below w.heap.size w w' → R (.returned (.tuple #[.int .i64 x, .int .i64 0])) w') (hn : ∀ w', firstF c m t = none → Below w.heap.size w w' → R (.returned (.tuple #[.int .i64 0, .int .i64 20])) w') :
  Calls Tryz.prog 221 #[.agg c.cells.toArray, .int .i64 m, .int .i64 t] w R := by
 have HS := hide hs; have HN := hide hn; have HC := hide hC; have Hok := hide hok
 obtain ⟨w1, hw1, hb1, k0⟩ := cal_box c w
 have HB1 := hide hb1; have HK0 := hide k0
 have x0 := k0.cell (k := 0) (v := .int .i64 c.zone) rfl; have x1 := k0.cell (k := 1) (v := .slice c.wp c.week.length c.wc) rfl; have x2 := k0.cell (k := 2) (v := .slice c.hp c.hol.length c.hc) rfl
 have hdr := dayOf_range hok h3 h4
 have hff : firstF c m t = (nextF c (if m < minOf c t then dayOf c t + 1 else dayOf c t)).map fun d => timeOf c d m := rfl
 have Hff := hide hff
 unfold Cal.cells at hw1 ⊢
 clear hs hn hC hok hb1 k0 hff
 go_enter Tryz.func221, Tryz.ntmps221
 go_wp2_with (go_at_call 223; refine Stop.out ?_)
 refine Stop.go (local_c c t _ _ (HC.out.keep (Keeps.of_below HB1.out)) Hok.out (by omega) (by omega) ?_)
 intro w2 hb
 have HB2 := hide (bseq HB1.out hb)
 have k2 := HK0.out.next hb
 have HK2 := hide k2
 clear hb x0 x1 x2 hw1
 have x0 := k2.cell (k := 0) (v := .int .i64 c.zone) rfl; have x1 := k2.cell (k := 1) (v := .slice c.wp c.week.length c.wc) rfl; have x2 := k2.cell (k := 2) (v := .slice c.hp c.hol.length c.hc) rfl
 clear k2
 generalize dayOf c t = d at *
 generalize minOf c t = mm at *
 have key : ∀ (dd : Int) (w3 : World), -1 ≤ dd → dd ≤ 100001 → Below w.heap.size w w3 → firstF c m t = (nextF c dd).map (fun d => timeOf c d m) → True := fun _ _ _ _ _ _ => trivial
 clear key
 by_cases hlt : m < mm
 ·have hF := Hff.out
  rw [if_pos hlt] at hF
  have HF := hide hF
  have e1 : IntKind.i64.wrap (d + 1) = d + 1 := IntWalk.i64_in _ (by omega)
  clear hF
  go_wp2_with (go_at_call 244; refine Stop.out ?_)
  refine Stop.go (calNext_c c (d + 1) _ _ (HC.out.keep (Keeps.of_below HB2.out)) Hok.out (by omega) (by omega) ?_ ?_)
  ·intro x w3 hx hb
   have hnr := nextF_near hx
   have HB3 := hide (bseq HB2.out hb)
   have HX : Hid (firstF c m t = some (timeOf c x m)) := hide (by rw [HF.out, hx]; rfl)
   have k3 := HK2.out.next hb
   clear hb x0 x1 x2 hx
   have x0 := k3.cell (k := 0) (v := .int .i64 c.zone) rfl; have x1 := k3.cell (k := 1) (v := .slice c.wp c.week.length c.wc) rfl; have x2 := k3.cell (k := 2) (v := .slice c.hp c.hol.length c.hc) rfl
   clear k3
   go_wp2_with (go_at_call 245; refine Stop.out ?_)
   refine Stop.go (time_c c x m _ _ (HC.out.keep (Keeps.of_below HB3.out)) Hok.out (by omega) (by omega) h1 h2 ?_)
   intro w4 hb
   have HG := hide (HS.out _ w4 HX.out (bseq HB3.out hb))
   clear hb x0 x1 x2
   go_wp2
   exact HG.out
  ·intro w3 hx hb
   have HG := hide (HN.out w3 (by rw [HF.out, hx]; rfl) (bseq HB2.out hb))
   clear hb x0 x1 x2 hx
   go_wp2
   exact HG.out
 ·have hF := Hff.out
  rw [if_neg hlt] at hF
  have HF := hide hF
  clear hF
  go_wp2_with (go_at_call 244; refine Stop.out ?_)
  refine Stop.go (calNext_c c d _ _ (HC.out.keep (Keeps.of_below HB2.out)) Hok.out (by omega) (by omega) ?_ ?_)
  ·intro x w3 hx hb
   have hnr := nextF_near hx
   have HB3 := hide (bseq HB2.out hb)
   have HX : Hid (firstF c m t = some (timeOf c x m)) := hide (by rw [HF.out, hx]; rfl)
   have k3 := HK2.out.next hb
   clear hb x0 x1 x2 hx
   have x0 := k3.cell (k := 0) (v := .int .i64 c.zone) rfl; have x1 := k3.cell (k := 1) (v := .slice c.wp c.week.length c.wc) rfl; have x2 := k3.cell (k := 2) (v := .slice c.hp c.hol.length c.hc) rfl
   clear k3
   go_wp2_with (go_at_call 245; refine Stop.out ?_)
   refine Stop.go (time_c c x m _ _ (HC.out.keep (Keeps.of_below HB3.out)) Hok.out (by omega) (by omega) h1 h2 ?_)
   intro w4 hb
   have HG := hide (HS.out _ w4 HX.out (bseq HB3.out hb))
   clear hb x0 x1 x2
   go_wp2
   exact HG.out
  ·intro w3 hx hb
   have HG := hide (HN.out w3 (by rw [HF.out, hx]; rfl) (bseq HB2.out hb))
   clear hb x0 x1 x2 hx
   go_wp2
   exact HG.out
theorem wmust_ok (x : Int) (w : World) (R) (hR : R (.returned (.int .i64 x)) w) : Calls Tryz.prog 220 #[.int .i64 x, .int .i64 0] w R := by
 have HR := hide hR
 clear hR
 go_enter Tryz.func220, Tryz.ntmps220
 go_wp2
 exact HR.out
set_option maxRecDepth 100000 in
theorem wcode_c (e : Int) (w : World) (R) (hR : R (.returned (.int .i64 e)) w) : Calls Tryz.prog 177 #[.iface 43 (.int .i64 e)] w R := by
 have HR := hide hR
 have hta := run_assert_errno e
 clear hR
 go_enter Tryz.func177, Tryz.ntmps177
 go_wp2
 exact HR.out
end
end Go.Proofs.YtgfhcmidnbahjaaGreatDoor
