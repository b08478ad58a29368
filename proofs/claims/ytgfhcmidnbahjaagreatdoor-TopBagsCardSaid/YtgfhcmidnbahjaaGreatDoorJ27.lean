/- Warrant: seals. Warrant: a plan is well-formed. Warrant: what recovers in Write. Warrant: Write: what it collects, as lists. -/
import Derived.Test.YtgfhcmidnbahjaaGreatDoorJ24
import Derived.Test.YtgfhcmidnbahjaaGreatDoorJ3
import Derived.Test.YtgfhcmidnbahjaaGreatDoorJ13
import Derived.Test.YtgfhcmidnbahjaaGreatDoorJ26
import Derived.RecoverIn
set_option linter.unusedVariables false
set_option linter.unusedSimpArgs false
namespace Go.Proofs.YtgfhcmidnbahjaaGreatDoor
section
open Go.RowKit Go.Shelf
def sealStep (s : Int × Int) (x : Int) : Int × Int := (s.1 * 3 % 65521, (s.2 + x % 65521 * (s.1 * 3 % 65521)) % 65521)
theorem sealS_fold : ∀ (l : List Int) (s : Int × Int), sealS l s = l.foldl sealStep s
 | [], _ => rfl
 | x :: l, s => by rw [sealS, List.foldl_cons]; exact sealS_fold l _
theorem sealS_range : ∀ (l : List Int) (s : Int × Int), 0 ≤ s.1 ∧ s.1 < 65521 ∧ 0 ≤ s.2 ∧ s.2 < 65521 → 0 ≤ (sealS l s).1 ∧ (sealS l s).1 < 65521 ∧ 0 ≤ (sealS l s).2 ∧ (sealS l s).2 < 65521
 | [], s, h => h
 | x :: l, s, h => by rw [sealS]; exact sealS_range l _ ⟨by omega, by omega, by omega, by omega⟩
theorem seal_take {l : List Int} {k : Nat} {x : Int} (h : l[k]? = some x) (s : Int × Int) : sealS (l.take (k + 1)) s = sealStep (sealS (l.take k) s) x := by
 rw [sealS_fold, sealS_fold, List.take_add_one, h, List.foldl_append]; rfl
theorem mul_lt_seal {a b : Int} (h1 : 0 ≤ a) (h2 : a < 65521) (h3 : 0 ≤ b) (h4 : b < 65521) : 0 ≤ a * b ∧ a * b ≤ 65521 * 65521 := ⟨Int.mul_nonneg h1 h3, Int.mul_le_mul (by omega) (by omega) h3 (by omega)⟩
theorem tmod_seal (a : Int) : (a.tmod 65521 + 65521).tmod 65521 = a % 65521 ∧ -65521 < a.tmod 65521 ∧ a.tmod 65521 < 65521 := by
 by_cases h : 0 ≤ a
 ·rw [Int.tmod_eq_emod_of_nonneg h, Int.tmod_eq_emod_of_nonneg (by omega)]; omega
 ·have h2 : a.tmod 65521 = -((-a) % 65521) := by rw [tmod_neg (a := a) (by omega), Int.tmod_eq_emod_of_nonneg (show 0 ≤ -a by omega)]
  rw [h2, Int.tmod_eq_emod_of_nonneg (by omega)]; omega
set_option maxRecDepth 100000 in
set_option maxHeartbeats 1000000 in
theorem seal_c (xs : List Int) (q : Option Addr) (c : Nat) (w : World) (R) (hy : IntsAt .i64 w q xs) (hl : xs.length ≤ 2000000000) (hrg : ∀ x ∈ xs, -1000000000 ≤ x ∧ x ≤ 1000000000) (hR : R (.returned (.int .i64 (sealF xs))) w) :
  Calls Tryz.prog 89 #[.slice q xs.length c] w R := by
 have HR := hide hR; have HY := hide hy; have HG := hide hrg
 clear hR hy hrg
 go_enter Tryz.func89, Tryz.ntmps89
 go_wp2
 go_loopw [3, 4, 9] (fun sp ss si wr => ∃ k : Nat, k ≤ xs.length ∧ si = .int .i64 k ∧ sp = .int .i64 (sealS (xs.take k) (1, 0)).1 ∧ ss = .int .i64 (sealS (xs.take k) (1, 0)).2 ∧ wr = w) (fun _ _ si _ => xs.length - (intOf si).toNat)
 case atStart => exact ⟨0, Nat.zero_le _, rfl, rfl, rfl, rfl⟩
 case round =>
  obtain ⟨k, hk, rfl, rfl, rfl, hw⟩ := hrel
  subst hw
  have hsr := sealS_range (xs.take k) (1, 0) (by decide)
  by_cases hlt : k < xs.length
  ·obtain ⟨bb, oo, x, hp, hx, hc⟩ := HY.out.at_ hlt
   have hst := seal_take hx (1, 0)
   have Hst := hide hst
   have hxr := HG.out x (List.mem_of_getElem? hx)
   have q1 : (0 : Int) ≤ (k : Int) := by omega
   have q2 : (k : Int) < (xs.length : Int) := by omega
   have Hlt := hide hlt
   obtain ⟨s1, s2⟩ : ∃ s, sealS (xs.take k) (1, 0) = s := ⟨_, rfl⟩
   generalize sealS (xs.take k) (1, 0) = s at *
   obtain ⟨p, m⟩ := s
   simp only at hsr
   subst hp
   clear hx hst hlt s2
   go_wp2
   go_roundw
   case rel =>
    have ht := tmod_seal x
    have hm := mul_lt_seal (a := x % 65521) (b := p * 3 % 65521) (by omega) (by omega) (by omega) (by omega)
    have e1 : wrap64 (x.tmod 65521 + 65521) = x.tmod 65521 + 65521 := IntWalk.wrap64_in _ (by omega)
    have e2 : wrap64 (x % 65521 * (p * 3 % 65521)) = x % 65521 * (p * 3 % 65521) := IntWalk.wrap64_in _ (by omega)
    have e3 : wrap64 (m + x % 65521 * (p * 3 % 65521)) = m + x % 65521 * (p * 3 % 65521) := IntWalk.wrap64_in _ (by omega)
    refine ⟨k + 1, Hlt.out, by go_num, by rw [Hst.out]; rfl, ?_, by trivial⟩
    rw [Hst.out, e1, ht.1, e2, e3, Int.tmod_eq_emod_of_nonneg (by omega)]
    rfl
   case measure => have := Hlt.out; simp [intOf]; omega
  ·have q1 : ¬ (k : Int) < (xs.length : Int) := by omega
   obtain rfl : k = xs.length := by omega
   have HE := hide HR.out
   unfold sealF at HE
   rw [List.take_length]
   go_wp2
   exact HE.out
end
section
open Go.RowKit Go.Shelf
attribute [local go_sem] Oper.semAt_some run_store_func
set_option maxRecDepth 100000 in
set_option maxHeartbeats 1000000 in
theorem wsquare_c (n : Nat) (f : FuncId) (lb : Array Value) (M : Nat → Nat → Int) (p : Option Addr) (c : Nat) (w : World) (R) (hn : n ≤ 40) (hM : MatAt w p n M) (eg : ∀ args w, (callFunc f args).run Tryz.prog w = .ok (.enter f args) w)
  (ht : ∀ o d W, o < n → d < n → Below w.heap.size w W → ∀ R, (∀ W', Below W.heap.size W W' → R (.returned (.bool true)) W') → Calls Tryz.prog f (#[.int .i64 (o : Int), .int .i64 (M o d)] ++ lb) W R)
  (hR : ∀ w', Below w.heap.size w w' → R (.returned (.bool true)) w') :
  Calls Tryz.prog 214 #[.slice p n c, .int .i64 (n : Int), .func (.func f) #[] lb] w R := by
 have HR := hide hR; have HM := hide hM; have HT := hide ht
 clear hR hM ht
 go_enter Tryz.func214, Tryz.ntmps214
 go_wp2
 go_loopw [17] (fun si wr => ∃ k : Nat, k ≤ n ∧ si = .int .i64 k ∧ Hid (Below w.heap.size w wr)) (fun si _ => n - (intOf si).toNat)
 case atStart => exact ⟨0, Nat.zero_le _, rfl, hide (Below.refl _ _)⟩
 case round =>
  obtain ⟨k, hk, rfl, HB⟩ := hrel
  by_cases hlt : k < n
  ·obtain ⟨b, bo, b', o', c', hnp, hrw, hcl⟩ := HM.out k hlt
   have Hcl := hide hcl
   have x0 := cell_later HB.out hrw
   have q1 : (0 : Int) ≤ (k : Int) := by omega
   have q2 : (k : Int) < (n : Int) := by omega
   have Hp := hide hnp
   rw [hnp]
   clear hcl hrw hnp
   go_wp2
   clear x0
   go_loopw [28] (fun sj wq => ∃ j : Nat, j ≤ n ∧ sj = .int .i64 j ∧ Hid (Below w.heap.size w wq)) (fun sj _ => n - (intOf sj).toNat)
   case atStart => exact ⟨0, Nat.zero_le _, rfl, HB⟩
   case round =>
    clear HB
    obtain ⟨j, hj, rfl, HB⟩ := hrel
    by_cases hlj : j < n
    ·have c0 := cell_later HB.out (Hcl.out j hlj)
     have q3 : (0 : Int) ≤ (j : Int) := by omega
     have q4 : (j : Int) < (n : Int) := by omega
     have HK := hide (HT.out k j wr hlt hlj HB.out)
     go_wp2
     refine HK.out _ (fun W' hb => ?_)
     have HB2 := hide (bseq HB.out hb)
     clear hb c0
     go_wp2
     go_roundw
     case rel => exact ⟨j + 1, by omega, by go_num, HB2⟩
     case measure => simp [intOf]; omega
    ·have q3 : ¬ (j : Int) < (n : Int) := by omega
     go_wp2
     go_roundw
     case rel => exact ⟨k + 1, by omega, by go_num, HB⟩
     case measure => simp [intOf]; omega
  ·have q1 : ¬ (k : Int) < (n : Int) := by omega
   have HE := hide (HR.out _ HB.out)
   go_wp2
   exact HE.out
theorem winside_yes (i n : Nat) (h : i < n) (w : World) (R) (hR : R (.returned (.bool true)) w) : Calls Tryz.prog 277 #[.int .i64 (i : Int), .int .i64 (n : Int)] w R := by
 have HR := hide hR
 have q1 : (0 : Int) ≤ (i : Int) := by omega
 have q2 : (i : Int) < (n : Int) := by omega
 clear hR h
 go_enter Tryz.func277, Tryz.ntmps277
 go_wp2
 exact HR.out
theorem lineFrom_c (gn : Nat) (w : World) (R) (hR : ∀ w', Below w.heap.size w w' → Blk w' w.heap.size #[.pointer (some ⟨gn, 0, none⟩)] 102 → R (.returned (.func (.func 276) #[] #[.pointer (some ⟨w.heap.size, 0, none⟩)])) w') :
  Calls Tryz.prog 215 #[.pointer (some ⟨gn, 0, none⟩)] w R := by
 have HR := hide (hR _ (balloc (Below.refl _ _) _) (Blk.new w 102 #[.pointer (some ⟨gn, 0, none⟩)]))
 clear hR
 go_enter Tryz.func215, Tryz.ntmps215
 go_wp2
 exact HR.out
set_option maxRecDepth 100000 in
theorem lineFrom1_c (N : Net) (gn g o : Nat) (x : Int) (w : World) (R) (hN : NetAt w N) (hg : Blk w gn N.cells 29) (hb : Blk w g #[.pointer (some ⟨gn, 0, none⟩)] 102) (hx : x = -1 ∨ (0 ≤ x ∧ x < N.lins.length ∧ (linOf N x).src = o)) (hR : R (.returned (.bool true)) w) :
  Calls Tryz.prog 276 #[.int .i64 (o : Int), .int .i64 x, .pointer (some ⟨g, 0, none⟩)] w R := by
 have HR := hide hR
 have x0 := hb.cell (k := 0) (v := .pointer (some ⟨gn, 0, none⟩)) rfl
 have y4 := hg.net6.2.2.2.2.1
 clear hR hb hg
 rcases hx with rfl | ⟨h1, h2, h3⟩
 ·go_enter Tryz.func276, Tryz.ntmps276
  go_wp2
  all_goals
   try refine ⟨(fun f e => by cases e), ?_⟩
   try apply_assumption
   try go_wp2
  all_goals exact HR.out
 ·obtain ⟨i, rfl⟩ : ∃ i : Nat, x = (i : Int) := ⟨x.toNat, by omega⟩
  have hi : i < N.lins.length := by omega
  obtain ⟨b1, o1, l, hp1, hl', hlr, l0, l1, l2, l3, l4, l5⟩ := hN.lin_ hi
  have hls : l.src = (o : Int) := by rw [← h3]; unfold linOf; rw [show ((i : Int)).toNat = i by omega, getD_some hl']
  rw [hls] at l1
  rw [hp1] at y4
  have t2 : ((i : Int) == (-1 : Int)) = false := by simp
  clear hl' hlr l0 l2 l3 l4 l5 hls h3
  go_enter Tryz.func276, Tryz.ntmps276
  go_wp2_with (go_at_call 277; refine Stop.out ?_)
  refine Stop.go (winside_yes i N.lins.length hi _ _ ?_)
  go_wp2
  exact HR.out
theorem formed1_c (o x : Int) (w : World) (R) (h : -1 ≤ x ∧ x ≤ 65518) (hR : R (.returned (.bool true)) w) : Calls Tryz.prog 216 #[.int .i64 o, .int .i64 x] w R := by
 have HR := hide hR
 obtain ⟨h1, h2⟩ := h
 clear hR
 go_enter Tryz.func216, Tryz.ntmps216
 go_wp2
 exact HR.out
set_option maxRecDepth 100000 in
set_option maxHeartbeats 1000000 in
theorem wformed_c (N : Net) (P : Pln) (gn gp : Nat) (nx : Nat → Nat → Int) (C : Cube) (w : World) (R) (hg : Blk w gn N.cells 29) (hp : Blk w gp P.cells.toArray 39) (hN : NetAt w N) (hSn : Snd N) (hM : MatAt w P.np N.offs.length nx) (hF : Formed N nx) (hC : CubeAt w P.dp N.clss.length N.offs.length C)
  (hnn : P.nn = N.offs.length) (hdn : P.dn = N.clss.length) (hCr : ∀ k o d, -1 ≤ C k o d ∧ C k o d ≤ 65518) (h1 : 0 ≤ P.fr) (h2 : P.fr < P.till) (h3 : P.till ≤ 600) (h4 : P.till - P.fr ≤ 60)
  (hR : ∀ w', Below w.heap.size w w' → R (.returned (.bool true)) w') :
  Calls Tryz.prog 178 #[.pointer (some ⟨gn, 0, none⟩), .pointer (some ⟨gp, 0, none⟩)] w R := by
 have HR := hide hR; have HN := hide hN; have HM := hide hM; have HF := hide hF; have HC := hide hC; have HG := hide hg; have HP := hide hp; have HSn := hide hSn; have HCr := hide hCr
 have x0 := hp.cell (k := 0) (v := .int .i64 P.fr) rfl; have x1 := hp.cell (k := 1) (v := .int .i64 P.till) rfl; have x2 := hp.cell (k := 2) (v := .slice P.np P.nn P.nc) rfl; have x3 := hp.cell (k := 3) (v := .slice P.dp P.dn P.dc) rfl
 have y3 := hg.net6.2.2.2.1
 have y5 := hg.net6.2.2.2.2.2
 rw [hnn] at x2; rw [hdn] at x3
 have e1 : IntKind.i64.wrap (P.till - P.fr) = P.till - P.fr := IntWalk.i64_in _ (by omega)
 have hno := hSn.noff
 have hnk := hSn.ncls
 have t1 : ((N.clss.length : Int) != (N.clss.length : Int)) = false := by simp
 clear hR hN hM hF hC hg hp hSn hCr
 go_enter Tryz.func178, Tryz.ntmps178
 go_wp2
 go_quiet (fail)
 go_wp2
 have hb1 : Below w.heap.size w (w.drewN nq) := below_drewN' (Below.refl _ _) nq
 have HB1 := hide hb1
 generalize w.drewN nq = w1 at *
 have KB : Hid (∀ W', Below w.heap.size w W' → W'.cell? ⟨gp, 2, none⟩ = some (.slice P.np N.offs.length P.nc) ∧ W'.cell? ⟨gp, 3, none⟩ = some (.slice P.dp N.clss.length P.dc) ∧ W'.cell? ⟨gn, 3, none⟩ = some (.slice N.fp N.offs.length N.fc) ∧ W'.cell? ⟨gn, 5, none⟩ = some (.slice N.kp N.clss.length N.kc)) := hide (fun W' hb => ⟨cell_later hb x2, cell_later hb x3, cell_later hb y3, cell_later hb y5⟩)
 clear x0 x1 x2 x3 y3 y5 e1 hb1
 go_region_held3 (fun W' => W'.cell? ⟨gp, 2, none⟩ = some (.slice P.np N.offs.length P.nc) ∧ W'.cell? ⟨gp, 3, none⟩ = some (.slice P.dp N.clss.length P.dc) ∧ W'.cell? ⟨gn, 3, none⟩ = some (.slice N.fp N.offs.length N.fc) ∧ W'.cell? ⟨gn, 5, none⟩ = some (.slice N.kp N.clss.length N.kc))
  (first | exact KB.out _ (bseq HB1.out (Below.refl _ _).drew) | exact KB.out _ hbb | exact KB.out _ hba)
  (first
  | (go_at_call 215
     refine lineFrom_c gn _ _ (fun W' hb hbk => ?_)
     have hbb : Below w.heap.size w W' := bseq (bseq HB1.out (Below.refl _ _).drew) hb)
  | (go_at_call 214
     refine wsquare_c N.offs.length 276 _ nx P.np P.nc W' _ (by omega) (HM.out.next hbb) (enters_of Tryz.func276 (by kernel_rfl) rfl) (fun o d W ho hd hb3 R' hR' => lineFrom1_c N gn _ o (nx o d) W R' (HN.out.next (bseq hbb hb3)) (HG.out.next (bseq hbb hb3)) (hbk.next hb3) (HF.out o d ho hd) (hR' W (Below.refl _ _))) (fun W'' hb2 => ?_)
     have hba : Below w.heap.size w W'' := bseq hbb hb2))
 have HB2 := hide hba
 clear hba hb2 hbb hb hbk KB
 have x3 := (HP.out.next HB2.out).cell (k := 3) (v := .slice P.dp P.dn P.dc) rfl
 rw [hdn] at x3
 go_wp2
 clear x3
 go_loopw [74] (fun si wr => ∃ k : Nat, k ≤ N.clss.length ∧ si = .int .i64 k ∧ Hid (Below w.heap.size w wr)) (fun si _ => N.clss.length - (intOf si).toNat)
 case atStart => exact ⟨0, Nat.zero_le _, rfl, HB2⟩
 case round =>
  clear HB2
  obtain ⟨k, hk, rfl, HB⟩ := hrel
  by_cases hlt : k < N.clss.length
  ·obtain ⟨b, bo, q, cq, hdp, hrw, hm⟩ := HC.out k hlt
   have Hm := hide hm
   have x0 := cell_later HB.out hrw
   have y3 := (HG.out.next HB.out).net6.2.2.2.1
   have q1 : (0 : Int) ≤ (k : Int) := by omega
   have q2 : (k : Int) < (N.clss.length : Int) := by omega
   rw [hdp]
   clear hm hrw hdp
   go_wp2_with (go_at_call 214; refine Stop.out ?_)
   refine Stop.go (wsquare_c N.offs.length 216 _ (C k) q cq wr _ (by omega) (Hm.out.next HB.out) (enters_of Tryz.func216 (by kernel_rfl) rfl) (fun o d W ho hd hb3 R' hR' => formed1_c o (C k o d) W R' (HCr.out k o d) (hR' W (Below.refl _ _))) ?_)
   intro W' hb
   have HB3 := hide (bseq HB.out hb)
   clear hb x0 y3
   go_wp2
   go_roundw
   case rel => exact ⟨k + 1, by omega, by go_num, HB3⟩
   case measure => simp [intOf]; omega
  ·have q1 : ¬ (k : Int) < (N.clss.length : Int) := by omega
   have HE := hide (HR.out _ HB.out)
   go_wp2
   exact HE.out
end
section
open Go.RowKit Go.Shelf
theorem write_calm (n : Nat) (p q : Addr) (w : World) :
  CallsDIn Fence.wide n Tryz.prog 176 #[.pointer (some p), .pointer (some q)] .returning w fun e u' w' => e = .returned (.tuple #[]) ∧ u' = .returning ∧ w' = w := by
 refine callsDIn_of_wpSIn Tryz.func176 rfl trivial fun c₀ cs hu => ?_
 apply wpSIn_seq
 apply wpSIn_region
 simp [wpOpsSIn, go_sem, recoverD, hu, Tryz.ntmps176, Exit.thenS]
 apply wpSIn_seq
 apply wpSIn_region
 simp [wpOpsSIn, go_sem, hu, Exit.thenS]
 refine wpSIn_cond (t := false) (by simp [Act.eval, Array.replicate]) ?_
 simp only [Bool.false_eq_true, if_false]
 refine wpSIn_of_wpIn rfl (wpIn_skip ?_)
 cases c₀
 simp_all [bodyPostS, results, Tryz.results176]
theorem write_catch (n g : Nat) (q : Addr) (x x1 y : Value) (e : Int) (older : List PanicEntry) (w : World) (hc : w.cell? ⟨g, 0, none⟩ = some x) (hz : w.frozen? ⟨g, 0, none⟩ = false) (hc1 : w.cell? ⟨g, 1, none⟩ = some x1) (hz1 : w.frozen? ⟨g, 1, none⟩ = false) (hc2 : w.cell? q = some y) (hz2 : w.frozen? q = false) (hne : g ≠ q.block) :
  CallsDIn Fence.wide n Tryz.prog 176 #[.pointer (some ⟨g, 0, none⟩), .pointer (some q)] (.panicking ({ v := .iface 43 (.int .i64 e), recovered := false } :: older)) w fun e' u' w' =>
   e' = .returned (.tuple #[]) ∧ u' = .panicking ({ v := .iface 43 (.int .i64 e), recovered := true } :: older) ∧ w' = ((w.setCell ⟨g, 0, none⟩ (.slice none 0 0)).setCell ⟨g, 1, none⟩ (.int .i64 0)).setCell q (.int .i64 e) := by
 refine callsDIn_of_wpSIn Tryz.func176 rfl trivial fun c₀ cs hu => ?_
 apply wpSIn_seq
 apply wpSIn_region
 simp [wpOpsSIn, go_sem, recoverD, hu, Tryz.ntmps176, Exit.thenS]
 apply wpSIn_seq
 apply wpSIn_region
 simp [wpOpsSIn, go_sem, hu, Exit.thenS]
 refine wpSIn_cond (t := true) (by simp [Act.eval, Array.replicate]) ?_
 simp only [if_true]
 refine wpSIn_of_wpIn rfl ?_
 refine wpIn_wide.2 ?_
 have n0 : (⟨g, 0, none⟩ : Addr) ≠ q := fun e => hne (congrArg Addr.block e)
 have n1 : (⟨g, 1, none⟩ : Addr) ≠ q := fun e => hne (congrArg Addr.block e)
 have n2 : (⟨g, 0, none⟩ : Addr) ≠ ⟨g, 1, none⟩ := fun h => by injection h with _ h; omega
 have a1 : (w.setCell ⟨g, 0, none⟩ (.slice none 0 0)).cell? ⟨g, 1, none⟩ = some x1 := (World.cell?_setCell_other w _ _ _ n2).trans hc1
 have b1 : (w.setCell ⟨g, 0, none⟩ (.slice none 0 0)).frozen? ⟨g, 1, none⟩ = false := (World.frozen?_setCell w _ _ _).trans hz1
 have c2 : ((w.setCell ⟨g, 0, none⟩ (.slice none 0 0)).setCell ⟨g, 1, none⟩ (.int .i64 0)).cell? q = some y := (World.cell?_setCell_other _ _ _ _ n1).trans ((World.cell?_setCell_other w _ _ _ n0).trans hc2)
 have z2 : ((w.setCell ⟨g, 0, none⟩ (.slice none 0 0)).setCell ⟨g, 1, none⟩ (.int .i64 0)).frozen? q = false := (World.frozen?_setCell _ _ _ _).trans ((World.frozen?_setCell w _ _ _).trans hz2)
 go_wp2_with (go_at_call 177; refine Stop.out ?_)
 refine Stop.go (wcode_c e _ _ ?_)
 go_wp2
 simp [bodyPostS, results, Tryz.results176]
end
section
open Go.RowKit Go.Shelf
def rwL (f : Nat → Int) (n : Nat) : List Int := (List.range n).map f
theorem rwL_len (f : Nat → Int) (n : Nat) : (rwL f n).length = n := by simp [rwL]
theorem rwL_at {W : World} {f : Nat → Int} {n b o : Nat} (h : ∀ j, j < n → W.cell? ⟨b, o + j, none⟩ = some (.int .i64 (f j))) : IntsAt .i64 W (some ⟨b, o, none⟩) (rwL f n) := fun _ => ⟨b, o, rfl, fun i x hx => by
 unfold rwL at hx
 rw [List.getElem?_map] at hx
 obtain ⟨j, hj, rfl⟩ := Option.map_eq_some_iff.1 hx
 obtain ⟨h1, h2⟩ := List.getElem?_eq_some_iff.1 hj
 rw [List.getElem_range] at h2
 subst h2
 exact h i (by simpa using h1)⟩
theorem rwL_mem {f : Nat → Int} {n : Nat} {a b : Int} (h : ∀ j, j < n → a ≤ f j ∧ f j ≤ b) : ∀ x ∈ rwL f n, a ≤ x ∧ x ≤ b := fun x hx => by
 unfold rwL at hx
 obtain ⟨j, hj, rfl⟩ := List.mem_map.1 hx
 exact h j (List.mem_range.1 hj)
def rowsL (f : Nat → Nat → Int) (k n : Nat) : List Int := (List.range k).flatMap fun o => rwL (f o) n
theorem rowsL_succ (f : Nat → Nat → Int) (k n : Nat) : rowsL f (k + 1) n = rowsL f k n ++ rwL (f k) n := by unfold rowsL; rw [List.range_succ, List.flatMap_append]; simp
theorem tableL_rows (f : Nat → Nat → Int) (n : Nat) : tableL n f = rowsL f n n := rfl
theorem flat_len {g : Nat → List Int} {m : Nat} (h : ∀ x, (g x).length ≤ m) : ∀ k, ((List.range k).flatMap g).length ≤ k * m
 | 0 => by simp
 | k + 1 => by
  rw [List.range_succ, List.flatMap_append, List.length_append, Nat.add_mul, List.flatMap_cons, List.flatMap_nil, List.append_nil]
  have := flat_len h k
  have := h k
  omega
def prD (N : Net) (nx : Mat) (C : Cube) (fr till : Int) (k o d : Nat) : List Int := if C k o d = -1 then [] else (cutsOf N k o (1440 * fr) (1440 * till)).flatMap fun cut => legsF N nx fr o d cut
def prDs (N : Net) (nx : Mat) (C : Cube) (fr till : Int) (k o n : Nat) : List Int := (List.range n).flatMap (prD N nx C fr till k o)
def prOs (N : Net) (nx : Mat) (C : Cube) (fr till : Int) (k m : Nat) : List Int := (List.range m).flatMap fun o => prDs N nx C fr till k o N.offs.length
def prKs (N : Net) (nx : Mat) (C : Cube) (fr till : Int) (m : Nat) : List Int := (List.range m).flatMap fun k => prOs N nx C fr till k N.offs.length
theorem prDs_succ {N : Net} {nx : Mat} {C : Cube} {fr till : Int} {k o n : Nat} : prDs N nx C fr till k o (n + 1) = prDs N nx C fr till k o n ++ prD N nx C fr till k o n := by unfold prDs; rw [List.range_succ, List.flatMap_append]; simp
theorem prOs_succ {N : Net} {nx : Mat} {C : Cube} {fr till : Int} {k m : Nat} : prOs N nx C fr till k (m + 1) = prOs N nx C fr till k m ++ prDs N nx C fr till k m N.offs.length := by unfold prOs; rw [List.range_succ, List.flatMap_append]; simp
theorem prKs_succ {N : Net} {nx : Mat} {C : Cube} {fr till : Int} {m : Nat} : prKs N nx C fr till (m + 1) = prKs N nx C fr till m ++ prOs N nx C fr till m N.offs.length := by unfold prKs; rw [List.range_succ, List.flatMap_append]; simp
theorem proof_prKs (N : Net) (nx : Mat) (C : Cube) (fr till : Int) : proofL N nx C fr till = prKs N nx C fr till N.clss.length := rfl
theorem legsF_len (N : Net) (nx : Mat) (fr : Int) (o d : Nat) (cut : Int) : (legsF N nx fr o d cut).length ≤ 20 := by
 unfold legsF
 split
 ·rename_i l' hl'
  have := walkF_len _ _ _ _ hl'
  have := legsL_len N fr l'
  omega
 ·simp
theorem prD_len {N : Net} {nx : Mat} {C : Cube} {fr till : Int} (h : till - fr ≤ 60) (k o d : Nat) : (prD N nx C fr till k o d).length ≤ 1728000 := by
 unfold prD
 split
 ·simp
 ·have h1 := cutsOf_len N k o (1440 * fr) (1440 * till)
  have h2 : ∀ l : List Int, (l.flatMap fun cut => legsF N nx fr o d cut).length ≤ l.length * 20 := fun l => by
   induction l with
   | nil => simp
   | cons a l ih =>
    rw [List.flatMap_cons, List.length_append, List.length_cons]
    have := legsF_len N nx fr o d a
    omega
  have h3 := h2 (cutsOf N k o (1440 * fr) (1440 * till))
  omega
theorem pr_len {N : Net} {nx : Mat} {C : Cube} {fr till : Int} (h : till - fr ≤ 60) (hn : N.offs.length ≤ 12) {k o d : Nat} (hk : k ≤ 4) (ho : o ≤ 12) (hd : d ≤ 12) :
  (prKs N nx C fr till k ++ prOs N nx C fr till k o ++ prDs N nx C fr till k o d).length ≤ 4 * 248832000 + 12 * 20736000 + 12 * 1728000 := by
 have h1 : ∀ k o n, n ≤ 12 → (prDs N nx C fr till k o n).length ≤ 20736000 := fun k o n hn => by
  have := flat_len (prD_len (N := N) (nx := nx) (C := C) h k o) n
  unfold prDs; omega
 have h2 : ∀ k n, n ≤ 12 → (prOs N nx C fr till k n).length ≤ 248832000 := fun k n hn' => by
  have := flat_len (g := fun o => prDs N nx C fr till k o N.offs.length) (fun o => h1 k o _ hn) n
  unfold prOs; omega
 have h3 : (prKs N nx C fr till k).length ≤ k * 248832000 := flat_len (g := fun k => prOs N nx C fr till k N.offs.length) (fun k => h2 k _ hn) k
 have h4 : (prOs N nx C fr till k o).length ≤ o * 20736000 := flat_len (g := fun o => prDs N nx C fr till k o N.offs.length) (fun o => h1 k o _ hn) o
 have h5 : (prDs N nx C fr till k o d).length ≤ d * 1728000 := flat_len (prD_len (N := N) (nx := nx) (C := C) h k o) d
 rw [List.length_append, List.length_append]
 omega
theorem rowsL_len (f : Nat → Nat → Int) (n : Nat) : ∀ k, (rowsL f k n).length = k * n
 | 0 => by simp [rowsL]
 | k + 1 => by rw [rowsL_succ, List.length_append, rowsL_len f n k, rwL_len, Nat.add_mul]; omega
def cubeL (C : Cube) (n m : Nat) : List Int := (List.range m).flatMap fun k => rowsL (C k) n n
theorem cubeL_succ (C : Cube) (n m : Nat) : cubeL C n (m + 1) = cubeL C n m ++ rowsL (C m) n n := by unfold cubeL; rw [List.range_succ, List.flatMap_append]; simp
theorem cubeL_len (C : Cube) (n : Nat) : ∀ m, (cubeL C n m).length = m * (n * n)
 | 0 => by simp [cubeL]
 | m + 1 => by rw [cubeL_succ, List.length_append, cubeL_len C n m, rowsL_len, Nat.add_mul]; omega
theorem flat_map (C : Cube) (n : Nat) : ∀ m, ((List.range m).flatMap fun k => (tableL n (C k)).map (· + 1)) = (cubeL C n m).map (· + 1)
 | 0 => rfl
 | m + 1 => by rw [List.range_succ, List.flatMap_append, flat_map C n m, cubeL_succ, List.map_append]; simp [tableL_rows]
theorem nums_eq (N : Net) (nx : Mat) (C : Cube) (fr till : Int) : numsF N nx C fr till =
  ([fr, till, (N.offs.length : Int), (N.clss.length : Int)] ++ (rowsL nx N.offs.length N.offs.length).map (· + 1) ++ (cubeL C N.offs.length N.clss.length).map (· + 1)) ++ prKs N nx C fr till N.clss.length := by
 unfold numsF headL
 rw [flat_map, tableL_rows, proof_prKs]
end
end Go.Proofs.YtgfhcmidnbahjaaGreatDoor
