/- Promise: the way of an item, the walk. Promise: the delivery of an item. Promise: the days that a cut-off needs. The blocks in which a network lies; what keeps them keeps it. -/
import Derived.Test.YtgfhcmidnbahjaaGreatDoorJ18
import Derived.Deep.RegionWith
import Derived.Test.YtgfhcmidnbahjaaGreatDoorJ5
import Derived.Test.YtgfhcmidnbahjaaGreatDoorJ14
set_option linter.unusedVariables false
set_option linter.unusedSimpArgs false
namespace Go.Proofs.YtgfhcmidnbahjaaGreatDoor
section
open Go.RowKit Go.Shelf
theorem lin_of {N : Net} {w : World} (hN : NetAt w N) (hS : Snd N) {i : Nat} (hi : i < N.lins.length) : ∃ s k l o c, LinX N i s k l o c := by
 have hl : N.lins[i]? = some (N.lins[i]'hi) := List.getElem?_eq_getElem hi
 have hP := linP_of (hS.lin i hi)
 rw [getD_some hl] at hP
 obtain ⟨k, o, c, hX, _⟩ := hS.offX (s := (N.lins[i]'hi).src.toNat) (by have := hP.src; omega)
 exact ⟨_, k, _, o, c, ⟨hl, (Int.toNat_of_nonneg hP.src.1).symm, hX.off, hX.cal, hX.c⟩⟩
theorem infoStop : (Tryz.prog.info? 53).map (fun i => (i.zero, i.size, i.bytes)) = some (some (.agg #[.int .i64 0, .int .i64 0, .int .i64 0, .int .i64 0]), 4, 32) := by kernel_rfl
theorem departF_ne0 {N : Net} {i t e : Int} (h : departF N i t = .error e) : e ≠ 0 := by
 unfold departF at h
 split at h
 ·split at h
  ·cases h
  ·injection h with h; omega
 ·injection h with h; omega
set_option maxRecDepth 100000 in
set_option maxHeartbeats 3000000 in
theorem walk_c (N : Net) (gn : Nat) (np : Option Addr) (nc : Nat) (nx : Nat → Nat → Int) (o tt : Nat) (t : Int) (w : World) (R) (hg : Blk w gn N.cells 29) (hN : NetAt w N) (hS : Snd N) (hM : MatAt w np N.offs.length nx) (hF : Formed N nx)
  (ho : o < N.offs.length) (htt : tt < N.offs.length) (h1 : 0 ≤ t) (h2 : t ≤ 2000000)
  (hok : ∀ l w' g cap, walkF N nx tt 19 o t = .ok l → Below w.heap.size w w' → w'.ownsRow w.heap.size 53 4 (.slice (some ⟨g, 0, none⟩) l.length cap) l.length (l.flatMap Stp.cells) → R (.returned (.slice (some ⟨g, 0, none⟩) l.length cap)) w')
  (her : ∀ e w', walkF N nx tt 19 o t = .error e → Below w.heap.size w w' → R (.panicked [{ v := .iface 43 (.int .i64 e), recovered := false }]) w') :
  Calls Tryz.prog 60 #[.pointer (some ⟨gn, 0, none⟩), .slice np N.offs.length nc, .int .i64 (o : Int), .int .i64 (tt : Int), .int .i64 t] w R := by
 have HOk := hide hok; have HEr := hide her; have HSn := hide hS; have HF := hide hF; have HG := hide hg; have HN := hide hN; have HM := hide hM
 have H0 := hide (show WyI w w.heap.size 1 [] ⟨o, t, -1, -1⟩ (w.alloc (.cells #[.int .i64 (o : Int), .int .i64 t, .int .i64 (-1), .int .i64 (-1)] 53)) from
  ⟨balloc (Below.refl _ _) _, World.ownsRow_lit w #[.int .i64 (o : Int), .int .i64 t, .int .i64 (-1), .int .i64 (-1)] 1 (Nat.le_refl _) (by decide) rfl⟩)
 clear hok her hS hF hg hN hM
 go_enter Tryz.func60, Tryz.ntmps60
 go_wp2
 go_loopw [11, 12] (fun sv sk wr => ∃ (done : List Stp) (oo : Nat) (tc : Int) (g cap : Nat), done.length ≤ 19 ∧ sv = .slice (some ⟨g, 0, none⟩) (done.length + 1) cap ∧ sk = .int .i64 (done.length : Nat) ∧ oo < N.offs.length ∧ 0 ≤ tc ∧ tc ≤ 3000000 ∧
  Hid (walkF N nx tt 19 o t = wayTo done (walkF N nx tt (19 - done.length) oo tc)) ∧ Hid (WyI w g cap done ⟨oo, tc, -1, -1⟩ wr)) (fun _ sk _ => 20 - (intOf sk).toNat)
 case atStart => exact ⟨[], o, t, w.heap.size, 1, by simp, rfl, rfl, ho, h1, by omega, hide (wayTo_nil _).symm, H0⟩
 case round =>
  clear H0
  obtain ⟨done, oo, tc, g, cap, hdl, rfl, rfl, hoo, ht1, ht2, HW, HI⟩ := hrel
  obtain ⟨a0, a1, a2, a3⟩ := HI.out.at_
  have ffr := HI.out.free
  have f2 := ffr (done.length * 4 + 2); have f3 := ffr (done.length * 4 + 3)
  have q1 : (0 : Int) ≤ (done.length : Int) := by omega
  have q2 : (done.length : Int) < ((done.length + 1 : Nat) : Int) := by omega
  simp only at a0 a1 a2 a3
  by_cases hot : oo = tt
  ·have HF := hide (HOk.out (done ++ [⟨oo, tc, -1, -1⟩]) wr g cap (by rw [HW.out, hot, walkF_at]; rfl) HI.out.below (by have h9 := HI.out.row; simpa using h9))
   rw [List.length_append] at HF
   simp only [List.length_cons, List.length_nil, Nat.zero_add] at HF
   have t1 : ((oo : Int) != (tt : Int)) = false := by simp; omega
   clear hot HI HW a1 a2 a3 f2 f3 ffr
   go_wp2
   exact HF.out
  ·have t1 : ((oo : Int) != (tt : Int)) = true := by simp; omega
   obtain ⟨b, bo, b', o', c', hnp, hrw, hcl⟩ := HM.out oo hoo
   have m0 := cell_later HI.out.below hrw
   have m1 := cell_later HI.out.below (hcl tt htt)
   have q3 : (0 : Int) ≤ (oo : Int) := by omega
   have q4 : (oo : Int) < (N.offs.length : Int) := by omega
   have q5 : (0 : Int) ≤ (tt : Int) := by omega
   have q6 : (tt : Int) < (N.offs.length : Int) := by omega
   have Hot := hide hot
   clear hot
   by_cases hnx : nx oo tt = -1
   ·have HE := hide (HEr.out 170 wr (by rw [HW.out, walkF_no Hot.out hnx]; rfl) HI.out.below)
    rw [hnx] at m1
    clear hnx HI HW f2 f3 ffr a1 a2 a3 hrw hcl
    subst hnp
    go_wp2
    exact ⟨rfl, HE.out⟩
   ·obtain ⟨i, hi, hil, hsrc⟩ : ∃ i : Nat, nx oo tt = (i : Int) ∧ i < N.lins.length ∧ (linOf N (nx oo tt)).src = oo := by
     rcases HF.out oo tt hoo htt with h | ⟨h1, h2, h3⟩
     ·exact absurd h hnx
     ·exact ⟨(nx oo tt).toNat, by omega, by omega, h3⟩
    have Hi := hide hi
    rw [hi] at m1
    have t2 : ((i : Int) == (-1 : Int)) = false := by simp
    have HX := hide (lin_of HN.out HSn.out hil)
    subst hnp
    have HI3 := hide (HI.out.put (c := 3) (v := .int .i64 (i : Int)) (s' := ⟨oo, tc, -1, i⟩) (by decide) rfl)
    clear hnx hi hsrc hrw hcl
    obtain ⟨tr, htr⟩ : ∃ tr, readyF N (oo : Int) tc = tr := ⟨_, rfl⟩
    have hrd := ready_bd HSn.out (o := (oo : Int)) q3 q4 tc
    have Htr := hide htr
    rw [htr] at hrd
    clear htr HI
    go_wp2
    clear m0 m1
    generalize (wr.setCell ⟨g, done.length * 4 + 3, none⟩ (.int .i64 (i : Int))) = w3 at *
    cases hd : departF N (i : Int) tr with
    | error e =>
     have HE : Hid (∀ w', Below w.heap.size w w' → R (.panicked [{ v := .iface 43 (.int .i64 e), recovered := false }]) w') := hide (fun w' hb => HEr.out e w' (by rw [HW.out, walkF_err Hot.out (by rw [Hi.out]; omega) (by rw [Htr.out, Hi.out]; exact hd)]; rfl) hb)
     have He : Hid (e ≠ 0) := hide (departF_ne0 hd)
     have Hd := hide hd
     clear hd
     obtain ⟨b0, b1, b2, b3⟩ := HI3.out.at_
     have KB : Hid (∀ W', Below w3.heap.size w3 W' → W'.cell? ⟨g, done.length * 4, none⟩ = some (.int .i64 (oo : Int)) ∧ W'.cell? ⟨g, done.length * 4 + 1, none⟩ = some (.int .i64 tc)) := hide (fun W' hb => ⟨cell_later hb b0, cell_later hb b1⟩)
     have B2 := hide b2
     clear b0 b1 b2 b3
     obtain ⟨s, k, l, oF, c, hX⟩ := HX.out
     have HX := hide hX
     clear hX
     have KD := KB.out _ (Below.refl _ _).drew
     have KB2 : Hid (∀ W', Below w3.heap.size w3 W' → W'.cell? ⟨g, done.length * 4 + 2, none⟩ = some (.int .i64 (-1)) ∧ W'.frozen? ⟨g, done.length * 4 + 2, none⟩ = false) := hide (fun W' hb => ⟨cell_later hb B2.out, (HI3.out.next hb).free _⟩)
     obtain ⟨e0, e1⟩ := KD
     go_region_with (first
      | (go_at_call 125; refine ready_c N gn oo tc _ _ (HG.out.next (bseq HI3.out.below (Below.refl _ _).drew)) (HN.out.next (bseq HI3.out.below (Below.refl _ _).drew)) HSn.out hoo (by omega) (by omega) ?_; intro W' hb; rw [Htr.out]; have hbb : Below w3.heap.size w3 W' := bseq (Below.refl _ _).drew hb)
      | (go_at_call 124; refine pDepart_c N gn i s k l oF c tr W' _ (HG.out.next (bseq HI3.out.below hbb)) (HN.out.next (bseq HI3.out.below hbb)) HSn.out HX.out (fun x W'' hx hb2 => by rw [Hd.out] at hx; cases hx) ?_; intro e' W'' hx hb2; obtain rfl : e = e' := (by rw [Hd.out] at hx; injection hx); have hba : Below w3.heap.size w3 W'' := bseq hbb hb2)
      | (go_at_call 123; refine must_case e 0 W'' _ (fun _ => ⟨rfl, HE.out W'' (bseq HI3.out.below hba)⟩) ?_; intro he0; have HE0 := hide he0; clear he0; obtain ⟨c2, c3⟩ := KB2.out _ hba))
     all_goals exact absurd HE0.out He.out
    | ok d =>
     obtain ⟨s, k, l, oF, c, hX⟩ := HX.out
     have hil2 := departF_ok HSn.out (by omega) (by omega) hd
     have Hd := hide hd
     have HX := hide hX
     clear hd hX
     obtain ⟨b0, b1, b2, b3⟩ := HI3.out.at_
     have KB : Hid (∀ W', Below w3.heap.size w3 W' → W'.cell? ⟨g, done.length * 4, none⟩ = some (.int .i64 (oo : Int)) ∧ W'.cell? ⟨g, done.length * 4 + 1, none⟩ = some (.int .i64 tc) ∧ W'.cell? ⟨g, done.length * 4 + 2, none⟩ = some (.int .i64 (-1)) ∧ W'.frozen? ⟨g, done.length * 4 + 2, none⟩ = false) := hide (fun W' hb => ⟨cell_later hb b0, cell_later hb b1, cell_later hb b2, (HI3.out.next hb).free _⟩)
     clear b0 b1 b2 b3
     go_region_held3 (fun w' => w'.cell? ⟨g, done.length * 4, none⟩ = some (.int .i64 (oo : Int)) ∧ w'.cell? ⟨g, done.length * 4 + 1, none⟩ = some (.int .i64 tc))
      (first | exact ⟨(KB.out _ (Below.refl _ _).drew).1, (KB.out _ (Below.refl _ _).drew).2.1⟩ | exact ⟨(KB.out _ hbb).1, (KB.out _ hbb).2.1⟩ | exact ⟨(KB.out _ hba).1, (KB.out _ hba).2.1⟩ | exact ⟨(HI3.out.set2 hba d).at_.1, (HI3.out.set2 hba d).at_.2.1⟩)
      (first
      | (go_at_call 125
         refine ready_c N gn oo tc _ _ (HG.out.next (bseq HI3.out.below (Below.refl _ _).drew)) (HN.out.next (bseq HI3.out.below (Below.refl _ _).drew)) HSn.out hoo (by omega) (by omega) (fun W' hb => ?_)
         rw [Htr.out]
         have hbb : Below w3.heap.size w3 W' := bseq (Below.refl _ _).drew hb)
      | (go_at_call 124
         refine pDepart_c N gn i s k l oF c tr W' _ (HG.out.next (bseq HI3.out.below hbb)) (HN.out.next (bseq HI3.out.below hbb)) HSn.out HX.out (fun x W'' hx hb2 => ?_) (fun e' W'' hx hb2 => by rw [Hd.out] at hx; cases hx)
         obtain rfl : d = x := by rw [Hd.out] at hx; injection hx
         have hba : Below w3.heap.size w3 W'' := bseq hbb hb2
         obtain ⟨e0, e1, e2, e3⟩ := KB.out _ hba)
      | (go_at_call 123
         refine must_ok d W'' _ ?_))
     have HI4 := hide (HI3.out.set2 hba d)
     clear KB hba hbb hb hb2 hx e0 e1 e2 e3 HI3
     generalize (W''.setCell ⟨g, done.length * 4 + 2, none⟩ (.int .i64 d)) = w4 at *
     by_cases hful : done.length = 19
     ·have HE := hide (HEr.out 170 w4 (by rw [HW.out, hful, walkF_full Hot.out (by rw [Hi.out]; omega) (by rw [Htr.out, Hi.out]; exact Hd.out)]; rfl) HI4.out.below)
      clear HI4
      have t3 : (((done.length + 1 : Nat) : Int) == (20 : Int)) = true := by rw [hful]; rfl
      go_wp2
      exact ⟨rfl, HE.out⟩
     ·have t3 : (((done.length + 1 : Nat) : Int) == (20 : Int)) = false := by simp; omega
      have hlt19 : done.length < 19 := by omega
      have x4 := ((HG.out.next HI4.out.below)).cell (k := 4) (v := .slice N.lp N.lins.length N.lc) rfl
      obtain ⟨b1, o1, l', hp1, hl', hlr, l0, l1, l2, l3, l4, l5⟩ := (HN.out.next HI4.out.below).lin_ hil
      rw [HX.out.lin] at hl'; injection hl' with hl'; subst hl'
      rw [hp1] at x4
      have q7 : (0 : Int) ≤ (i : Int) := by omega
      have q8 : (i : Int) < (N.lins.length : Int) := by omega
      clear hful hlr
      go_wp2
      have hb5 : Below w4.heap.size w4 (w4.alloc (.cells #[.string l.name, .int .i64 l.src, .int .i64 l.dst, .int .i64 l.at_, .int .i64 l.travel, .int .i64 l.load] 55)) := balloc (Below.refl _ _) _
      have kb := Blk.new w4 55 #[.string l.name, .int .i64 l.src, .int .i64 l.dst, .int .i64 l.at_, .int .i64 l.travel, .int .i64 l.load]
      have HI5 := hide (HI4.out.next hb5)
      have n2 := kb.cell (k := 2) (v := .int .i64 l.dst) rfl; have n4 := kb.cell (k := 4) (v := .int .i64 l.travel) rfl
      generalize (w4.alloc (.cells #[.string l.name, .int .i64 l.src, .int .i64 l.dst, .int .i64 l.at_, .int .i64 l.travel, .int .i64 l.load] 55)) = w5 at *
      clear hb5 kb x4 hp1 l0 l1 l2 l3 l4 l5 t3 HI4
      generalize w4.heap.size = gl at *
      have hP := linP_of (HSn.out.lin i hil)
      rw [getD_some HX.out.lin] at hP
      have e1 : IntKind.i64.wrap (d + l.travel) = d + l.travel := IntWalk.i64_in _ (by have := hP.travel; omega)
      have a2 : w5.cell? ⟨g, done.length * 4 + 2, none⟩ = some (.int .i64 d) := HI5.out.at_.2.2.1
      have HP := hide hP
      clear hP
      obtain ⟨i0, hi0, hz0, hz1, hz2⟩ := info_parts infoStop
      go_region_law (refine step_stp rfl (.tmp 79) (.tmp 90) 48 rfl w.heap.size 53 i0 _ 4 32 Tryz.underlying48 hi0 hz0 hz1 hz2 rfl (by omega) _ (done.length + 1) ((done ++ [(⟨oo, tc, d, i⟩ : Stp)]).flatMap Stp.cells) rfl (own_below (HI5.out.next (Below.refl _ _).drew).row (balloc (Below.refl _ _) _)) ⟨w5.heap.size, 0, none⟩ 1 1 (Stp.cells ⟨l.dst, d + l.travel, -1, -1⟩) rfl rfl (fun j u hu => by rw [Addr.add_lit, Nat.zero_add]; exact (Blk.new w5.drew _ _).cell (by simpa [Stp.cells] using hu)) (by simp [Stp.cells, Value.oneCell']) (by unfold maxLen; omega) (by omega) (Nat.le_trans HI5.out.below.size (by simp)) ?_; intro v9 w9 hown hgr)
      all_goals
       have HI6 := hide (HI5.out.next (Below.refl _ _).drew)
       clear a2 n2 n4 HI5
       obtain ⟨g9, cap9, rfl, hI9⟩ := WyI.app (HI6.out.next (balloc (Below.refl _ _) _)) hgr hown rfl
       have HI9 := hide hI9
       have hl1 : (done ++ [(⟨oo, tc, d, i⟩ : Stp)]).length = done.length + 1 := by simp
       have HE9 := hide hl1
       have HW9 : Hid (walkF N nx tt 19 o t = wayTo (done ++ [⟨oo, tc, d, i⟩]) (walkF N nx tt (19 - (done.length + 1)) l.dst.toNat (d + l.travel))) := hide (by
        have h9 := walkF_step (N := N) (next := nx) (k := 19 - (done.length + 1)) done Hot.out (by rw [Hi.out]; omega) (by rw [Htr.out, Hi.out]; exact Hd.out)
        rw [HW.out, show 19 - done.length = 19 - (done.length + 1) + 1 by omega, h9, Hi.out, HX.out.linOf])
       have HD : Hid (((l.dst.toNat : Nat) : Int) = l.dst) := hide (Int.toNat_of_nonneg HP.out.dst.1)
       clear hown hgr hi0 hz0 hz1 hz2 hl1 e1 hI9
       go_wp2
       go_roundw
       case rel => exact ⟨done ++ [⟨oo, tc, d, i⟩], l.dst.toNat, d + l.travel, g9, cap9, by rw [HE9.out]; omega, by rw [HE9.out], by rw [HE9.out]; go_num, by have := HP.out.dst; omega, by have := HP.out.travel; omega, by have := HP.out.travel; omega, by rw [HE9.out]; exact HW9, by rw [HD.out]; exact HI9⟩
       case measure => simp [intOf]; omega
end
section
open Go.RowKit Go.Shelf
set_option maxRecDepth 100000 in
set_option maxHeartbeats 600000 in
theorem delivery_c (N : Net) (g k o : Nat) (t : Int) (w : World) (R) (hg : Blk w g N.cells 29) (hN : NetAt w N) (hS : Snd N) (hk : k < N.clss.length) (ho : o < N.offs.length) (h1 : 0 ≤ t) (h2 : t ≤ 90000000)
  (hok : ∀ x w', deliverF N k o t = .ok x → Below w.heap.size w w' → R (.returned (.tuple #[.int .i64 x, .int .i64 0])) w') (her : ∀ e w', deliverF N k o t = .error e → Below w.heap.size w w' → R (.returned (.tuple #[.int .i64 0, .int .i64 e])) w') :
  Calls Tryz.prog 275 #[.pointer (some ⟨g, 0, none⟩), .int .i64 (k : Int), .int .i64 (o : Int), .int .i64 t] w R := by
 obtain ⟨ci, of, c, hX, _⟩ := hS.offX ho
 obtain ⟨b5, o5, K, hp5, hK, _, d0, d1, d2⟩ := hN.cls_ hk
 have hP := clsP_of (hS.cls k hk)
 rw [getD_some hK] at hP
 have hKo : clsOf N (k : Int) = K := by unfold clsOf; rw [show ((k : Int)).toNat = k by omega, getD_some hK]
 have hdf : deliverF N k o t = match firstF c K.deliver (readyF N o t) with | some x => .ok x | none => .error 20 := by
  unfold deliverF; rw [hX.calOf, hKo]; rfl
 have hrd := ready_bd hS (o := (o : Int)) (by omega) (by omega) t
 have x5 := hg.cell (k := 5) (v := .slice N.kp N.clss.length N.kc) rfl
 rw [hp5] at x5
 have q1 : (0 : Int) ≤ (k : Int) := by omega
 have q2 : (k : Int) < (N.clss.length : Int) := by omega
 have HN := hide hN; have HX := hide hX; have HG := hide hg; have Hok := hide hok; have Her := hide her; have HS := hide hS
 have Hc := hide (hX.ok hS); have hde := hide hP.deliver
 have KB : Hid (∀ W', Below w.heap.size w W' → W'.cell? ⟨g, 5, none⟩ = some (.slice (some ⟨b5, o5, none⟩) N.clss.length N.kc) ∧ W'.cell? ⟨b5, o5 + k * 3 + 2, none⟩ = some (.int .i64 K.deliver)) := hide (fun W' hb => ⟨cell_later hb x5, cell_later hb d2⟩)
 obtain ⟨tr, htr⟩ : ∃ tr, readyF N (o : Int) t = tr := ⟨_, rfl⟩
 have Htr := hide htr
 rw [htr] at hdf hrd
 clear hP hKo hN hX hg hok her hp5 d0 d1 hS hK htr
 cases hf : firstF c K.deliver tr with
 | some x =>
  rw [hf] at hdf
  have HF := hide hdf
  have Hf := hide hf
  clear hdf hf
  go_enter Tryz.func275, Tryz.ntmps275
  go_wp2
  go_region_held3 (fun w' => w'.cell? ⟨g, 5, none⟩ = some (.slice (some ⟨b5, o5, none⟩) N.clss.length N.kc) ∧ w'.cell? ⟨b5, o5 + k * 3 + 2, none⟩ = some (.int .i64 K.deliver))
   (first | exact KB.out _ (Below.refl _ _).drew | exact KB.out _ hbb | exact KB.out _ hba | exact KB.out _ hbc)
   (first
   | (go_at_call 187
      refine pCal_c N g o ci of c _ _ (HG.out.next (Below.refl _ _).drew) (HN.out.next (Below.refl _ _).drew) HX.out (fun W' hb => ?_)
      have hbb : Below w.heap.size w W' := bseq (Below.refl _ _).drew hb)
   | (go_at_call 125
      refine ready_c N g o t W' _ (HG.out.next hbb) (HN.out.next hbb) HS.out ho (by omega) (by omega) (fun W'' hb2 => ?_)
      rw [Htr.out]
      have hba : Below w.heap.size w W'' := bseq hbb hb2)
   | (go_at_call 186
      refine pFirst_c c K.deliver tr W'' _ (HX.out.at_ (HN.out.next hba)) Hc.out hde.out.1 hde.out.2 (by omega) (by omega) (fun x' W3 hx hb3 => ?_) (fun W3 hx hb3 => by rw [Hf.out] at hx; cases hx)
      obtain rfl : x = x' := by rw [Hf.out] at hx; injection hx
      have hbc : Below w.heap.size w W3 := bseq hba hb3))
  have HE := hide (Hok.out x W3 HF.out hbc)
  clear hbc hb3 hb2 hx hbb hb hba KB
  go_wp2
  exact HE.out
 | none =>
  rw [hf] at hdf
  have HF := hide hdf
  have Hf := hide hf
  clear hdf hf
  go_enter Tryz.func275, Tryz.ntmps275
  go_wp2
  go_region_held3 (fun w' => w'.cell? ⟨g, 5, none⟩ = some (.slice (some ⟨b5, o5, none⟩) N.clss.length N.kc) ∧ w'.cell? ⟨b5, o5 + k * 3 + 2, none⟩ = some (.int .i64 K.deliver))
   (first | exact KB.out _ (Below.refl _ _).drew | exact KB.out _ hbb | exact KB.out _ hba | exact KB.out _ hbc)
   (first
   | (go_at_call 187
      refine pCal_c N g o ci of c _ _ (HG.out.next (Below.refl _ _).drew) (HN.out.next (Below.refl _ _).drew) HX.out (fun W' hb => ?_)
      have hbb : Below w.heap.size w W' := bseq (Below.refl _ _).drew hb)
   | (go_at_call 125
      refine ready_c N g o t W' _ (HG.out.next hbb) (HN.out.next hbb) HS.out ho (by omega) (by omega) (fun W'' hb2 => ?_)
      rw [Htr.out]
      have hba : Below w.heap.size w W'' := bseq hbb hb2)
   | (go_at_call 186
      refine pFirst_c c K.deliver tr W'' _ (HX.out.at_ (HN.out.next hba)) Hc.out hde.out.1 hde.out.2 (by omega) (by omega) (fun x' W3 hx hb3 => by rw [Hf.out] at hx; cases hx) (fun W3 hx hb3 => ?_)
      have hbc : Below w.heap.size w W3 := bseq hba hb3))
  have HE := hide (Her.out 20 W3 HF.out hbc)
  clear hbc hb3 hb2 hx hbb hb hba KB
  go_wp2
  exact HE.out
end
section
open Go.RowKit Go.Shelf
theorem WayP.range {N : Net} {next : Mat} {tt o : Nat} {t : Int} {l : List Stp} (hs : Snd N) (hF : Formed N next) (htt : tt < N.offs.length) (h : WayP N next tt o t l) (ho : o < N.offs.length) (h0 : 0 ≤ t) (h1 : t ≤ 3000000) : ∀ s ∈ l, t ≤ s.arrive ∧ s.arrive ≤ 3000000 := by
 induction h with
 | last => intro s hs'; rw [List.mem_singleton] at hs'; subst hs'; exact ⟨Int.le_refl _, h1⟩
 | @more o t d l hne hnx hd hw ih =>
  rcases hF o tt ho htt with hn | ⟨hn0, hn1, hsrc⟩
  ·exact absurd hn hnx
  ·obtain ⟨c0, c1, c2, c3⟩ := departF_ok hs hn0 hn1 hd
   have hl := hs.linP hn0 hn1
   have hrd := ready_bd hs (o := (o : Int)) (by omega) (by omega) t
   have htr := hl.travel; have hds := hl.dst
   intro s hs'
   rcases List.mem_cons.1 hs' with rfl | hs'
   ·exact ⟨by show t ≤ t; omega, h1⟩
   ·have := ih (by omega) (by omega) (by omega) s hs'
    omega
theorem walkF_len {N : Net} {next : Mat} {tt : Nat} : ∀ (k o : Nat) (t : Int) (l : List Stp), walkF N next tt k o t = .ok l → l.length ≤ k + 1 := by
 intro k
 induction k with
 | zero =>
  intro o t l h
  rw [walkF] at h
  split at h
  ·injection h with h; subst h; simp
  ·split at h
   ·cases h
   ·split at h <;> cases h
 | succ k ih =>
  intro o t l h
  rw [walkF] at h
  split at h
  ·injection h with h; subst h; simp
  ·split at h
   ·cases h
   ·split at h
    ·cases h
    ·split at h
     ·cases h
     ·rename_i l' hl
      injection h with h; subst h
      have := ih _ _ _ hl
      simp; omega
theorem lastArr_eq {l : List Stp} (h : l ≠ []) : ∃ s, l[l.length - 1]? = some s ∧ lastArr l = s.arrive ∧ s ∈ l := by
 have hp : 0 < l.length := List.length_pos_iff.2 h
 have e : l[l.length - 1]? = some (l[l.length - 1]'(by omega)) := List.getElem?_eq_getElem (by omega)
 refine ⟨_, e, ?_, List.getElem_mem _⟩
 unfold lastArr
 rw [List.getLast?_eq_getElem?, e]
theorem dayOf_mono {c : Cal} {s t : Int} (h : s ≤ t) : dayOf c s ≤ dayOf c t := by unfold dayOf; omega
theorem deliverF_ok {N : Net} (hs : Snd N) {k d : Nat} {t x : Int} (hk : k < N.clss.length) (hd : d < N.offs.length) (h : deliverF N k d t = .ok x) : t ≤ x ∧ x ≤ t + 90000 := by
 unfold deliverF at h
 split at h
 ·rename_i y hy
  injection h with h; subst h
  have := firstF_some (hs.clsP (k := k) (by omega) (by omega)).deliver hy
  have := ready_bd hs (o := (d : Int)) (by omega) (by omega) t
  omega
 ·cases h
theorem deliverF_err {N : Net} {k d : Nat} {t e : Int} (h : deliverF N k d t = .error e) : e = 20 := by
 unfold deliverF at h
 split at h
 ·cases h
 ·injection h with h; exact h.symm
set_option maxRecDepth 100000 in
set_option maxHeartbeats 1000000 in
theorem days_c (N : Net) (gn : Nat) (np : Option Addr) (nc : Nat) (nx : Nat → Nat → Int) (k o d : Nat) (cut : Int) (w : World) (R) (hg : Blk w gn N.cells 29) (hN : NetAt w N) (hS : Snd N) (hM : MatAt w np N.offs.length nx) (hF : Formed N nx)
  (hk : k < N.clss.length) (ho : o < N.offs.length) (hd : d < N.offs.length) (h1 : 0 ≤ cut) (h2 : cut ≤ 2000000)
  (hok : ∀ x w', needF N nx k o d cut = .ok x → Below w.heap.size w w' → R (.returned (.int .i64 x)) w')
  (her : ∀ e w', needF N nx k o d cut = .error e → Below w.heap.size w w' → R (.panicked [{ v := .iface 43 (.int .i64 e), recovered := false }]) w') :
  Calls Tryz.prog 213 #[.pointer (some ⟨gn, 0, none⟩), .slice np N.offs.length nc, .int .i64 (k : Int), .int .i64 (o : Int), .int .i64 (d : Int), .int .i64 cut] w R := by
 have HOk := hide hok; have HEr := hide her; have HSn := hide hS; have HF := hide hF; have HG := hide hg; have HN := hide hN; have HM := hide hM
 clear hok her hS hF hg hN hM
 go_enter Tryz.func213, Tryz.ntmps213
 go_wp2_with (go_at_call 60; refine Stop.out ?_)
 refine Stop.go (walk_c N gn np nc nx o d cut _ _ HG.out HN.out HSn.out HM.out HF.out ho hd h1 h2 ?_ ?_)
 ·intro l w2 g cap hl hb hrow
  have hway := walkF_way _ _ _ _ hl
  have hlen : 0 < l.length := List.length_pos_iff.2 hway.ne
  obtain ⟨s, hs, hla, hsm⟩ := lastArr_eq hway.ne
  have hrg := hway.range HSn.out HF.out hd ho h1 (by omega) s hsm
  have c1 : w2.cell? ⟨g, (l.length - 1) * 4 + 1, none⟩ = some (.int .i64 (lastArr l)) := by
   rw [hrow.cellAt _ (by omega), flatMap_at stp_len _ _ _ _ hs (by decide), hla]; rfl
  rw [← hla] at hrg
  have HL := hide hl; have HB2 := hide hb
  obtain ⟨n, hn⟩ : ∃ n : Nat, l.length = n + 1 := ⟨l.length - 1, by omega⟩
  rw [hn, show n + 1 - 1 = n by omega] at c1
  rw [hn]
  have hmax : (n : Int) + 1 ≤ 1000000000000000 := by
   have : l.length ≤ 20 := walkF_len _ _ _ _ hl
   omega
  have q1 : (0 : Int) ≤ (n : Int) := by omega
  have q2 : (n : Int) < ((n + 1 : Nat) : Int) := by omega
  obtain ⟨ta, hta⟩ : ∃ ta, lastArr l = ta := ⟨_, rfl⟩
  have Hta := hide hta
  rw [hta] at hrg c1
  clear hta
  clear hl hb hrow hway hs hla hsm hlen
  go_wp2_with (go_at_call 275; refine Stop.out ?_)
  refine Stop.go (delivery_c N gn k d ta w2 _ (HG.out.next HB2.out) (HN.out.next HB2.out) HSn.out hk hd (by omega) (by omega) ?_ ?_)
  ·intro x w3 hx hb
   have hxr := deliverF_ok HSn.out hk hd hx
   have HB3 := hide (bseq HB2.out hb)
   have Hx := hide hx
   clear hx hb c1
   go_wp2_with (go_at_call 123; refine Stop.out ?_)
   refine Stop.go (must_ok x w3 _ ?_)
   go_wp2_with (go_at_call 187; refine Stop.out ?_)
   obtain ⟨ci, of, c, hX, _⟩ := HSn.out.offX hd
   have HX := hide hX
   have Hc := hide (hX.ok HSn.out)
   clear hX
   refine Stop.go (pCal_c N gn d ci of c w3 _ (HG.out.next HB3.out) (HN.out.next HB3.out) HX.out ?_)
   intro w4 hb
   obtain ⟨w5, hw5, hb5, k5⟩ := cal_box c w4
   have HB5 := hide (bseq HB3.out (bseq hb hb5))
   have HK5 := hide k5
   have x0 := k5.cell (k := 0) (v := .int .i64 c.zone) rfl; have x1 := k5.cell (k := 1) (v := .slice c.wp c.week.length c.wc) rfl; have x2 := k5.cell (k := 2) (v := .slice c.hp c.hol.length c.hc) rfl
   have hd1 := dayOf_range Hc.out h1 (by omega)
   have hd2 := dayOf_range (t := x) Hc.out (by omega) (by omega)
   have hd3 : dayOf c cut ≤ dayOf c x := dayOf_mono (by omega)
   have Hco := hide HX.out.calOf
   unfold Cal.cells at hw5 ⊢
   clear hb hb5 k5
   go_wp2_with (go_at_call 223; refine Stop.out ?_)
   clear hw5
   refine Stop.go (local_c c cut _ _ ((HX.out.at_ HN.out).keep (Keeps.of_below HB5.out)) Hc.out (by omega) (by omega) ?_)
   intro w6 hb
   have k6 := HK5.out.next hb
   have HB6 := hide (bseq HB5.out hb)
   have HK6 := hide k6
   clear x0 x1 x2 hb HK5
   have x0 := k6.cell (k := 0) (v := .int .i64 c.zone) rfl; have x1 := k6.cell (k := 1) (v := .slice c.wp c.week.length c.wc) rfl; have x2 := k6.cell (k := 2) (v := .slice c.hp c.hol.length c.hc) rfl
   clear k6
   go_wp2_with (go_at_call 223; refine Stop.out ?_)
   refine Stop.go (local_c c x _ _ ((HX.out.at_ HN.out).keep (Keeps.of_below HB6.out)) Hc.out (by omega) (by omega) ?_)
   intro w7 hb
   have k7 := HK6.out.next hb
   have HB7 := hide (bseq HB6.out hb)
   have HK7 := hide k7
   clear x0 x1 x2 hb HK6
   have x0 := k7.cell (k := 0) (v := .int .i64 c.zone) rfl; have x1 := k7.cell (k := 1) (v := .slice c.wp c.week.length c.wc) rfl; have x2 := k7.cell (k := 2) (v := .slice c.hp c.hol.length c.hc) rfl
   clear k7
   go_wp2_with (go_at_call 224; refine Stop.out ?_)
   refine Stop.go (calCount_c c (dayOf c cut) (dayOf c x) _ _ ((HX.out.at_ HN.out).keep (Keeps.of_below HB7.out)) Hc.out (by omega) hd3 (by omega) ?_)
   intro w8 hb
   have HB8 := hide (bseq HB7.out hb)
   clear x0 x1 x2 hb HK7
   have hneed : needF N nx k o d cut = if 0 ≤ countF c (dayOf c cut) (dayOf c x) then .ok (countF c (dayOf c cut) (dayOf c x)) else .error 1 := by
    unfold needF; rw [HL.out]; simp only; rw [Hta.out, Hx.out]; simp only; rw [Hco.out]
   have HNd := hide hneed
   clear hneed hd1 hd2 hd3
   generalize countF c (dayOf c cut) (dayOf c x) = cnt at *
   by_cases hc0 : 0 ≤ cnt
   ·have HE := hide (HOk.out cnt w8 (by rw [HNd.out, if_pos hc0]) HB8.out)
    go_wp2_with (go_at_call 55; refine Stop.out ?_)
    refine Stop.go (demand_ok w8 _ (fun v => ?_))
    go_wp2
    exact HE.out
   ·have HE := hide (HEr.out 1 w8 (by rw [HNd.out, if_neg hc0]) HB8.out)
    have hc1 : cnt < 0 := by omega
    go_wp2_with (go_at_call 55; refine Stop.out ?_)
    rw [decide_eq_false (show ¬ 0 ≤ cnt by omega)]
    refine Stop.go (demand_err w8 _ ?_)
    exact ⟨rfl, HE.out⟩
  ·intro e w3 hx hb
   obtain rfl := deliverF_err hx
   have HE := hide (HEr.out 20 w3 (by unfold needF; rw [HL.out]; simp only; rw [Hta.out, hx]) (bseq HB2.out hb))
   clear hx hb c1
   go_wp2_with (go_at_call 123; refine Stop.out ?_)
   refine Stop.go (must_err 20 0 (by omega) w3 _ ?_)
   exact ⟨rfl, HE.out⟩
 ·intro e w2 hl hb
  have HE := hide (HEr.out e w2 (by unfold needF; rw [hl]) hb)
  clear hl hb
  exact ⟨rfl, HE.out⟩
end
section
open Go.RowKit
def BlkOf (p : Option Addr) (n k : Nat) : Prop := 0 < n ∧ ∃ o, p = some ⟨k, o, none⟩
theorem EncAt.kpb {α : Type} {s : Nat} {enc : α → List Value} {bad : World → Nat → Prop} {W W' : World} {p : Option Addr} {l : List α} (h : EncAt s enc W p l) (hk : Kpb bad W W') (hb : ∀ k, BlkOf p l.length k → ¬ bad W k) : EncAt s enc W' p l := fun hl => by
 obtain ⟨b, o, hp, hc⟩ := h hl
 refine ⟨b, o, hp, fun i x hx c v hv => ?_⟩
 have h1 := hc i x hx c v hv
 exact (World.cell?_of_block (hk.2 b (block_lt h1) (hb b ⟨hl, o, hp⟩)).1).trans h1
theorem EncAt.lt {α : Type} {s : Nat} {enc : α → List Value} {W : World} {p : Option Addr} {l : List α} (h : EncAt s enc W p l) (he : ∀ x, 0 < (enc x).length) {k : Nat} (hk : BlkOf p l.length k) : k < W.heap.size := by
 obtain ⟨h0, o, hp⟩ := hk
 obtain ⟨b, o', x, hp', hx, hc⟩ := h.at_ h0
 rw [hp] at hp'; injection hp' with hp'; injection hp' with e1 e2; subst e1
 exact block_lt (hc 0 _ (List.getElem?_eq_getElem (he x)))
theorem StrsAt.kpb {bad : World → Nat → Prop} {W W' : World} {p : Option Addr} {l : List ByteArray} (h : StrsAt W p l) (hk : Kpb bad W W') (hb : ∀ k, BlkOf p l.length k → ¬ bad W k) : StrsAt W' p l := ⟨h.1.kpb hk hb, h.2⟩
def NetBlk (N : Net) (k : Nat) : Prop :=
 BlkOf N.cp N.cals.length k ∨ (∃ c ∈ N.cals, CalBlk c k) ∨ BlkOf N.np N.names.length k ∨ BlkOf N.op N.oprs.length k ∨ BlkOf N.fp N.offs.length k ∨ (∃ o ∈ N.offs, BlkOf o.cp o.codes.length k) ∨ BlkOf N.lp N.lins.length k ∨ BlkOf N.kp N.clss.length k
theorem NetAt.kpb {N : Net} {bad : World → Nat → Prop} {W W' : World} (h : NetAt W N) (hk : Kpb bad W W') (hb : ∀ k, NetBlk N k → ¬ bad W k) : NetAt W' N :=
 ⟨h.cals.kpb hk (fun k e => hb k (.inl e)), fun c hc => (h.cal c hc).kpb hk (fun k e => hb k (.inr (.inl ⟨c, hc, e⟩))), h.names.kpb hk (fun k e => hb k (.inr (.inr (.inl e)))),
  h.oprs.kpb hk (fun k e => hb k (.inr (.inr (.inr (.inl e))))), h.offs.kpb hk (fun k e => hb k (.inr (.inr (.inr (.inr (.inl e)))))), fun o ho => ⟨(h.off o ho).codes.kpb hk (fun k e => hb k (.inr (.inr (.inr (.inr (.inr (.inl ⟨o, ho, e⟩))))))), (h.off o ho).name, (h.off o ho).nums⟩,
  h.lins.kpb hk (fun k e => hb k (.inr (.inr (.inr (.inr (.inr (.inr (.inl e)))))))), h.lin, h.clss.kpb hk (fun k e => hb k (.inr (.inr (.inr (.inr (.inr (.inr (.inr e)))))))), h.cls, h.len⟩
theorem NetAt.lt {N : Net} {W : World} (h : NetAt W N) {k : Nat} (hk : NetBlk N k) : k < W.heap.size := by
 rcases hk with e | ⟨c, hc, e⟩ | e | e | e | ⟨o, ho, e⟩ | e | e
 ·exact h.cals.lt (fun x => by simp [Cal.cells]) e
 ·exact (h.cal c hc).lt e
 ·exact h.names.1.lt (fun x => by simp) e
 ·exact h.oprs.1.lt (fun x => by simp) e
 ·exact h.offs.lt (fun x => by simp [Off.cells]) e
 ·exact (h.off o ho).codes.1.lt (fun x => by simp) e
 ·exact h.lins.lt (fun x => by simp [Lin.cells]) e
 ·exact h.clss.lt (fun x => by simp [Cls.cells]) e
end
end Go.Proofs.YtgfhcmidnbahjaaGreatDoor
