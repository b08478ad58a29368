/- TopTampered: the walk. The frame of a law's row: arguments opened to plain lists, and the row's last step from 'true, and nothing that was there has turned'. -/
import Derived.Test.YtgfhcmidnbahjaaGreatDoorQT43
import Derived.Test.YtgfhcmidnbahjaaGreatDoorQT44
import Derived.Test.YtgfhcmidnbahjaaGreatDoorQT47
import Derived.Test.YtgfhcmidnbahjaaGreatDoorRows
import Derived.Test.YtgfhcmidnbahjaaGreatDoorQT1
import Derived.ProofKit
import Derived.OpenShut
import Derived.ShutString
import Derived.ChangeOld
import Derived.Deep.Slices
import Derived.Deep.Fields
set_option linter.unusedVariables false
set_option linter.unusedSimpArgs false
namespace Go.Proofs.YtgfhcmidnbahjaaGreatDoor
open Go.RowKit Go.Shelf
attribute [local go_sem] Oper.semAt_some run_store_func
theorem tamper {X : List Int} (hs : ∀ x ∈ X, Small x) {k : Nat} {y : Int} (hk : k < X.length) (h0 : 0 ≤ y) (hne : X.set k y ≠ X) : sealedB (X.set k y) (sealF X) = false := by
  by_cases hy : y ≤ 65519
  · have hys : ∀ x ∈ X.set k y, Small x := fun x hx => by
      rcases List.mem_or_eq_of_mem_set hx with h | rfl
      · exact hs x h
      · exact ⟨h0, hy⟩
    rw [sealed_of hys]
    have hx : X[k]? = some X[k] := List.getElem?_eq_getElem hk
    refine decide_eq_false (fun e => ?_)
    refine seal_ne hx (hs _ (List.getElem_mem hk)) ⟨h0, hy⟩ (fun e => hne ?_) e.symm
    rw [e, List.set_getElem_self]
  · unfold sealedB
    have : (X.set k y).all cnumB = false := by
      rw [List.all_eq_false]
      refine ⟨y, List.mem_iff_getElem?.2 ⟨k, by rw [List.getElem?_set]; simp [hk]⟩, ?_⟩
      unfold cnumB
      simp [hy]
    rw [this]; rfl
structure TmI (w : World) (N : Net) (W : World) : Prop where
  below : Below w.heap.size w W
  n : Blk W w.heap.size N.cells 29
  nn : NetAt W N
theorem TmI.next {w : World} {N : Net} {W W' : World} (h : TmI w N W) (hb : Below W.heap.size W W') : TmI w N W' := ⟨bseq h.below hb, h.n.next hb, h.nn.next hb⟩
structure CrA (X : List Int) (L : Nat) (s : Int) (g : Nat) (q : Option Addr) (c : Nat) (W : World) : Prop where
  b : Blk W g #[.slice q L c, .int .i64 s] 42
  i : IntsAt .i64 W q X
theorem CrA.next {X : List Int} {L : Nat} {s : Int} {g : Nat} {q : Option Addr} {c : Nat} {W W' : World} (h : CrA X L s g q c W) (hb : Below W.heap.size W W') : CrA X L s g q c W' := ⟨h.b.next hb, h.i.keep (Keeps.of_below hb)⟩
structure TkA (w : World) (N : Net) (X : List Int) (L : Nat) (s fr till : Int) (g4 : Nat) (p : Option Addr) (cap : Nat) (np : Option Addr) (nc : Nat) (dp : Option Addr) (dc : Nat) (g7 : Nat) (q7 : Option Addr) (c7 g9 g1 g2 : Nat) (W : World) : Prop where
  i : TmI w N W
  c : CrA X L s (g4 + 1) p cap W
  kp : Blk W g4 #[.int .i64 fr, .int .i64 till, .slice np N.offs.length nc, .slice dp N.clss.length dc] 39
  m : MatAt W np N.offs.length (nextF' N fr till)
  mc : CubeAt W dp N.clss.length N.offs.length (daysP N fr till)
  d : CrA X L s g7 q7 c7 W
  kq : Blk W g9 #[.int .i64 fr, .int .i64 till, .slice (some ⟨g1, 0, none⟩) N.offs.length N.offs.length, .slice (some ⟨g2, 0, none⟩) N.clss.length N.clss.length] 39
  qm : MatAt W (some ⟨g1, 0, none⟩) N.offs.length (nextF' N fr till)
  qc : CubeAt W (some ⟨g2, 0, none⟩) N.clss.length N.offs.length (daysP N fr till)
theorem TkA.next {w : World} {N : Net} {X : List Int} {L : Nat} {s fr till : Int} {g4 : Nat} {p : Option Addr} {cap : Nat} {np : Option Addr} {nc : Nat} {dp : Option Addr} {dc : Nat} {g7 : Nat} {q7 : Option Addr} {c7 g9 g1 g2 : Nat} {W W' : World} (h : TkA w N X L s fr till g4 p cap np nc dp dc g7 q7 c7 g9 g1 g2 W) (hb : Below W.heap.size W W') : TkA w N X L s fr till g4 p cap np nc dp dc g7 q7 c7 g9 g1 g2 W' :=
  ⟨h.i.next hb, h.c.next hb, h.kp.next hb, h.m.next hb, h.mc.next hb, h.d.next hb, h.kq.next hb, h.qm.next hb, h.qc.next hb⟩
theorem compile3_c (N : Net) (fr till : Int) (w : World) (R) (hk : KwAt w) (hN : NetAt w N)
    (hR : ∀ w' (P : Pln) p n cap s e, (e = 0 → compErr N fr till = 0 ∧ PlanAt w.heap.size N fr till P p cap w' ∧ n = (certF N fr till).length ∧ s = sealF (certF N fr till)) → Below w.heap.size w w' → R (.returned (.tuple #[.agg P.cells.toArray, .agg #[.slice p n cap, .int .i64 s], .int .i64 e])) w') :
    Calls Tryz.prog 9 #[.agg N.cells, .int .i64 fr, .int .i64 till] w R :=
  compile_c N fr till w R hk hN (fun w' P p cap h0 hb hP => hR w' P p _ cap _ 0 (fun _ => ⟨h0, hP, rfl, rfl⟩) hb)
    (fun w' hne hb => hR w' ⟨0, 0, none, 0, 0, none, 0, 0⟩ none 0 0 0 _ (fun e => absurd e hne) hb)
set_option maxRecDepth 100000 in
set_option maxHeartbeats 8000000 in
theorem tampered_w (N : Net) (fr till : Int) (at_ other : Nat) (m : Int) (w : World) (R) (hk : KwAt w) (hp : PowAt w) (hm : w.cell? ⟨0, 0, none⟩ = some (.int .i64 m)) (hN : NetAt w N) (h1 : at_ ≤ 65535) (h2 : other ≤ 65535)
    (hR : ∀ w', Below w.heap.size w w' → R (.returned (.bool true)) w') :
    Calls Tryz.prog 5 #[.agg N.cells, .int .i64 fr, .int .i64 till, .int .u16 (at_ : Int), .int .u16 (other : Int)] w R := by
  have HR := hide hR; have HK := hide hk; have HP := hide hp; have HM := hide hm
  obtain ⟨w1, hw1⟩ : ∃ w1, w.alloc (.cells N.cells 29) = w1 := ⟨_, rfl⟩
  have hb1 : Below w.heap.size w w1 := hw1 ▸ balloc (Below.refl _ _) _
  have HI := hide (show TmI w N w1 from ⟨hb1, hw1 ▸ Blk.new _ _ _, hN.next hb1⟩)
  unfold Net.cells at hw1 ⊢
  clear hR hN hk hp hm hb1
  go_enter Tryz.func5, Tryz.ntmps5
  go_wp2_with (go_at_call 24; refine Stop.out ?_)
  clear hw1
  refine Stop.go (sealed9_c w1 _ (HK.out.next HI.out.below) ?_)
  intro w2 hb
  have HI2 := hide (HI.out.next hb)
  clear hb HI
  obtain ⟨y0, y1, y2, y3, y4, y5⟩ := HI2.out.n.net6
  go_wp2_with (go_at_call 8; refine Stop.out ?_)
  have hcall := topSmall2_c N fr till w2
  unfold Net.cells at hcall
  refine Stop.go (hcall _ HI2.out.nn ?_)
  intro b w3 hb6 hb
  have HI3 := hide (HI2.out.next hb); have H6 := hide hb6
  clear hcall hb6 hb HI2 y0 y1 y2 y3 y4 y5
  cases b with
  | false =>
    go_wp2
    exact HR.out _ HI3.out.below
  | true =>
    obtain ⟨y0, y1, y2, y3, y4, y5⟩ := HI3.out.n.net6
    go_wp2_with (go_at_call 9; refine Stop.out ?_)
    have hcall := compile3_c N fr till w3
    unfold Net.cells at hcall
    refine Stop.go (hcall _ (HK.out.next HI3.out.below) HI3.out.nn ?_)
    intro w4 P p n cap s e hPe hb
    by_cases he : e = 0
    rotate_left
    · obtain ⟨w5, hw5⟩ : ∃ w5, (w4.alloc (.cells P.cells.toArray 39)).alloc (.cells #[.slice p n cap, .int .i64 s] 42) = w5 := ⟨_, rfl⟩
      have HF := hide (HR.out w5 (hw5 ▸ balloc (balloc (bseq HI3.out.below hb) _) _))
      have t1 : (e != 0) = true := by simpa using he
      unfold Pln.cells at hw5 ⊢
      clear hb hcall hPe y0 y1 y2 y3 y4 y5 he
      go_wp2
      exact HF.out
    obtain ⟨hc0, hPl, hn, hs⟩ := hPe he
    clear hPe
    subst he; subst hn; subst hs
    have hPc : P.cells.toArray = #[.int .i64 fr, .int .i64 till, .slice P.np N.offs.length P.nc, .slice P.dp N.clss.length P.dc] := by unfold Pln.cells; rw [hPl.pfr, hPl.ptill, hPl.nn, hPl.dn]
    rw [hPc]
    clear hPc
    obtain ⟨X, hX⟩ : ∃ X, certF N fr till = X := ⟨_, rfl⟩
    have hown := hPl.cert
    have hsm := cert_all hc0
    have hpos := cert_pos (N := N) (fr := fr) (till := till)
    obtain ⟨hd1, hd2, hd3⟩ := comp_parts hc0
    have hdd := hd1
    unfold daysOk at hdd
    simp only [Bool.and_eq_true, decide_eq_true_eq] at hdd
    obtain ⟨⟨⟨d1, d2⟩, d3⟩, d4⟩ := hdd
    have hw9 : wrap64 (fr + 9) = fr + 9 := by unfold wrap64; omega
    have h9 : till ≤ fr + 58 := by have := (H6.out trivial).2; rw [hw9] at this; omega
    obtain ⟨hck, hyes⟩ := ckp_own hc0 h9
    obtain ⟨xs, hxs, hxr⟩ := small_nat hsm
    rw [hX] at hown hsm hpos hd3 hck hxs ⊢
    obtain ⟨L, hL⟩ : ∃ L, X.length = L := ⟨_, rfl⟩
    obtain ⟨sN, hsN⟩ : ∃ sN : Nat, sealF X = (sN : Int) := ⟨(sealF X).toNat, by have := (sealF_rg X).1; omega⟩
    have hsr : sN ≤ 65520 := by have := (sealF_rg X).2; omega
    rw [hL] at hown hpos hd3 ⊢
    rw [hsN]
    have hcap : L ≤ cap := by
      obtain ⟨gp, c', hv, _⟩ := own_form hown (by omega)
      rw [hv] at hown
      injection hv with _ _ e3
      rw [e3]; exact own_cap hown
    obtain ⟨w5, hw5⟩ : ∃ w5, (w4.alloc (.cells #[.int .i64 fr, .int .i64 till, .slice P.np N.offs.length P.nc, .slice P.dp N.clss.length P.dc] 39)).alloc (.cells #[.slice p L cap, .int .i64 (sN : Int)] 42) = w5 := ⟨_, rfl⟩
    have hb5 : Below w4.heap.size w4 w5 := hw5 ▸ balloc (balloc (Below.refl _ _) _) _
    have kP : Blk w5 w4.heap.size #[.int .i64 fr, .int .i64 till, .slice P.np N.offs.length P.nc, .slice P.dp N.clss.length P.dc] 39 := by rw [← hw5]; exact Blk.alloc (Blk.new _ _ _) _
    have kC : Blk w5 (w4.heap.size + 1) #[.slice p L cap, .int .i64 (sN : Int)] 42 := by rw [← hw5]; exact Blk.new_at (by simp)
    have HI5 := hide ((HI3.out.next hb).next hb5)
    have HC5 : Hid (CrA X L (sN : Int) (w4.heap.size + 1) p cap w5) := hide ⟨kC, (IntsAt.of_own (l := X) hown).keep (Keeps.of_below hb5)⟩
    have HKP5 := hide kP
    have HMn : Hid (MatAt w5 P.np N.offs.length (nextF' N fr till) ∧ CubeAt w5 P.dp N.clss.length N.offs.length (daysP N fr till)) := hide ⟨hPl.next.next hb5, hPl.days.next hb5⟩
    have HSm := hide hsm; have HL := hide hL; have HsN := hide hsN; have HCk := hide hck; have HYe := hide hyes; have HXs := hide hxs; have HXr := hide hxr; have Hsn := hide (snd_of hd2)
    have Hcp := hide hcap
    have hg5 : w4.heap.size + 1 < w5.heap.size := kC.lt
    have Hg5 := hide hg5
    clear hb hPl hown hsm hd1 hd2 hw9 hck hyes hxs hxr hL hsN hb5 kP kC hX hcall y0 y1 y2 y3 y4 y5 hc0 hcap hg5
    have z0 := HC5.out.b.cell (k := 0) (v := .slice p L cap) rfl; have z1 := HC5.out.b.cell (k := 1) (v := .int .i64 (sN : Int)) rfl
    go_wp2_with (go_at_call 26; refine Stop.out ?_)
    clear hw5 z0 z1
    generalize w4.heap.size = g4 at *
    have hcall := text_c xs p cap sN w5
    have hxl : xs.length = L := by rw [← HL.out, HXs.out, List.length_map]
    rw [hxl] at hcall
    have hxN : intsN xs = X := HXs.out.symm
    rw [hxN] at hcall
    have hrg : ∀ x ∈ sN :: xs, x ≤ 99999 := fun x hx => by
      rcases List.mem_cons.1 hx with rfl | hx
      · omega
      · have := HXr.out x hx; omega
    have Hrg := hide hrg; have Hxl := hide hxl
    refine Stop.go (hcall _ HC5.out.i hrg (by omega) (HP.out.next HI5.out.below) ?_)
    intro w6 hb
    have HI6 := hide (HI5.out.next hb); have HC6 := hide (HC5.out.next hb); have HKP6 := hide (HKP5.out.next hb); have HM6 : Hid (MatAt w6 P.np N.offs.length (nextF' N fr till) ∧ CubeAt w6 P.dp N.clss.length N.offs.length (daysP N fr till)) := hide ⟨HMn.out.1.next hb, HMn.out.2.next hb⟩
    have Hg6 := hide (Nat.lt_of_lt_of_le Hg5.out hb.size)
    clear hb hcall hrg hxl hxN HI5 HC5 HKP5 HMn Hg5
    go_wp2_with (go_at_call 25; refine Stop.out ?_)
    have hcall := parse_c xs sN m w6
    rw [Hxl.out, show intsN xs = X from HXs.out.symm] at hcall
    refine Stop.go (hcall _ (cell_later HI6.out.below HM.out) Hrg.out (by omega) (by omega) ?_)
    intro q7 c7 w7 hb hi7 hc7
    obtain ⟨w8, hw8⟩ : ∃ w8, w7.alloc (.cells #[.slice q7 L c7, .int .i64 (sN : Int)] 42) = w8 := ⟨_, rfl⟩
    have hb8 : Below w7.heap.size w7 w8 := hw8 ▸ balloc (Below.refl _ _) _
    have hbb : Below w6.heap.size w6 w8 := bseq hb hb8
    have HI8 := hide (HI6.out.next hbb); have HC8 := hide (HC6.out.next hbb); have HKP8 := hide (HKP6.out.next hbb); have HM8 : Hid (MatAt w8 P.np N.offs.length (nextF' N fr till) ∧ CubeAt w8 P.dp N.clss.length N.offs.length (daysP N fr till)) := hide ⟨HM6.out.1.next hbb, HM6.out.2.next hbb⟩
    have HD8 : Hid (CrA X L (sN : Int) w7.heap.size q7 c7 w8) := hide ⟨hw8 ▸ Blk.new _ _ _, hi7.keep (Keeps.of_below hb8)⟩
    have Hc7 := hide hc7
    have Hg8 := hide (Nat.lt_of_lt_of_le Hg6.out hbb.size)
    clear hb hi7 hc7 hb8 hbb hcall HI6 HC6 HKP6 HM6 Hg6
    have z0 := HD8.out.b.cell (k := 0) (v := .slice q7 L c7) rfl; have z1 := HD8.out.b.cell (k := 1) (v := .int .i64 (sN : Int)) rfl
    go_wp2_with (go_at_call 27; refine Stop.out ?_)
    clear hw8
    have hcall := iPlan_c X q7 c7 (sN : Int) N.offs.length N.clss.length (nextF' N fr till) (daysP N fr till) fr till (proofL N (nextF' N fr till) (daysP N fr till) fr till) w8
    rw [HL.out] at hcall
    refine Stop.go (hcall _ HD8.out.i Hc7.out (by omega) (by rw [sealed_of HSm.out, HsN.out]; simp) HCk.out.eq Hsn.out.noff Hsn.out.ncls d2 (by omega) d3 d1 HCk.out.rn HCk.out.rc ?_)
    intro g1 g2 w9 hb hm9 hc9
    obtain ⟨w10, hw10⟩ : ∃ w10, w9.alloc (.cells #[.int .i64 fr, .int .i64 till, .slice (some ⟨g1, 0, none⟩) N.offs.length N.offs.length, .slice (some ⟨g2, 0, none⟩) N.clss.length N.clss.length] 39) = w10 := ⟨_, rfl⟩
    have hb10 : Below w9.heap.size w9 w10 := hw10 ▸ balloc (Below.refl _ _) _
    have hbb : Below w8.heap.size w8 w10 := bseq hb hb10
    have HI10 := hide (HI8.out.next hbb); have HC10 := hide (HC8.out.next hbb); have HKP10 := hide (HKP8.out.next hbb); have HM10 : Hid (MatAt w10 P.np N.offs.length (nextF' N fr till) ∧ CubeAt w10 P.dp N.clss.length N.offs.length (daysP N fr till)) := hide ⟨HM8.out.1.next hbb, HM8.out.2.next hbb⟩
    have HD10 := hide (HD8.out.next hbb)
    have HQ10 : Hid (Blk w10 w9.heap.size #[.int .i64 fr, .int .i64 till, .slice (some ⟨g1, 0, none⟩) N.offs.length N.offs.length, .slice (some ⟨g2, 0, none⟩) N.clss.length N.clss.length] 39 ∧ MatAt w10 (some ⟨g1, 0, none⟩) N.offs.length (nextF' N fr till) ∧ CubeAt w10 (some ⟨g2, 0, none⟩) N.clss.length N.offs.length (daysP N fr till)) := hide ⟨hw10 ▸ Blk.new _ _ _, hm9.next hb10, hc9.next hb10⟩
    have Hg10 := hide (Nat.lt_of_lt_of_le Hg8.out hb.size)
    have Hg78 := hide (Nat.lt_of_lt_of_le HD8.out.b.lt hb.size)
    clear hb hm9 hc9 hb10 hbb hcall HI8 HC8 HKP8 HM8 HD8 Hg8 z0 z1
    generalize w7.heap.size = g7 at *
    have z0 := HC10.out.b.cell (k := 0) (v := .slice p L cap) rfl; have z1 := HC10.out.b.cell (k := 1) (v := .int .i64 (sN : Int)) rfl
    have x0 := HD10.out.b.cell (k := 0) (v := .slice q7 L c7) rfl; have x1 := HD10.out.b.cell (k := 1) (v := .int .i64 (sN : Int)) rfl
    go_wp2_with (go_at_call 28; refine Stop.out ?_)
    clear hw10
    have HA10 : Hid (TkA w N X L (sN : Int) fr till g4 p cap P.np P.nc P.dp P.dc g7 q7 c7 w9.heap.size g1 g2 w10) := hide ⟨HI10.out, HC10.out, HKP10.out, HM10.out.1, HM10.out.2, HD10.out, HQ10.out.1, HQ10.out.2.1, HQ10.out.2.2⟩
    clear HI10 HC10 HKP10 HM10 HD10 HQ10
    generalize w9.heap.size = g9 at *
    have hcall := same_c X X p q7 cap c7 (sN : Int) (sN : Int) w10
    rw [HL.out] at hcall
    refine Stop.go (hcall _ HA10.out.c.i HA10.out.d.i (by omega) (by omega) ?_)
    intro w11 hb
    rw [show decide ((sN : Int) = (sN : Int) ∧ X = X) = true by simp]
    have HA11 := hide (HA10.out.next hb)
    clear hb hcall HA10 z0 z1 x0 x1
    have x0 := HA11.out.d.b.cell (k := 0) (v := .slice q7 L c7) rfl; have x1 := HA11.out.d.b.cell (k := 1) (v := .int .i64 (sN : Int)) rfl
    obtain ⟨y0, y1, y2, y3, y4, y5⟩ := HA11.out.i.n.net6
    go_wp2_with (go_at_call 29; refine Stop.out ?_)
    have hcall := icheck_c N X q7 c7 (sN : Int) (nextF' N fr till) (daysP N fr till) fr till (proofL N (nextF' N fr till) (daysP N fr till) fr till) w11
    rw [HL.out] at hcall
    unfold Net.cells at hcall
    refine Stop.go (hcall _ HA11.out.i.nn HCk.out HA11.out.d.i Hc7.out (by rw [sealed_of HSm.out, HsN.out]; simp) ?_ (fun h _ _ => absurd HYe.out h))
    intro _ w12 hb
    have HA12 := hide (HA11.out.next hb)
    clear hb hcall HA11 x0 x1 y0 y1 y2 y3 y4 y5
    have z0 := HA12.out.kp.cell (k := 0) (v := .int .i64 fr) rfl; have z1 := HA12.out.kp.cell (k := 1) (v := .int .i64 till) rfl; have z2 := HA12.out.kp.cell (k := 2) (v := .slice P.np N.offs.length P.nc) rfl; have z3 := HA12.out.kp.cell (k := 3) (v := .slice P.dp N.clss.length P.dc) rfl
    have x0 := HA12.out.kq.cell (k := 0) (v := .int .i64 fr) rfl; have x1 := HA12.out.kq.cell (k := 1) (v := .int .i64 till) rfl; have x2 := HA12.out.kq.cell (k := 2) (v := .slice (some ⟨g1, 0, none⟩) N.offs.length N.offs.length) rfl; have x3 := HA12.out.kq.cell (k := 3) (v := .slice (some ⟨g2, 0, none⟩) N.clss.length N.clss.length) rfl
    go_wp2_with (go_at_call 30; refine Stop.out ?_)
    refine Stop.go (samePlan_c N.offs.length N.clss.length (nextF' N fr till) (daysP N fr till) fr till P.np (some ⟨g1, 0, none⟩) P.dp (some ⟨g2, 0, none⟩) P.nc N.offs.length P.dc N.clss.length w12 _ HA12.out.m HA12.out.qm HA12.out.mc HA12.out.qc (by have := Hsn.out.noff; omega) (by have := Hsn.out.ncls; omega) ?_)
    intro w13 hb
    have HA13 := hide (HA12.out.next hb)
    clear hb HA12 z0 z1 z2 z3 x0 x1 x2 x3
    have z3 := HA13.out.kp.cell (k := 3) (v := .slice P.dp N.clss.length P.dc) rfl
    have x3 := HA13.out.kq.cell (k := 3) (v := .slice (some ⟨g2, 0, none⟩) N.clss.length N.clss.length) rfl
    go_wp2_with (go_at_call 31; refine Stop.out ?_)
    refine Stop.go (sameTable_c N.clss.length N.offs.length (daysP N fr till) P.dp (some ⟨g2, 0, none⟩) P.dc N.clss.length w13 _ HA13.out.mc HA13.out.qc (by have := Hsn.out.noff; omega) (by have := Hsn.out.ncls; omega) (fun md => ?_))
    have HA14 := hide (HA13.out.next (below_drewN' (Below.refl _ _) md))
    clear HA13 z3 x3
    generalize w13.drewN md = w14 at *
    have z0 := HA14.out.c.b.cell (k := 0) (v := .slice p L cap) rfl; have z1 := HA14.out.c.b.cell (k := 1) (v := .int .i64 (sN : Int)) rfl
    go_wp2
    refine cp5 X p L cap (g4 + 1) (sN : Int) HL.out hd3 z0 z1 HA14.out.c.i ?_
    intro v84 v85 v86 v87 v88 v89 v90 w15 gx qx cx hb hkx hgx hownx hnex
    obtain ⟨gq, c', hv, hgq, _⟩ := own_form hownx (by omega)
    injection hv with e1 e2 e3
    subst e1; subst e3
    have hcx : L ≤ cx := own_cap hownx
    have HA15 := hide (HA14.out.next hb)
    have hneg : gx ≠ gq := fun e => hnex (by rw [e]; rfl)
    have Hkx := hide hkx; have Hox := hide hownx; have Hgq := hide hgq; have Hgx := hide hgx; have Hcx := hide hcx; have Hneg := hide hneg; have HB15 := hide hb
    clear hb hkx hownx hcx hneg hnex z0 z1 hgq hgx
    have z0 := HA15.out.c.b.cell (k := 0) (v := .slice p L cap) rfl
    obtain ⟨k, hk⟩ : ∃ k, at_ % (L + 1) = k := ⟨_, rfl⟩
    have hkl : k ≤ L := by have := Nat.mod_lt at_ (show 0 < L + 1 by omega); omega
    have e1 : (at_ : Int) % ((L : Int) + 1) = (k : Int) := by rw [← hk]; simp
    clear hk
    rcases Nat.lt_or_ge k L with hlt | hge
    · have t1 : ((k : Int) == (L : Int)) = false := by simp; omega
      obtain ⟨xk, hxk⟩ : ∃ xk, X[k]? = some xk := ⟨_, List.getElem?_eq_getElem (by rw [HL.out]; exact hlt)⟩
      have x0 := Hkx.out.cell (k := 0) (v := .slice (some ⟨gq, 0, none⟩) L cx) rfl
      have x1 := Hox.out.cells (g := gq) rfl k (.int .i64 xk) (by rw [List.getElem?_map, hxk]; rfl)
      rw [Addr.add_lit, Nat.zero_add] at x1
      have f1 := Hox.out.frozenAt k
      have hS := (Hox.out.stored k (.int .i64 (other : Int))).1
      rw [← List.map_set] at hS
      obtain ⟨w16, hw16⟩ : ∃ w16, w15.setCell ⟨gq, k, none⟩ (.int .i64 (other : Int)) = w16 := ⟨_, rfl⟩
      rw [hw16] at hS
      have hb16 : Below w14.heap.size w14 w16 := hw16 ▸ HB15.out.setCell (p := ⟨gq, k, none⟩) Hgq.out _
      have hk16 : Blk w16 gx #[.slice (some ⟨gq, 0, none⟩) L cx, .int .i64 (sN : Int)] 42 := hw16 ▸ Hkx.out.far (p := ⟨gq, k, none⟩) Hneg.out _
      have HA16 := hide (HA14.out.next hb16)
      have HE16 : Hid (CrA (X.set k (other : Int)) L (sN : Int) gx (some ⟨gq, 0, none⟩) cx w16) := hide ⟨hk16, IntsAt.of_own (l := X.set k (other : Int)) hS⟩
      have HYs : Hid (X.set k (other : Int) = intsN (xs.set k other)) := hide (by rw [HXs.out]; unfold intsN; rw [List.map_set])
      have HYl : Hid ((xs.set k other).length = L) := hide (by rw [List.length_set]; exact Hxl.out)
      have HYr : Hid (∀ y ∈ sN :: xs.set k other, y ≤ 99999) := hide (fun y hy => by
        rcases List.mem_cons.1 hy with rfl | hy
        · omega
        · rcases List.mem_or_eq_of_mem_set hy with h | rfl
          · have := HXr.out y h; omega
          · omega)
      have HSe : Hid (¬ ((sN : Int) = (sN : Int) ∧ X.set k (other : Int) = X) → sealedB (X.set k (other : Int)) (sN : Int) = false) := hide (fun hn => by
        rw [← HsN.out]
        exact tamper HSm.out (by rw [HL.out]; exact hlt) (by omega) (fun e => hn ⟨rfl, e⟩))
      have q1 : (0 : Int) ≤ (k : Int) := by omega
      have q2 : (k : Int) < (L : Int) := by omega
      have z4 := HE16.out.b.cell (k := 0) (v := .slice (some ⟨gq, 0, none⟩) L cx) rfl; have z5 := HE16.out.b.cell (k := 1) (v := .int .i64 (sN : Int)) rfl
      clear hxk hS hb16 hk16 HA14 HA15 Hox Hkx
      generalize X.set k (other : Int) = Y at *
      generalize xs.set k other = ys at *
      go_wp2_with (go_at_call 26; refine Stop.out ?_)
      clear hw16 x0 x1 f1 z0 z4 z5 t1
      have hcall := text_c ys (some ⟨gq, 0, none⟩) cx sN w16
      rw [HYl.out, show intsN ys = Y from HYs.out.symm] at hcall
      refine Stop.go (hcall _ HE16.out.i HYr.out (by omega) (HP.out.next HA16.out.i.below) ?_)
      intro w17 hb
      have HA17 := hide (HA16.out.next hb); have HE17 := hide (HE16.out.next hb)
      clear hb hcall HA16 HE16
      go_wp2_with (go_at_call 25; refine Stop.out ?_)
      have hcall := parse_c ys sN m w17
      rw [HYl.out, show intsN ys = Y from HYs.out.symm] at hcall
      refine Stop.go (hcall _ (cell_later HA17.out.i.below HM.out) HYr.out (by omega) (by omega) ?_)
      intro q18 c18 w18 hb hi18 hc18
      obtain ⟨w19, hw19⟩ : ∃ w19, w18.alloc (.cells #[.slice q18 L c18, .int .i64 (sN : Int)] 42) = w19 := ⟨_, rfl⟩
      have hb19 : Below w18.heap.size w18 w19 := hw19 ▸ balloc (Below.refl _ _) _
      have hbb : Below w17.heap.size w17 w19 := bseq hb hb19
      have HA19 := hide (HA17.out.next hbb); have HE19 := hide (HE17.out.next hbb)
      have HF19 : Hid (CrA Y L (sN : Int) w18.heap.size q18 c18 w19) := hide ⟨hw19 ▸ Blk.new _ _ _, hi18.keep (Keeps.of_below hb19)⟩
      clear hb hi18 hc18 hb19 hbb hcall HA17 HE17
      have z4 := HE19.out.b.cell (k := 0) (v := .slice (some ⟨gq, 0, none⟩) L cx) rfl; have z5 := HE19.out.b.cell (k := 1) (v := .int .i64 (sN : Int)) rfl
      have u4 := HF19.out.b.cell (k := 0) (v := .slice q18 L c18) rfl; have u5 := HF19.out.b.cell (k := 1) (v := .int .i64 (sN : Int)) rfl
      go_wp2_with (go_at_call 28; refine Stop.out ?_)
      clear hw19
      generalize w18.heap.size = g18 at *
      have HYL : Hid (Y.length = L) := hide (by rw [HYs.out, intsN_len]; exact HYl.out)
      have hcall := same_c Y Y (some ⟨gq, 0, none⟩) q18 cx c18 (sN : Int) (sN : Int) w19
      rw [HYL.out] at hcall
      refine Stop.go (hcall _ HE19.out.i HF19.out.i (by omega) (by omega) ?_)
      intro w20 hb
      rw [show decide ((sN : Int) = (sN : Int) ∧ Y = Y) = true by simp]
      have HA20 := hide (HA19.out.next hb); have HE20 := hide (HE19.out.next hb); have HF20 := hide (HF19.out.next hb)
      clear hb hcall HA19 HE19 HF19 z4 z5 u4 u5
      have z4 := HE20.out.b.cell (k := 0) (v := .slice (some ⟨gq, 0, none⟩) L cx) rfl; have z5 := HE20.out.b.cell (k := 1) (v := .int .i64 (sN : Int)) rfl
      have z0 := HA20.out.c.b.cell (k := 0) (v := .slice p L cap) rfl; have z1 := HA20.out.c.b.cell (k := 1) (v := .int .i64 (sN : Int)) rfl
      go_wp2_with (go_at_call 28; refine Stop.out ?_)
      have hcall := same_c Y X (some ⟨gq, 0, none⟩) p cx cap (sN : Int) (sN : Int) w20
      rw [HYL.out] at hcall
      try rw [HL.out] at hcall
      refine Stop.go (hcall _ HE20.out.i HA20.out.c.i (by omega) (by omega) ?_)
      intro w21 hb
      have HA21 := hide (HA20.out.next hb); have HF21 := hide (HF20.out.next hb)
      clear hb hcall HA20 HE20 HF20 z4 z5 z0 z1
      by_cases hsame : ((sN : Int) = (sN : Int) ∧ Y = X)
      · rw [show decide ((sN : Int) = (sN : Int) ∧ Y = X) = true from decide_eq_true hsame]
        have HF := hide (HR.out w21 HA21.out.i.below)
        clear hsame
        go_wp2
        exact HF.out
      · rw [show decide ((sN : Int) = (sN : Int) ∧ Y = X) = false from decide_eq_false hsame]
        have hsl := HSe.out (by simpa using hsame)
        have Hsl := hide hsl
        obtain ⟨y0, y1, y2, y3, y4, y5⟩ := HA21.out.i.n.net6
        have u4 := HF21.out.b.cell (k := 0) (v := .slice q18 L c18) rfl; have u5 := HF21.out.b.cell (k := 1) (v := .int .i64 (sN : Int)) rfl
        clear hsame hsl
        go_wp2_with (go_at_call 29; refine Stop.out ?_)
        have hcall := icheck_seal N Y q18 c18 (sN : Int) w21
        rw [HYL.out] at hcall
        unfold Net.cells at hcall
        refine Stop.go (hcall _ HF21.out.i (by omega) Hsl.out ?_)
        intro w22 hb
        have HF := hide (HR.out w22 (bseq HA21.out.i.below hb))
        clear hb hcall y0 y1 y2 y3 y4 y5 u4 u5
        go_wp2
        exact HF.out
    · obtain rfl : k = L := by omega
      have t1 : ((k : Int) == (k : Int)) = true := by simp
      have x1 := Hkx.out.cell (k := 1) (v := .int .i64 (sN : Int)) rfl
      have f1 := Hkx.out.free 1
      obtain ⟨w16, hw16⟩ : ∃ w16, w15.setCell ⟨gx, 1, none⟩ (.int .i64 (other : Int)) = w16 := ⟨_, rfl⟩
      have hb16 : Below w14.heap.size w14 w16 := hw16 ▸ HB15.out.setCell (p := ⟨gx, 1, none⟩) Hgx.out _
      have hk16 : Blk w16 gx #[.slice (some ⟨gq, 0, none⟩) k cx, .int .i64 (other : Int)] 42 := by rw [← hw16]; exact Hkx.out.set 1 (.int .i64 (other : Int))
      have hi16 : IntsAt .i64 w16 (some ⟨gq, 0, none⟩) X := IntsAt.of_own (l := X) (by rw [← hw16]; exact ownsRow_setCell_other Hox.out (a := ⟨gx, 1, none⟩) (fun e => by injection e with e; exact Hneg.out e.symm) (.int .i64 (other : Int)))
      have HA16 := hide (HA14.out.next hb16)
      have HE16 : Hid (CrA X k (other : Int) gx (some ⟨gq, 0, none⟩) cx w16) := hide ⟨hk16, hi16⟩
      have HYs : Hid (X = intsN xs) := hide HXs.out
      have HYl := Hxl
      have HYr : Hid (∀ y ∈ other :: xs, y ≤ 99999) := hide (fun y hy => by
        rcases List.mem_cons.1 hy with rfl | hy
        · omega
        · have := HXr.out y hy; omega)
      have HSe : Hid (¬ ((other : Int) = (sN : Int) ∧ X = X) → sealedB X (other : Int) = false) := hide (fun hn => by
        rw [sealed_of HSm.out, HsN.out]
        exact decide_eq_false (fun e => hn ⟨e, rfl⟩))
      have z4 := HE16.out.b.cell (k := 0) (v := .slice (some ⟨gq, 0, none⟩) k cx) rfl; have z5 := HE16.out.b.cell (k := 1) (v := .int .i64 (other : Int)) rfl
      clear hb16 hk16 hi16 HA14 HA15 Hox Hkx
      go_wp2_with (go_at_call 26; refine Stop.out ?_)
      clear hw16 x1 f1 z0 z4 z5 t1
      have hcall := text_c xs (some ⟨gq, 0, none⟩) cx other w16
      rw [HYl.out, show intsN xs = X from HYs.out.symm] at hcall
      refine Stop.go (hcall _ HE16.out.i HYr.out (by omega) (HP.out.next HA16.out.i.below) ?_)
      intro w17 hb
      have HA17 := hide (HA16.out.next hb); have HE17 := hide (HE16.out.next hb)
      clear hb hcall HA16 HE16
      go_wp2_with (go_at_call 25; refine Stop.out ?_)
      have hcall := parse_c xs other m w17
      rw [HYl.out, show intsN xs = X from HYs.out.symm] at hcall
      refine Stop.go (hcall _ (cell_later HA17.out.i.below HM.out) HYr.out (by omega) (by omega) ?_)
      intro q18 c18 w18 hb hi18 hc18
      obtain ⟨w19, hw19⟩ : ∃ w19, w18.alloc (.cells #[.slice q18 k c18, .int .i64 (other : Int)] 42) = w19 := ⟨_, rfl⟩
      have hb19 : Below w18.heap.size w18 w19 := hw19 ▸ balloc (Below.refl _ _) _
      have hbb : Below w17.heap.size w17 w19 := bseq hb hb19
      have HA19 := hide (HA17.out.next hbb); have HE19 := hide (HE17.out.next hbb)
      have HF19 : Hid (CrA X k (other : Int) w18.heap.size q18 c18 w19) := hide ⟨hw19 ▸ Blk.new _ _ _, hi18.keep (Keeps.of_below hb19)⟩
      clear hb hi18 hc18 hb19 hbb hcall HA17 HE17
      have z4 := HE19.out.b.cell (k := 0) (v := .slice (some ⟨gq, 0, none⟩) k cx) rfl; have z5 := HE19.out.b.cell (k := 1) (v := .int .i64 (other : Int)) rfl
      have u4 := HF19.out.b.cell (k := 0) (v := .slice q18 k c18) rfl; have u5 := HF19.out.b.cell (k := 1) (v := .int .i64 (other : Int)) rfl
      go_wp2_with (go_at_call 28; refine Stop.out ?_)
      clear hw19
      generalize w18.heap.size = g18 at *
      have HYL : Hid (X.length = k) := hide (by rw [HYs.out, intsN_len]; exact HYl.out)
      have hcall := same_c X X (some ⟨gq, 0, none⟩) q18 cx c18 (other : Int) (other : Int) w19
      rw [HYL.out] at hcall
      refine Stop.go (hcall _ HE19.out.i HF19.out.i (by omega) (by omega) ?_)
      intro w20 hb
      rw [show decide ((other : Int) = (other : Int) ∧ X = X) = true by simp]
      have HA20 := hide (HA19.out.next hb); have HE20 := hide (HE19.out.next hb); have HF20 := hide (HF19.out.next hb)
      clear hb hcall HA19 HE19 HF19 z4 z5 u4 u5
      have z4 := HE20.out.b.cell (k := 0) (v := .slice (some ⟨gq, 0, none⟩) k cx) rfl; have z5 := HE20.out.b.cell (k := 1) (v := .int .i64 (other : Int)) rfl
      have z0 := HA20.out.c.b.cell (k := 0) (v := .slice p k cap) rfl; have z1 := HA20.out.c.b.cell (k := 1) (v := .int .i64 (sN : Int)) rfl
      go_wp2_with (go_at_call 28; refine Stop.out ?_)
      have hcall := same_c X X (some ⟨gq, 0, none⟩) p cx cap (other : Int) (sN : Int) w20
      rw [HYL.out] at hcall
      try rw [HL.out] at hcall
      refine Stop.go (hcall _ HE20.out.i HA20.out.c.i (by omega) (by omega) ?_)
      intro w21 hb
      have HA21 := hide (HA20.out.next hb); have HF21 := hide (HF20.out.next hb)
      clear hb hcall HA20 HE20 HF20 z4 z5 z0 z1
      by_cases hsame : ((other : Int) = (sN : Int) ∧ X = X)
      · rw [show decide ((other : Int) = (sN : Int) ∧ X = X) = true from decide_eq_true hsame]
        have HF := hide (HR.out w21 HA21.out.i.below)
        clear hsame
        go_wp2
        exact HF.out
      · rw [show decide ((other : Int) = (sN : Int) ∧ X = X) = false from decide_eq_false hsame]
        have hsl := HSe.out (by simpa using hsame)
        have Hsl := hide hsl
        obtain ⟨y0, y1, y2, y3, y4, y5⟩ := HA21.out.i.n.net6
        have u4 := HF21.out.b.cell (k := 0) (v := .slice q18 k c18) rfl; have u5 := HF21.out.b.cell (k := 1) (v := .int .i64 (other : Int)) rfl
        clear hsame hsl
        go_wp2_with (go_at_call 29; refine Stop.out ?_)
        have hcall := icheck_seal N X q18 c18 (other : Int) w21
        rw [HYL.out] at hcall
        unfold Net.cells at hcall
        refine Stop.go (hcall _ HF21.out.i (by omega) Hsl.out ?_)
        intro w22 hb
        have HF := hide (HR.out w22 (bseq HA21.out.i.below hb))
        clear hb hcall y0 y1 y2 y3 y4 y5 u4 u5
        go_wp2
        exact HF.out
end Go.Proofs.YtgfhcmidnbahjaaGreatDoor
namespace Go.Proofs.YtgfhcmidnbahjaaGreatDoor
open Go.ChangeShapes Go.WideShapes Go.ChangeAt Go.RowKit Go.Deep
section
variable {H : Type} {enc : TypeId × Value → H} {P : Program}
theorem trodAll_below {W W' : World} (hl : laidOutB P = true) (hb : Below W.heap.size W W') : ∀ (ts : List TypeId) (vs : List Value) (ds : List (DataW H)) (ps : List MemPlace),
    (ts.all fun t => P.readableRec t && decide (t < P.types.size)) = true → DataW.TrodAll enc P W 0 (fun _ => true) true ts vs ds ps →
    DataW.TrodAll enc P W' 0 (fun b => decide (b < W.heap.size)) true ts vs ds ps
  | [], vs, ds, ps, _, h => by obtain ⟨rfl, rfl, rfl⟩ := trodAll_nil h; exact trodAll_mk0
  | t :: ts, vs, ds, ps, hr, h => by
    simp only [List.all_cons, Bool.and_eq_true, decide_eq_true_eq] at hr
    obtain ⟨v, vs, d, ds, p, q, rfl, rfl, rfl, h0, h1⟩ := trodAll_cons h
    have lt : ∀ x ∈ p, x.block < W.heap.size := by obtain ⟨m, hm⟩ := h0; exact DataW.trod_lt m _ _ _ hm
    exact trodAll_cons_mk (Below.trod hl hr.1.1 hr.1.2 h0 hb lt) (trodAll_below hl hb ts vs ds q hr.2 h1)
theorem law_post {f : Func} {s : ChangeSpec} {W W' : World} {args : Array Value} {ds : List (DataW H)} {before p : List MemPlace} {tb : TypeId} (hl : laidOutB P = true) (hb : Below W.heap.size W W')
    (hvars : s.vars = []) (hW : DataW.Whole enc P f.params.toList s.vars false W args.toList ds [] before) (hA : DataW.TrodAll enc P W 0 (fun _ => true) true f.params.toList args.toList ds p)
    (hread : (f.params.toList.all fun t => P.readableRec t && decide (t < P.types.size)) = true) (hres : f.resultTypes = #[tb]) (htb : P.underlying tb = some .bool)
    (hs : (s.fn H ds).results = [.lit (.bool true)]) (ha : (s.fn H ds).args = ds) (hv : (s.fn H ds).vars = []) :
    s.post enc P f false true false false W args (.bool true) W' := by
  refine ⟨ds, [], before, [], p, [], hW, ?_, ?_, ?_, hb.frame _, fun h => by cases h⟩
  · rw [List.append_nil, hs, hres]; exact trodAll_mk1 (shut_bool htb _)
  · rw [List.append_nil, ha]; exact trodAll_below hl hb _ _ _ _ hread hA
  · rw [List.append_nil, hv, hvars]; exact rfl
where
  getD_at {l : List Int} {k : Nat} {x : Int} (h : l[k]? = some x) : l.getD k 0 = x := by rw [List.getD_eq_getElem?_getD, h]; rfl
end
theorem Tryz.own : ownKnob Tryz.prog.godebug = none := by kernel_rfl
theorem Tryz.laidOut : laidOutB Tryz.prog = true := by kernel_rfl
end Go.Proofs.YtgfhcmidnbahjaaGreatDoor
