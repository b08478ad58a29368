/- Top: a network with one line changed, walked. Bounds of the stops of a way that was carried over (plain). -/
import Derived.Test.YtgfhcmidnbahjaaGreatDoorZ41
import Derived.Test.YtgfhcmidnbahjaaGreatDoorZ35
set_option linter.unusedVariables false
set_option linter.unusedSimpArgs false
namespace Go.Proofs.YtgfhcmidnbahjaaGreatDoor
open Go.RowKit Go.Shelf
attribute [local go_sem] Oper.semAt_some run_store_func

theorem lin_take (l : List Lin) (i : Nat) : (l.flatMap Lin.cells).take (i * 6) = (l.take i).flatMap Lin.cells := by
  induction l generalizing i with
  | nil => simp
  | cons x l ih =>
    cases i with
    | zero => simp
    | succ i =>
      rw [List.flatMap_cons, List.take_succ_cons, List.flatMap_cons, List.take_append, lin_len, List.take_of_length_le (by rw [lin_len]; omega), show (i + 1) * 6 - 6 = i * 6 by omega, ih i]
theorem lin_drop (l : List Lin) (i : Nat) : (l.flatMap Lin.cells).drop (i * 6) = (l.drop i).flatMap Lin.cells := by
  induction l generalizing i with
  | nil => simp
  | cons x l ih =>
    cases i with
    | zero => simp
    | succ i =>
      rw [List.flatMap_cons, List.drop_succ_cons, List.drop_append, lin_len, List.drop_of_length_le (by rw [lin_len]; omega), show (i + 1) * 6 - 6 = i * 6 by omega, ih i, List.nil_append]
theorem src_drop {w : World} {base g cap i : Nat} {l : List Lin} {p' : Option Addr} (h : w.ownsRow base 55 6 (.slice (some ⟨g, 0, none⟩) l.length cap) l.length (l.flatMap Lin.cells)) (hp : 0 < l.length - i → p' = some ⟨g, i * 6, none⟩) : Src w.drew p' (l.length - i) 6 ((l.drop i).flatMap Lin.cells) := by
  refine ⟨by rw [flatMap_len lin_len, List.length_drop], fun h0 => ⟨_, hp h0, fun j u hu => ?_⟩⟩
  rw [← lin_drop, List.getElem?_drop] at hu
  have h1 := h.cells (g := g) rfl _ _ hu
  rw [Addr.add_lit, Nat.zero_add] at h1
  rw [Addr.add_lit]
  exact h1
theorem own_any {w : World} {base n size : Nat} {e : TypeId} {v : Value} {xs : List Value} (h : w.ownsRow base e size v n xs) : ∃ p c, v = .slice p n c := by
  rcases h.2 with ⟨hv, h0⟩ | ⟨g, cap, cur, hv, _⟩
  · exact ⟨none, 0, by rw [hv, h0]⟩
  · exact ⟨_, cap, hv⟩
theorem lins_set {l : List Lin} (h : ∀ x ∈ l, LinR x) {i : Nat} {y : Lin} (hy : LinR y) : ∀ x ∈ l.set i y, LinR x := fun x hx => by
  rcases List.mem_or_eq_of_mem_set hx with hx | rfl
  · exact h x hx
  · exact hy
theorem lin_getD {l : List Lin} (h : ∀ x ∈ l, LinR x) {i : Nat} (hi : i < l.length) : LinR (l.getD i default) := by
  obtain ⟨x, hx⟩ : ∃ x, l[i]? = some x := ⟨_, List.getElem?_eq_getElem hi⟩
  rw [getD_some hx]; exact h x (List.mem_of_getElem? hx)
set_option maxRecDepth 100000 in
set_option maxHeartbeats 2000000 in
theorem topChanged_c (N : Net) (kind line by_ : Nat) (w : World) (R) (hN : NetAt w N) (h1 : kind ≤ 255) (h2 : line ≤ 255) (h3 : by_ ≤ 65535) (hlen : N.lins.length * 56 ≤ 140737488355328)
    (hR : ∀ w' M, M.fp = N.fp → M.offs = N.offs → NetAt w' M → Below w.heap.size w w' → R (.returned (.agg M.cells)) w') :
    Calls Tryz.prog 7 #[.agg N.cells, .int .u8 (kind : Int), .int .u8 (line : Int), .int .u16 (by_ : Int)] w R := by
  have HR := hide hR; have HN := hide hN; have Hlen := hide hlen
  obtain ⟨w1, hw1⟩ : ∃ w1, (w.alloc (.cells N.cells 29)).alloc (.cells #[.slice none 0 0, .slice none 0 0, .slice none 0 0, .slice none 0 0, .slice none 0 0, .slice none 0 0] 29) = w1 := ⟨_, rfl⟩
  have hb1 : Below w.heap.size w w1 := hw1 ▸ balloc (balloc (Below.refl _ _) _) _
  have k1 : Blk w1 w.heap.size N.cells 29 := by rw [← hw1]; exact Blk.alloc (Blk.new _ _ _) _
  have k2 : Blk w1 (w.heap.size + 1) #[.slice none 0 0, .slice none 0 0, .slice none 0 0, .slice none 0 0, .slice none 0 0, .slice none 0 0] 29 := by rw [← hw1]; exact Blk.new_at (by simp)
  have HB := hide hb1; have HK := hide k1; have HK2 := hide k2
  obtain ⟨y0, y1, y2, y3, y4, y5⟩ := k1.net6
  unfold Net.cells at hw1 ⊢
  clear hR hN hb1 k1
  go_enter Tryz.func7, Tryz.ntmps7
  by_cases h0 : N.lins.length = 0
  · have rb : ((N.lins.length : Int) == 0) = true := by rw [h0]; rfl
    clear h0 hlen
    have HBl := hide (lay6_below (x0 := .slice N.cp N.cals.length N.cc) (x1 := .slice N.np N.names.length N.nc) (x2 := .slice N.op N.oprs.length N.oc) (x3 := .slice N.fp N.offs.length N.fc) (x4 := .slice N.lp N.lins.length N.lc) (x5 := .slice N.kp N.clss.length N.kc) (B := w.heap.size + 1) HB.out (by omega))
    have Hbk := hide (lay6_blk (x0 := .slice N.cp N.cals.length N.cc) (x1 := .slice N.np N.names.length N.nc) (x2 := .slice N.op N.oprs.length N.oc) (x3 := .slice N.fp N.offs.length N.fc) (x4 := .slice N.lp N.lins.length N.lc) (x5 := .slice N.kp N.clss.length N.kc) k2)
    have a0 := k2.cell (k := 0) (v := .slice none 0 0) rfl; have a1 := k2.cell (k := 1) (v := .slice none 0 0) rfl; have a2 := k2.cell (k := 2) (v := .slice none 0 0) rfl; have a3 := k2.cell (k := 3) (v := .slice none 0 0) rfl; have a4 := k2.cell (k := 4) (v := .slice none 0 0) rfl; have a5 := k2.cell (k := 5) (v := .slice none 0 0) rfl
    have g0 := k2.free 0; have g1 := k2.free 1; have g2 := k2.free 2; have g3 := k2.free 3; have g4 := k2.free 4; have g5 := k2.free 5
    clear k2
    go_wp2
    have hrb := Hbk.out
    have hbl := HBl.out
    refine bodyPost_ret (v := .agg N.cells) ?_ rfl ?_
    rotate_left
    · exact HR.out _ N rfl rfl (HN.out.next hbl) hbl
    have z0 := hrb.cell (k := 0) (v := .slice N.cp N.cals.length N.cc) rfl; have z1 := hrb.cell (k := 1) (v := .slice N.np N.names.length N.nc) rfl; have z2 := hrb.cell (k := 2) (v := .slice N.op N.oprs.length N.oc) rfl; have z3 := hrb.cell (k := 3) (v := .slice N.fp N.offs.length N.fc) rfl; have z4 := hrb.cell (k := 4) (v := .slice N.lp N.lins.length N.lc) rfl; have z5 := hrb.cell (k := 5) (v := .slice N.kp N.clss.length N.kc) rfl
    rw [results_cell1 (p := 8) (ty := 29) Tryz.results7]
    clear hrb hbl a0 a1 a2 a3 a4 a5 g0 g1 g2 g3 g4 g5 y0 y1 y2 y3 y4 y5 hw1
    unfold lay6 at z0 z1 z2 z3 z4 z5
    simp [go_sem, z0, z1, z2, z3, z4, z5, Net.cells]
  · have r1 : ¬ ((N.lins.length : Int) = 0) := by omega
    have r2 : (N.lins.length : Int) ≠ 0 := by omega
    have z4 : (w1.alloc (.cells #[] 55)).cell? ⟨w.heap.size, 4, none⟩ = some (.slice N.lp N.lins.length N.lc) := cell_later (balloc (Below.refl _ _) _) y4
    have e1 : (line : Int) % (N.lins.length : Int) = ((line % N.lins.length : Nat) : Int) := by simp
    obtain ⟨i0, hi0, hz0, hz1, hz2⟩ := info_parts infoLine
    have hsrc := src_enc (k := 6) (enc := Lin.cells) (fun _ => rfl) (by decide) ((HN.out.next HB.out).lins)
    have HSr := hide hsrc
    have Hi := hide (And.intro hi0 (And.intro hz0 (And.intro hz1 hz2)))
    clear hsrc hi0 hz0 hz1 hz2
    go_wp2_with (at_builtin; refine Stop.out ?_)
    obtain ⟨hi0, hz0, hz1, hz2⟩ := Hi.out
    refine Stop.go ?_
    refine wpList_app _ rfl (.tmp 22) (.tmp 24) 26 rfl w1.heap.size 55 i0 _ 6 56 Tryz.underlying26 hi0 hz0 hz1 hz2 rfl (by omega) _ 0 [] rfl (World.ownsRow_lit _ #[] 0 (Nat.le_refl _) (by decide) rfl) N.lp N.lins.length N.lc (N.lins.flatMap Lin.cells) rfl (HSr.out.keep (Keeps.alloc _ _)) (lins_one _) (by unfold maxLen; omega) (by omega) (by simp) ?_
    intro v1 w2 hown hg
    have hg2 : (w1.alloc (.cells #[] 55)).grownBy w2 (some w1.heap.size) := hg
    have hb := ((Below.refl w1.heap.size w1).alloc (Nat.le_refl _) (.cells #[] 55)).grown hg2 (by simp) (fun k hk => by injection hk with hk; omega)
    rw [Nat.zero_add, List.nil_append] at hown
    obtain ⟨g, cap, hv, hg9, _⟩ := own_form hown (by omega)
    subst hv
    have HB2 := hide (bseq HB.out hb); have HK3 := hide (HK.out.next hb); have HK4 := hide (HK2.out.next hb); have HO := hide hown
    have hix : line % N.lins.length < N.lins.length := Nat.mod_lt _ (by omega)
    rw [e1]
    have hgw : w.heap.size + 1 < g := by have := HK2.out.lt; omega
    have hcapl : N.lins.length ≤ cap := own_cap hown
    clear hg hg2 hb hi0 hz0 hz1 hz2 hown e1 z4 hw1 y0 y1 y2 y3 y4 y5 r1 hg9
    generalize line % N.lins.length = ix at *
    have q1 : (0 : Int) ≤ (ix : Int) := by omega
    have q2 : (ix : Int) < (N.lins.length : Int) := by omega
    have Hix := hide hix
    have Hgw := hide hgw
    have q3 : (ix : Int) ≤ (cap : Int) := by omega
    have q4 : (N.lins.length : Int) ≤ (cap : Int) := by omega
    clear hix hgw hcapl
    rcases (show kind % 3 = 0 ∨ kind % 3 = 1 ∨ kind % 3 = 2 by omega) with hk | hk | hk
    · have e2 : (kind : Int) % 3 = 0 := by omega
      obtain ⟨z, hz⟩ : ∃ z, (N.lins.flatMap Lin.cells)[ix * 6 + 3]? = some z := ⟨_, List.getElem?_eq_getElem (by rw [flatMap_len lin_len]; have := Hix.out; omega)⟩
      have c9 := HO.out.cells (g := g) rfl _ _ hz
      have f9 := HO.out.frozenAt (ix * 6 + 3)
      rw [Addr.add_lit, Nat.zero_add] at c9
      have hS := (HO.out.stored (ix * 6 + 3) (.int .i64 ((by_ : Int) % 1440))).1
      rw [lin_set N.lins ix 3 Hix.out _ { N.lins.getD ix default with at_ := (by_ : Int) % 1440 } rfl (by omega)] at hS
      have hg9 : LinR (N.lins.getD ix default) := lin_getD HN.out.lin Hix.out
      obtain ⟨L, hL⟩ : ∃ L, N.lins.set ix { N.lins.getD ix default with at_ := (by_ : Int) % 1440 } = L := ⟨_, rfl⟩
      have hll : L.length = N.lins.length := by rw [← hL]; exact List.length_set ..
      have hLR : ∀ x ∈ L, LinR x := by rw [← hL]; exact lins_set HN.out.lin ⟨hg9.1, hg9.2.1, hg9.2.2.1, (by unfold I64; omega : I64 ((by_ : Int) % 1440)), hg9.2.2.2.2.1, hg9.2.2.2.2.2⟩
      rw [hL, ← hll] at hS
      have hE : ChE w N (some ⟨g, 0, none⟩) cap L w1.heap.size (w2.setCell ⟨g, ix * 6 + 3, none⟩ (.int .i64 ((by_ : Int) % 1440))) :=
        ⟨HB2.out.setCell (p := ⟨g, ix * 6 + 3, none⟩) (show w.heap.size ≤ g by have := Hgw.out; omega) _, HK3.out.far (p := ⟨g, ix * 6 + 3, none⟩) (show w.heap.size ≠ g by have := Hgw.out; omega) _, HK4.out.far (p := ⟨g, ix * 6 + 3, none⟩) (show w.heap.size + 1 ≠ g by have := Hgw.out; omega) _, hS, hLR, HK2.out.lt, by rw [hll]; exact HN.out.len.2.2.1⟩
      have hbox := hE.box2; have hres := hE.res2
      have HE := hide hE
      rw [hll] at hbox hres
      have Hll := hide hll
      clear hz hS hg9 hL hLR hll
      have c4 := hE.box.cell (k := 4) (v := .slice N.lp N.lins.length N.lc) rfl
      have f4 := hE.box.free 4
      have b0 := hbox.cell (k := 0) (v := .slice N.cp N.cals.length N.cc) rfl; have b1 := hbox.cell (k := 1) (v := .slice N.np N.names.length N.nc) rfl; have b2 := hbox.cell (k := 2) (v := .slice N.op N.oprs.length N.oc) rfl; have b3 := hbox.cell (k := 3) (v := .slice N.fp N.offs.length N.fc) rfl; have b4 := hbox.cell (k := 4) (v := .slice (some ⟨g, 0, none⟩) L.length cap) rfl; have b5 := hbox.cell (k := 5) (v := .slice N.kp N.clss.length N.kc) rfl
      rw [Hll.out] at b4
      have a0 := hres.cell (k := 0) (v := .slice none 0 0) rfl; have a1 := hres.cell (k := 1) (v := .slice none 0 0) rfl; have a2 := hres.cell (k := 2) (v := .slice none 0 0) rfl; have a3 := hres.cell (k := 3) (v := .slice none 0 0) rfl; have a4 := hres.cell (k := 4) (v := .slice none 0 0) rfl; have a5 := hres.cell (k := 5) (v := .slice none 0 0) rfl
      have g0 := hres.free 0; have g1 := hres.free 1; have g2 := hres.free 2; have g3 := hres.free 3; have g4 := hres.free 4; have g5 := hres.free 5
      clear hbox hres hE
      go_wp2_with fail
      obtain ⟨hfin, hbl, hrb⟩ := HE.out.fin HN.out
      rw [Hll.out] at hfin hbl hrb
      refine bodyPost_ret (v := .agg (withL N (some ⟨g, 0, none⟩) L cap).cells) ?_ rfl ?_
      rotate_left
      · exact HR.out _ _ rfl rfl hfin hbl
      have z0 := hrb.cell (k := 0) (v := .slice N.cp N.cals.length N.cc) rfl; have z1 := hrb.cell (k := 1) (v := .slice N.np N.names.length N.nc) rfl; have z2 := hrb.cell (k := 2) (v := .slice N.op N.oprs.length N.oc) rfl; have z3 := hrb.cell (k := 3) (v := .slice N.fp N.offs.length N.fc) rfl; have z4 := hrb.cell (k := 4) (v := .slice (some ⟨g, 0, none⟩) L.length cap) rfl; have z5 := hrb.cell (k := 5) (v := .slice N.kp N.clss.length N.kc) rfl
      rw [results_cell1 (p := 8) (ty := 29) Tryz.results7]
      clear hfin hbl hrb c4 f4 b0 b1 b2 b3 b4 b5 a0 a1 a2 a3 a4 a5 g0 g1 g2 g3 g4 g5 c9 f9
      unfold lay6 at z0 z1 z2 z3 z4 z5
      simp [go_sem, z0, z1, z2, z3, z4, z5, Net.cells, withL]
    · have e2 : (kind : Int) % 3 = 1 := by omega
      have e3 : IntKind.i64.wrap (1 + (by_ : Int) % 5000) = 1 + (by_ : Int) % 5000 := IntWalk.i64_in _ (by omega)
      obtain ⟨z, hz⟩ : ∃ z, (N.lins.flatMap Lin.cells)[ix * 6 + 4]? = some z := ⟨_, List.getElem?_eq_getElem (by rw [flatMap_len lin_len]; have := Hix.out; omega)⟩
      have c9 := HO.out.cells (g := g) rfl _ _ hz
      have f9 := HO.out.frozenAt (ix * 6 + 4)
      rw [Addr.add_lit, Nat.zero_add] at c9
      have hS := (HO.out.stored (ix * 6 + 4) (.int .i64 (1 + (by_ : Int) % 5000))).1
      rw [lin_set N.lins ix 4 Hix.out _ { N.lins.getD ix default with travel := 1 + (by_ : Int) % 5000 } rfl (by omega)] at hS
      have hg9 : LinR (N.lins.getD ix default) := lin_getD HN.out.lin Hix.out
      obtain ⟨L, hL⟩ : ∃ L, N.lins.set ix { N.lins.getD ix default with travel := 1 + (by_ : Int) % 5000 } = L := ⟨_, rfl⟩
      have hll : L.length = N.lins.length := by rw [← hL]; exact List.length_set ..
      have hLR : ∀ x ∈ L, LinR x := by rw [← hL]; exact lins_set HN.out.lin ⟨hg9.1, hg9.2.1, hg9.2.2.1, hg9.2.2.2.1, (by unfold I64; omega : I64 (1 + (by_ : Int) % 5000)), hg9.2.2.2.2.2⟩
      rw [hL, ← hll] at hS
      have hE : ChE w N (some ⟨g, 0, none⟩) cap L w1.heap.size (w2.setCell ⟨g, ix * 6 + 4, none⟩ (.int .i64 (1 + (by_ : Int) % 5000))) :=
        ⟨HB2.out.setCell (p := ⟨g, ix * 6 + 4, none⟩) (show w.heap.size ≤ g by have := Hgw.out; omega) _, HK3.out.far (p := ⟨g, ix * 6 + 4, none⟩) (show w.heap.size ≠ g by have := Hgw.out; omega) _, HK4.out.far (p := ⟨g, ix * 6 + 4, none⟩) (show w.heap.size + 1 ≠ g by have := Hgw.out; omega) _, hS, hLR, HK2.out.lt, by rw [hll]; exact HN.out.len.2.2.1⟩
      have hbox := hE.box2; have hres := hE.res2
      have HE := hide hE
      rw [hll] at hbox hres
      have Hll := hide hll
      clear hz hS hg9 hL hLR hll
      have c4 := hE.box.cell (k := 4) (v := .slice N.lp N.lins.length N.lc) rfl
      have f4 := hE.box.free 4
      have b0 := hbox.cell (k := 0) (v := .slice N.cp N.cals.length N.cc) rfl; have b1 := hbox.cell (k := 1) (v := .slice N.np N.names.length N.nc) rfl; have b2 := hbox.cell (k := 2) (v := .slice N.op N.oprs.length N.oc) rfl; have b3 := hbox.cell (k := 3) (v := .slice N.fp N.offs.length N.fc) rfl; have b4 := hbox.cell (k := 4) (v := .slice (some ⟨g, 0, none⟩) L.length cap) rfl; have b5 := hbox.cell (k := 5) (v := .slice N.kp N.clss.length N.kc) rfl
      rw [Hll.out] at b4
      have a0 := hres.cell (k := 0) (v := .slice none 0 0) rfl; have a1 := hres.cell (k := 1) (v := .slice none 0 0) rfl; have a2 := hres.cell (k := 2) (v := .slice none 0 0) rfl; have a3 := hres.cell (k := 3) (v := .slice none 0 0) rfl; have a4 := hres.cell (k := 4) (v := .slice none 0 0) rfl; have a5 := hres.cell (k := 5) (v := .slice none 0 0) rfl
      have g0 := hres.free 0; have g1 := hres.free 1; have g2 := hres.free 2; have g3 := hres.free 3; have g4 := hres.free 4; have g5 := hres.free 5
      clear hbox hres hE
      go_wp2_with fail
      obtain ⟨hfin, hbl, hrb⟩ := HE.out.fin HN.out
      rw [Hll.out] at hfin hbl hrb
      refine bodyPost_ret (v := .agg (withL N (some ⟨g, 0, none⟩) L cap).cells) ?_ rfl ?_
      rotate_left
      · exact HR.out _ _ rfl rfl hfin hbl
      have z0 := hrb.cell (k := 0) (v := .slice N.cp N.cals.length N.cc) rfl; have z1 := hrb.cell (k := 1) (v := .slice N.np N.names.length N.nc) rfl; have z2 := hrb.cell (k := 2) (v := .slice N.op N.oprs.length N.oc) rfl; have z3 := hrb.cell (k := 3) (v := .slice N.fp N.offs.length N.fc) rfl; have z4 := hrb.cell (k := 4) (v := .slice (some ⟨g, 0, none⟩) L.length cap) rfl; have z5 := hrb.cell (k := 5) (v := .slice N.kp N.clss.length N.kc) rfl
      rw [results_cell1 (p := 8) (ty := 29) Tryz.results7]
      clear hfin hbl hrb c4 f4 b0 b1 b2 b3 b4 b5 a0 a1 a2 a3 a4 a5 g0 g1 g2 g3 g4 g5 c9 f9
      unfold lay6 at z0 z1 z2 z3 z4 z5
      simp [go_sem, z0, z1, z2, z3, z4, z5, Net.cells, withL]
    · have e2 : (kind : Int) % 3 = 2 := by omega
      go_wp2_with fail
      have e5 : IntKind.i64.wrap ((ix : Int) + 1) = (ix : Int) + 1 := IntWalk.i64_in _ (by have := Hlen.out; omega)
      have q5 : (0 : Int) ≤ (ix : Int) + 1 := by omega
      have q6 : (ix : Int) + 1 ≤ (N.lins.length : Int) := by omega
      have HT : Hid (w2.drew.ownsRow w1.heap.size 55 6 (.slice (some ⟨g, 0, none⟩) ix cap) ix ((N.lins.take ix).flatMap Lin.cells)) := hide (by
        have h := (own_take HO.out (Nat.le_of_lt Hix.out)).drew
        rwa [lin_take N.lins ix] at h)
      have HD : Hid (∀ p', (0 < N.lins.length - (ix + 1) → p' = some ⟨g, (ix + 1) * 6, none⟩) → Src w2.drew p' (N.lins.length - (ix + 1)) 6 ((N.lins.drop (ix + 1)).flatMap Lin.cells)) := hide (fun p' hp' => src_drop HO.out hp')
      go_still_tail 7, (by kernel_rfl)
      by_cases hc : cap = ix + 1
      · subst hc
        go_wp2_with (at_builtin; refine Stop.out ?_)
        obtain ⟨hi0, hz0, hz1, hz2⟩ := Hi.out
        refine Stop.go ?_
        refine wpList_app _ rfl (.tmp 51) (.tmp 55) 26 rfl w1.heap.size 55 i0 _ 6 56 Tryz.underlying26 hi0 hz0 hz1 hz2 rfl (by omega) _ ix _ rfl HT.out _ (N.lins.length - (ix + 1)) _ _ rfl (HD.out _ (fun h => by have := q4; omega)) (lins_one _) (by have := Hlen.out; have := Hix.out; unfold maxLen; omega) (by have := Hlen.out; have := Hix.out; omega) (show w1.heap.size ≤ w2.heap.size by have := HO.out.lt g rfl; omega) ?_
        intro v5 w5 hown5 hg5
        rw [← List.flatMap_append] at hown5
        have hbb := (bseq HB2.out (Below.refl w2.heap.size w2).drew).grown hg5 (bseq HB2.out (Below.refl w2.heap.size w2).drew).size (fun k e => by injection e with e; have e' : g = k := e; have := Hgw.out; omega)
        have hx3 : Blk w5 w.heap.size N.cells 29 := (show Blk w2.drew _ _ _ from HK3.out).grown hg5 (fun e => by injection e with e; have e' : w.heap.size = g := e; have := Hgw.out; omega)
        have hx4 := (show Blk w2.drew _ _ _ from HK4.out).grown hg5 (fun e => by injection e with e; have e' : w.heap.size + 1 = g := e; have := Hgw.out; omega)
        obtain ⟨p5, c5, hv5⟩ := own_any hown5
        subst hv5
        obtain ⟨L, hL⟩ : ∃ L, N.lins.take ix ++ N.lins.drop (ix + 1) = L := ⟨_, rfl⟩
        obtain ⟨n5, hn5⟩ : ∃ n5, ix + (N.lins.length - (ix + 1)) = n5 := ⟨_, rfl⟩
        have hll : L.length = n5 := by rw [← hL, ← hn5, List.length_append, List.length_take, List.length_drop]; have := Hix.out; omega
        have hLR : ∀ x ∈ L, LinR x := by
          rw [← hL]; intro x hx
          rcases List.mem_append.1 hx with hx | hx
          · exact HN.out.lin x (List.mem_of_mem_take hx)
          · exact HN.out.lin x (List.mem_of_mem_drop hx)
        rw [hL, hn5] at hown5
        have hmx : n5 ≤ maxLen := by have h1 := HN.out.len.2.2.1; have := Hix.out; omega
        have hE : ChE w N p5 c5 L w1.heap.size w5 := ⟨hbb, hx3, hx4, by rw [hll]; exact hown5, hLR, HK2.out.lt, by rw [hll]; exact hmx⟩
        have hbox := hE.box2; have hres := hE.res2
        have HE := hide hE
        rw [hll] at hbox hres
        have Hll := hide hll
        rw [hn5]
        clear hown5 hg5 hi0 hz0 hz1 hz2 hbb hx3 hx4 hL hLR hll hmx hn5
        have c4 := hE.box.cell (k := 4) (v := .slice N.lp N.lins.length N.lc) rfl
        have f4 := hE.box.free 4
        have b0 := hbox.cell (k := 0) (v := .slice N.cp N.cals.length N.cc) rfl; have b1 := hbox.cell (k := 1) (v := .slice N.np N.names.length N.nc) rfl; have b2 := hbox.cell (k := 2) (v := .slice N.op N.oprs.length N.oc) rfl; have b3 := hbox.cell (k := 3) (v := .slice N.fp N.offs.length N.fc) rfl; have b4 := hbox.cell (k := 4) (v := .slice p5 L.length c5) rfl; have b5 := hbox.cell (k := 5) (v := .slice N.kp N.clss.length N.kc) rfl
        rw [Hll.out] at b4
        have a0 := hres.cell (k := 0) (v := .slice none 0 0) rfl; have a1 := hres.cell (k := 1) (v := .slice none 0 0) rfl; have a2 := hres.cell (k := 2) (v := .slice none 0 0) rfl; have a3 := hres.cell (k := 3) (v := .slice none 0 0) rfl; have a4 := hres.cell (k := 4) (v := .slice none 0 0) rfl; have a5 := hres.cell (k := 5) (v := .slice none 0 0) rfl
        have g0 := hres.free 0; have g1 := hres.free 1; have g2 := hres.free 2; have g3 := hres.free 3; have g4 := hres.free 4; have g5 := hres.free 5
        clear hbox hres hE
        go_wp2_with fail
        obtain ⟨hfin, hbl, hrb⟩ := HE.out.fin HN.out
        rw [Hll.out] at hfin hbl hrb
        refine bodyPost_ret (v := .agg (withL N p5 L c5).cells) ?_ rfl ?_
        rotate_left
        · exact HR.out _ _ rfl rfl hfin hbl
        have z0 := hrb.cell (k := 0) (v := .slice N.cp N.cals.length N.cc) rfl; have z1 := hrb.cell (k := 1) (v := .slice N.np N.names.length N.nc) rfl; have z2 := hrb.cell (k := 2) (v := .slice N.op N.oprs.length N.oc) rfl; have z3 := hrb.cell (k := 3) (v := .slice N.fp N.offs.length N.fc) rfl; have z4 := hrb.cell (k := 4) (v := .slice p5 L.length c5) rfl; have z5 := hrb.cell (k := 5) (v := .slice N.kp N.clss.length N.kc) rfl
        rw [results_cell1 (p := 8) (ty := 29) Tryz.results7]
        clear hfin hbl hrb c4 f4 b0 b1 b2 b3 b4 b5 a0 a1 a2 a3 a4 a5 g0 g1 g2 g3 g4 g5
        unfold lay6 at z0 z1 z2 z3 z4 z5
        simp [go_sem, z0, z1, z2, z3, z4, z5, Net.cells, withL]
      · go_wp2_with (at_builtin; refine Stop.out ?_)
        obtain ⟨hi0, hz0, hz1, hz2⟩ := Hi.out
        refine Stop.go ?_
        refine wpList_app _ rfl (.tmp 51) (.tmp 55) 26 rfl w1.heap.size 55 i0 _ 6 56 Tryz.underlying26 hi0 hz0 hz1 hz2 rfl (by omega) _ ix _ rfl HT.out _ (N.lins.length - (ix + 1)) _ _ rfl (HD.out _ (fun h => rfl)) (lins_one _) (by have := Hlen.out; have := Hix.out; unfold maxLen; omega) (by have := Hlen.out; have := Hix.out; omega) (show w1.heap.size ≤ w2.heap.size by have := HO.out.lt g rfl; omega) ?_
        intro v5 w5 hown5 hg5
        rw [← List.flatMap_append] at hown5
        have hbb := (bseq HB2.out (Below.refl w2.heap.size w2).drew).grown hg5 (bseq HB2.out (Below.refl w2.heap.size w2).drew).size (fun k e => by injection e with e; have e' : g = k := e; have := Hgw.out; omega)
        have hx3 : Blk w5 w.heap.size N.cells 29 := (show Blk w2.drew _ _ _ from HK3.out).grown hg5 (fun e => by injection e with e; have e' : w.heap.size = g := e; have := Hgw.out; omega)
        have hx4 := (show Blk w2.drew _ _ _ from HK4.out).grown hg5 (fun e => by injection e with e; have e' : w.heap.size + 1 = g := e; have := Hgw.out; omega)
        obtain ⟨p5, c5, hv5⟩ := own_any hown5
        subst hv5
        obtain ⟨L, hL⟩ : ∃ L, N.lins.take ix ++ N.lins.drop (ix + 1) = L := ⟨_, rfl⟩
        obtain ⟨n5, hn5⟩ : ∃ n5, ix + (N.lins.length - (ix + 1)) = n5 := ⟨_, rfl⟩
        have hll : L.length = n5 := by rw [← hL, ← hn5, List.length_append, List.length_take, List.length_drop]; have := Hix.out; omega
        have hLR : ∀ x ∈ L, LinR x := by
          rw [← hL]; intro x hx
          rcases List.mem_append.1 hx with hx | hx
          · exact HN.out.lin x (List.mem_of_mem_take hx)
          · exact HN.out.lin x (List.mem_of_mem_drop hx)
        rw [hL, hn5] at hown5
        have hmx : n5 ≤ maxLen := by have h1 := HN.out.len.2.2.1; have := Hix.out; omega
        have hE : ChE w N p5 c5 L w1.heap.size w5 := ⟨hbb, hx3, hx4, by rw [hll]; exact hown5, hLR, HK2.out.lt, by rw [hll]; exact hmx⟩
        have hbox := hE.box2; have hres := hE.res2
        have HE := hide hE
        rw [hll] at hbox hres
        have Hll := hide hll
        rw [hn5]
        clear hown5 hg5 hi0 hz0 hz1 hz2 hbb hx3 hx4 hL hLR hll hmx hn5
        have c4 := hE.box.cell (k := 4) (v := .slice N.lp N.lins.length N.lc) rfl
        have f4 := hE.box.free 4
        have b0 := hbox.cell (k := 0) (v := .slice N.cp N.cals.length N.cc) rfl; have b1 := hbox.cell (k := 1) (v := .slice N.np N.names.length N.nc) rfl; have b2 := hbox.cell (k := 2) (v := .slice N.op N.oprs.length N.oc) rfl; have b3 := hbox.cell (k := 3) (v := .slice N.fp N.offs.length N.fc) rfl; have b4 := hbox.cell (k := 4) (v := .slice p5 L.length c5) rfl; have b5 := hbox.cell (k := 5) (v := .slice N.kp N.clss.length N.kc) rfl
        rw [Hll.out] at b4
        have a0 := hres.cell (k := 0) (v := .slice none 0 0) rfl; have a1 := hres.cell (k := 1) (v := .slice none 0 0) rfl; have a2 := hres.cell (k := 2) (v := .slice none 0 0) rfl; have a3 := hres.cell (k := 3) (v := .slice none 0 0) rfl; have a4 := hres.cell (k := 4) (v := .slice none 0 0) rfl; have a5 := hres.cell (k := 5) (v := .slice none 0 0) rfl
        have g0 := hres.free 0; have g1 := hres.free 1; have g2 := hres.free 2; have g3 := hres.free 3; have g4 := hres.free 4; have g5 := hres.free 5
        clear hbox hres hE
        go_wp2_with fail
        obtain ⟨hfin, hbl, hrb⟩ := HE.out.fin HN.out
        rw [Hll.out] at hfin hbl hrb
        refine bodyPost_ret (v := .agg (withL N p5 L c5).cells) ?_ rfl ?_
        rotate_left
        · exact HR.out _ _ rfl rfl hfin hbl
        have z0 := hrb.cell (k := 0) (v := .slice N.cp N.cals.length N.cc) rfl; have z1 := hrb.cell (k := 1) (v := .slice N.np N.names.length N.nc) rfl; have z2 := hrb.cell (k := 2) (v := .slice N.op N.oprs.length N.oc) rfl; have z3 := hrb.cell (k := 3) (v := .slice N.fp N.offs.length N.fc) rfl; have z4 := hrb.cell (k := 4) (v := .slice p5 L.length c5) rfl; have z5 := hrb.cell (k := 5) (v := .slice N.kp N.clss.length N.kc) rfl
        rw [results_cell1 (p := 8) (ty := 29) Tryz.results7]
        clear hfin hbl hrb c4 f4 b0 b1 b2 b3 b4 b5 a0 a1 a2 a3 a4 a5 g0 g1 g2 g3 g4 g5
        unfold lay6 at z0 z1 z2 z3 z4 z5
        simp [go_sem, z0, z1, z2, z3, z4, z5, Net.cells, withL]
end Go.Proofs.YtgfhcmidnbahjaaGreatDoor

namespace Go.Proofs.YtgfhcmidnbahjaaGreatDoor
open Go.RowKit

def StpBd (s : Stp) : Prop := -1 ≤ s.depart ∧ s.depart ≤ 2200000
theorem WayP.bd {N : Net} {next : Mat} {tt o : Nat} {t : Int} {l : List Stp} (hs : Snd N) (hF : Formed N next) (htt : tt < N.offs.length) (h : WayP N next tt o t l) (ho : o < N.offs.length) : ∀ s ∈ l, StpBd s := by
  induction h with
  | last => intro s h; rw [List.mem_singleton] at h; subst h; exact ⟨by show (-1 : Int) ≤ -1; omega, by show (-1 : Int) ≤ _; omega⟩
  | @more o t d l hne hnx hd hw ih =>
    rcases hF o tt ho htt with hn | ⟨hn0, hn1, hsrc⟩
    · exact absurd hn hnx
    · obtain ⟨c0, c1, c2, c3⟩ := departF_ok hs hn0 hn1 hd
      have hds := (hs.linP hn0 hn1).dst
      intro s hs'
      rcases List.mem_cons.1 hs' with rfl | hs'
      · exact ⟨by show -1 ≤ d; omega, by show d ≤ _; omega⟩
      · exact ih (by omega) s hs'
theorem carry_bd {N M : Net} {p q φ ψ : Mat} {o tt : Nat} {acc time : Int} {l : List Stp} (hN : Snd N) (hM : Snd M) (hp : PlanP N p φ) (hq : PlanP M q ψ) (hoff : M.offs.length = N.offs.length)
    (ho : o < N.offs.length) (htt : tt < N.offs.length) (h : carryF N p M q time o tt acc = .ok l) : (∀ s ∈ l, StpBd s) ∧ l.length ≤ 40 := by
  unfold carryF at h
  split at h
  · cases h
  · rename_i before hb
    split at h
    · cases h
    · rename_i here hh
      split at h
      · cases h
      · rename_i after ha
        injection h with h; subst h
        obtain ⟨hW, hl⟩ := wayF_way hb
        obtain ⟨hA, hl2⟩ := wayF_way ha
        have hof := hW.offices hN hp htt ho here (List.mem_of_getElem? hh)
        have b1 := hW.bd hN hp.formed htt ho
        have b2 := hA.bd hM hq.formed (by omega) (by omega)
        refine ⟨fun s hs => ?_, ?_⟩
        · rcases List.mem_append.1 hs with hs | hs
          · exact b1 s (List.mem_of_mem_take hs)
          · cases after with
            | nil => simp [fixArr] at hs
            | cons a r =>
              rw [fixArr] at hs
              rcases List.mem_cons.1 hs with rfl | hs
              · exact b2 a (by simp)
              · exact b2 s (List.mem_cons_of_mem _ hs)
        · rw [List.length_append, fixArr_len, List.length_take]; omega
theorem stps_at {W : World} {g : Nat} {l : List Stp} (h : EncAt 4 Stp.cells W (some ⟨g, 0, none⟩) l) {i : Nat} {s : Stp} (hs : l[i]? = some s) :
    W.cell? ⟨g, i * 4, none⟩ = some (.int .i64 s.office) ∧ W.cell? ⟨g, i * 4 + 1, none⟩ = some (.int .i64 s.arrive) ∧ W.cell? ⟨g, i * 4 + 2, none⟩ = some (.int .i64 s.depart) ∧ W.cell? ⟨g, i * 4 + 3, none⟩ = some (.int .i64 s.line) := by
  obtain ⟨b, o, x, hp, hx, hc⟩ := h.at_ (List.getElem?_eq_some_iff.1 hs).1
  injection hp with hp; injection hp with e1 e2; subst e1; subst e2
  rw [hs] at hx; injection hx with hx; subst hx
  exact ⟨by simpa using hc 0 _ rfl, by simpa using hc 1 _ rfl, by simpa using hc 2 _ rfl, by simpa using hc 3 _ rfl⟩
end Go.Proofs.YtgfhcmidnbahjaaGreatDoor
