/- Warrant: the numbers of all cut-offs for a promise that is kept. -/
import Derived.Test.YtgfhcmidnbahjaaGreatDoorJ25
import Derived.Test.YtgfhcmidnbahjaaGreatDoorJ22
import Derived.Test.YtgfhcmidnbahjaaGreatDoorJ14
import Derived.Test.YtgfhcmidnbahjaaGreatDoorJ13
set_option linter.unusedVariables false
set_option linter.unusedSimpArgs false
namespace Go.Proofs.YtgfhcmidnbahjaaGreatDoor
open Go.RowKit Go.Shelf
attribute [local go_sem] Oper.semAt_some run_store_func
section
variable {w : World} {N : Net} {P : Pln} {gw : Nat} {xs : List Int} {W W' : World}
theorem WtS.bad_own {row : Option Nat} {B : Nat} (h : WtS w N P gw xs W) (hg : W.grownBy W' row) (hr : ∀ r, row = some r → B ≤ r ∧ ∃ o : Obj, W.heap[r]? = some o ∧ o.isCells = false) {k : Nat} (hk : WtBad gw W' k) : WtBad gw W k := by
 obtain ⟨v, h1, h2⟩ := h.row
 rcases hk with rfl | ⟨v', hc, hv⟩
 ·exact .inl rfl
 ·refine .inr ⟨v', ?_, hv⟩
  rw [(h1.own hg hr).cell (k := 10) (v := v) rfl] at hc
  rw [h1.cell (k := 10) (v := v) rfl]; exact hc
theorem WtS.kp_own {A : World} {row : Option Nat} {B : Nat} (h : WtS w N P gw xs W) (hk : Kpb (WtBad gw) A W) (hA : A.heap.size ≤ B) (hg : W.grownBy W' row) (hr : ∀ r, row = some r → B ≤ r ∧ ∃ o : Obj, W.heap[r]? = some o ∧ o.isCells = false) : Kpb (WtBad gw) A W' := by
 refine ⟨Nat.le_trans hk.1 hg.size, fun k hlt hb => ?_⟩
 obtain ⟨h1, h2⟩ := hk.2 k hlt hb
 exact ⟨(hg.block k (Nat.lt_of_lt_of_le hlt hk.1) (fun e => by have := (hr k e.symm).1; omega)).trans h1, fun e => h2 (h.bad_own hg hr e)⟩
end
theorem WtS.kfrom {w : World} {N : Net} {P : Pln} {gw : Nat} {xs : List Int} {W W' : World} (h : WtS w N P gw xs W) (hk : Kpb (WtBad gw) W W') (B : Nat) : KeepsFrom B W W' := by
 obtain ⟨v, h1, h2⟩ := h.row
 refine ⟨hk.1, fun k o _ ho hc => ?_⟩
 refine (hk.2 k (Array.getElem?_eq_some_iff.1 ho).1 ?_).1.trans ho
 rintro (rfl | ⟨v', hv, hb⟩)
 ·have h9 : W.heap[k]? = _ := h1
  rw [h9] at ho; injection ho with ho; subst ho
  exact absurd hc (by simp [Obj.isCells])
 ·rw [h1.cell (k := 10) (v := v) rfl] at hv
  injection hv with hv; subst hv
  rcases h2.2 with ⟨rfl, _⟩ | ⟨g', cap, cur, rfl, _, hh, _⟩
  ·simp [Value.ownBlock] at hb
  ·have : g' = k := by simpa [Value.ownBlock] using hb
   subst this
   rw [hh] at ho; injection ho with ho; subst ho
   exact absurd hc (by simp [Obj.isCells])
structure KeB (gw B k o d : Nat) (W : World) : Prop where
 b0 : Blk W B #[.pointer (some ⟨gw, 0, none⟩)] 228
 b1 : Blk W (B + 1) #[.int .i64 (k : Int)] 3
 b2 : Blk W (B + 1 + 1) #[.int .i64 (o : Int)] 3
 b3 : Blk W (B + 1 + 1 + 1) #[.int .i64 (d : Int)] 3
theorem KeB.next {gw B k o d : Nat} {W W' : World} (h : KeB gw B k o d W) (hb : Below W.heap.size W W') : KeB gw B k o d W' := ⟨h.b0.next hb, h.b1.next hb, h.b2.next hb, h.b3.next hb⟩
theorem KeB.kpb {gw B k o d : Nat} {bad : World → Nat → Prop} {W W' : World} (h : KeB gw B k o d W) (hk : Kpb bad W W') (hb : ∀ j, B ≤ j → j ≤ B + 3 → ¬ bad W j) : KeB gw B k o d W' :=
 ⟨h.b0.kpb hk (hb _ (by omega) (by omega)), h.b1.kpb hk (hb _ (by omega) (by omega)), h.b2.kpb hk (hb _ (by omega) (by omega)), h.b3.kpb hk (hb _ (by omega) (by omega))⟩
def KeS (gw B gc k o d b5 o5 nk kc : Nat) (c : Cal) (dl : Int) (bd od dn dc bq oq n cq rb ro rc : Nat) (y : Int) (W : World) : Prop :=
 W.cell? ⟨gc, 0, none⟩ = some (.int .i64 c.zone) ∧ W.cell? ⟨gc, 1, none⟩ = some (.slice c.wp c.week.length c.wc) ∧ W.cell? ⟨gc, 2, none⟩ = some (.slice c.hp c.hol.length c.hc) ∧
 W.cell? ⟨B, 0, none⟩ = some (.pointer (some ⟨gw, 0, none⟩)) ∧ W.cell? ⟨B + 1, 0, none⟩ = some (.int .i64 (k : Int)) ∧ W.cell? ⟨B + 1 + 1, 0, none⟩ = some (.int .i64 (o : Int)) ∧ W.cell? ⟨B + 1 + 1 + 1, 0, none⟩ = some (.int .i64 (d : Int)) ∧
 W.cell? ⟨gw, 5, none⟩ = some (.slice (some ⟨b5, o5, none⟩) nk kc) ∧ W.cell? ⟨b5, o5 + k * 3 + 2, none⟩ = some (.int .i64 dl) ∧ W.cell? ⟨gw, 9, none⟩ = some (.slice (some ⟨bd, od, none⟩) dn dc) ∧
 W.cell? ⟨bd, od + k, none⟩ = some (.slice (some ⟨bq, oq, none⟩) n cq) ∧ W.cell? ⟨bq, oq + o, none⟩ = some (.slice (some ⟨rb, ro, none⟩) n rc) ∧ W.cell? ⟨rb, ro + d, none⟩ = some (.int .i64 y)
theorem KeS.next {gw B gc k o d b5 o5 nk kc : Nat} {c : Cal} {dl : Int} {bd od dn dc bq oq n cq rb ro rc : Nat} {y : Int} {W W' : World} (h : KeS gw B gc k o d b5 o5 nk kc c dl bd od dn dc bq oq n cq rb ro rc y W) (hb : Below W.heap.size W W') :
  KeS gw B gc k o d b5 o5 nk kc c dl bd od dn dc bq oq n cq rb ro rc y W' := by
 obtain ⟨h1, h2, h3, h4, h5, h6, h7, h8, h9, h10, h11, h12, h13⟩ := h
 exact ⟨cell_later hb h1, cell_later hb h2, cell_later hb h3, cell_later hb h4, cell_later hb h5, cell_later hb h6, cell_later hb h7, cell_later hb h8, cell_later hb h9, cell_later hb h10, cell_later hb h11, cell_later hb h12, cell_later hb h13⟩
theorem cutsF_len {c : Cal} {cut till : Int} : ∀ (f : Nat) (t : Int), (cutsF c cut till f t).length ≤ f := by
 intro f
 induction f with
 | zero => intro t; simp [cutsF]
 | succ f ih =>
  intro t
  rw [cutsF]
  split
  ·simp
  ·split
   ·simp
   ·have := ih (by assumption + 1); simp; omega
theorem cutsOf_len (N : Net) (k o : Nat) (fr till : Int) : (cutsOf N k o fr till).length ≤ (till - fr).toNat := cutsF_len _ _
set_option maxRecDepth 100000 in
set_option maxHeartbeats 2000000 in
theorem keep_c (N : Net) (P : Pln) (gw : Nat) (xs : List Int) (nx : Nat → Nat → Int) (C : Cube) (k o d : Nat) (w0 w : World) (R) (hS : WtS w0 N P gw xs w) (hN : NetAt w0 N) (hM : MatAt w0 P.np N.offs.length nx) (hC : CubeAt w0 P.dp N.clss.length N.offs.length C) (hSn : Snd N) (hF : Formed N nx) (hnn : P.nn = N.offs.length) (hdn : P.dn = N.clss.length)
  (hk : k < N.clss.length) (ho : o < N.offs.length) (hd : d < N.offs.length) (hfr : 0 ≤ P.fr) (hft : P.fr < P.till) (htl : P.till ≤ 600) (hneed : ∀ cut ∈ cutsOf N k o (1440 * P.fr) (1440 * P.till), ∃ y, needF N nx k o d cut = .ok y ∧ y ≤ C k o d) (hlen : xs.length + 20 * 864000 ≤ 2000000000)
  (hR : ∀ w', WtS w0 N P gw (xs ++ (cutsOf N k o (1440 * P.fr) (1440 * P.till)).flatMap (fun cut => legsF N nx P.fr o d cut)) w' → Kpb (WtBad gw) w w' → ∀ v, R (.returned v) w') :
  Calls Tryz.prog 181 #[.pointer (some ⟨gw, 0, none⟩), .int .i64 (k : Int), .int .i64 (o : Int), .int .i64 (d : Int)] w R := by
 have HR := hide hR; have HSn := hide hSn; have HF := hide hF; have HN := hide hN; have HM := hide hM; have HC := hide hC; have Hnn := hide hnn; have Hdn := hide hdn; have HS0 := hide hS; have Hneed := hide hneed
 obtain ⟨w1, hw1⟩ : ∃ w1, (((w.alloc (.cells #[.pointer (some ⟨gw, 0, none⟩)] 228)).alloc (.cells #[.int .i64 (k : Int)] 3)).alloc (.cells #[.int .i64 (o : Int)] 3)).alloc (.cells #[.int .i64 (d : Int)] 3) = w1 := ⟨_, rfl⟩
 have hb1 : Below w.heap.size w w1 := hw1 ▸ balloc (balloc (balloc (balloc (Below.refl _ _) _) _) _) _
 have hI : KeB gw w.heap.size k o d w1 := by
  refine ⟨?_, ?_, ?_, ?_⟩ <;> rw [← hw1] <;> repeat (first | exact Blk.new_at (by simp) | refine Blk.alloc ?_ _)
 have hs1 : w1.heap.size = w.heap.size + 4 := by rw [← hw1]; simp
 have HB1 := hide hb1; have HI := hide hI; have HS1 := hide (hS.next hb1); have Hs1 := hide hs1
 have Hnb : Hid (∀ j, w.heap.size ≤ j → ¬ WtBad gw w1 j) := hide (fun j hj e => absurd (hS.bad (hS.bad_back hb1 e)).2 (by omega))
 have x0 := hI.b0.cell (k := 0) rfl; have x1 := hI.b1.cell (k := 0) rfl; have x2 := hI.b2.cell (k := 0) rfl
 clear hR hSn hF hN hM hC hnn hdn hS hneed hb1 hI hs1
 refine (callsIn_wide (n := 8)).1 ?_
 refine callsIn_of_wp_marks Tryz.func181 rfl trivial ?_ rfl
 simp only [Tryz.ntmps181, List.size_toArray, List.length_cons, List.length_nil, Nat.reduceAdd, Nat.reduceSub, Array.replicate_succ, Array.replicate_zero, List.push_toArray, List.append_toArray, List.nil_append, List.cons_append]
 refine wpIn_wide.2 ?_
 go_wp2_with (go_at_call 217; refine Stop.out ?_)
 refine Stop.go (wcutoffs_c N gw k o w1 _ (HN.out.next HS1.out.below) ?_)
 intro w3 hb hCw hs3
 have HB3 := hide hb
 have HCw := hide hCw
 have HS3 := hide (HS1.out.next hb)
 have Hs3 := hide hs3
 clear hb hCw hs3 hw1 x0 x1 x2
 go_wp2
 refine (wpIn_wide (n := 8)).1 ?_
 refine rangeFunc_GI rfl (enters_of Tryz.func278 (by kernel_rfl) rfl) (wcutoffs_it N P gw k o (1440 * P.fr) (1440 * P.till) w1.heap.size w3 HCw.out rfl rfl HSn.out hk ho (by omega) (by omega) (by omega)) (WtBad gw) ?hK (fun _ => rfl)
  (fun pre W => WtS w0 N P gw (xs ++ pre.flatMap (fun cut => legsF N nx P.fr o d cut)) W ∧ Kpb (WtBad gw) w1 W) (fun _ _ => False) ?hIv ?hI ?hIb ?hTx ⟨by simpa using HS3.out, HS1.out.kp HB3.out⟩ ?hround ?hdone ?hstop
 case hK =>
  intro j hj
  refine ⟨HCw.out.lt hj, fun e => ?_⟩
  have e1 := HS1.out.bad (HS1.out.bad_back HB3.out e)
  rcases hj with ⟨ha, hb⟩ | hn
  ·omega
  ·have := HN.out.lt hn; omega
 case hIv => exact fun s W h => h.1.wr
 case hI => exact fun s W W' row h hg hr => ⟨h.1.own (B := w3.heap.size) HS3.out.below.size hg hr, h.1.kp_own (B := w3.heap.size) h.2 (by have := Hs3.out; omega) hg hr⟩
 case hIb => exact fun s W W' row h hg hr j hj => ⟨h.1.bad_own hg hr hj, (h.1.bad (h.1.bad_own hg hr hj)).2⟩
 case hTx => exact fun cd s W W' row h hg hr => h.elim
 case hdone =>
  rintro D W hD ⟨hW, hK⟩ hd'
  have HF2 := hide (HR.out)
  have HW := hide hW; have HK := hide hK; have Hd := hide hd'
  clear hW hK hd'
  go_wp2
  refine ⟨by simp, .inl ⟨_, _, rfl, run_takeDeferred Hd.out, ?_⟩⟩
  have hg := grownBy_putObj' W D (.deferred none)
  have hr : ∀ r, some D = some r → w3.heap.size ≤ r ∧ ∃ o : Obj, W.heap[r]? = some o ∧ o.isCells = false := fun r e => by cases e; exact ⟨hD, _, Hd.out, rfl⟩
  have k1 := HW.out.own (B := w3.heap.size) HS3.out.below.size hg hr
  have k2 := (HS0.out.kp HB1.out).trans (HW.out.kp_own (B := w3.heap.size) HK.out (by have := Hs3.out; omega) hg hr)
  exact ⟨.tuple #[], by simp [results, Tryz.results181], HF2.out _ k1 k2 _⟩
 case hstop => exact fun D c W hD h hd => h.elim
 case hround =>
  intro l pre x post hxs W hI K' hK'
  have HW := hide hI.1; have HKw := hide hI.2; have HK' := hide hK'
  have hx : x ∈ cutsOf N k o (1440 * P.fr) (1440 * P.till) := by rw [hxs]; simp
  have hxr := cutsOf_range HSn.out hk ho (by omega) (by omega) x hx
  have HNx := hide (Hneed.out x hx)
  have hpl : pre.length + 1 ≤ (cutsOf N k o (1440 * P.fr) (1440 * P.till)).length := by rw [hxs]; simp
  have Hpl := hide hpl
  clear hI hK' hx hxs hpl
  gi_wp2
  refine HK'.out _ _ (KeepsFrom.refl _ _) (Kpb.refl _ _) ⟨HW.out, HKw.out⟩ (fun W2 hB2 hI2 => ?_)
  have HW2 := hide hI2.1; have HKw2 := hide hI2.2
  have hB := HI.out.kpb HKw2.out (fun j h1 h2 => Hnb.out j h1)
  have HBx := hide hB
  have x0 := hB.b0.cell (k := 0) rfl; have x2 := hB.b2.cell (k := 0) rfl; have x3 := hB.b3.cell (k := 0) rfl
  clear hB2 hI2 HW HKw hB
  gi_wp2_with (gi_at_call 218; refine Stop.out ?_)
  obtain ⟨y, hy, hyc⟩ := HNx.out
  obtain ⟨lw, e, hlw, hde, hyeq, hy0⟩ := need_ok hy
  have hway := walkF_way _ _ _ _ hlw
  have hlr : x ≤ lastArr lw ∧ lastArr lw ≤ 3000000 := by
   obtain ⟨s, _, hs2, hs3⟩ := lastArr_eq hway.ne
   rw [hs2]; exact hway.range HSn.out HF.out hd ho hxr.1 (by omega) s hs3
  have hlegs : legsF N nx P.fr o d x = legsL N P.fr lw := by unfold legsF; rw [hlw]
  have hxl : (xs ++ pre.flatMap (fun cut => legsF N nx P.fr o d cut)).length + 20 ≤ 2000000000 := by
   have h1 := cutsOf_len N k o (1440 * P.fr) (1440 * P.till)
   have h2 := Hpl.out
   have h3 : ∀ l : List Int, (l.flatMap (fun cut => legsF N nx P.fr o d cut)).length ≤ l.length * 20 := fun l => by
    induction l with
    | nil => simp
    | cons a l ih =>
     rw [List.flatMap_cons, List.length_append, List.length_cons]
     have : (legsF N nx P.fr o d a).length ≤ 20 := by
      unfold legsF
      split
      ·rename_i l' hl'
       have := walkF_len _ _ _ _ hl'
       have := legsL_len N P.fr l'
       omega
      ·simp
     omega
   have h4 := h3 pre
   rw [List.length_append]
   have h5 : (1440 * P.till - 1440 * P.fr).toNat ≤ 864000 := by omega
   omega
  refine Stop.go ⟨trivial, callsIn_wide.2 (way_c N P gw _ nx o d x lw w0 W2 _ HW2.out HN.out HM.out HSn.out HF.out Hnn.out ho hd hxr.1 (by omega) hlw hxl (by omega) ?_)⟩
  intro W3 hW3 hK3
  have HW3 : Hid (WtS w0 N P gw (xs ++ (pre ++ [x]).flatMap (fun cut => legsF N nx P.fr o d cut)) W3) := hide (by
   rw [List.flatMap_append, List.flatMap_cons, List.flatMap_nil, List.append_nil, hlegs, ← List.append_assoc]; exact hW3)
  have HK3 := hide hK3
  have HB3' := hide (HBx.out.kpb hK3 (fun j h1 h2 => (HKw2.out.2 j (by have := Hs1.out; omega) (Hnb.out j h1)).2))
  obtain ⟨ta, hta⟩ : ∃ ta, lastArr lw = ta := ⟨_, rfl⟩
  rw [hta] at hde hlr
  rw [hta]
  obtain ⟨ci, of, c, hX, _⟩ := HSn.out.offX hd
  have HX := hide hX; have Hc := hide (hX.ok HSn.out)
  obtain ⟨Kc, hKc⟩ : ∃ Kc, N.clss[k]? = some Kc := ⟨_, List.getElem?_eq_getElem hk⟩
  have hPc := clsP_of (HSn.out.cls k hk)
  rw [getD_some hKc] at hPc
  obtain ⟨dl, hdl'⟩ : ∃ dl, Kc.deliver = dl := ⟨_, rfl⟩
  have Hdl : Hid (∀ K', N.clss[k]? = some K' → K'.deliver = dl) := hide (fun K' h => by rw [hKc] at h; injection h with h; subst h; exact hdl')
  have hdl : Hid (0 ≤ dl ∧ dl ≤ 1439) := hide (hdl' ▸ hPc.deliver)
  have hKo : clsOf N (k : Int) = Kc := by unfold clsOf; rw [show ((k : Int)).toNat = k by omega, getD_some hKc]
  have hcal := hX.calOf
  obtain ⟨tr, htr⟩ : ∃ tr, readyF N (d : Int) ta = tr := ⟨_, rfl⟩
  have Htr := hide htr
  have hrd := ready_bd HSn.out (o := (d : Int)) (by omega) (by omega) ta
  rw [htr] at hrd
  have hef : firstF c dl tr = some e := by
   unfold deliverF at hde
   rw [hcal, hKo, hdl', htr] at hde
   split at hde
   ·rename_i z hz; injection hde with hde; subst hde; exact hz
   ·cases hde
  have her := deliverF_ok HSn.out hk hd hde
  have Hf := hide hef
  have hdx := dayOf_range (hX.ok HSn.out) hxr.1 (by omega)
  have hde2 := dayOf_range (t := e) (hX.ok HSn.out) (by omega) (by omega)
  have hdm : dayOf c x ≤ dayOf c e := dayOf_mono (by omega)
  rw [hcal] at hyeq
  have Hcnt0 : Hid (countF c (dayOf c x) (dayOf c e) ≤ C k o d) := hide (by rw [← hyeq]; exact hyc)
  obtain ⟨v3, hv3, _⟩ := HW3.out.row
  have Hv3 := hide hv3
  have x0 := HB3'.out.b0.cell (k := 0) rfl; have x3 := HB3'.out.b3.cell (k := 0) rfl
  have HEe := hide her
  clear hy hyc hlw hde hyeq hy0 hway hlegs hxl hW3 hK3 hta hX hPc hKo hcal htr hef her hv3 hKc
  gi_wp2_with (gi_at_call 219; refine Stop.out ?_)
  refine Stop.go ⟨trivial, callsIn_wide.2 (wCal_c N P v3 gw d ci of c W3 _ Hv3.out (HN.out.next HW3.out.below) HX.out ?_)⟩
  intro W4 hb4
  have hb5 : Below W3.heap.size W3 (W4.alloc (.cells c.cells.toArray 164)) := balloc hb4 _
  have hgc := Blk.new W4 164 c.cells.toArray
  have hb45 : Below W4.heap.size W4 (W4.alloc (.cells c.cells.toArray 164)) := balloc (Below.refl _ _) _
  obtain ⟨W5, hW5⟩ : ∃ W5, W4.alloc (.cells c.cells.toArray 164) = W5 := ⟨_, rfl⟩
  have Hgc := hide (hW5 ▸ hgc)
  rw [hW5] at hb5 hb45
  have HW5 := hide (HW3.out.next hb5)
  have HB5 := hide (HB3'.out.next hb5)
  have Hvv := hide (Hv3.out.next hb5)
  have HBW5 := hide hb5
  have HK5 := hide ((HK3.out).trans (HW3.out.kp hb5))
  obtain ⟨b5, o5, K', hp5, hK', _, d0, d1, d2⟩ := (HN.out.next HW5.out.below).cls_ hk
  have hKd : K'.deliver = dl := by
   obtain ⟨b5', o5', K'', hp5', hK'', _⟩ := HN.out.cls_ hk
   rw [hK''] at hK'; injection hK' with hK'; subst hK'
   exact Hdl.out K'' hK''
  rw [hKd] at d2
  obtain ⟨bd, od, q, cq, hdp, hdc, hdm'⟩ := (HC.out.next HW5.out.below) k hk
  obtain ⟨bq, oq, rb, ro, rc, hq, hrow, hcell⟩ := hdm' o ho
  have hyv := hcell d hd
  subst hq
  have x5 := Hvv.out.wrtN.2.2.2.2.2
  have x9 := Hvv.out.wrtP.2.2.2.1
  rw [hp5] at x5; rw [hdp, Hdn.out] at x9
  have hHeld0 : KeS gw w.heap.size W4.heap.size k o d b5 o5 N.clss.length N.kc c dl bd od N.clss.length P.dc bq oq N.offs.length cq rb ro rc (C k o d) W5 :=
   ⟨Hgc.out.cell (k := 0) rfl, Hgc.out.cell (k := 1) rfl, Hgc.out.cell (k := 2) rfl, HB5.out.b0.cell (k := 0) rfl, HB5.out.b1.cell (k := 0) rfl, HB5.out.b2.cell (k := 0) rfl, HB5.out.b3.cell (k := 0) rfl, x5, d2, x9, hdc, hrow, hyv⟩
  have HH0 := hide hHeld0
  have q1 : (0 : Int) ≤ (k : Int) := by omega
  have q2 : (k : Int) < (N.clss.length : Int) := by omega
  have q3 : (0 : Int) ≤ (o : Int) := by omega
  have q4 : (o : Int) < (N.offs.length : Int) := by omega
  have q5 : (0 : Int) ≤ (d : Int) := by omega
  have q6 : (d : Int) < (N.offs.length : Int) := by omega
  unfold Cal.cells at hW5 ⊢
  clear hb4 hb5 hgc hb45 hHeld0 d0 d1 d2 hp5 hK' hKd hdp hdc hdm' hrow hcell hyv x5 x9 x0 x3
  gi_wp2
  clear hW5
  generalize W4.heap.size = gc at *
  refine rnd_held (S := KeS gw w.heap.size gc k o d b5 o5 N.clss.length N.kc c dl bd od N.clss.length P.dc bq oq N.offs.length cq rb ro rc (C k o d)) (by kernel_rfl) (by kernel_rfl) (by intro _ _ h; first | exact h | cases h | (obtain ⟨h, _⟩ := h; cases h)) ?_
  have hHeld := KeS.next HH0.out (Below.refl W5.heap.size W5).drew
  refine wpAnyH_take (i := 0) (v := ?va0) rfl (by kernel_rfl) (by kernel_rfl) (by kernel_rfl) (fun _ _ _ h => h) (Or.inl ⟨by rfl, ?hya0⟩) hHeld ?resta0
  case hya0 => (intro w0 hSw; (try unfold KeS at hSw); go_simp; all_goals with_reducible rfl)
  try simp only [aP, Act.put]
  refine wpAnyH_take (i := 1) (v := ?va1) rfl (by kernel_rfl) (by kernel_rfl) (by kernel_rfl) (fun _ _ _ h => h) (Or.inl ⟨by rfl, ?hya1⟩) hHeld ?resta1
  case hya1 => (intro w0 hSw; (try unfold KeS at hSw); go_simp; all_goals with_reducible rfl)
  try simp only [aP, Act.put]
  refine wpAnyH_take (i := 2) (v := ?va2) rfl (by kernel_rfl) (by kernel_rfl) (by kernel_rfl) (fun _ _ _ h => h) (Or.inl ⟨by rfl, ?hya2⟩) hHeld ?resta2
  case hya2 => (intro w0 hSw; (try unfold KeS at hSw); go_simp; all_goals with_reducible rfl)
  try simp only [aP, Act.put]
  refine wpAnyH_take (i := 3) (v := ?va3) rfl (by kernel_rfl) (by kernel_rfl) (by kernel_rfl) (fun _ _ _ h => h) (Or.inl ⟨by rfl, ?hya3⟩) hHeld ?resta3
  case hya3 => (intro w0 hSw; (try unfold KeS at hSw); go_simp; all_goals with_reducible rfl)
  try simp only [aP, Act.put]
  refine wpAnyH_take (i := 4) (v := ?va4) rfl (by kernel_rfl) (by kernel_rfl) (by kernel_rfl) (fun _ _ _ h => h) (Or.inl ⟨by rfl, ?hya4⟩) hHeld ?resta4
  case hya4 => (intro w0 hSw; (try unfold KeS at hSw); go_simp; all_goals with_reducible rfl)
  try simp only [aP, Act.put]
  refine wpAnyH_take (i := 5) (v := ?va5) rfl (by kernel_rfl) (by kernel_rfl) (by kernel_rfl) (fun _ _ _ h => h) (Or.inl ⟨by rfl, ?hya5⟩) hHeld ?resta5
  case hya5 => (intro w0 hSw; (try unfold KeS at hSw); go_simp; all_goals with_reducible rfl)
  try simp only [aP, Act.put]
  refine wpAnyH_take (i := 6) (v := ?va6) rfl (by kernel_rfl) (by kernel_rfl) (by kernel_rfl) (fun _ _ _ h => h) (Or.inl ⟨by rfl, ?hya6⟩) hHeld ?resta6
  case hya6 => (intro w0 hSw; (try unfold KeS at hSw); go_simp; all_goals with_reducible rfl)
  try simp only [aP, Act.put]
  refine wpAnyH_take (i := 7) (v := ?va7) rfl (by kernel_rfl) (by kernel_rfl) (by kernel_rfl) (fun _ _ _ h => h) (Or.inl ⟨by rfl, ?hya7⟩) hHeld ?resta7
  case hya7 => (intro w0 hSw; (try unfold KeS at hSw); go_simp; all_goals with_reducible rfl)
  try simp only [aP, Act.put]
  refine wpAnyH_take (i := 8) (v := ?va8) rfl (by kernel_rfl) (by kernel_rfl) (by kernel_rfl) (fun _ _ _ h => h) (Or.inl ⟨by rfl, ?hya8⟩) hHeld ?resta8
  case hya8 => (intro w0 hSw; (try unfold KeS at hSw); go_simp; all_goals with_reducible rfl)
  try simp only [aP, Act.put]
  refine wpAnyH_take (i := 9) (v := ?va9) rfl (by kernel_rfl) (by kernel_rfl) (by kernel_rfl) (fun _ _ _ h => h) (Or.inl ⟨by rfl, ?hya9⟩) hHeld ?resta9
  case hya9 => (intro w0 hSw; (try unfold KeS at hSw); go_simp; all_goals with_reducible rfl)
  try simp only [aP, Act.put]
  refine wpAnyH_take (i := 10) (v := ?va10) rfl (by kernel_rfl) (by kernel_rfl) (by kernel_rfl) (fun _ _ _ h => h) (Or.inl ⟨by rfl, ?hya10⟩) hHeld ?resta10
  case hya10 => (intro w0 hSw; (try unfold KeS at hSw); go_simp; all_goals with_reducible rfl)
  try simp only [aP, Act.put]
  refine wpAnyH_take (i := 11) (v := ?va11) rfl (by kernel_rfl) (by kernel_rfl) (by kernel_rfl) (fun _ _ _ h => h) (Or.inl ⟨by rfl, ?hya11⟩) hHeld ?resta11
  case hya11 => (intro w0 hSw; (try unfold KeS at hSw); go_simp; all_goals with_reducible rfl)
  try simp only [aP, Act.put]
  refine wpAnyH_take (i := 12) (v := ?va12) rfl (by kernel_rfl) (by kernel_rfl) (by kernel_rfl) (fun _ _ _ h => h) (Or.inl ⟨by rfl, ?hya12⟩) hHeld ?resta12
  case hya12 => (intro w0 hSw; (try unfold KeS at hSw); go_simp; all_goals with_reducible rfl)
  try simp only [aP, Act.put]
  refine wpAnyH_ready (rs := [13]) (by kernel_rfl) (by simp) ?_
  refine AllReadyH.cons rfl (fun K hK => ?_) AllReadyH.nil
  go_simp
  refine wready_c N P v3 gw d ta _ _ (Hvv.out.next (Below.refl _ _).drew) (HN.out.next (bseq HW5.out.below (Below.refl _ _).drew)) HSn.out hd (by omega) (by omega) (fun W6 hb6 => ?_)
  rw [Htr.out]
  have hb65 : Below W5.heap.size W5 W6 := bseq (Below.refl _ _).drew hb6
  refine hK.out _ _ (KeS.next hHeld hb6) (fun hHeld' => ?_)
  clear hK K hHeld
  have hHeld := hHeld'
  clear hHeld'
  try simp only [aP, Act.put]
  refine wpAnyH_ready (rs := [14]) (by kernel_rfl) (by simp) ?_
  refine AllReadyH.cons rfl (fun K hK => ?_) AllReadyH.nil
  go_simp
  refine wFirst_c c dl tr _ _ ((HX.out.at_ HN.out).keep (Keeps.of_below (bseq HW5.out.below hb65))) Hc.out hdl.out.1 hdl.out.2 (by omega) (by omega) (fun x' W7 hx hb7 => ?_) (fun W7 hx hb7 => by rw [Hf.out] at hx; cases hx)
  obtain rfl : e = x' := by rw [Hf.out] at hx; injection hx
  have hb75 : Below W5.heap.size W5 W7 := bseq hb65 hb7
  refine hK.out _ _ (KeS.next hHeld hb7) (fun hHeld' => ?_)
  clear hK K hHeld
  have hHeld := hHeld'
  clear hHeld'
  try simp only [aP, Act.put]
  refine wpAnyH_take (i := 15) (v := ?va15) rfl (by kernel_rfl) (by kernel_rfl) (by kernel_rfl) (fun _ _ _ h => h) (Or.inl ⟨by rfl, ?hya15⟩) hHeld ?resta15
  case hya15 => (intro w0 hSw; (try unfold KeS at hSw); go_simp; all_goals with_reducible rfl)
  try simp only [aP, Act.put]
  refine wpAnyH_take (i := 16) (v := ?va16) rfl (by kernel_rfl) (by kernel_rfl) (by kernel_rfl) (fun _ _ _ h => h) (Or.inl ⟨by rfl, ?hya16⟩) hHeld ?resta16
  case hya16 => (intro w0 hSw; (try unfold KeS at hSw); go_simp; all_goals with_reducible rfl)
  try simp only [aP, Act.put]
  refine wpAnyH_ready (rs := [17]) (by kernel_rfl) (by simp) ?_
  refine AllReadyH.cons rfl (fun K hK => ?_) AllReadyH.nil
  go_simp
  refine wmust_ok e _ _ ?_
  refine hK.out _ _ (hHeld) (fun hHeld' => ?_)
  clear hK K hHeld
  have hHeld := hHeld'
  clear hHeld'
  try simp only [aP, Act.put]
  refine wpAnyH_take (i := 18) (v := ?va18) rfl (by kernel_rfl) (by kernel_rfl) (by kernel_rfl) (fun _ _ _ h => h) (Or.inl ⟨by rfl, ?hya18⟩) hHeld ?resta18
  case hya18 => (intro w0 hSw; (try unfold KeS at hSw); go_simp; all_goals with_reducible rfl)
  try simp only [aP, Act.put]
  refine wpAnyH_done (by kernel_rfl) ?_ _
  have HB7 := hide hb75
  have HW7 := hide (HW5.out.next hb75)
  have HK7 := hide (HK5.out.trans (HW5.out.kp hb75))
  have Hg7 := hide (Hgc.out.next hb75)
  have HH7 := hide (KeS.next HH0.out hb75)
  clear hHeld hb6 hb65 hb7 hx hb75 HH0 Hgc HW5 HK5 Hvv
  have x0 := Hg7.out.cell (k := 0) (v := .int .i64 c.zone) rfl; have x1 := Hg7.out.cell (k := 1) (v := .slice c.wp c.week.length c.wc) rfl; have x2 := Hg7.out.cell (k := 2) (v := .slice c.hp c.hol.length c.hc) rfl
  gi_wp2_with (gi_at_call 223; refine Stop.out ?_)
  have he3 := HEe.out
  refine Stop.go ⟨trivial, callsIn_wide.2 (local_c c x W7 _ ((HX.out.at_ HN.out).keep (Keeps.of_below HW7.out.below)) Hc.out (by omega) (by omega) ?_)⟩
  intro W8 hb
  have HW8 := hide (HW7.out.next hb)
  have HK8 := hide (HK7.out.trans (HW7.out.kp hb))
  have Hg8 := hide (Hg7.out.next hb)
  have HH8 := hide (KeS.next HH7.out hb)
  have HB8 := hide (bseq HB7.out hb)
  clear x0 x1 x2 hb HW7 HK7 Hg7 HH7
  have x0 := Hg8.out.cell (k := 0) (v := .int .i64 c.zone) rfl; have x1 := Hg8.out.cell (k := 1) (v := .slice c.wp c.week.length c.wc) rfl; have x2 := Hg8.out.cell (k := 2) (v := .slice c.hp c.hol.length c.hc) rfl
  gi_wp2_with (gi_at_call 223; refine Stop.out ?_)
  refine Stop.go ⟨trivial, callsIn_wide.2 (local_c c e W8 _ ((HX.out.at_ HN.out).keep (Keeps.of_below HW8.out.below)) Hc.out (by omega) (by omega) ?_)⟩
  intro W9 hb
  have HW9 := hide (HW8.out.next hb)
  have HK9 := hide (HK8.out.trans (HW8.out.kp hb))
  have HH9 := hide (KeS.next HH8.out hb)
  have HB9 := hide (bseq HB8.out hb)
  clear x0 x1 x2 hb HW8 HK8 Hg8 HH8
  obtain ⟨bg, hbg⟩ : ∃ bg, dayOf c x = bg := ⟨_, rfl⟩
  obtain ⟨ls, hls⟩ : ∃ ls, dayOf c e = ls := ⟨_, rfl⟩
  rw [hbg] at hdx hdm
  rw [hls] at hde2 hdm
  rw [hbg, hls] at Hcnt0
  rw [hbg, hls]
  clear hbg hls
  obtain ⟨cn, hcn⟩ : ∃ cn, countF c bg ls = cn := ⟨_, rfl⟩
  have Hcnt := hide hcn
  rw [hcn] at Hcnt0
  clear hcn
  obtain ⟨ck, hck⟩ : ∃ ck, C k o d = ck := ⟨_, rfl⟩
  rw [hck] at HH9 Hcnt0
  clear hck
  gi_wp2
  refine rnd_held (S := KeS gw w.heap.size gc k o d b5 o5 N.clss.length N.kc c dl bd od N.clss.length P.dc bq oq N.offs.length cq rb ro rc ck) (by kernel_rfl) (by kernel_rfl) (by intro _ _ h; first | exact h | cases h | (obtain ⟨h, _⟩ := h; cases h)) ?_
  have hHeld := KeS.next HH9.out (Below.refl W9.heap.size W9).drew
  refine wpAnyH_take (i := 0) (v := ?vb0) rfl (by kernel_rfl) (by kernel_rfl) (by kernel_rfl) (fun _ _ _ h => h) (Or.inl ⟨by rfl, ?hyb0⟩) hHeld ?restb0
  case hyb0 => (intro w0 hSw; (try unfold KeS at hSw); go_simp; all_goals with_reducible rfl)
  try simp only [aP, Act.put]
  refine wpAnyH_take (i := 1) (v := ?vb1) rfl (by kernel_rfl) (by kernel_rfl) (by kernel_rfl) (fun _ _ _ h => h) (Or.inl ⟨by rfl, ?hyb1⟩) hHeld ?restb1
  case hyb1 => (intro w0 hSw; (try unfold KeS at hSw); go_simp; all_goals with_reducible rfl)
  try simp only [aP, Act.put]
  refine wpAnyH_take (i := 2) (v := ?vb2) rfl (by kernel_rfl) (by kernel_rfl) (by kernel_rfl) (fun _ _ _ h => h) (Or.inl ⟨by rfl, ?hyb2⟩) hHeld ?restb2
  case hyb2 => (intro w0 hSw; (try unfold KeS at hSw); go_simp; all_goals with_reducible rfl)
  try simp only [aP, Act.put]
  refine wpAnyH_take (i := 4) (v := ?vb4) rfl (by kernel_rfl) (by kernel_rfl) (by kernel_rfl) (fun _ _ _ h => h) (Or.inl ⟨by rfl, ?hyb4⟩) hHeld ?restb4
  case hyb4 => (intro w0 hSw; (try unfold KeS at hSw); go_simp; all_goals with_reducible rfl)
  try simp only [aP, Act.put]
  refine wpAnyH_take (i := 5) (v := ?vb5) rfl (by kernel_rfl) (by kernel_rfl) (by kernel_rfl) (fun _ _ _ h => h) (Or.inl ⟨by rfl, ?hyb5⟩) hHeld ?restb5
  case hyb5 => (intro w0 hSw; (try unfold KeS at hSw); go_simp; all_goals with_reducible rfl)
  try simp only [aP, Act.put]
  refine wpAnyH_take (i := 6) (v := ?vb6) rfl (by kernel_rfl) (by kernel_rfl) (by kernel_rfl) (fun _ _ _ h => h) (Or.inl ⟨by rfl, ?hyb6⟩) hHeld ?restb6
  case hyb6 => (intro w0 hSw; (try unfold KeS at hSw); go_simp; all_goals with_reducible rfl)
  try simp only [aP, Act.put]
  refine wpAnyH_take (i := 7) (v := ?vb7) rfl (by kernel_rfl) (by kernel_rfl) (by kernel_rfl) (fun _ _ _ h => h) (Or.inl ⟨by rfl, ?hyb7⟩) hHeld ?restb7
  case hyb7 => (intro w0 hSw; (try unfold KeS at hSw); go_simp; all_goals with_reducible rfl)
  try simp only [aP, Act.put]
  refine wpAnyH_take (i := 8) (v := ?vb8) rfl (by kernel_rfl) (by kernel_rfl) (by kernel_rfl) (fun _ _ _ h => h) (Or.inl ⟨by rfl, ?hyb8⟩) hHeld ?restb8
  case hyb8 => (intro w0 hSw; (try unfold KeS at hSw); go_simp; all_goals with_reducible rfl)
  try simp only [aP, Act.put]
  refine wpAnyH_take (i := 9) (v := ?vb9) rfl (by kernel_rfl) (by kernel_rfl) (by kernel_rfl) (fun _ _ _ h => h) (Or.inl ⟨by rfl, ?hyb9⟩) hHeld ?restb9
  case hyb9 => (intro w0 hSw; (try unfold KeS at hSw); go_simp; all_goals with_reducible rfl)
  try simp only [aP, Act.put]
  refine wpAnyH_take (i := 10) (v := ?vb10) rfl (by kernel_rfl) (by kernel_rfl) (by kernel_rfl) (fun _ _ _ h => h) (Or.inl ⟨by rfl, ?hyb10⟩) hHeld ?restb10
  case hyb10 => (intro w0 hSw; (try unfold KeS at hSw); go_simp; all_goals with_reducible rfl)
  try simp only [aP, Act.put]
  refine wpAnyH_take (i := 11) (v := ?vb11) rfl (by kernel_rfl) (by kernel_rfl) (by kernel_rfl) (fun _ _ _ h => h) (Or.inl ⟨by rfl, ?hyb11⟩) hHeld ?restb11
  case hyb11 => (intro w0 hSw; (try unfold KeS at hSw); go_simp; all_goals with_reducible rfl)
  try simp only [aP, Act.put]
  refine wpAnyH_take (i := 12) (v := ?vb12) rfl (by kernel_rfl) (by kernel_rfl) (by kernel_rfl) (fun _ _ _ h => h) (Or.inl ⟨by rfl, ?hyb12⟩) hHeld ?restb12
  case hyb12 => (intro w0 hSw; (try unfold KeS at hSw); go_simp; all_goals with_reducible rfl)
  try simp only [aP, Act.put]
  refine wpAnyH_take (i := 13) (v := ?vb13) rfl (by kernel_rfl) (by kernel_rfl) (by kernel_rfl) (fun _ _ _ h => h) (Or.inl ⟨by rfl, ?hyb13⟩) hHeld ?restb13
  case hyb13 => (intro w0 hSw; (try unfold KeS at hSw); go_simp; all_goals with_reducible rfl)
  try simp only [aP, Act.put]
  refine wpAnyH_take (i := 14) (v := ?vb14) rfl (by kernel_rfl) (by kernel_rfl) (by kernel_rfl) (fun _ _ _ h => h) (Or.inl ⟨by rfl, ?hyb14⟩) hHeld ?restb14
  case hyb14 => (intro w0 hSw; (try unfold KeS at hSw); go_simp; all_goals with_reducible rfl)
  try simp only [aP, Act.put]
  refine wpAnyH_take (i := 15) (v := ?vb15) rfl (by kernel_rfl) (by kernel_rfl) (by kernel_rfl) (fun _ _ _ h => h) (Or.inl ⟨by rfl, ?hyb15⟩) hHeld ?restb15
  case hyb15 => (intro w0 hSw; (try unfold KeS at hSw); go_simp; all_goals with_reducible rfl)
  try simp only [aP, Act.put]
  refine wpAnyH_take (i := 16) (v := ?vb16) rfl (by kernel_rfl) (by kernel_rfl) (by kernel_rfl) (fun _ _ _ h => h) (Or.inl ⟨by rfl, ?hyb16⟩) hHeld ?restb16
  case hyb16 => (intro w0 hSw; (try unfold KeS at hSw); go_simp; all_goals with_reducible rfl)
  try simp only [aP, Act.put]
  refine wpAnyH_take (i := 17) (v := ?vb17) rfl (by kernel_rfl) (by kernel_rfl) (by kernel_rfl) (fun _ _ _ h => h) (Or.inl ⟨by rfl, ?hyb17⟩) hHeld ?restb17
  case hyb17 => (intro w0 hSw; (try unfold KeS at hSw); go_simp; all_goals with_reducible rfl)
  try simp only [aP, Act.put]
  refine wpAnyH_ready (rs := [3]) (by kernel_rfl) (by simp) ?_
  refine AllReadyH.cons rfl (fun K hK => ?_) AllReadyH.nil
  go_simp
  refine calCount_c c bg ls _ _ ((HX.out.at_ HN.out).keep (Keeps.of_below (bseq HW9.out.below (Below.refl _ _).drew))) Hc.out (by omega) (by omega) (by omega) (fun W10 hb10 => ?_)
  rw [Hcnt.out]
  have hb109 : Below W9.heap.size W9 W10 := bseq (Below.refl _ _).drew hb10
  refine hK.out _ _ (KeS.next hHeld hb10) (fun hHeld' => ?_)
  clear hK K hHeld
  have hHeld := hHeld'
  clear hHeld'
  try simp only [aP, Act.put]
  refine wpAnyH_take (i := 18) (v := ?vb18) rfl (by kernel_rfl) (by kernel_rfl) (by kernel_rfl) (fun _ _ _ h => h) (Or.inl ⟨by rfl, ?hyb18⟩) hHeld ?restb18
  case hyb18 => (intro w0 hSw; (try unfold KeS at hSw); go_simp; all_goals with_reducible rfl)
  try simp only [aP, Act.put]
  refine wpAnyH_done (by kernel_rfl) ?_ _
  have HW10 := hide (HW9.out.next hb109)
  have HK10 := hide (HK9.out.trans (HW9.out.kp hb109))
  have hcc := Hcnt0.out
  clear hHeld hb10 hb109 HH9 HW9 HK9
  gi_wp2
  exact ⟨HW2.out.kfrom HK10.out _, HK10.out, HW10.out, HKw2.out.trans HK10.out⟩
end Go.Proofs.YtgfhcmidnbahjaaGreatDoor
