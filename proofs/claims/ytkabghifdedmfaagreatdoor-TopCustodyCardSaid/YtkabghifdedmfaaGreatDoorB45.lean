/- World: all that can leave leaves. World: what deeds do. World: the tracks of the fixed run. -/
import Derived.Test.YtkabghifdedmfaaGreatDoorB44
set_option linter.unusedVariables false
set_option linter.unusedSimpArgs false
namespace Go.Proofs.YtkabghifdedmfaaGreatDoor
open Go.RowKit Go.Sort Go.Shelf
attribute [local go_sem] Oper.semAt_some

def FreshR (r : ItR) : Prop := r.stl = [⟨0, 100, -1, -1⟩] ∧ r.sel = [] ∧ r.li = 0 ∧ r.se = .slice none 0 0
def GoneR (r : ItR) : Prop := r.stl = fS ∧ r.sel = [fC] ∧ r.li = -1
def PJ (w0 : World) (a : Net) (h gm gc nx : Nat) (v : Value) (t2 t4 b1 b2 : Nat) (bs : List Nat) (lbs : List UInt8) (pre : List Nat) (W : World) : Prop :=
  ∃ its, PH w0 a h gm gc nx its v t2 t4 b1 b2 9223372036854775807 W ∧ its.map ItR.b = bs ∧ its.map ItR.lb = lbs ∧ pre = bs.take pre.length ∧ ∀ (i : Nat) (r : ItR), its[i]? = some r → if i < pre.length then GoneR r else FreshR r
/-- One more has gone. -/
theorem PJ.step {w0 W : World} {a : Net} {h gm gc nx t2 t4 b1 b2 : Nat} {v : Value} {bs : List Nat} {lbs : List UInt8} {pre : List Nat} {its : List ItR} {r r' : ItR} (hP : PH w0 a h gm gc nx (its.set pre.length r') v t2 t4 b1 b2 9223372036854775807 W)
    (hbs : its.map ItR.b = bs) (hlbs : its.map ItR.lb = lbs) (hpre : pre = bs.take pre.length) (hst : ∀ (i : Nat) (r : ItR), its[i]? = some r → if i < pre.length then GoneR r else FreshR r) (hk : its[pre.length]? = some r) (hb : r'.b = r.b) (hlb : r'.lb = r.lb) (hg : GoneR r') :
    PJ w0 a h gm gc nx v t2 t4 b1 b2 bs lbs (pre ++ [r.b]) W := by
  have hbk : bs[pre.length]? = some r.b := by rw [← hbs, List.getElem?_map, hk]; rfl
  refine ⟨_, hP, by rw [set_map _ hk hb, hbs], by rw [set_map _ hk hlb, hlbs], ?_, ?_⟩
  · rw [List.length_append, List.length_singleton, take_succ hbk, ← hpre]
  · intro i x hi
    rw [List.getElem?_set] at hi
    rw [List.length_append, List.length_singleton]
    by_cases hik : pre.length = i
    · subst hik
      rw [if_pos rfl, if_pos (List.getElem?_eq_some_iff.1 hk).1] at hi
      injection hi with hi
      subst hi
      rw [if_pos (by omega)]
      exact hg
    · rw [if_neg hik] at hi
      have := hst i x hi
      by_cases hlt : i < pre.length
      · rw [if_pos hlt] at this; rw [if_pos (by omega)]; exact this
      · rw [if_neg hlt] at this; rw [if_neg (by omega)]; exact this
/-- The steps of a departure. -/
theorem ItAt.depart {B sb sc : Nat} {W : World} {r : ItR} (h : ItAt B W r) (hst : r.st = .slice (some ⟨sb, 0, none⟩) 1 sc) (hl : r.stl = [⟨0, 100, -1, -1⟩]) :
    ItAt B ((W.drew.setCell ⟨sb, 2, none⟩ (.int .i64 480)).setCell ⟨sb, 3, none⟩ (.int .i64 0)) { r with stl := [⟨0, 100, 480, 0⟩] } ∧ W.grownBy ((W.drew.setCell ⟨sb, 2, none⟩ (.int .i64 480)).setCell ⟨sb, 3, none⟩ (.int .i64 0)) (some sb) := by
  have h0 := h.next (Below.refl W.heap.size W).drew
  have hs := h0.stops
  rw [hst, hl] at hs
  have s1 := World.ownsRow.stored (xs := [.int .i64 0, .int .i64 100, .int .i64 (-1), .int .i64 (-1)]) hs 2 (.int .i64 480)
  have s2 := World.ownsRow.stored (xs := [.int .i64 0, .int .i64 100, .int .i64 480, .int .i64 (-1)]) s1.1 3 (.int .i64 0)
  have g := World.grownBy.trans s1.2 s2.2
  obtain ⟨cs, hcs⟩ := own_cs (k := sb) hs rfl
  refine ⟨⟨same_block g h0.item (h0.item.ne2 hcs (by decide)), ?_, h0.seals.kept g (.inr (own_nb h0.seals hcs (by decide))), same_block g h0.since (h0.since.ne2 hcs (by decide)), same_block g h0.label (h0.label.ne2 hcs (by decide))⟩,
    World.grownBy.trans (grown_any (Below.refl W.heap.size W).drew _) g⟩
  show World.ownsRow _ B 142 4 r.st 1 [.int .i64 0, .int .i64 100, .int .i64 480, .int .i64 0]
  rw [hst]
  exact s2.1
theorem ItAt.sealed {B : Nat} {W : World} {r : ItR} {vs : Value} {s : ByteArray} (h : ItAt B W r) (ho : W.ownsRow B 9 1 vs 1 [.string s]) : ItAt B (W.setCell ⟨r.b, 9, none⟩ vs) { r with se := vs, sel := [s] } :=
  have g := grown_set (W := W) (b := r.b) (k := 9) (x := vs) h.item.lt
  ⟨h.item.set 9 vs, h.stops.kept g (.inr (own_nb h.stops h.item (by decide))), ho.kept g (.inr (own_nb ho h.item (by decide))), same_block g h.since (h.since.ne2 h.item (by decide)), same_block g h.label (h.label.ne2 h.item (by decide))⟩
theorem ItAt.stopped {B sb : Nat} {W W9 : World} {r : ItR} {v' : Value} (h : ItAt B W r) (hsb : r.st.ownBlock = some sb) (hg : W.grownBy W9 (some sb)) (ho : W9.ownsRow B 142 4 v' 2 (fS.flatMap Stp.cells)) : ItAt B (W9.setCell ⟨r.b, 5, none⟩ v') { r with st := v', stl := fS } ∧ W9.grownBy (W9.setCell ⟨r.b, 5, none⟩ v') (some r.b) := by
  obtain ⟨cs, hcs⟩ := own_cs h.stops hsb
  have i9 := same_block hg h.item (h.item.ne2 hcs (by decide))
  have g := grown_set (W := W9) (b := r.b) (k := 5) (x := v') i9.lt
  have e9 := h.seals.kept hg (.inr (own_nb h.seals hcs (by decide)))
  have n9 := same_block hg h.since (h.since.ne2 hcs (by decide))
  have l9 := same_block hg h.label (h.label.ne2 hcs (by decide))
  exact ⟨⟨i9.set 5 v', ho.kept g (.inr (own_nb ho i9 (by decide))), e9.kept g (.inr (own_nb e9 i9 (by decide))), same_block g n9 (n9.ne2 i9 (by decide)), same_block g l9 (l9.ne2 i9 (by decide))⟩, g⟩
theorem ItAt.lined {B : Nat} {W : World} {r : ItR} (h : ItAt B W r) (x : Int) : ItAt B (W.setCell ⟨r.b, 11, none⟩ (.int .i64 x)) { r with li := x } :=
  have g := grown_set (W := W) (b := r.b) (k := 11) (x := .int .i64 x) h.item.lt
  ⟨h.item.set 11 (.int .i64 x), h.stops.kept g (.inr (own_nb h.stops h.item (by decide))), h.seals.kept g (.inr (own_nb h.seals h.item (by decide))), same_block g h.since (h.since.ne2 h.item (by decide)), same_block g h.label (h.label.ne2 h.item (by decide))⟩
theorem ItAt.held {B : Nat} {W : World} {r : ItR} (h : ItAt B W r) : ItAt B (W.setCell ⟨r.b, 10, none⟩ (.int .i64 0)) r :=
  have g := grown_set (W := W) (b := r.b) (k := 10) (x := .int .i64 0) h.item.lt
  ⟨h.item.set 10 (.int .i64 0), h.stops.kept g (.inr (own_nb h.stops h.item (by decide))), h.seals.kept g (.inr (own_nb h.seals h.item (by decide))), same_block g h.since (h.since.ne2 h.item (by decide)), same_block g h.label (h.label.ne2 h.item (by decide))⟩
set_option maxRecDepth 100000 in
set_option maxHeartbeats 8000000 in
theorem proceedAll_c (w0 : World) (a : Net) (h gm gc nx : Nat) (its : List ItR) (v : Value) (W : World) (R) (hS : HS w0 a h gm gc nx its v W) (hfr : ∀ r ∈ its, FreshR r) (hl : its.length ≤ 50) (hnl : (its.map ItR.lb).Nodup) (hN : NetAt w0 a)
    (htab : ∀ W, Below w0.heap.size w0 W → Lib.TabIs Tryz.prog W "internal/strconv.uint64pow10" .u64 Lib.pow10Tab)
    (hR : ∀ W' its', HS w0 a h gm gc nx its' v W' → its'.map ItR.lb = its.map ItR.lb → (∀ r ∈ its', GoneR r) → R (.returned (.bool true)) W') : Calls Tryz.prog 39 #[.pointer (some ⟨h, 0, none⟩), .int .i64 9223372036854775807] W R := by
  have HR := hide hR
  obtain ⟨p, cap, rfl, hpn⟩ := own_val hS.own
  obtain ⟨w1, hw1⟩ : ∃ w1, (W.alloc (.cells #[.pointer (some ⟨h, 0, none⟩)] 116)).alloc (.cells #[.bool false] 4) = w1 := ⟨_, rfl⟩
  have hb1 : Below W.heap.size W w1 := hw1 ▸ balloc (balloc (Below.refl _ _) _) _
  have k2 : Blk w1 W.heap.size #[.pointer (some ⟨h, 0, none⟩)] 116 := by rw [← hw1]; exact Blk.alloc (Blk.new_at (by simp)) _
  have k4 : Blk w1 (W.heap.size + 1) #[.bool false] 4 := by rw [← hw1]; exact Blk.new_at (by simp)
  have HI1 := hide (And.intro (hS.next hb1) (And.intro k2 (And.intro k4 hb1)))
  have x2 : w1.cell? ⟨W.heap.size, 0, none⟩ = some (.pointer (some ⟨h, 0, none⟩)) := k2.cell (k := 0) rfl
  have hw0 := hS.below.size
  have Hfr := hide hfr; have Hpn := hide hpn; have Hnl := hide hnl; have HN := hide hN; have Htab := hide htab
  clear hR hS hb1 k2 k4 hfr hpn hnl hN htab
  refine (callsIn_wide (n := 5)).1 ?_
  refine callsIn_of_wp_marks Tryz.func39 rfl trivial ?_ rfl
  simp only [Tryz.ntmps39, List.size_toArray, List.length_cons, List.length_nil, Nat.reduceAdd, Nat.reduceSub, Array.replicate_succ, Array.replicate_zero, List.push_toArray, List.append_toArray, List.nil_append, List.cons_append]
  refine wpIn_wide.2 ?_
  go_wp2_with (go_at_call 77; refine Stop.out ?_)
  refine Stop.go (departures_c h 9223372036854775807 _ _ ?_)
  obtain ⟨w5, hw5⟩ : ∃ w5, (w1.alloc (.cells #[.pointer (some ⟨h, 0, none⟩)] 116)).alloc (.cells #[.int .i64 9223372036854775807] 3) = w5 := ⟨_, rfl⟩
  have hb5 : Below w1.heap.size w1 w5 := hw5 ▸ balloc (balloc (Below.refl _ _) _) _
  have d1 : Blk w5 w1.heap.size #[.pointer (some ⟨h, 0, none⟩)] 116 := by rw [← hw5]; exact Blk.alloc (Blk.new_at (by simp)) _
  have d2 : Blk w5 (w1.heap.size + 1) #[.int .i64 9223372036854775807] 3 := by rw [← hw5]; exact Blk.new_at (by simp)
  have HP := hide (show PH w0 a h gm gc nx its (.slice p its.length cap) W.heap.size (W.heap.size + 1) w1.heap.size (w1.heap.size + 1) 9223372036854775807 w5 from ⟨HI1.out.1.next hb5, HI1.out.2.1.next hb5, HI1.out.2.2.1.next hb5, d1, d2⟩)
  clear hb5 d1 d2 x2 hw1
  rw [hw5]
  clear hw5
  generalize hg2 : W.heap.size = t2 at *
  clear hg2
  generalize hgb : w1.heap.size = b1 at *
  clear hgb HI1
  go_wp2
  refine (wpIn_wide (n := 5)).1 ?_
  refine rangeFunc_V rfl (by omega) (gf := 98) (lb := #[.pointer (some ⟨b1, 0, none⟩), .pointer (some ⟨b1 + 1, 0, none⟩)]) rfl trivial (enters_of Tryz.func98 (by kernel_rfl) rfl)
    (deps_all 4 (by omega) (its.map ItR.b) h b1 (b1 + 1) its.length cap p w5 (by rw [List.length_map]) (by omega)) (fun _ => rfl)
    (PJ w0 a h gm gc nx (.slice p its.length cap) t2 (t2 + 1) b1 (b1 + 1) (its.map ItR.b) (its.map ItR.lb)) ?hI ?hIV ?h0 ?hround ?hdone
  case hI =>
    rintro s Wx W' row ⟨is, h1, h2, h3, h4, h5⟩ hg hr
    exact ⟨is, h1.far HP.out.hs.named.lt HP.out.hs.canc.lt HP.out.hs.acts.lt HP.out.hs.below.size hg hr, h2, h3, h4, h5⟩
  case hIV =>
    rintro s Wx ⟨is, h1, h2, h3, h4, h5⟩ _
    have hlen : is.length = its.length := by have := congrArg List.length h2; simpa using this
    rw [← h2, ← hlen]
    rw [← hlen] at h1
    refine h1.dv (fun i r hr => ?_)
    have := h5 i r hr
    by_cases hlt : i < s.length
    · rw [if_pos hlt] at this ⊢; exact this.2.2
    · rw [if_neg hlt] at this ⊢; exact this.2.2.1
  case h0 => exact ⟨its, HP.out, rfl, rfl, by simp, fun i r hr => by rw [if_neg (by simp)]; exact Hfr.out r (List.mem_of_getElem? hr)⟩
  case hdone =>
    rintro D xs W5 hD hxs ⟨is, hP, h2, h3, h4, h5⟩ hd
    subst hxs
    have hgone : ∀ r ∈ is, GoneR r := fun r hr => by
      obtain ⟨i, hi⟩ := List.getElem?_of_mem hr
      have hil := (List.getElem?_eq_some_iff.1 hi).1
      have := h5 i r hi
      rwa [if_pos (by rw [← h2, List.length_map]; exact hil)] at this
    have hlt := HP.out.k4.lt
    have x4 : W5.cell? ⟨t2 + 1, 0, none⟩ = some (.bool false) := hP.k4.cell (k := 0) rfl
    have f4 := hP.k4.free 0
    have HP5 := hide hP
    have hd2 : (W5.setCell ⟨t2 + 1, 0, none⟩ (.bool true)).heap[D]? = some (.deferred (some [])) := (Below.heap_setCell _ _ _ _ (by show D ≠ t2 + 1; omega)).trans hd
    have Hd := hide hd2; have Hgone := hide hgone; have H3 := hide h3
    clear hd hd2 hP h2 h3 h4 h5 hgone
    go_wp2
    refine ⟨by simp, .inl ⟨_, _, rfl, run_takeDeferred Hd.out, ?_⟩⟩
    have hs6 : HS w0 a h gm gc nx is (.slice p its.length cap) (W5.setCell ⟨t2 + 1, 0, none⟩ (.bool true)) := HP5.out.hs.at4 HP5.out.k4 (grown_set HP5.out.k4.lt) (Nat.le_succ_of_le hw0)
    have k6 : Blk (W5.setCell ⟨t2 + 1, 0, none⟩ (.bool true)) (t2 + 1) #[.bool true] 4 := HP5.out.k4.set 0 (.bool true)
    have hg := grownBy_putObj' (W5.setCell ⟨t2 + 1, 0, none⟩ (.bool true)) D (.deferred none)
    have hs7 := hs6.far (B := w5.heap.size) HP.out.hs.named.lt HP.out.hs.canc.lt HP.out.hs.acts.lt HP.out.hs.below.size hg (fun r e => by cases e; exact ⟨hD, _, Hd.out, rfl⟩)
    have k7 := own_blk2 (B := w5.heap.size) hg (fun r e => by cases e; exact ⟨hD, _, Hd.out, rfl⟩) k6
    have z := k7.cell (k := 0) rfl
    refine ⟨.bool true, ?_, HR.out _ is hs7 H3.out Hgone.out⟩
    clear hg hs6 hs7 k6 k7
    simp [results, Tryz.results39, go_sem, z]
  case hround =>
    intro l pre b Wx K' hI hpx hlen hK
    have Hpx := hide hpx
    clear hI hpx
    unfold encB
    gi_wp2
    intro W2 hI2
    obtain ⟨is, hP, hbs, hlbs, hpre, hst⟩ := hI2
    obtain ⟨r, hk, hrb⟩ : ∃ r, is[pre.length]? = some r ∧ r.b = b := by
      have := Hpx.out
      rw [← hbs, List.getElem?_map] at this
      cases hr : is[pre.length]? with
      | none => rw [hr] at this; cases this
      | some r => rw [hr] at this; injection this with this; exact ⟨r, rfl, this⟩
    subst hrb
    have hfr : FreshR r := by have := hst _ r hk; rwa [if_neg (Nat.lt_irrefl _)] at this
    obtain ⟨hf1, hf2, hf3, hf4⟩ := hfr
    have hr := hP.hs.items r (List.mem_of_getElem? hk)
    have h0 := hr.1.stops
    rw [hf1] at h0
    obtain ⟨sb, sc, hsv, hsB, hsl⟩ := own_form h0 (by decide)
    have hsv' : r.st = .slice (some ⟨sb, 0, none⟩) 1 sc := hsv
    have HPk := hide (And.intro hP (And.intro hbs (And.intro hlbs (And.intro hpre (And.intro hst (And.intro hk (And.intro hf1 (And.intro hf2 (And.intro hf3 (And.intro hf4 (And.intro hr.1 (And.intro hsv' h0)))))))))))) 
    have y5 : W2.cell? ⟨r.b, 5, none⟩ = some (.slice (some ⟨sb, 0, none⟩) 1 sc) := by rw [← hsv']; exact hr.1.item.cell (k := 5) rfl
    clear hP hbs hlbs hpre hst hk hf1 hf2 hf3 hf4 hr h0 hsv hsv' hsB hsl Hpx
    gi_wp2
    have c0 : W2.cell? ⟨t2, 0, none⟩ = some (.pointer (some ⟨h, 0, none⟩)) := HPk.out.1.k2.cell (k := 0) rfl
    have c4 : W2.cell? ⟨h, 4, none⟩ = some (.slice (some ⟨a.lin, 0, none⟩) 2 2) := HPk.out.1.hs.hist.cell (k := 4) rfl
    have c11 : W2.cell? ⟨r.b, 11, none⟩ = some (.int .i64 0) := by rw [← HPk.out.2.2.2.2.2.2.2.2.1]; exact HPk.out.2.2.2.2.2.2.2.2.2.2.1.item.cell (k := 11) rfl
    have hNl := (HN.out.next HPk.out.1.hs.below).lin
    refine pr5_reg l 3 _ h r.b t2 a.lin W2 ⟨c0, c4, c11, hNl.cell (k := 0) rfl, hNl.cell (k := 1) rfl, hNl.cell (k := 2) rfl, hNl.cell (k := 3) rfl, hNl.cell (k := 4) rfl, hNl.cell (k := 5) rfl⟩ (by rintro _ _ ⟨hh, _⟩; cases hh) (hide ?_)
    intro v19 v20 v21 v22 v23 v24 v25 v26 v27 v28 v29
    have HB3 := hide (show Below W2.heap.size W2 (W2.drew.alloc (.cells #[.string (str1 108), .int .i64 0, .int .i64 1, .int .i64 480, .int .i64 120, .int .i64 1] 110)) from balloc (Below.refl _ _).drew _)
    have HG6 := hide (show Blk (W2.drew.alloc (.cells #[.string (str1 108), .int .i64 0, .int .i64 1, .int .i64 480, .int .i64 120, .int .i64 1] 110)) W2.heap.size #[.string (str1 108), .int .i64 0, .int .i64 1, .int .i64 480, .int .i64 120, .int .i64 1] 110 from Blk.new _ _ _)
    have y5b := cell_later HB3.out y5
    have hl6 : W2.heap.size < (W2.drew.alloc (.cells #[.string (str1 108), .int .i64 0, .int .i64 1, .int .i64 480, .int .i64 120, .int .i64 1] 110)).heap.size := HG6.out.lt
    clear c0 c4 c11 hNl y5
    generalize (W2.drew.alloc (.cells #[.string (str1 108), .int .i64 0, .int .i64 1, .int .i64 480, .int .i64 120, .int .i64 1] 110)) = W3 at *
    gi_wp2_with (gi_at_call 78; refine Stop.out ?_)
    refine Stop.go ⟨trivial, CallsIn.inRound _ (callsIn_wide.2 (last1_c r.b sb sc _ _ y5b ?_))⟩
    intro n
    have hdn := below_drewN' (Below.refl W3.heap.size W3) n
    have HB4 := hide (bseq HB3.out hdn)
    have HG7 := hide (HG6.out.next hdn)
    clear HB3 HG6 y5b hl6 hdn
    generalize W3.drewN n = W4 at *
    have HP4 := hide (HPk.out.1.next HB4.out)
    have HI4 := hide (HPk.out.2.2.2.2.2.2.2.2.2.2.1.next HB4.out)
    have hst4 := HI4.out.stops
    rw [HPk.out.2.2.2.2.2.2.1, HPk.out.2.2.2.2.2.2.2.2.2.2.2.1] at hst4
    obtain ⟨cs4, hcs4⟩ := own_cs (k := sb) hst4 rfl
    have hne : sb ≠ r.b := hcs4.ne2 HI4.out.item (by decide)
    have hg6 : W2.heap.size ≠ sb := HG7.out.ne2 hcs4 (by decide)
    have hg6b : W2.heap.size ≠ r.b := HG7.out.ne2 HI4.out.item (by decide)
    have c12 : W4.cell? ⟨r.b, 12, none⟩ = some (.int .i64 480) := HI4.out.item.cell (k := 12) rfl
    have c11 : W4.cell? ⟨r.b, 11, none⟩ = some (.int .i64 0) := by rw [← HPk.out.2.2.2.2.2.2.2.2.1]; exact HI4.out.item.cell (k := 11) rfl
    have s2 : W4.cell? ⟨sb, 2, none⟩ = some (.int .i64 (-1)) := World.ownsRow.cellAt (xs := [.int .i64 0, .int .i64 100, .int .i64 (-1), .int .i64 (-1)]) hst4 2 (by decide)
    have s3 : W4.cell? ⟨sb, 3, none⟩ = some (.int .i64 (-1)) := World.ownsRow.cellAt (xs := [.int .i64 0, .int .i64 100, .int .i64 (-1), .int .i64 (-1)]) hst4 3 (by decide)
    have hd := ItAt.depart HI4.out HPk.out.2.2.2.2.2.2.2.2.2.2.2.1 HPk.out.2.2.2.2.2.2.1
    have hsb : r.st.ownBlock = some sb := by rw [HPk.out.2.2.2.2.2.2.2.2.2.2.2.1]; rfl
    have HP5 := hide (HP4.out.upd HPk.out.2.2.2.2.2.1 hsb hd.2 (World.grownBy.refl _ _) hd.1 rfl rfl ⟨sb, hsb, .inl rfl⟩)
    have HI5 := hide hd.1
    have HK5 := hide ((KeepsFrom.of_grownBy (B := w5.heap.size) (grown_of_below HB4.out) (fun j e => by cases e)).trans (((KeepsOthers.drew W4).trans ((KeepsOthers.setCell W4.drew ⟨sb, 2, none⟩ (.int .i64 480)).trans (KeepsOthers.setCell _ ⟨sb, 3, none⟩ (.int .i64 0)))).from w5.heap.size))
    have HG5 := hide (show Blk ((W4.drew.setCell ⟨sb, 2, none⟩ (.int .i64 480)).setCell ⟨sb, 3, none⟩ (.int .i64 0)) W2.heap.size #[.string (str1 108), .int .i64 0, .int .i64 1, .int .i64 480, .int .i64 120, .int .i64 1] 110 from ((HG7.out.next (Below.refl _ _).drew).set_other (fun e => hg6 e.symm) _).set_other (fun e => hg6 e.symm) _)
    have f2 := own_free hst4 2; have f3 := own_free hst4 3
    have Hsb := hide hsb
    clear hd hsb hst4 hcs4
    gi_wp2
    refine pr7_reg l 3 _ r.b sb W4 ⟨c12, c11⟩ hne s2 s3 f2 f3 (by rintro _ _ ⟨hh, _⟩; cases hh) (hide ?_)
    intro v32 v33 v34 v35 v36 v37 v38 v39 v40 v41 v42 v43 v44 v45
    clear c12 c11 s2 s3 f2 f3 HP4 HI4 HG7 HB4
    generalize ((W4.drew.setCell ⟨sb, 2, none⟩ (.int .i64 480)).setCell ⟨sb, 3, none⟩ (.int .i64 0)) = W5 at *
    have c12 : W5.cell? ⟨r.b, 12, none⟩ = some (.int .i64 480) := HI5.out.item.cell (k := 12) rfl
    have c11 : W5.cell? ⟨r.b, 11, none⟩ = some (.int .i64 0) := by rw [← HPk.out.2.2.2.2.2.2.2.2.1]; exact HI5.out.item.cell (k := 11) rfl
    have c9 : W5.cell? ⟨r.b, 9, none⟩ = some (.slice none 0 0) := by rw [← HPk.out.2.2.2.2.2.2.2.2.2.1]; exact HI5.out.item.cell (k := 9) rfl
    gi_wp2
    refine pr8_reg l 3 _ w0.heap.size r.b _ W5 HP5.out.hs.below.size HI5.out.item ⟨c12, c11⟩ c9 (hide fun Wx hb => Htab.out Wx (bseq HP5.out.hs.below hb)) (by rintro _ _ ⟨hh, _⟩; cases hh) (hide ?_)
    intro W9 vs v46 v47 v48 v49 v50 v51 v52 v53 v54 v55 v56 v57 v58 v59 v60 v61 v62 v63 v64 v65 v66 v67 v68 v69 hOwn9 hb9
    have hI6 := (HI5.out.next hb9).sealed hOwn9
    have hkA : (is.set pre.length { r with stl := [⟨0, 100, 480, 0⟩] })[pre.length]? = some { r with stl := [⟨0, 100, 480, 0⟩] } := List.getElem?_set_self (List.getElem?_eq_some_iff.1 HPk.out.2.2.2.2.2.1).1
    have hP6 := (HP5.out.next hb9).upd hkA Hsb.out (World.grownBy.refl _ _) (grown_set (k := 9) (x := vs) (HI5.out.next hb9).item.lt) hI6 rfl rfl ⟨sb, Hsb.out, .inl rfl⟩
    rw [List.set_set] at hP6
    have HP6 := hide hP6; have HI6 := hide hI6
    have HK6 := hide (HK5.out.trans ((KeepsFrom.of_grownBy (grown_of_below hb9) (fun j e => by cases e)).trans ((KeepsOthers.setCell W9 ⟨r.b, 9, none⟩ vs).from _)))
    have HG6 := hide ((HG5.out.next hb9).set_other (a := ⟨r.b, 9, none⟩) (fun e => hg6b e.symm) vs)
    clear hI6 hkA hP6 HP5 HI5 HK5 HG5 hOwn9 hb9 c12 c11 c9
    generalize W9.setCell ⟨r.b, 9, none⟩ vs = W6 at *
    have c12 : W6.cell? ⟨r.b, 12, none⟩ = some (.int .i64 480) := HI6.out.item.cell (k := 12) rfl
    have c5 : W6.cell? ⟨r.b, 5, none⟩ = some (.slice (some ⟨sb, 0, none⟩) 1 sc) := by rw [← HPk.out.2.2.2.2.2.2.2.2.2.2.2.1]; exact HI6.out.item.cell (k := 5) rfl
    have t62 : W6.cell? ⟨W2.heap.size, 2, none⟩ = some (.int .i64 1) := HG6.out.cell (k := 2) rfl
    have t64 : W6.cell? ⟨W2.heap.size, 4, none⟩ = some (.int .i64 120) := HG6.out.cell (k := 4) rfl
    have ho6 : W6.ownsRow w0.heap.size 142 4 (.slice (some ⟨sb, 0, none⟩) 1 sc) 1 [.int .i64 0, .int .i64 100, .int .i64 480, .int .i64 0] := by
      have hx := HI6.out.stops
      show W6.ownsRow w0.heap.size 142 4 (.slice (some ⟨sb, 0, none⟩) 1 sc) [(⟨0, 100, 480, 0⟩ : Stp)].length ([(⟨0, 100, 480, 0⟩ : Stp)].flatMap Stp.cells)
      rw [← HPk.out.2.2.2.2.2.2.2.2.2.2.2.1]
      exact hx
    gi_wp2
    refine pr9_reg l 3 _ w0.heap.size r.b sb sc W2.heap.size _ [.int .i64 0, .int .i64 100, .int .i64 480, .int .i64 0] W6 HP6.out.hs.below.size HI6.out.item (fun e => hne e.symm) hg6 hg6b ⟨t62, t64, c12⟩ c5 (hide ho6) (by rintro _ _ ⟨hh, _⟩; cases hh) (hide ?_)
    intro W10 v' v70 v71 v72 v73 v74 v75 v76 v77 v78 v79 v80 v81 v82 v83 v84 v85 v86 v87 v88 v89 v90 hOwn hgr hwh
    have hs3 := HI6.out.stopped Hsb.out hgr hOwn
    obtain ⟨sb3, sc3, rfl, hB3, hl3⟩ := own_form hOwn (by decide)
    have hkB : (is.set pre.length { r with stl := [⟨0, 100, 480, 0⟩], se := vs, sel := [fC] })[pre.length]? = some { r with stl := [⟨0, 100, 480, 0⟩], se := vs, sel := [fC] } := List.getElem?_set_self (List.getElem?_eq_some_iff.1 HPk.out.2.2.2.2.2.1).1
    have hP7 := HP6.out.upd hkB Hsb.out hgr hs3.2 hs3.1 rfl rfl ⟨sb3, rfl, by rcases hwh with hh | hh; exact .inl (by injection hh); exact .inr (hh sb3 rfl)⟩
    rw [List.set_set] at hP7
    have HP7 := hide hP7; have HI7 := hide hs3.1
    have HK7 := hide (HK6.out.trans (((KeepsOthers.of_grownBy hgr (fun j o e ho => by
      cases e
      obtain ⟨ds, hds⟩ := own_cs (k := sb) ho6 rfl
      have hds' : W6.heap[sb]? = some (.cells ds 142 (0, 0)) := hds
      rw [hds'] at ho
      injection ho with ho
      subst ho
      rfl)).trans (KeepsOthers.setCell W10 ⟨r.b, 5, none⟩ (.slice (some ⟨sb3, 0, none⟩) 2 sc3))).from _))
    have h34 : (W10.setCell ⟨r.b, 5, none⟩ (.slice (some ⟨sb3, 0, none⟩) 2 sc3)).cell? ⟨sb3, 4, none⟩ = some (.int .i64 1) := World.ownsRow.cellAt (xs := fS.flatMap Stp.cells) hs3.1.stops 4 (by decide)
    have hn3 : sb3 ≠ r.b := by
      obtain ⟨ds, hds⟩ := own_cs (k := sb3) hs3.1.stops rfl
      exact hds.ne2 hs3.1.item (by decide)
    have H34 := hide (And.intro h34 hn3)
    clear hs3 hkB hP7 HP6 HI6 HK6 HG6 hOwn hgr hwh hB3 hl3 c12 c5 t62 t64 ho6 h34 hn3
    generalize (W10.setCell ⟨r.b, 5, none⟩ (.slice (some ⟨sb3, 0, none⟩) 2 sc3)) = W11 at *
    have c10 : W11.cell? ⟨r.b, 10, none⟩ = some (.int .i64 0) := HI7.out.item.cell (k := 10) rfl
    have f10 := HI7.out.item.free 10
    have hkC : (is.set pre.length { r with st := (.slice (some ⟨sb3, 0, none⟩) 2 sc3), stl := fS, se := vs, sel := [fC] })[pre.length]? = some { r with st := (.slice (some ⟨sb3, 0, none⟩) 2 sc3), stl := fS, se := vs, sel := [fC] } := List.getElem?_set_self (List.getElem?_eq_some_iff.1 HPk.out.2.2.2.2.2.1).1
    have hI8 := HI7.out.held
    have hP8 := HP7.out.upd (sb := sb3) hkC rfl (World.grownBy.refl _ _) (grown_set (k := 10) (x := .int .i64 0) HI7.out.item.lt) hI8 rfl rfl ⟨sb3, rfl, .inl rfl⟩
    rw [List.set_set] at hP8
    have HP8 := hide hP8; have HI8 := hide hI8
    have ct : (W11.setCell ⟨r.b, 10, none⟩ (.int .i64 0)).cell? ⟨t2, 0, none⟩ = some (.pointer (some ⟨h, 0, none⟩)) := hP8.k2.cell (k := 0) rfl
    have HK8 := hide (HK7.out.trans ((KeepsOthers.setCell W11 ⟨r.b, 10, none⟩ (.int .i64 0)).from _))
    have H35 := hide (cell_set_other (p := ⟨r.b, 10, none⟩) (v := .int .i64 0) H34.out.1 (fun e => H34.out.2 (congrArg Addr.block e).symm))
    have HkC := hide hkC
    clear hkC hI8 hP8 HP7 HI7 HK7
    gi_wp2_with (gi_at_call 80; refine Stop.out ?_)
    clear c10 f10 ct
    generalize (W11.setCell ⟨r.b, 10, none⟩ (.int .i64 0)) = W12 at *
    have hlbs8 : ((is.set pre.length { r with st := (.slice (some ⟨sb3, 0, none⟩) 2 sc3), stl := fS, se := vs, sel := [fC] }).map ItR.lb).Nodup := by rw [set_map (r' := { r with st := (.slice (some ⟨sb3, 0, none⟩) 2 sc3), stl := fS, se := vs, sel := [fC] }) ItR.lb HPk.out.2.2.2.2.2.1 rfl, HPk.out.2.2.1]; exact Hnl.out
    have hfind := find2_names _ _ hlbs8 (List.mem_of_getElem? HkC.out)
    refine Stop.go ⟨trivial, CallsIn.inRound _ (callsIn_wide.2 (decideStay_c h r.b r.bb gm sb3 sc3 r.lb r.li _ _ W12 _ HI8.out.item rfl rfl rfl rfl rfl HI8.out.label (HP8.out.hs.hist.cell (k := 8) rfl) (HP8.out.hs.hist.ne2 HI8.out.item (by decide)) HP8.out.hs.named hfind H35.out H34.out.2 ?_))⟩
    intro n m
    have hI9 := HI8.out.lined (-1)
    have hP9 := HP8.out.upd (sb := sb3) HkC.out rfl (World.grownBy.refl _ _) (grown_set (k := 11) (x := .int .i64 (-1)) HI8.out.item.lt) hI9 rfl rfl ⟨sb3, rfl, .inl rfl⟩
    rw [List.set_set] at hP9
    have hbe := below_drewN' (Below.refl (W12.setCell ⟨r.b, 11, none⟩ (.int .i64 (-1))).heap.size (W12.setCell ⟨r.b, 11, none⟩ (.int .i64 (-1)))) (n + m)
    have hP10 := hP9.next hbe
    have hPJ := PJ.step hP10 HPk.out.2.1 HPk.out.2.2.1 HPk.out.2.2.2.1 HPk.out.2.2.2.2.1 HPk.out.2.2.2.2.2.1 rfl rfl ⟨rfl, rfl, rfl⟩
    have hK10 := HK8.out.trans (((KeepsOthers.setCell W12 ⟨r.b, 11, none⟩ (.int .i64 (-1))).from _).trans (KeepsFrom.of_grownBy (grown_of_below hbe) (fun j e => by cases e)))
    have HE := hide (And.intro hK10 hPJ)
    clear hI9 hP9 hP10 hPJ hK10 hbe hfind hlbs8
    gi_wp2
    exact HE.out
end Go.Proofs.YtkabghifdedmfaaGreatDoor

namespace Go.Proofs.YtkabghifdedmfaaGreatDoor
open Go.RowKit Go.Sort Go.Shelf

set_option maxRecDepth 100000 in
set_option maxHeartbeats 2000000 in
theorem actions_c (h : Nat) (w : World) (R) (hR : ∀ w', Below w.heap.size w w' → MpAt svI w' w.heap.size (actsL h) → R (.returned (.map (some w.heap.size))) w') : Calls Tryz.prog 38 #[.pointer (some ⟨h, 0, none⟩)] w R := by
  have HR := hide hR
  have hmm := @run_makeMap Tryz.prog
  have k8 := MpAt.new (sv := svI) w
  have hb1 : Below w.heap.size w (w.alloc (.map #[] 0)) := balloc (Below.refl _ _) _
  obtain ⟨u1, hu1, m1, g1, s1⟩ := k8.update mlaw122 1 (.func (.func 72) #[.pointer (some ⟨h, 0, none⟩)] #[])
  obtain ⟨u2, hu2, m2, g2, s2⟩ := m1.update mlaw122 2 (.func (.func 73) #[.pointer (some ⟨h, 0, none⟩)] #[])
  obtain ⟨u3, hu3, m3, g3, s3⟩ := m2.update mlaw122 3 (.func (.func 74) #[.pointer (some ⟨h, 0, none⟩)] #[])
  obtain ⟨u4, hu4, m4, g4, s4⟩ := m3.update mlaw122 4 (.func (.func 75) #[.pointer (some ⟨h, 0, none⟩)] #[])
  obtain ⟨u5, hu5, m5, g5, s5⟩ := m4.update mlaw122 5 (.func (.func 76) #[.pointer (some ⟨h, 0, none⟩)] #[])
  have G := World.grownBy.trans (World.grownBy.trans (World.grownBy.trans (World.grownBy.trans g1 g2) g3) g4) g5
  have HF := hide (HR.out u5 (hb1.grown G hb1.size (fun j e => by cases e; exact Nat.le_refl _)) m5)
  clear hR HR k8 hb1 m1 m2 m3 m4 m5 g1 g2 g3 g4 g5 s1 s2 s3 s4 s5 G
  go_enter Tryz.func38, Tryz.ntmps38
  go_wp2
  exact HF.out
end Go.Proofs.YtkabghifdedmfaaGreatDoor

namespace Go.Proofs.YtkabghifdedmfaaGreatDoor
open Go.RowKit Go.Sort Go.Shelf

theorem trk_of {B : Nat} {W : World} {r : ItR} (hI : ItAt B W r) (hg : GoneR r) : ∃ t : Trk, t.cells = [.string ⟨#[r.lb]⟩, .int .i64 0, .int .i64 1, .int .i64 0, .int .i64 100, r.st, .bool false, .slice (some ⟨r.nb, 0, none⟩) 1 1, .slice (some ⟨r.bb, 0, none⟩) 1 1, r.se] ∧ TrkAt W t ∧ t.tk = ⟨fS, [100], [⟨#[r.lb]⟩], [fC]⟩ ∧ ∀ k u, t.cells[k]? = some u → W.cell? ⟨r.b, k, none⟩ = some u := by
  have key : ∀ t : Trk, t.cells = r.cells.toList.take 10 → ∀ k u, t.cells[k]? = some u → W.cell? ⟨r.b, k, none⟩ = some u := fun t ht k u hu => by
    rw [ht, List.getElem?_take] at hu
    split at hu
    · exact hI.item.cell (by rw [← Array.getElem?_toList]; exact hu)
    · cases hu
  obtain ⟨h1, h2, _⟩ := hg
  have hs := hI.stops; rw [h1] at hs
  have he := hI.seals; rw [h2] at he
  obtain ⟨sb, sc, hst, _, _⟩ := own_form hs (by decide)
  obtain ⟨eb, ec, hse, _, _⟩ := own_form he (by decide)
  rw [hst] at hs; rw [hse] at he
  refine ⟨⟨⟨#[r.lb]⟩, 0, 1, 0, 100, some ⟨sb, 0, none⟩, fS, sc, false, some ⟨r.nb, 0, none⟩, [100], 1, some ⟨r.bb, 0, none⟩, [⟨#[r.lb]⟩], 1, some ⟨eb, 0, none⟩, [fC], ec⟩, ?_, ⟨?_, ?_, ⟨?_, ?_⟩, ⟨?_, ?_⟩, ?_⟩, rfl, key _ (by unfold ItR.cells; rw [hst, hse]; rfl)⟩
  · rw [hst, hse]; rfl
  · exact EncAt.of_own (fun _ => rfl) (by decide) hs
  · intro _
    refine ⟨r.nb, 0, rfl, fun i x hx => ?_⟩
    rw [Nat.zero_add]
    refine hI.since.cell (k := i) ?_
    cases i with
    | zero => injection hx with hx; subst hx; rfl
    | succ i => cases hx
  · refine EncAt.of_flat (k := 1) (fun _ => rfl) (fun j u hu => hI.label.cell (k := j) ?_)
    cases j with
    | zero => injection hu with hu; subst hu; rfl
    | succ j => cases hu
  · intro s hs'
    rw [List.mem_singleton] at hs'
    subst hs'
    show 1 ≤ maxLen
    unfold maxLen; omega
  · exact EncAt.of_own (enc := fun s => [Value.string s]) (l := [fC]) (fun _ => rfl) (by decide) he
  · intro s hs'
    rw [List.mem_singleton] at hs'
    subst hs'
    show 6 ≤ maxLen
    unfold maxLen; omega
  · exact ⟨by show 2 ≤ maxLen; unfold maxLen; omega, by show 1 ≤ maxLen; unfold maxLen; omega, by show 1 ≤ maxLen; unfold maxLen; omega, by show 1 ≤ maxLen; unfold maxLen; omega⟩
theorem two_of {its : List ItR} (h : its.map ItR.lb = [65, 66]) : ∃ ra rb, its = [ra, rb] ∧ ra.lb = 65 ∧ rb.lb = 66 := by
  match its, h with
  | [ra, rb], h =>
    simp only [List.map_cons, List.map_nil, List.cons.injEq, and_true] at h
    exact ⟨ra, rb, rfl, h.1, h.2⟩
  | [], h => simp at h
  | [_], h => simp at h
  | _ :: _ :: _ :: _, h => simp at h
end Go.Proofs.YtkabghifdedmfaaGreatDoor
