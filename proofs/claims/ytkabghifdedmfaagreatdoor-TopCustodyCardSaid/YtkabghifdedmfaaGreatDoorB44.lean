/- World: an item that has arrived; nothing leaves. World: an item leaves: the history when one item turns. -/
import Derived.Test.YtkabghifdedmfaaGreatDoorB43
set_option linter.unusedVariables false
set_option linter.unusedSimpArgs false
namespace Go.Proofs.YtkabghifdedmfaaGreatDoor
open Go.RowKit Go.Sort Go.Shelf
attribute [local go_sem] Oper.semAt_some

set_option maxRecDepth 100000 in
set_option maxHeartbeats 4000000 in
theorem decideStay_c (h b bb gm sb sc : Nat) (lb : UInt8) (li : Int) (cs : Array Value) (L : List (ByteArray × Value)) (W : World) (R) (hI : Blk W b cs 127) (h2 : cs[2]? = some (.int .i64 1)) (h5 : cs[5]? = some (.slice (some ⟨sb, 0, none⟩) 2 sc)) (h6 : cs[6]? = some (.bool false))
    (h8 : cs[8]? = some (.slice (some ⟨bb, 0, none⟩) 1 1)) (h11 : cs[11]? = some (.int .i64 li)) (hl : Blk W bb #[.string ⟨#[lb]⟩] 9) (hh : W.cell? ⟨h, 8, none⟩ = some (.map (some gm))) (hhb : h ≠ b) (hM : MpAt svS W gm L) (hf : find2 L (⟨#[lb]⟩ : ByteArray) = some (.pointer (some ⟨b, 0, none⟩)))
    (hs : W.cell? ⟨sb, 4, none⟩ = some (.int .i64 1)) (hsb : sb ≠ b)
    (hR : ∀ n m, R (.returned (.tuple #[])) (((W.setCell ⟨b, 11, none⟩ (.int .i64 (-1))).drewN n).drewN m)) : Calls Tryz.prog 80 #[.pointer (some ⟨h, 0, none⟩), .pointer (some ⟨b, 0, none⟩)] W R := by
  have HR := hide hR
  have x11 : W.cell? ⟨b, 11, none⟩ = some (.int .i64 li) := hI.cell h11
  have f11 := hI.free 11
  have y5 : (W.setCell ⟨b, 11, none⟩ (.int .i64 (-1))).cell? ⟨b, 5, none⟩ = some (.slice (some ⟨sb, 0, none⟩) 2 sc) := cell_set_other (hI.cell h5) (by simp)
  have y2 : (W.setCell ⟨b, 11, none⟩ (.int .i64 (-1))).cell? ⟨b, 2, none⟩ = some (.int .i64 1) := cell_set_other (hI.cell h2) (by simp)
  have y6 : (W.setCell ⟨b, 11, none⟩ (.int .i64 (-1))).cell? ⟨b, 6, none⟩ = some (.bool false) := cell_set_other (hI.cell h6) (by simp)
  have y8 : (W.setCell ⟨b, 11, none⟩ (.int .i64 (-1))).cell? ⟨b, 8, none⟩ = some (.slice (some ⟨bb, 0, none⟩) 1 1) := cell_set_other (hI.cell h8) (by simp)
  have yl : (W.setCell ⟨b, 11, none⟩ (.int .i64 (-1))).cell? ⟨bb, 0, none⟩ = some (.string ⟨#[lb]⟩) := cell_set_other (hl.cell (k := 0) rfl) (fun e => hl.ne2 hI (by decide) (congrArg Addr.block e).symm)
  have yh : (W.setCell ⟨b, 11, none⟩ (.int .i64 (-1))).cell? ⟨h, 8, none⟩ = some (.map (some gm)) := cell_set_other hh (fun e => hhb (congrArg Addr.block e).symm)
  have ys : (W.setCell ⟨b, 11, none⟩ (.int .i64 (-1))).cell? ⟨sb, 4, none⟩ = some (.int .i64 1) := cell_set_other hs (fun e => hsb (congrArg Addr.block e).symm)
  have hM1 : MpAt svS (W.setCell ⟨b, 11, none⟩ (.int .i64 (-1))) gm L := hM.set (fun e => hM.ne hI e.symm) _
  have HM := hide hM1
  have HY := hide (And.intro y5 (And.intro y2 (And.intro y6 (And.intro y8 (And.intro yl (And.intro yh ys))))))
  have Hf := hide hf
  clear hR hI h2 h5 h6 h8 h11 hl hh hM hs y2 y6 y8 yl yh ys hM1 hf
  go_enter Tryz.func80, Tryz.ntmps80
  go_wp2_with (go_at_call 78; refine Stop.out ?_)
  refine Stop.go (last2_c b sb sc _ _ y5 ?_)
  intro n
  have HR2 := hide (HR.out n)
  clear x11 f11 y5 HR
  generalize (W.setCell ⟨b, 11, none⟩ (.int .i64 (-1))) = W1 at *
  have hlk : ∀ k, (Instr.lookup 117 (.map (some gm)) (.string ⟨#[lb]⟩) false).run Tryz.prog ((W1.drewN n).drewN k) = .ok (.pointer (some ⟨b, 0, none⟩)) ((W1.drewN n).drewN k) := fun k => by
    have := (HM.out.next (below_drewN' (below_drewN' (Below.refl _ _) n) k)).lookup mlaw117 (⟨#[lb]⟩ : ByteArray) false
    rw [Hf.out] at this
    simpa using this
  have hbn := below_drewN' (Below.refl W1.heap.size W1) n
  have y2 := cell_later hbn HY.out.2.1; have y6 := cell_later hbn HY.out.2.2.1; have y8 := cell_later hbn HY.out.2.2.2.1; have yl := cell_later hbn HY.out.2.2.2.2.1; have yh := cell_later hbn HY.out.2.2.2.2.2.1; have ys := cell_later hbn HY.out.2.2.2.2.2.2
  clear HM HY hbn
  generalize W1.drewN n = W2 at *
  go_wp2
  go_quiet ((go_at_call 97; exact quiet_dr (carried_q b bb _ _ (by simpa using y8) (by simpa using yl))))
  have HF := hide (HR2.out nq)
  clear HR2
  go_wp2
  refine bodyPost_ret (results_none Tryz.results80 _ _ _) rfl HF.out
theorem blk_far {W : World} {k q : Nat} {cs : Array Value} {t : TypeId} {o : Obj} (hk : Blk W k cs t) (ho : W.heap[q]? = some o) (hc : o.isCells = false) : k ≠ q := fun e => by
  subst e
  have hk' : W.heap[k]? = some (.cells cs t (0, 0)) := hk
  rw [hk'] at ho
  injection ho with ho
  subst ho
  exact absurd hc (by simp [Obj.isCells])
theorem own_far {W : World} {base e size n q : Nat} {v : Value} {xs : List Value} {o : Obj} (h : W.ownsRow base e size v n xs) (ho : W.heap[q]? = some o) (hc : o.isCells = false) : v.ownBlock ≠ some q := fun hk => by
  obtain ⟨ds, hds⟩ := own_cs h hk
  exact blk_far hds ho hc rfl
theorem HS.far {w0 W W' : World} {a : Net} {h gm gc nx B : Nat} {its : List ItR} {v : Value} {row : Option Nat} (s : HS w0 a h gm gc nx its v W) (hgB : gm < B) (hcB : gc < B) (haB : h + 1 < B) (hw : w0.heap.size ≤ B) (hg : W.grownBy W' row)
    (hr : ∀ r, row = some r → B ≤ r ∧ ∃ o : Obj, W.heap[r]? = some o ∧ o.isCells = false) : HS w0 a h gm gc nx its v W' := by
  cases row with
  | none => exact s.next (below_of_none hg)
  | some q =>
    obtain ⟨hq, o, ho, hc⟩ := hr q rfl
    exact ⟨s.below.grown hg s.below.size (fun k e => by cases e; omega), same_block hg s.hist (blk_far s.hist ho hc), s.hh, s.named.turned hg (by omega), s.hgm, s.canc.turned hg (by omega), s.ne, s.acts.turned hg (by omega), s.nega, s.own.kept hg (.inr (own_far s.own ho hc)),
      fun r hr2 => ⟨(s.items r hr2).1.turned hg ⟨blk_far (s.items r hr2).1.item ho hc, blk_far (s.items r hr2).1.since ho hc, blk_far (s.items r hr2).1.label ho hc, own_far (s.items r hr2).1.stops ho hc, own_far (s.items r hr2).1.seals ho hc⟩, (s.items r hr2).2⟩, s.nod, s.nos⟩
theorem HS.at4 {w0 W W' : World} {a : Net} {h gm gc nx q : Nat} {its : List ItR} {v : Value} {cs : Array Value} {t : TypeId} (s : HS w0 a h gm gc nx its v W) (hq : Blk W q cs t) (hg : W.grownBy W' (some q)) (hw : w0.heap.size ≤ q := by omega)
    (h1 : 121 ≠ t := by decide) (h2 : 125 ≠ t := by decide) (h3 : 127 ≠ t := by decide) (h4 : 142 ≠ t := by decide) (h5 : 3 ≠ t := by decide) (h6 : 9 ≠ t := by decide) : HS w0 a h gm gc nx its v W' :=
  ⟨s.below.grown hg s.below.size (fun k e => by cases e; exact hw), same_block hg s.hist (s.hist.ne2 hq h1), s.hh, s.named.turned hg (s.named.ne hq), s.hgm, s.canc.turned hg (s.canc.ne hq), s.ne, s.acts.turned hg (s.acts.ne hq), s.nega, s.own.kept hg (.inr (own_nb s.own hq h2)),
    fun r hr => ⟨(s.items r hr).1.turned hg (foreign_blk (s.items r hr).1 hq h3 h4 h5 h6), (s.items r hr).2⟩, s.nod, s.nos⟩
/-- What stands while items leave. -/
structure PH (w0 : World) (a : Net) (h gm gc nx : Nat) (its : List ItR) (v : Value) (t2 t4 b1 b2 : Nat) (bf : Int) (W : World) : Prop where
  hs : HS w0 a h gm gc nx its v W
  k2 : Blk W t2 #[.pointer (some ⟨h, 0, none⟩)] 116
  k4 : Blk W t4 #[.bool false] 4
  c1 : Blk W b1 #[.pointer (some ⟨h, 0, none⟩)] 116
  c2 : Blk W b2 #[.int .i64 bf] 3
theorem PH.next {w0 W W' : World} {a : Net} {h gm gc nx t2 t4 b1 b2 : Nat} {its : List ItR} {v : Value} {bf : Int} (s : PH w0 a h gm gc nx its v t2 t4 b1 b2 bf W) (hb : Below W.heap.size W W') : PH w0 a h gm gc nx its v t2 t4 b1 b2 bf W' := ⟨s.hs.next hb, s.k2.next hb, s.k4.next hb, s.c1.next hb, s.c2.next hb⟩
theorem PH.far {w0 W W' : World} {a : Net} {h gm gc nx t2 t4 b1 b2 B : Nat} {its : List ItR} {v : Value} {bf : Int} {row : Option Nat} (s : PH w0 a h gm gc nx its v t2 t4 b1 b2 bf W) (hgB : gm < B) (hcB : gc < B) (haB : h + 1 < B) (hw : w0.heap.size ≤ B) (hg : W.grownBy W' row)
    (hr : ∀ r, row = some r → B ≤ r ∧ ∃ o : Obj, W.heap[r]? = some o ∧ o.isCells = false) : PH w0 a h gm gc nx its v t2 t4 b1 b2 bf W' :=
  ⟨s.hs.far hgB hcB haB hw hg hr, own_blk2 hg hr s.k2, own_blk2 hg hr s.k4, own_blk2 hg hr s.c1, own_blk2 hg hr s.c2⟩
theorem PH.dv {w0 W : World} {a : Net} {h gm gc nx t2 t4 b1 b2 c k : Nat} {its : List ItR} {p : Option Addr} {bf : Int} (s : PH w0 a h gm gc nx its (.slice p its.length c) t2 t4 b1 b2 bf W) (hli : ∀ i r, its[i]? = some r → r.li = if i < k then -1 else 0) : DV (its.map ItR.b) h b1 b2 bf p its.length c k W := by
  refine ⟨s.c1.cell (k := 0) rfl, s.c2.cell (k := 0) rfl, s.hs.hist.cell (k := 7) rfl, ?_, ?_⟩
  · intro i b hb
    rw [List.getElem?_map] at hb
    cases hr : its[i]? with
    | none => rw [hr] at hb; cases hb
    | some r =>
      rw [hr] at hb
      injection hb with hb
      subst hb
      have hil := (List.getElem?_eq_some_iff.1 hr).1
      have hown := s.hs.own
      obtain ⟨g, cap, hv, _, _⟩ := own_form hown (by omega)
      injection hv with h1 h2 h3
      subst h1; subst h3
      refine ⟨g, rfl, ?_⟩
      rw [hown.cellAt i (by omega)]
      unfold ptrs
      rw [List.getElem?_map, hr]
      rfl
  · intro i b hb
    rw [List.getElem?_map] at hb
    cases hr : its[i]? with
    | none => rw [hr] at hb; cases hb
    | some r =>
      rw [hr] at hb
      injection hb with hb
      subst hb
      have hI := (s.hs.items r (List.mem_of_getElem? hr)).1.item
      refine ⟨?_, hI.cell (k := 12) rfl⟩
      rw [← hli i r hr]
      exact hI.cell (k := 11) rfl
set_option maxRecDepth 100000 in
set_option maxHeartbeats 4000000 in
theorem proceedNone_c (w0 : World) (a : Net) (h gm gc nx : Nat) (its : List ItR) (v : Value) (W : World) (R) (hS : HS w0 a h gm gc nx its v W) (hli : ∀ r ∈ its, r.li = 0) (hl : its.length ≤ 50)
    (hR : ∀ W', HS w0 a h gm gc nx its v W' → Below W.heap.size W W' → R (.returned (.bool true)) W') : Calls Tryz.prog 39 #[.pointer (some ⟨h, 0, none⟩), .int .i64 100] W R := by
  have HR := hide hR
  obtain ⟨p, cap, rfl, hpn⟩ := own_val hS.own
  obtain ⟨n, hn⟩ : ∃ n, its.length = n := ⟨_, rfl⟩
  obtain ⟨w1, hw1⟩ : ∃ w1, (W.alloc (.cells #[.pointer (some ⟨h, 0, none⟩)] 116)).alloc (.cells #[.bool false] 4) = w1 := ⟨_, rfl⟩
  have hb1 : Below W.heap.size W w1 := hw1 ▸ balloc (balloc (Below.refl _ _) _) _
  have k2 : Blk w1 W.heap.size #[.pointer (some ⟨h, 0, none⟩)] 116 := by rw [← hw1]; exact Blk.alloc (Blk.new_at (by simp)) _
  have k4 : Blk w1 (W.heap.size + 1) #[.bool false] 4 := by rw [← hw1]; exact Blk.new_at (by simp)
  have HI1 := hide (And.intro (hS.next hb1) (And.intro k2 (And.intro k4 hb1)))
  have x2 : w1.cell? ⟨W.heap.size, 0, none⟩ = some (.pointer (some ⟨h, 0, none⟩)) := k2.cell (k := 0) rfl
  have hw0 := hS.below.size
  have Hli := hide hli; have Hn := hide hn; have Hpn := hide hpn
  clear hR hS hb1 k2 k4 hli hn hpn
  refine (callsIn_wide (n := 5)).1 ?_
  refine callsIn_of_wp_marks Tryz.func39 rfl trivial ?_ rfl
  simp only [Tryz.ntmps39, List.size_toArray, List.length_cons, List.length_nil, Nat.reduceAdd, Nat.reduceSub, Array.replicate_succ, Array.replicate_zero, List.push_toArray, List.append_toArray, List.nil_append, List.cons_append]
  refine wpIn_wide.2 ?_
  go_wp2_with (go_at_call 77; refine Stop.out ?_)
  refine Stop.go (departures_c h 100 _ _ ?_)
  obtain ⟨w5, hw5⟩ : ∃ w5, (w1.alloc (.cells #[.pointer (some ⟨h, 0, none⟩)] 116)).alloc (.cells #[.int .i64 100] 3) = w5 := ⟨_, rfl⟩
  have hb5 : Below w1.heap.size w1 w5 := hw5 ▸ balloc (balloc (Below.refl _ _) _) _
  have d1 : Blk w5 w1.heap.size #[.pointer (some ⟨h, 0, none⟩)] 116 := by rw [← hw5]; exact Blk.alloc (Blk.new_at (by simp)) _
  have d2 : Blk w5 (w1.heap.size + 1) #[.int .i64 100] 3 := by rw [← hw5]; exact Blk.new_at (by simp)
  have HP := hide (show PH w0 a h gm gc nx its (.slice p its.length cap) W.heap.size (W.heap.size + 1) w1.heap.size (w1.heap.size + 1) 100 w5 from ⟨HI1.out.1.next hb5, HI1.out.2.1.next hb5, HI1.out.2.2.1.next hb5, d1, d2⟩)
  have HBW := hide (bseq HI1.out.2.2.2 hb5)
  clear hb5 d1 d2 x2 hw1
  rw [hw5]
  clear hw5
  go_wp2
  refine (wpIn_wide (n := 5)).1 ?_
  refine rangeFunc_V rfl (by omega) (gf := 98) (lb := #[.pointer (some ⟨w1.heap.size, 0, none⟩), .pointer (some ⟨w1.heap.size + 1, 0, none⟩)]) rfl trivial (enters_of Tryz.func98 (by kernel_rfl) rfl)
    (deps_none 4 (by omega) (its.map ItR.b) h w1.heap.size (w1.heap.size + 1) its.length cap p w5 (by rw [List.length_map]) (by omega)) (fun _ => rfl)
    (fun pre Wx => pre = [] ∧ PH w0 a h gm gc nx its (.slice p its.length cap) W.heap.size (W.heap.size + 1) w1.heap.size (w1.heap.size + 1) 100 Wx ∧ Below W.heap.size W Wx) ?hI ?hIV ?h0 ?hround ?hdone
  case hI => exact fun s W W' row hp hg hr => ⟨hp.1, hp.2.1.far HP.out.hs.named.lt HP.out.hs.canc.lt HP.out.hs.acts.lt HP.out.hs.below.size hg hr, hp.2.2.grown hg hp.2.2.size (fun k e => Nat.le_trans HBW.out.size (hr k e).1)⟩
  case hIV => exact fun s W hp _ => hp.2.1.dv (fun i r hr => by rw [if_neg (by omega)]; exact Hli.out r (List.mem_of_getElem? hr))
  case h0 => exact ⟨rfl, HP.out, HBW.out⟩
  case hround => exact fun l pre x W K' _ hf => hf.elim
  case hdone =>
    rintro D xs W5 hD hxs ⟨_, hP, hBW⟩ hd
    have HB5 := hide hBW
    clear hBW
    have hlt := HP.out.k4.lt
    have x4 : W5.cell? ⟨W.heap.size + 1, 0, none⟩ = some (.bool false) := hP.k4.cell (k := 0) rfl
    have f4 := hP.k4.free 0
    have HP5 := hide hP
    have hd2 : (W5.setCell ⟨W.heap.size + 1, 0, none⟩ (.bool true)).heap[D]? = some (.deferred (some [])) := (Below.heap_setCell _ _ _ _ (by show D ≠ W.heap.size + 1; omega)).trans hd
    have Hd := hide hd2
    clear hd hd2 hP
    go_wp2
    refine ⟨by simp, .inl ⟨_, _, rfl, run_takeDeferred Hd.out, ?_⟩⟩
    have hs6 : HS w0 a h gm gc nx its (.slice p its.length cap) (W5.setCell ⟨W.heap.size + 1, 0, none⟩ (.bool true)) := HP5.out.hs.at4 HP5.out.k4 (grown_set HP5.out.k4.lt) (Nat.le_succ_of_le hw0)
    have k6 : Blk (W5.setCell ⟨W.heap.size + 1, 0, none⟩ (.bool true)) (W.heap.size + 1) #[.bool true] 4 := HP5.out.k4.set 0 (.bool true)
    have hg := grownBy_putObj' (W5.setCell ⟨W.heap.size + 1, 0, none⟩ (.bool true)) D (.deferred none)
    have hs7 := hs6.far (B := w5.heap.size) HP.out.hs.named.lt HP.out.hs.canc.lt HP.out.hs.acts.lt HP.out.hs.below.size hg (fun r e => by cases e; exact ⟨hD, _, Hd.out, rfl⟩)
    have k7 := own_blk2 (B := w5.heap.size) hg (fun r e => by cases e; exact ⟨hD, _, Hd.out, rfl⟩) k6
    have z := k7.cell (k := 0) rfl
    have hbe := (HB5.out.setCell (p := ⟨W.heap.size + 1, 0, none⟩) (Nat.le_succ _) (.bool true)).grown hg (HB5.out.setCell (p := ⟨W.heap.size + 1, 0, none⟩) (Nat.le_succ _) (.bool true)).size (fun k e => by cases e; exact Nat.le_trans HBW.out.size hD)
    refine ⟨.bool true, ?_, HR.out _ hs7 hbe⟩
    clear hbe
    clear hg hs6 hs7 k6 k7
    simp [results, Tryz.results39, go_sem, z]
end Go.Proofs.YtkabghifdedmfaaGreatDoor

namespace Go.Proofs.YtkabghifdedmfaaGreatDoor
open Go.RowKit Go.Sort Go.Shelf

theorem set_map {α β : Type} (f : α → β) {l : List α} {k : Nat} {r r' : α} (hk : l[k]? = some r) (h : f r' = f r) : (l.set k r').map f = l.map f := by
  apply List.ext_getElem?
  intro i
  rw [List.getElem?_map, List.getElem?_map, List.getElem?_set]
  by_cases hi : k = i
  · subst hi
    rw [if_pos rfl, if_pos (List.getElem?_eq_some_iff.1 hk).1, hk]
    simp [h]
  · rw [if_neg hi]
theorem nodup_ne {α β : Type} (f : α → β) {l : List α} {i k : Nat} {x r : α} (hn : (l.map f).Nodup) (hi : l[i]? = some x) (hk : l[k]? = some r) (hne : i ≠ k) : f x ≠ f r := by
  intro e
  have h1 : (l.map f)[i]? = some (f x) := by rw [List.getElem?_map, hi]; rfl
  have h2 : (l.map f)[k]? = some (f x) := by rw [List.getElem?_map, hk, e]; rfl
  obtain ⟨a1, b1⟩ := List.getElem?_eq_some_iff.1 h1
  obtain ⟨a2, b2⟩ := List.getElem?_eq_some_iff.1 h2
  unfold List.Nodup at hn
  rw [List.pairwise_iff_getElem] at hn
  rcases Nat.lt_or_gt_of_ne hne with h | h
  · exact hn i k a1 a2 h (b1.trans b2.symm)
  · exact hn k i a2 a1 h (b2.trans b1.symm)
theorem pair_ne {l : List ItR} {i k : Nat} {x r : ItR} (hn : l.Pairwise (fun r r' => r.st.ownBlock ≠ r'.st.ownBlock)) (hi : l[i]? = some x) (hk : l[k]? = some r) (hne : i ≠ k) : x.st.ownBlock ≠ r.st.ownBlock := by
  rw [List.pairwise_iff_getElem] at hn
  obtain ⟨a1, b1⟩ := List.getElem?_eq_some_iff.1 hi
  obtain ⟨a2, b2⟩ := List.getElem?_eq_some_iff.1 hk
  rcases Nat.lt_or_gt_of_ne hne with h | h
  · have := hn i k a1 a2 h; rw [b1, b2] at this; exact this
  · have := hn k i a2 a1 h; rw [b1, b2] at this; exact this.symm
theorem HS.upd {w0 W Wm W' : World} {a : Net} {h gm gc nx k sb : Nat} {its : List ItR} {v : Value} {r r' : ItR} (s : HS w0 a h gm gc nx its v W) (hk : its[k]? = some r) (hsb : r.st.ownBlock = some sb)
    (g1 : W.grownBy Wm (some sb)) (g2 : Wm.grownBy W' (some r.b)) (hI : ItAt w0.heap.size W' r') (hb : r'.b = r.b) (hlb : r'.lb = r.lb) (hst : ∃ q, r'.st.ownBlock = some q ∧ (q = sb ∨ W.heap.size ≤ q)) :
    HS w0 a h gm gc nx (its.set k r') v W' := by
  have hr := s.items r (List.mem_of_getElem? hk)
  obtain ⟨cs, hcs⟩ := own_cs hr.1.stops hsb
  have hb1 : Blk Wm r.b r.cells 127 := same_block g1 hr.1.item (hr.1.item.ne2 hcs (by decide))
  have hsb0 : w0.heap.size ≤ sb := by
    rcases hr.1.stops.2 with ⟨hv, _⟩ | ⟨g, cap, cur, hv, hB, _⟩
    · rw [hv] at hsb; cases hsb
    · rw [hv] at hsb; cases hsb; exact hB
  have hist1 := same_block g1 s.hist (s.hist.ne2 hcs (by decide))
  have named1 := s.named.turned g1 (s.named.ne hcs)
  have canc1 := s.canc.turned g1 (s.canc.ne hcs)
  have acts1 := s.acts.turned g1 (s.acts.ne hcs)
  have own1 := s.own.kept g1 (.inr (own_nb s.own hcs (by decide)))
  have below1 := s.below.grown g1 s.below.size (fun j e => by cases e; exact hsb0)
  have hnames : names (its.set k r') = names its := by unfold names; exact set_map _ hk (by rw [hb, hlb])
  have hptrs : ptrs (its.set k r') = ptrs its := by unfold ptrs; exact set_map _ hk (by rw [hb])
  refine ⟨below1.grown g2 below1.size (fun j e => by cases e; exact hr.2), same_block g2 hist1 (hist1.ne2 hb1 (by decide)), s.hh, ?_, s.hgm, canc1.turned g2 (canc1.ne hb1), s.ne, acts1.turned g2 (acts1.ne hb1), s.nega, ?_, ?_, ?_, ?_⟩
  · rw [hnames]; exact named1.turned g2 (named1.ne hb1)
  · rw [hptrs, List.length_set]; exact own1.kept g2 (.inr (own_nb own1 hb1 (by decide)))
  · intro x hx
    obtain ⟨i, hi⟩ := List.getElem?_of_mem hx
    rw [List.getElem?_set] at hi
    by_cases hik : k = i
    · subst hik
      rw [if_pos rfl, if_pos (List.getElem?_eq_some_iff.1 hk).1] at hi
      injection hi with hi
      subst hi
      exact ⟨hI, by rw [hb]; exact hr.2⟩
    · rw [if_neg hik] at hi
      have hx0 := s.items x (List.mem_of_getElem? hi)
      have h1 := hx0.1.turned g1 (foreign_stop hx0.1 hcs (by rw [← hsb]; exact pair_ne s.nos hi hk (fun e => hik e.symm)))
      exact ⟨h1.turned g2 (foreign_item h1 hb1 (nodup_ne ItR.b s.nod hi hk (fun e => hik e.symm))), hx0.2⟩
  · rw [set_map ItR.b hk hb]; exact s.nod
  · have key : ∀ i x, (its.set k r')[i]? = some x → i ≠ k → its[i]? = some x := fun i x hi hne => by
      rw [List.getElem?_set, if_neg (fun e => hne e.symm)] at hi; exact hi
    have atk : ∀ x, (its.set k r')[k]? = some x → x = r' := fun x hi => by
      rw [List.getElem?_set, if_pos rfl, if_pos (List.getElem?_eq_some_iff.1 hk).1] at hi; injection hi with hi; exact hi.symm
    have dif : ∀ i x, its[i]? = some x → i ≠ k → x.st.ownBlock ≠ r'.st.ownBlock := fun i x hi hne e => by
      have h0 := pair_ne s.nos hi hk hne
      have hx0 := s.items x (List.mem_of_getElem? hi)
      obtain ⟨q, hq, h1 | h1⟩ := hst
      · rw [hq, h1, ← hsb] at e; exact h0 e
      · rw [hq] at e
        have := own_ltG hx0.1.stops e
        omega
    rw [List.pairwise_iff_getElem]
    intro i j hi hj hij
    have e1 := List.getElem?_eq_getElem hi
    have e2 := List.getElem?_eq_getElem hj
    by_cases h1 : i = k
    · subst h1
      rw [atk _ e1]
      exact (dif j _ (key j _ e2 (by omega)) (by omega)).symm
    · by_cases h2 : j = k
      · subst h2
        rw [atk _ e2]
        exact dif i _ (key i _ e1 h1) h1
      · exact pair_ne s.nos (key i _ e1 h1) (key j _ e2 h2) (by omega)
theorem PH.upd {w0 W Wm W' : World} {a : Net} {h gm gc nx k sb t2 t4 b1 b2 : Nat} {its : List ItR} {v : Value} {bf : Int} {r r' : ItR} (s : PH w0 a h gm gc nx its v t2 t4 b1 b2 bf W) (hk : its[k]? = some r) (hsb : r.st.ownBlock = some sb)
    (g1 : W.grownBy Wm (some sb)) (g2 : Wm.grownBy W' (some r.b)) (hI : ItAt w0.heap.size W' r') (hb : r'.b = r.b) (hlb : r'.lb = r.lb) (hst : ∃ q, r'.st.ownBlock = some q ∧ (q = sb ∨ W.heap.size ≤ q)) :
    PH w0 a h gm gc nx (its.set k r') v t2 t4 b1 b2 bf W' := by
  have hr := s.hs.items r (List.mem_of_getElem? hk)
  obtain ⟨cs, hcs⟩ := own_cs hr.1.stops hsb
  have hb1 : Blk Wm r.b r.cells 127 := same_block g1 hr.1.item (hr.1.item.ne2 hcs (by decide))
  have bb : ∀ {x : Nat} {ds : Array Value} {t : TypeId}, Blk W x ds t → t ≠ 142 → t ≠ 127 → Blk W' x ds t := fun hx h1 h2 =>
    same_block g2 (same_block g1 hx (hx.ne2 hcs h1)) ((same_block g1 hx (hx.ne2 hcs h1)).ne2 hb1 h2)
  exact ⟨s.hs.upd hk hsb g1 g2 hI hb hlb hst, bb s.k2 (by decide) (by decide), bb s.k4 (by decide) (by decide), bb s.c1 (by decide) (by decide), bb s.c2 (by decide) (by decide)⟩
end Go.Proofs.YtkabghifdedmfaaGreatDoor
