/- Deliveries as they lie in memory. The changes that slips make. Slips are applied. -/
import Derived.Test.YtihdpkeclmpehaaA7
import Derived.Test.YtihdpkeclmpehaaA12
set_option linter.unusedVariables false
set_option linter.unusedSimpArgs false
namespace Go.Proofs.Ytihdpkeclmpehaa
open Go.RowKit

structure Dm where
  g : Nat
  r : Rec
  number : Int
  times : Int
  missed : Bool
def Dm.cells (d : Dm) : List Value := [.int .i64 d.r.scanner, .int .i64 d.r.number, .int .i64 d.r.kind, .int .i64 d.r.time, .string d.r.label, .slice d.r.cp d.r.contents.length d.r.cc, .int .i64 d.number, .int .i64 d.times, .bool d.missed]
def Dm.dp (d : Dm) : DP := ⟨d.r.rp, d.number, d.times, d.missed⟩
def Dm.ptr (d : Dm) : Value := .pointer (some ⟨d.g, 0, none⟩)
/-- A slip as it lies in memory. -/
structure Sl where
  kind : Int
  index : Int
  by_ : Int
  label : ByteArray
  r : Rec
def Sl.cells (s : Sl) : List Value := [.int .i64 s.kind, .int .i64 s.index, .int .i64 s.by_, .string s.label, .int .i64 s.r.scanner, .int .i64 s.r.number, .int .i64 s.r.kind, .int .i64 s.r.time, .string s.r.label, .slice s.r.cp s.r.contents.length s.r.cc]
def Sl.sp (s : Sl) : SP := ⟨s.kind, s.index, s.by_, s.label, s.r.rp⟩
def SlsAt (w : World) (p : Option Addr) (l : List Sl) : Prop := EncAt 10 Sl.cells w p l ∧ ∀ s ∈ l, StrsAt w s.r.cp s.r.contents
theorem SlsAt.keep {w w' : World} {p : Option Addr} {l : List Sl} (hk : Keeps w w') (h : SlsAt w p l) : SlsAt w' p l := ⟨h.1.keep hk, fun s hs => (h.2 s hs).keep hk⟩
theorem SlsAt.sl {w : World} {p : Option Addr} {l : List Sl} (h : SlsAt w p l) {i : Nat} (hi : i < l.length) : ∃ b o s, p = some ⟨b, o, none⟩ ∧ l[i]? = some s ∧ StrsAt w s.r.cp s.r.contents ∧
    w.cell? ⟨b, o + i * 10, none⟩ = some (.int .i64 s.kind) ∧ w.cell? ⟨b, o + i * 10 + 1, none⟩ = some (.int .i64 s.index) ∧ w.cell? ⟨b, o + i * 10 + 2, none⟩ = some (.int .i64 s.by_) ∧ w.cell? ⟨b, o + i * 10 + 3, none⟩ = some (.string s.label) ∧
    w.cell? ⟨b, o + i * 10 + 4, none⟩ = some (.int .i64 s.r.scanner) ∧ w.cell? ⟨b, o + i * 10 + 5, none⟩ = some (.int .i64 s.r.number) ∧ w.cell? ⟨b, o + i * 10 + 6, none⟩ = some (.int .i64 s.r.kind) ∧ w.cell? ⟨b, o + i * 10 + 7, none⟩ = some (.int .i64 s.r.time) ∧
    w.cell? ⟨b, o + i * 10 + 8, none⟩ = some (.string s.r.label) ∧ w.cell? ⟨b, o + i * 10 + 9, none⟩ = some (.slice s.r.cp s.r.contents.length s.r.cc) := by
  obtain ⟨b, o, x, hp, hx, hc⟩ := h.1.at_ hi
  exact ⟨b, o, x, hp, hx, h.2 x (List.mem_of_getElem? hx), hc 0 _ rfl, hc 1 _ rfl, hc 2 _ rfl, hc 3 _ rfl, hc 4 _ rfl, hc 5 _ rfl, hc 6 _ rfl, hc 7 _ rfl, hc 8 _ rfl, hc 9 _ rfl⟩
/-- The deliveries while slips are applied. -/
structure DI (w0 : World) (b2 b5 gm : Nat) (M : List (Int × Value)) (lv : Value) (ds iv : List Dm) (W : World) : Prop where
  box2 : Blk W b2 #[lv] 87
  lrow : W.ownsRow w0.heap.size 88 1 lv ds.length (ds.map Dm.ptr)
  box5 : ∃ v, Blk W b5 #[v] 87 ∧ W.ownsRow w0.heap.size 88 1 v iv.length (iv.map Dm.ptr) ∧ ∀ k, v.ownBlock = some k → lv.ownBlock ≠ some k
  blk : ∀ d ∈ ds ++ iv, Blk W d.g d.cells.toArray 90 ∧ w0.heap.size ≤ d.g
  dis : (ds ++ iv).Pairwise (fun a b => a.g ≠ b.g)
  map : MpAt intK W gm M
  below : Below w0.heap.size w0 W
  lo : w0.heap.size ≤ b2 ∧ w0.heap.size ≤ b5 ∧ b2 ≠ b5
section
variable {w0 W W' : World} {b2 b5 gm : Nat} {M : List (Int × Value)} {lv : Value} {ds iv : List Dm}
theorem map_ne {cs : Array Value} {T : TypeId} {g : Nat} (h : MpAt intK W gm M) (hg : Blk W g cs T) : gm ≠ g := fun e => by
  obtain ⟨es, cl, hh, _⟩ := h
  unfold Blk at hg
  rw [← e, hh] at hg
  cases hg
theorem map_off {base e size n : Nat} {v : Value} {xs : List Value} (h : MpAt intK W gm M) (hr : W.ownsRow base e size v n xs) : v.ownBlock ≠ some gm := fun e2 => by
  obtain ⟨es, cl, hh, _⟩ := h
  rcases hr.2 with ⟨hv', _⟩ | ⟨g', cap', cur, hv', _, hh', _⟩
  · subst hv'; cases e2
  · subst hv'; cases e2; rw [hh] at hh'; cases hh'
theorem DI.next (h : DI w0 b2 b5 gm M lv ds iv W) (hb : Below W.heap.size W W') : DI w0 b2 b5 gm M lv ds iv W' := by
  obtain ⟨v, h1, h2, h3⟩ := h.box5
  exact ⟨h.box2.next hb, own_below h.lrow hb, ⟨v, h1.next hb, own_below h2 hb, h3⟩, fun d hd => ⟨(h.blk d hd).1.next hb, (h.blk d hd).2⟩, h.dis, h.map.next hb, bseq h.below hb, h.lo⟩
theorem DI.set (h : DI w0 b2 b5 gm M lv ds iv W) {i : Nat} {d d' : Dm} (hi : ds[i]? = some d) (hg : d'.g = d.g) {o : Nat} {v : Value} (hc : d'.cells.toArray = d.cells.toArray.setIfInBounds o v) :
    DI w0 b2 b5 gm M lv (ds.set i d') iv (W.setCell ⟨d.g, o, none⟩ v) := by
  have hdm : d ∈ ds ++ iv := List.mem_append_left _ (List.mem_of_getElem? hi)
  obtain ⟨hk, hlo⟩ := h.blk d hdm
  have hil := (List.getElem?_eq_some_iff.1 hi).1
  have hsame : ∀ k, k ≠ d.g → (W.setCell ⟨d.g, o, none⟩ v).heap[k]? = W.heap[k]? := fun k hk => Below.heap_setCell _ _ _ _ hk
  obtain ⟨v5, h1, h2, h3⟩ := h.box5
  have hptr : (ds.set i d').map Dm.ptr = ds.map Dm.ptr := by
    rw [List.map_set]
    apply List.ext_getElem?
    intro j
    rw [List.getElem?_set]
    by_cases hj : i = j
    · subst hj
      rw [if_pos rfl, if_pos (by simpa using hil), List.getElem?_map, hi]
      show some (Dm.ptr d') = some (Dm.ptr d)
      unfold Dm.ptr; rw [hg]
    · rw [if_neg hj]
  have hds : ds.map Dm.g = (ds.set i d').map Dm.g := by
    rw [List.map_set]
    apply List.ext_getElem?
    intro j
    rw [List.getElem?_set]
    by_cases hj : i = j
    · subst hj
      rw [if_pos rfl, if_pos (by simpa using hil), List.getElem?_map, hi]
      show some d.g = some d'.g
      rw [hg]
    · rw [if_neg hj]
  refine ⟨h.box2.same (hsame _ (h.box2.ne hk (by decide))), ?_, ⟨v5, h1.same (hsame _ (h1.ne hk (by decide))), own_same h2 (fun k hkk => hsame k (fun e => hk.off_row h2 (by decide) (e ▸ hkk))), h3⟩, fun x hx => ?_, ?_, h.map.block (hsame _ (map_ne h.map hk)), h.below.setCell (p := ⟨d.g, o, none⟩) hlo v, h.lo⟩
  · rw [List.length_set, hptr]
    exact own_same h.lrow (fun k hkk => hsame k (fun e => hk.off_row h.lrow (by decide) (e ▸ hkk)))
  · rcases List.mem_append.1 hx with hx | hx
    · obtain ⟨j, hj⟩ := List.getElem?_of_mem hx
      rw [List.getElem?_set] at hj
      by_cases hij : i = j
      · subst hij
        rw [if_pos rfl, if_pos hil] at hj
        injection hj with hj; subst hj
        rw [hg, hc]
        exact ⟨hk.set o v, hlo⟩
      · rw [if_neg hij] at hj
        have hxm : x ∈ ds ++ iv := List.mem_append_left _ (List.mem_of_getElem? hj)
        have hne : x.g ≠ d.g := by
          have hd2 := (List.pairwise_append.1 h.dis).1
          rw [List.pairwise_iff_getElem] at hd2
          obtain ⟨hj1, hj2⟩ := List.getElem?_eq_some_iff.1 hj
          obtain ⟨hi1, hi2⟩ := List.getElem?_eq_some_iff.1 hi
          rcases Nat.lt_or_gt_of_ne hij with hlt | hgt
          · have := hd2 i j hi1 hj1 hlt
            rw [hi2, hj2] at this; exact this.symm
          · have := hd2 j i hj1 hi1 hgt
            rw [hi2, hj2] at this; exact this
        exact ⟨(h.blk x hxm).1.same (hsame _ hne), (h.blk x hxm).2⟩
    · have hxm : x ∈ ds ++ iv := List.mem_append_right _ hx
      have hne : x.g ≠ d.g := ((List.pairwise_append.1 h.dis).2.2 d (List.mem_of_getElem? hi) x hx).symm
      exact ⟨(h.blk x hxm).1.same (hsame _ hne), (h.blk x hxm).2⟩
  · have h0 := h.dis
    have e : ∀ l : List Dm, l.Pairwise (fun a b => a.g ≠ b.g) ↔ (l.map Dm.g).Pairwise (· ≠ ·) := fun l => by rw [List.pairwise_map]
    rw [e, List.map_append] at h0 ⊢
    rw [← hds]; exact h0
theorem DI.push (h : DI w0 b2 b5 gm M lv ds iv W) {v v' : Value} {r : Rec} {nu : Int} {w3 : World} {o : Obj} (hv : Blk W b5 #[v] 87) (hrow : W.ownsRow w0.heap.size 88 1 v iv.length (iv.map Dm.ptr)) (hvl : ∀ k, v.ownBlock = some k → lv.ownBlock ≠ some k)
    (hgr : ((W.alloc (.cells (Dm.cells ⟨W.heap.size, r, nu, 1, false⟩).toArray 90)).alloc o).grownBy w3 v.ownBlock)
    (hown : w3.ownsRow w0.heap.size 88 1 v' (iv.length + 1) (iv.map Dm.ptr ++ [.pointer (some ⟨W.heap.size, 0, none⟩)])) (hw : v'.ownBlock = v.ownBlock ∨ ∀ k, v'.ownBlock = some k → ((W.alloc (.cells (Dm.cells ⟨W.heap.size, r, nu, 1, false⟩).toArray 90)).alloc o).heap.size ≤ k) :
    DI w0 b2 b5 gm M lv ds (iv ++ [⟨W.heap.size, r, nu, 1, false⟩]) (w3.setCell ⟨b5, 0, none⟩ v') := by
  obtain ⟨W2, hW2⟩ : ∃ W2, (W.alloc (.cells (Dm.cells ⟨W.heap.size, r, nu, 1, false⟩).toArray 90)).alloc o = W2 := ⟨_, rfl⟩
  rw [hW2] at hgr hw
  have hb2 : Below W.heap.size W W2 := hW2 ▸ balloc (balloc (Below.refl _ _) _) _
  have hsz2 : W2.heap.size = W.heap.size + 2 := by rw [← hW2]; simp
  have hnew2 : Blk W2 W.heap.size (Dm.cells ⟨W.heap.size, r, nu, 1, false⟩).toArray 90 := by rw [← hW2]; exact (Blk.new _ _ _).alloc _
  have hsame : ∀ k, k < W2.heap.size → k ≠ b5 → v.ownBlock ≠ some k → (w3.setCell ⟨b5, 0, none⟩ v').heap[k]? = W2.heap[k]? := fun k hk n5 nv => by
    rw [Below.heap_setCell _ _ _ _ n5, hgr.block k hk (fun e => nv e.symm)]
  have hsameW : ∀ k, k < W.heap.size → k ≠ b5 → v.ownBlock ≠ some k → (w3.setCell ⟨b5, 0, none⟩ v').heap[k]? = W.heap[k]? := fun k hk n5 nv => (hsame k (by omega) n5 nv).trans (hb2.block k hk)
  have h5o : v.ownBlock ≠ some b5 := hv.off_row hrow (by decide)
  have hv3 : Blk w3 b5 #[v] 87 := (hgr.block b5 (by have := hv.lt; omega) (fun e => h5o e.symm)).trans ((hb2.block b5 hv.lt).trans hv)
  have hv3' : Blk (w3.setCell ⟨b5, 0, none⟩ v') b5 #[v'] 87 := by have := hv3.set 0 v'; simpa using this
  have hv'5 : v'.ownBlock ≠ some b5 := fun e => by
    rcases hw with hw | hw
    · exact h5o (hw ▸ e)
    · have := hw _ e; have := hv.lt; omega
  have hlvlt : ∀ k, lv.ownBlock = some k → k < W.heap.size := fun k hk => (own_lt h.lrow hk).2
  refine ⟨h.box2.same (hsameW _ h.box2.lt h.lo.2.2 (h.box2.off_row hrow (by decide))), own_same h.lrow (fun k hk => hsameW k (hlvlt k hk) (fun e => hv.off_row h.lrow (by decide) (e ▸ hk)) (fun e => hvl k e hk)), ⟨v', hv3', ?_, fun k hk => ?_⟩, fun x hx => ?_, ?_, h.map.block (hsameW _ h.map.lt (map_ne h.map hv) (map_off h.map hrow)), ?_, h.lo⟩
  · have := own_same hown (w' := w3.setCell ⟨b5, 0, none⟩ v') (fun k hk => Below.heap_setCell _ _ _ _ (fun e => hv'5 (by rw [hk, e])))
    simpa [Dm.ptr] using this
  · rcases hw with hw | hw
    · exact hvl k (hw ▸ hk)
    · intro e; have := hw k hk; have := hlvlt k e; omega
  · rw [← List.append_assoc] at hx
    rcases List.mem_append.1 hx with hx | hx
    · have hb := h.blk x hx
      exact ⟨hb.1.same (hsameW _ hb.1.lt (hb.1.ne hv (by decide)) (hb.1.off_row hrow (by decide))), hb.2⟩
    · rw [List.mem_singleton.1 hx]
      exact ⟨hnew2.same (hsame _ hnew2.lt (by have := hv.lt; omega) (fun e => by have := (own_lt hrow e).2; omega)), h.below.size⟩
  · rw [← List.append_assoc, List.pairwise_append]
    refine ⟨h.dis, by simp, fun x hx y hy => ?_⟩
    rw [List.mem_singleton.1 hy]
    have := (h.blk x hx).1.lt
    show x.g ≠ W.heap.size
    omega
  · have h1 : Below w0.heap.size w0 W2 := bseq h.below hb2
    exact (h1.grown hgr h1.size (fun k hk => (own_lt hrow hk).1)).setCell (p := ⟨b5, 0, none⟩) h.lo.2.1 v'
end
end Go.Proofs.Ytihdpkeclmpehaa

namespace Go.Proofs.Ytihdpkeclmpehaa
open Go.RowKit

theorem Dm.set8 (d : Dm) : (Dm.cells { d with missed := true }).toArray = d.cells.toArray.setIfInBounds 8 (.bool true) := rfl
set_option maxRecDepth 100000 in
set_option maxHeartbeats 1000000 in
theorem chg1_c (s : Sl) (i : Nat) (d : Dm) (w0 W : World) (R) {b2 b5 gm : Nat} {M : List (Int × Value)} {lv : Value} {ds iv : List Dm} (h : DI w0 b2 b5 gm M lv ds iv W) (hn : ds.length ≤ 1000) (hi : s.index = (i : Int)) (hd : ds[i]? = some d)
    (hR : ∀ W', DI w0 b2 b5 gm M lv (ds.set i { d with missed := true }) iv W' → R (.returned (.tuple #[])) W') : Calls Try.prog 60 #[.agg s.cells.toArray, .pointer (some ⟨b2, 0, none⟩)] W R := by
  obtain ⟨W1, hW1⟩ : ∃ W1, W.alloc (.cells s.cells.toArray 47) = W1 := ⟨_, rfl⟩
  have h1 : DI w0 b2 b5 gm M lv ds iv W1 := h.next (hW1 ▸ balloc (Below.refl _ _) _)
  have HR := hide hR; have H1 := hide h1
  have hil := (List.getElem?_eq_some_iff.1 hd).1
  obtain ⟨N, hN⟩ : ∃ N, ds.length = N := ⟨_, rfl⟩
  rw [hN] at hil hn
  have hrow := h1.lrow
  rw [hN] at hrow
  obtain ⟨lg, lc, hlv⟩ : ∃ lg lc, lv = .slice (some ⟨lg, 0, none⟩) N lc := by
    obtain ⟨N', rfl⟩ : ∃ N', N = N' + 1 := ⟨N - 1, by omega⟩
    exact ownsRow_succ hrow
  subst hlv
  have a2 : W1.cell? ⟨b2, 0, none⟩ = some (.slice (some ⟨lg, 0, none⟩) N lc) := h1.box2.cell (k := 0) rfl
  have ai : W1.cell? ⟨lg, i, none⟩ = some (.pointer (some ⟨d.g, 0, none⟩)) := by
    rw [hrow.cellAt i (by omega), List.getElem?_map, hd]; rfl
  have hk := (h1.blk d (List.mem_append_left _ (List.mem_of_getElem? hd))).1
  have fr := hk.free 8
  have sbk : Blk W1 W.heap.size s.cells.toArray 47 := hW1 ▸ Blk.new _ _ _
  have s1 : W1.cell? ⟨W.heap.size, 1, none⟩ = some (.int .i64 (i : Int)) := hi ▸ sbk.cell (k := 1) rfl
  have s2 : W1.cell? ⟨W.heap.size, 2, none⟩ = some (.int .i64 s.by_) := sbk.cell (k := 2) rfl
  have s3 : W1.cell? ⟨W.heap.size, 3, none⟩ = some (.string s.label) := sbk.cell (k := 3) rfl
  have dc : W1.cell? ⟨d.g, 8, none⟩ = d.cells[8]? := by
    rw [hk.cell (k := 8) rfl]; rfl
  simp only [Dm.cells, List.getElem?_cons_succ, List.getElem?_cons_zero] at dc
  have hiN : (i : Int) < (N : Int) := by omega
  have HF := hide (HR.out _ (h1.set (d' := { d with missed := true }) (o := 8) (v := .bool true) hd rfl rfl))
  have hv : Hid (Value.agg s.cells.toArray = .agg #[.int .i64 s.kind, .int .i64 (i : Int), .int .i64 s.by_, .string s.label, .int .i64 s.r.scanner, .int .i64 s.r.number, .int .i64 s.r.kind, .int .i64 s.r.time, .string s.r.label, .slice s.r.cp s.r.contents.length s.r.cc]) := hide (by rw [← hi]; rfl)
  have HW := hide (show W.alloc (.cells #[.int .i64 s.kind, .int .i64 (i : Int), .int .i64 s.by_, .string s.label, .int .i64 s.r.scanner, .int .i64 s.r.number, .int .i64 s.r.kind, .int .i64 s.r.time, .string s.r.label, .slice s.r.cp s.r.contents.length s.r.cc] 47) = W1 by rw [← hi]; exact hW1)
  clear hR h h1 hN hrow hd hk sbk hi hW1
  rw [hv.out]
  go_enter Try.func60, Try.ntmps60
  have HWo := HW.out
  go_wp2
  go_end0
  exact HF.out
set_option maxRecDepth 100000 in
set_option maxHeartbeats 1000000 in
theorem chg2_c (s : Sl) (i : Nat) (d : Dm) (w0 W : World) (R) {b2 b5 gm : Nat} {M : List (Int × Value)} {lv : Value} {ds iv : List Dm} (h : DI w0 b2 b5 gm M lv ds iv W) (hn : ds.length ≤ 1000) (hi : s.index = (i : Int)) (hd : ds[i]? = some d)
    (hR : ∀ W', DI w0 b2 b5 gm M lv (ds.set i { d with r := { d.r with label := s.label } }) iv W' → R (.returned (.tuple #[])) W') : Calls Try.prog 61 #[.agg s.cells.toArray, .pointer (some ⟨b2, 0, none⟩)] W R := by
  obtain ⟨W1, hW1⟩ : ∃ W1, W.alloc (.cells s.cells.toArray 47) = W1 := ⟨_, rfl⟩
  have h1 : DI w0 b2 b5 gm M lv ds iv W1 := h.next (hW1 ▸ balloc (Below.refl _ _) _)
  have HR := hide hR; have H1 := hide h1
  have hil := (List.getElem?_eq_some_iff.1 hd).1
  obtain ⟨N, hN⟩ : ∃ N, ds.length = N := ⟨_, rfl⟩
  rw [hN] at hil hn
  have hrow := h1.lrow
  rw [hN] at hrow
  obtain ⟨lg, lc, hlv⟩ : ∃ lg lc, lv = .slice (some ⟨lg, 0, none⟩) N lc := by
    obtain ⟨N', rfl⟩ : ∃ N', N = N' + 1 := ⟨N - 1, by omega⟩
    exact ownsRow_succ hrow
  subst hlv
  have a2 : W1.cell? ⟨b2, 0, none⟩ = some (.slice (some ⟨lg, 0, none⟩) N lc) := h1.box2.cell (k := 0) rfl
  have ai : W1.cell? ⟨lg, i, none⟩ = some (.pointer (some ⟨d.g, 0, none⟩)) := by
    rw [hrow.cellAt i (by omega), List.getElem?_map, hd]; rfl
  have hk := (h1.blk d (List.mem_append_left _ (List.mem_of_getElem? hd))).1
  have fr := hk.free 4
  have sbk : Blk W1 W.heap.size s.cells.toArray 47 := hW1 ▸ Blk.new _ _ _
  have s1 : W1.cell? ⟨W.heap.size, 1, none⟩ = some (.int .i64 (i : Int)) := hi ▸ sbk.cell (k := 1) rfl
  have s2 : W1.cell? ⟨W.heap.size, 2, none⟩ = some (.int .i64 s.by_) := sbk.cell (k := 2) rfl
  have s3 : W1.cell? ⟨W.heap.size, 3, none⟩ = some (.string s.label) := sbk.cell (k := 3) rfl
  have dc : W1.cell? ⟨d.g, 4, none⟩ = d.cells[4]? := by
    rw [hk.cell (k := 4) rfl]; rfl
  simp only [Dm.cells, List.getElem?_cons_succ, List.getElem?_cons_zero] at dc
  have hiN : (i : Int) < (N : Int) := by omega
  have HF := hide (HR.out _ ((h1.set (d' := { d with r := { d.r with label := s.label } }) (o := 4) (v := .string s.label) hd rfl rfl).next (Below.refl _ _).drew))
  have hv : Hid (Value.agg s.cells.toArray = .agg #[.int .i64 s.kind, .int .i64 (i : Int), .int .i64 s.by_, .string s.label, .int .i64 s.r.scanner, .int .i64 s.r.number, .int .i64 s.r.kind, .int .i64 s.r.time, .string s.r.label, .slice s.r.cp s.r.contents.length s.r.cc]) := hide (by rw [← hi]; rfl)
  have HW := hide (show W.alloc (.cells #[.int .i64 s.kind, .int .i64 (i : Int), .int .i64 s.by_, .string s.label, .int .i64 s.r.scanner, .int .i64 s.r.number, .int .i64 s.r.kind, .int .i64 s.r.time, .string s.r.label, .slice s.r.cp s.r.contents.length s.r.cc] 47) = W1 by rw [← hi]; exact hW1)
  clear hR h h1 hN hrow hd hk sbk hi hW1
  rw [hv.out]
  go_enter Try.func61, Try.ntmps61
  have HWo := HW.out
  go_wp2
  go_still_tail 10, (by kernel_rfl)
  go_wp2
  go_end0
  exact HF.out
set_option maxRecDepth 100000 in
set_option maxHeartbeats 1000000 in
theorem chg4_c (s : Sl) (i : Nat) (d : Dm) (w0 W : World) (R) {b2 b5 gm : Nat} {M : List (Int × Value)} {lv : Value} {ds iv : List Dm} (h : DI w0 b2 b5 gm M lv ds iv W) (hn : ds.length ≤ 1000) (hi : s.index = (i : Int)) (hd : ds[i]? = some d) (hb1 : -1000000 ≤ s.by_) (hb2 : s.by_ ≤ 1000000) (ht1 : -1000000000000 ≤ d.r.time) (ht2 : d.r.time ≤ 1000000000000)
    (hR : ∀ W', DI w0 b2 b5 gm M lv (ds.set i { d with r := { d.r with time := d.r.time + s.by_ } }) iv W' → R (.returned (.tuple #[])) W') : Calls Try.prog 62 #[.agg s.cells.toArray, .pointer (some ⟨b2, 0, none⟩)] W R := by
  obtain ⟨W1, hW1⟩ : ∃ W1, W.alloc (.cells s.cells.toArray 47) = W1 := ⟨_, rfl⟩
  have h1 : DI w0 b2 b5 gm M lv ds iv W1 := h.next (hW1 ▸ balloc (Below.refl _ _) _)
  have HR := hide hR; have H1 := hide h1
  have hil := (List.getElem?_eq_some_iff.1 hd).1
  obtain ⟨N, hN⟩ : ∃ N, ds.length = N := ⟨_, rfl⟩
  rw [hN] at hil hn
  have hrow := h1.lrow
  rw [hN] at hrow
  obtain ⟨lg, lc, hlv⟩ : ∃ lg lc, lv = .slice (some ⟨lg, 0, none⟩) N lc := by
    obtain ⟨N', rfl⟩ : ∃ N', N = N' + 1 := ⟨N - 1, by omega⟩
    exact ownsRow_succ hrow
  subst hlv
  have a2 : W1.cell? ⟨b2, 0, none⟩ = some (.slice (some ⟨lg, 0, none⟩) N lc) := h1.box2.cell (k := 0) rfl
  have ai : W1.cell? ⟨lg, i, none⟩ = some (.pointer (some ⟨d.g, 0, none⟩)) := by
    rw [hrow.cellAt i (by omega), List.getElem?_map, hd]; rfl
  have hk := (h1.blk d (List.mem_append_left _ (List.mem_of_getElem? hd))).1
  have fr := hk.free 3
  have sbk : Blk W1 W.heap.size s.cells.toArray 47 := hW1 ▸ Blk.new _ _ _
  have s1 : W1.cell? ⟨W.heap.size, 1, none⟩ = some (.int .i64 (i : Int)) := hi ▸ sbk.cell (k := 1) rfl
  have s2 : W1.cell? ⟨W.heap.size, 2, none⟩ = some (.int .i64 s.by_) := sbk.cell (k := 2) rfl
  have s3 : W1.cell? ⟨W.heap.size, 3, none⟩ = some (.string s.label) := sbk.cell (k := 3) rfl
  have dc : W1.cell? ⟨d.g, 3, none⟩ = d.cells[3]? := by
    rw [hk.cell (k := 3) rfl]; rfl
  simp only [Dm.cells, List.getElem?_cons_succ, List.getElem?_cons_zero] at dc
  have hiN : (i : Int) < (N : Int) := by omega
  have HF := hide (HR.out _ ((h1.set (d' := { d with r := { d.r with time := d.r.time + s.by_ } }) (o := 3) (v := .int .i64 (d.r.time + s.by_)) hd rfl rfl).next (Below.refl _ _).drew))
  have wz : IntKind.i64.wrap (d.r.time + s.by_) = d.r.time + s.by_ := IntWalk.i64_in _ (by omega)
  have hv : Hid (Value.agg s.cells.toArray = .agg #[.int .i64 s.kind, .int .i64 (i : Int), .int .i64 s.by_, .string s.label, .int .i64 s.r.scanner, .int .i64 s.r.number, .int .i64 s.r.kind, .int .i64 s.r.time, .string s.r.label, .slice s.r.cp s.r.contents.length s.r.cc]) := hide (by rw [← hi]; rfl)
  have HW := hide (show W.alloc (.cells #[.int .i64 s.kind, .int .i64 (i : Int), .int .i64 s.by_, .string s.label, .int .i64 s.r.scanner, .int .i64 s.r.number, .int .i64 s.r.kind, .int .i64 s.r.time, .string s.r.label, .slice s.r.cp s.r.contents.length s.r.cc] 47) = W1 by rw [← hi]; exact hW1)
  clear hR h h1 hN hrow hd hk sbk hi hW1
  rw [hv.out]
  go_enter Try.func62, Try.ntmps62
  have HWo := HW.out
  go_wp2
  go_still_tail 15, (by kernel_rfl)
  go_wp2
  go_end0
  exact HF.out
set_option maxRecDepth 100000 in
set_option maxHeartbeats 1000000 in
theorem chg5_c (s : Sl) (i : Nat) (d : Dm) (w0 W : World) (R) {b2 b5 gm : Nat} {M : List (Int × Value)} {lv : Value} {ds iv : List Dm} (h : DI w0 b2 b5 gm M lv ds iv W) (hn : ds.length ≤ 1000) (hi : s.index = (i : Int)) (hd : ds[i]? = some d) (ht1 : 0 ≤ d.times) (ht2 : d.times ≤ 1000000000000)
    (hR : ∀ W', DI w0 b2 b5 gm M lv (ds.set i { d with times := d.times + 1 }) iv W' → R (.returned (.tuple #[])) W') : Calls Try.prog 63 #[.agg s.cells.toArray, .pointer (some ⟨b2, 0, none⟩)] W R := by
  obtain ⟨W1, hW1⟩ : ∃ W1, W.alloc (.cells s.cells.toArray 47) = W1 := ⟨_, rfl⟩
  have h1 : DI w0 b2 b5 gm M lv ds iv W1 := h.next (hW1 ▸ balloc (Below.refl _ _) _)
  have HR := hide hR; have H1 := hide h1
  have hil := (List.getElem?_eq_some_iff.1 hd).1
  obtain ⟨N, hN⟩ : ∃ N, ds.length = N := ⟨_, rfl⟩
  rw [hN] at hil hn
  have hrow := h1.lrow
  rw [hN] at hrow
  obtain ⟨lg, lc, hlv⟩ : ∃ lg lc, lv = .slice (some ⟨lg, 0, none⟩) N lc := by
    obtain ⟨N', rfl⟩ : ∃ N', N = N' + 1 := ⟨N - 1, by omega⟩
    exact ownsRow_succ hrow
  subst hlv
  have a2 : W1.cell? ⟨b2, 0, none⟩ = some (.slice (some ⟨lg, 0, none⟩) N lc) := h1.box2.cell (k := 0) rfl
  have ai : W1.cell? ⟨lg, i, none⟩ = some (.pointer (some ⟨d.g, 0, none⟩)) := by
    rw [hrow.cellAt i (by omega), List.getElem?_map, hd]; rfl
  have hk := (h1.blk d (List.mem_append_left _ (List.mem_of_getElem? hd))).1
  have fr := hk.free 7
  have sbk : Blk W1 W.heap.size s.cells.toArray 47 := hW1 ▸ Blk.new _ _ _
  have s1 : W1.cell? ⟨W.heap.size, 1, none⟩ = some (.int .i64 (i : Int)) := hi ▸ sbk.cell (k := 1) rfl
  have s2 : W1.cell? ⟨W.heap.size, 2, none⟩ = some (.int .i64 s.by_) := sbk.cell (k := 2) rfl
  have s3 : W1.cell? ⟨W.heap.size, 3, none⟩ = some (.string s.label) := sbk.cell (k := 3) rfl
  have dc : W1.cell? ⟨d.g, 7, none⟩ = d.cells[7]? := by
    rw [hk.cell (k := 7) rfl]; rfl
  simp only [Dm.cells, List.getElem?_cons_succ, List.getElem?_cons_zero] at dc
  have hiN : (i : Int) < (N : Int) := by omega
  have HF := hide (HR.out _ (h1.set (d' := { d with times := d.times + 1 }) (o := 7) (v := .int .i64 (d.times + 1)) hd rfl rfl))
  have wz : IntKind.i64.wrap (d.times + 1) = d.times + 1 := IntWalk.i64_in _ (by omega)
  have hv : Hid (Value.agg s.cells.toArray = .agg #[.int .i64 s.kind, .int .i64 (i : Int), .int .i64 s.by_, .string s.label, .int .i64 s.r.scanner, .int .i64 s.r.number, .int .i64 s.r.kind, .int .i64 s.r.time, .string s.r.label, .slice s.r.cp s.r.contents.length s.r.cc]) := hide (by rw [← hi]; rfl)
  have HW := hide (show W.alloc (.cells #[.int .i64 s.kind, .int .i64 (i : Int), .int .i64 s.by_, .string s.label, .int .i64 s.r.scanner, .int .i64 s.r.number, .int .i64 s.r.kind, .int .i64 s.r.time, .string s.r.label, .slice s.r.cp s.r.contents.length s.r.cc] 47) = W1 by rw [← hi]; exact hW1)
  clear hR h h1 hN hrow hd hk sbk hi hW1
  rw [hv.out]
  go_enter Try.func63, Try.ntmps63
  have HWo := HW.out
  go_wp2
  go_end0
  exact HF.out
set_option maxRecDepth 100000 in
set_option maxHeartbeats 1000000 in
theorem chg6_c (s : Sl) (i : Nat) (d : Dm) (w0 W : World) (R) {b2 b5 gm : Nat} {M : List (Int × Value)} {lv : Value} {ds iv : List Dm} (h : DI w0 b2 b5 gm M lv ds iv W) (hn : ds.length ≤ 1000) (hi : s.index = (i : Int)) (hd : ds[i]? = some d) (hb1 : -1000000 ≤ s.by_) (hb2 : s.by_ ≤ 1000000) (ht1 : 0 ≤ d.number) (ht2 : d.number ≤ 1000000000000)
    (hR : ∀ W', DI w0 b2 b5 gm M lv (ds.set i { d with number := d.number + max s.by_ 0 }) iv W' → R (.returned (.tuple #[])) W') : Calls Try.prog 64 #[.agg s.cells.toArray, .pointer (some ⟨b2, 0, none⟩)] W R := by
  obtain ⟨W1, hW1⟩ : ∃ W1, W.alloc (.cells s.cells.toArray 47) = W1 := ⟨_, rfl⟩
  have h1 : DI w0 b2 b5 gm M lv ds iv W1 := h.next (hW1 ▸ balloc (Below.refl _ _) _)
  have HR := hide hR; have H1 := hide h1
  have hil := (List.getElem?_eq_some_iff.1 hd).1
  obtain ⟨N, hN⟩ : ∃ N, ds.length = N := ⟨_, rfl⟩
  rw [hN] at hil hn
  have hrow := h1.lrow
  rw [hN] at hrow
  obtain ⟨lg, lc, hlv⟩ : ∃ lg lc, lv = .slice (some ⟨lg, 0, none⟩) N lc := by
    obtain ⟨N', rfl⟩ : ∃ N', N = N' + 1 := ⟨N - 1, by omega⟩
    exact ownsRow_succ hrow
  subst hlv
  have a2 : W1.cell? ⟨b2, 0, none⟩ = some (.slice (some ⟨lg, 0, none⟩) N lc) := h1.box2.cell (k := 0) rfl
  have ai : W1.cell? ⟨lg, i, none⟩ = some (.pointer (some ⟨d.g, 0, none⟩)) := by
    rw [hrow.cellAt i (by omega), List.getElem?_map, hd]; rfl
  have hk := (h1.blk d (List.mem_append_left _ (List.mem_of_getElem? hd))).1
  have fr := hk.free 6
  have sbk : Blk W1 W.heap.size s.cells.toArray 47 := hW1 ▸ Blk.new _ _ _
  have s1 : W1.cell? ⟨W.heap.size, 1, none⟩ = some (.int .i64 (i : Int)) := hi ▸ sbk.cell (k := 1) rfl
  have s2 : W1.cell? ⟨W.heap.size, 2, none⟩ = some (.int .i64 s.by_) := sbk.cell (k := 2) rfl
  have s3 : W1.cell? ⟨W.heap.size, 3, none⟩ = some (.string s.label) := sbk.cell (k := 3) rfl
  have dc : W1.cell? ⟨d.g, 6, none⟩ = d.cells[6]? := by
    rw [hk.cell (k := 6) rfl]; rfl
  simp only [Dm.cells, List.getElem?_cons_succ, List.getElem?_cons_zero] at dc
  have hiN : (i : Int) < (N : Int) := by omega
  have HF := hide (HR.out _ ((h1.set (d' := { d with number := d.number + max s.by_ 0 }) (o := 6) (v := .int .i64 (d.number + max s.by_ 0)) hd rfl rfl).next (Below.refl _ _).drew))
  have wz : IntKind.i64.wrap (d.number + max s.by_ 0) = d.number + max s.by_ 0 := IntWalk.i64_in _ (by omega)
  have hv : Hid (Value.agg s.cells.toArray = .agg #[.int .i64 s.kind, .int .i64 (i : Int), .int .i64 s.by_, .string s.label, .int .i64 s.r.scanner, .int .i64 s.r.number, .int .i64 s.r.kind, .int .i64 s.r.time, .string s.r.label, .slice s.r.cp s.r.contents.length s.r.cc]) := hide (by rw [← hi]; rfl)
  have HW := hide (show W.alloc (.cells #[.int .i64 s.kind, .int .i64 (i : Int), .int .i64 s.by_, .string s.label, .int .i64 s.r.scanner, .int .i64 s.r.number, .int .i64 s.r.kind, .int .i64 s.r.time, .string s.r.label, .slice s.r.cp s.r.contents.length s.r.cc] 47) = W1 by rw [← hi]; exact hW1)
  clear hR h h1 hN hrow hd hk sbk hi hW1
  rw [hv.out]
  go_enter Try.func64, Try.ntmps64
  have HWo := HW.out
  go_wp2
  go_still_tail 14, (by kernel_rfl)
  go_wp2
  go_end0
  exact HF.out
theorem ptr_one (l : List Dm) : ∀ u ∈ l.map Dm.ptr, u.oneCell' = true := by
  intro u hu
  obtain ⟨d, _, rfl⟩ := List.mem_map.1 hu
  rfl
set_option maxRecDepth 100000 in
set_option maxHeartbeats 1000000 in
theorem chg3_c (s : Sl) (w0 W : World) (R) {b2 b5 gm : Nat} {M : List (Int × Value)} {lv : Value} {ds iv : List Dm} (h : DI w0 b2 b5 gm M lv ds iv W) (hn : iv.length ≤ 1000)
    (hR : ∀ W' g, DI w0 b2 b5 gm M lv ds (iv ++ [⟨g, s.r, s.index, 1, false⟩]) W' → R (.returned (.tuple #[])) W') : Calls Try.prog 65 #[.agg s.cells.toArray, .pointer (some ⟨b5, 0, none⟩)] W R := by
  obtain ⟨W1, hW1⟩ : ∃ W1, W.alloc (.cells s.cells.toArray 47) = W1 := ⟨_, rfl⟩
  have h1 : DI w0 b2 b5 gm M lv ds iv W1 := h.next (hW1 ▸ balloc (Below.refl _ _) _)
  have HR := hide hR; have H1 := hide h1
  obtain ⟨v, hv5, hrow, hvl⟩ := h1.box5
  have HV := hide (And.intro hv5 (And.intro hrow hvl))
  have sbk : Blk W1 W.heap.size s.cells.toArray 47 := hW1 ▸ Blk.new _ _ _
  have s1 : W1.cell? ⟨W.heap.size, 1, none⟩ = some (.int .i64 s.index) := sbk.cell (k := 1) rfl
  have s4 : W1.cell? ⟨W.heap.size, 4, none⟩ = some (.int .i64 s.r.scanner) := sbk.cell (k := 4) rfl
  have s5 : W1.cell? ⟨W.heap.size, 5, none⟩ = some (.int .i64 s.r.number) := sbk.cell (k := 5) rfl
  have s6 : W1.cell? ⟨W.heap.size, 6, none⟩ = some (.int .i64 s.r.kind) := sbk.cell (k := 6) rfl
  have s7 : W1.cell? ⟨W.heap.size, 7, none⟩ = some (.int .i64 s.r.time) := sbk.cell (k := 7) rfl
  have s8 : W1.cell? ⟨W.heap.size, 8, none⟩ = some (.string s.r.label) := sbk.cell (k := 8) rfl
  have s9 : W1.cell? ⟨W.heap.size, 9, none⟩ = some (.slice s.r.cp s.r.contents.length s.r.cc) := sbk.cell (k := 9) rfl
  have a5 : W1.cell? ⟨b5, 0, none⟩ = some v := hv5.cell (k := 0) rfl
  obtain ⟨i0, hi0, hz0, hz1, hz2⟩ := info_parts Try.info88
  have HT := hide (And.intro hi0 (And.intro hz0 (And.intro hz1 hz2)))
  obtain ⟨W2, hW2⟩ : ∃ W2, W1.alloc (.cells (Dm.cells ⟨W1.heap.size, s.r, s.index, 1, false⟩).toArray 90) = W2 := ⟨_, rfl⟩
  obtain ⟨W3, hW3⟩ : ∃ W3, W2.alloc (.cells #[.pointer (some ⟨W1.heap.size, 0, none⟩)] 88) = W3 := ⟨_, rfl⟩
  have HW2 := hide hW2; have HW3 := hide hW3
  have hb13 : Below W1.heap.size W1 W3 := by rw [← hW3, ← hW2]; exact balloc (balloc (Below.refl _ _) _) _
  have HB13 := hide hb13
  have hs3 : W2.heap.size ≤ W3.heap.size := by rw [← hW3]; simp
  have HC3 := hide (show W3.cell? ⟨W2.heap.size, 0, none⟩ = some (.pointer (some ⟨W1.heap.size, 0, none⟩)) by rw [← hW3]; exact cell_new.trans rfl)
  simp only [Dm.cells] at hW2
  have hv : Hid (Value.agg s.cells.toArray = .agg #[.int .i64 s.kind, .int .i64 s.index, .int .i64 s.by_, .string s.label, .int .i64 s.r.scanner, .int .i64 s.r.number, .int .i64 s.r.kind, .int .i64 s.r.time, .string s.r.label, .slice s.r.cp s.r.contents.length s.r.cc]) := hide rfl
  unfold Sl.cells at hW1
  clear hR h h1 hv5 hrow hvl sbk hi0 hz0 hz1 hz2 hb13
  rw [hv.out]
  go_enter Try.func65, Try.ntmps65
  go_wp2_with (at_builtin; refine Stop.out ?_)
  refine Stop.go ?_
  obtain ⟨hi0, hz0, hz1, hz2⟩ := HT.out
  have hsz := H1.out.below.size
  refine wpList_append_where rfl (.tmp 3) (.tmp 10) 87 rfl w0.heap.size 88 i0 _ 1 8 Try.underlying87 hi0 hz0 hz1 hz2 rfl (by omega) v iv.length (iv.map Dm.ptr) rfl (own_below HV.out.2.1 HB13.out) ⟨W2.heap.size, 0, none⟩ 1 1 [.pointer (some ⟨W1.heap.size, 0, none⟩)] rfl rfl (fun j u hu => by rw [← HW3.out]; exact one_cells rfl j u hu) (by intro u hu; obtain rfl := List.mem_singleton.1 hu; rfl) (by unfold maxLen; omega) (by omega) (Nat.le_trans hsz HB13.out.size) ?_
  clear hi0 hz0 hz1 hz2
  intro v4 w4 hown hgr hw
  have hb5 : Blk w4 b5 #[v] 87 := (hgr.block b5 (by have := HV.out.1.lt; have := HB13.out.size; omega) (fun e => HV.out.1.off_row HV.out.2.1 (by decide) e.symm)).trans (HV.out.1.next HB13.out)
  have d5 : w4.cell? ⟨b5, 0, none⟩ = some v := hb5.cell (k := 0) rfl
  have f5 := hb5.free 0
  rw [← HW3.out, ← HW2.out] at hgr hw
  have HF := hide (HR.out _ _ (H1.out.push HV.out.1 HV.out.2.1 HV.out.2.2 hgr hown hw))
  obtain ⟨g4, cap4, rfl⟩ := ownsRow_succ hown
  clear hown hgr hw hb5
  go_wp2
  go_end0
  exact HF.out
end Go.Proofs.Ytihdpkeclmpehaa

namespace Go.Proofs.Ytihdpkeclmpehaa
open Go.RowKit

/-- What a change by a slip makes of a delivery. -/
def chgM (s : Sl) (d : Dm) : Dm :=
  if s.kind = 1 then { d with missed := true }
  else if s.kind = 2 then { d with r := { d.r with label := s.label } }
  else if s.kind = 4 then { d with r := { d.r with time := d.r.time + s.by_ } }
  else if s.kind = 5 then { d with times := d.times + 1 }
  else if s.kind = 6 then { d with number := d.number + max s.by_ 0 }
  else d
theorem chgM_dp (s : Sl) (d : Dm) : (chgM s d).dp = chgP s.sp d.dp := by
  unfold chgM chgP
  show _ = if s.kind = 1 then _ else if s.kind = 2 then _ else if s.kind = 4 then _ else if s.kind = 5 then _ else if s.kind = 6 then _ else _
  split
  · rfl
  · split
    · rfl
    · split
      · rfl
      · split
        · rfl
        · split <;> rfl
theorem set_modify {α β : Type} (f : α → β) (c : α → α) (e : β → β) (h : ∀ a, f (c a) = e (f a)) (l : List α) (i : Nat) (a : α) (ha : l[i]? = some a) : (l.set i (c a)).map f = (l.map f).modify i e := by
  apply List.ext_getElem?
  intro j
  have hi := (List.getElem?_eq_some_iff.1 ha).1
  rw [List.getElem?_map, List.getElem?_set, List.getElem?_modify, List.getElem?_map]
  by_cases hij : i = j
  · subst hij
    rw [if_pos rfl, if_pos hi, ha]
    simp [h]
  · rw [if_neg hij]
    simp [hij]
/-- The bounds of a delivery after i slips. -/
def BdM (i : Nat) (d : Dm) : Prop := (0 ≤ d.number ∧ d.number ≤ 1000 + 1000000 * (i : Int)) ∧ (0 ≤ d.times ∧ d.times ≤ 1 + (i : Int)) ∧ (-(1000000 + 1000000 * (i : Int)) ≤ d.r.time ∧ d.r.time ≤ 1000000 + 1000000 * (i : Int))
theorem BdM.more {i : Nat} {d : Dm} (h : BdM i d) : BdM (i + 1) d := by
  obtain ⟨⟨a, b⟩, ⟨c, e⟩, f, g⟩ := h
  exact ⟨⟨a, by omega⟩, ⟨c, by omega⟩, by omega, by omega⟩
theorem BdM.chg {i : Nat} {d : Dm} (h : BdM i d) (s : Sl) (h1 : -1000000 ≤ s.by_) (h2 : s.by_ ≤ 1000000) : BdM (i + 1) (chgM s d) := by
  have hm := h.more
  obtain ⟨⟨a, b⟩, ⟨c, e⟩, f, g⟩ := h
  unfold chgM
  split
  · exact hm
  · split
    · exact hm
    · split
      · obtain ⟨k1, k2, _⟩ := hm
        exact ⟨k1, k2, by show _ ≤ d.r.time + s.by_; omega, by show d.r.time + s.by_ ≤ _; omega⟩
      · split
        · obtain ⟨k1, _, k3⟩ := hm
          exact ⟨k1, ⟨by show 0 ≤ d.times + 1; omega, by show d.times + 1 ≤ _; omega⟩, k3⟩
        · split
          · obtain ⟨_, k2, k3⟩ := hm
            exact ⟨⟨by show 0 ≤ d.number + max s.by_ 0; omega, by show d.number + max s.by_ 0 ≤ _; omega⟩, k2, k3⟩
          · exact hm
def mapM (b2 b5 : Nat) : List (Int × Value) := [(1, .func (.func 60) #[] #[.pointer (some ⟨b2, 0, none⟩)]), (2, .func (.func 61) #[] #[.pointer (some ⟨b2, 0, none⟩)]), (4, .func (.func 62) #[] #[.pointer (some ⟨b2, 0, none⟩)]), (5, .func (.func 63) #[] #[.pointer (some ⟨b2, 0, none⟩)]), (6, .func (.func 64) #[] #[.pointer (some ⟨b2, 0, none⟩)]), (3, .func (.func 65) #[] #[.pointer (some ⟨b5, 0, none⟩)])]
/-- A record's contents lie in a world, and are few. -/
def ContD (w0 : World) (r : Rec) : Prop := StrsAt w0 r.cp r.contents ∧ r.contents.length ≤ 8796093022208
theorem chgM_cont {w0 : World} {s : Sl} {d : Dm} (h : ContD w0 d.r) : ContD w0 (chgM s d).r := by
  unfold chgM
  split
  · exact h
  · split
    · exact h
    · split
      · exact h
      · split
        · exact h
        · split <;> exact h
/-- The state of the loop. -/
structure LI (w0 : World) (b2 b5 gm : Nat) (lv : Value) (x0 : List DP) (ss : List Sl) (i : Nat) (W : World) (ds iv : List Dm) : Prop where
  di : DI w0 b2 b5 gm (mapM b2 b5) lv ds iv W
  eq : (ds.map Dm.dp, iv.map Dm.dp) = ((ss.take i).map Sl.sp).foldl stepP (x0, [])
  bd : ∀ d ∈ ds, BdM i d
  len : iv.length ≤ i
  n : ds.length = x0.length
  cont : ∀ d ∈ ds ++ iv, ContD w0 d.r
section
variable {w0 W W' : World} {b2 b5 gm : Nat} {lv : Value} {x0 : List DP} {ss : List Sl} {i : Nat} {ds iv : List Dm}
theorem LI.next (h : LI w0 b2 b5 gm lv x0 ss i W ds iv) (hb : Below W.heap.size W W') : LI w0 b2 b5 gm lv x0 ss i W' ds iv := ⟨h.di.next hb, h.eq, h.bd, h.len, h.n, h.cont⟩
theorem LI.step_eq (h : LI w0 b2 b5 gm lv x0 ss i W ds iv) {s : Sl} (hs : ss[i]? = some s) : ((ss.take (i + 1)).map Sl.sp).foldl stepP (x0, []) = stepP (ds.map Dm.dp, iv.map Dm.dp) s.sp := by
  rw [List.take_add_one, hs]
  show ((ss.take i ++ [s]).map Sl.sp).foldl stepP (x0, []) = _
  rw [List.map_append, List.foldl_append, ← h.eq]
  rfl
theorem LI.skip (h : LI w0 b2 b5 gm lv x0 ss i W ds iv) {s : Sl} (hs : ss[i]? = some s) (hn : stepP (ds.map Dm.dp, iv.map Dm.dp) s.sp = (ds.map Dm.dp, iv.map Dm.dp)) : LI w0 b2 b5 gm lv x0 ss (i + 1) W ds iv :=
  ⟨h.di, by rw [h.step_eq hs, hn], fun d hd => (h.bd d hd).more, Nat.le_succ_of_le h.len, h.n, h.cont⟩
theorem LI.chg (h : LI w0 b2 b5 gm lv x0 ss i W ds iv) {s : Sl} (hs : ss[i]? = some s) {j : Nat} {d : Dm} (hj : s.index = (j : Int)) (hd : ds[j]? = some d) (h3 : s.kind ≠ 3) (h1 : -1000000 ≤ s.by_) (h2 : s.by_ ≤ 1000000)
    (hD : DI w0 b2 b5 gm (mapM b2 b5) lv (ds.set j (chgM s d)) iv W') : LI w0 b2 b5 gm lv x0 ss (i + 1) W' (ds.set j (chgM s d)) iv := by
  have hjl := (List.getElem?_eq_some_iff.1 hd).1
  refine ⟨hD, ?_, fun x hx => ?_, Nat.le_succ_of_le h.len, by rw [List.length_set]; exact h.n, fun x hx => ?_⟩
  · rw [h.step_eq hs]
    unfold stepP
    rw [if_neg (show ¬ s.sp.kind = 3 from h3), if_pos (show cntP _ s.sp from ⟨by show 0 ≤ s.index; omega, by show s.index < _; simp; omega, h1, h2⟩)]
    congr 1
    have : s.sp.index.toNat = j := by show s.index.toNat = j; omega
    rw [this]
    exact set_modify Dm.dp (chgM s) (chgP s.sp) (chgM_dp s) ds j d hd
  · obtain ⟨k, hk⟩ := List.getElem?_of_mem hx
    rw [List.getElem?_set] at hk
    by_cases hjk : j = k
    · subst hjk
      rw [if_pos rfl, if_pos hjl] at hk
      injection hk with hk; subst hk
      exact (h.bd d (List.mem_of_getElem? hd)).chg s h1 h2
    · rw [if_neg hjk] at hk
      exact (h.bd x (List.mem_of_getElem? hk)).more
  · rcases List.mem_append.1 hx with hx | hx
    · obtain ⟨k, hk⟩ := List.getElem?_of_mem hx
      rw [List.getElem?_set] at hk
      by_cases hjk : j = k
      · subst hjk
        rw [if_pos rfl, if_pos hjl] at hk
        injection hk with hk; subst hk
        exact chgM_cont (h.cont d (List.mem_append_left _ (List.mem_of_getElem? hd)))
      · rw [if_neg hjk] at hk
        exact h.cont x (List.mem_append_left _ (List.mem_of_getElem? hk))
    · exact h.cont x (List.mem_append_right _ hx)
theorem LI.inv (h : LI w0 b2 b5 gm lv x0 ss i W ds iv) {s : Sl} (hs : ss[i]? = some s) (h3 : s.kind = 3) (hst : ContD w0 s.r) {g : Nat} (hD : DI w0 b2 b5 gm (mapM b2 b5) lv ds (iv ++ [⟨g, s.r, s.index, 1, false⟩]) W') : LI w0 b2 b5 gm lv x0 ss (i + 1) W' ds (iv ++ [⟨g, s.r, s.index, 1, false⟩]) := by
  refine ⟨hD, ?_, fun d hd => (h.bd d hd).more, by rw [List.length_append]; have := h.len; simp; omega, h.n, fun x hx => by
    rw [← List.append_assoc] at hx
    rcases List.mem_append.1 hx with hx | hx
    · exact h.cont x hx
    · rw [List.mem_singleton.1 hx]; exact hst⟩
  rw [h.step_eq hs]
  unfold stepP
  rw [if_pos (show s.sp.kind = 3 from h3), List.map_append]
  rfl
end
end Go.Proofs.Ytihdpkeclmpehaa
