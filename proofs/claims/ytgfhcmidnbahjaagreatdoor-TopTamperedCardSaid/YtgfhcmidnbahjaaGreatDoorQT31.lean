/- The inspector: reading a table. The inspector: reading a plan; opening a certificate. -/
import Derived.Test.YtgfhcmidnbahjaaGreatDoorQT30
import Derived.Test.YtgfhcmidnbahjaaGreatDoorQT22
set_option linter.unusedVariables false
set_option linter.unusedSimpArgs false
namespace Go.Proofs.YtgfhcmidnbahjaaGreatDoor
open Go.RowKit Go.Shelf
attribute [local go_sem] Oper.semAt_some run_store_func
theorem Sb.cell {gr : Nat} {w X : World} (h : Sb gr w X) {p : Addr} (hp : w.heap.size ≤ p.block) (u : Value) : Sb gr w (X.setCell p u) :=
  ⟨Nat.le_trans h.1 ((Below.refl 0 X).setCell (p := p) (Nat.zero_le _) u).size, fun k hk hn => ⟨(Below.heap_setCell _ _ _ _ (by omega)).trans (h.2 k hk hn).1, hn⟩⟩
theorem RdS.far {w0 : World} {gr : Nat} {rest : List Int} {W : World} (h : RdS w0 gr rest W) {p : Addr} (hp : w0.heap.size ≤ p.block) (hne : gr ≠ p.block) (u : Value) : RdS w0 gr rest (W.setCell p u) := by
  obtain ⟨q, c, h1, h2, h3⟩ := h.row
  exact ⟨h.below.setCell hp _, h.base, q, c, h1.far hne _, h2, h3⟩
def RowP (W : World) (n j : Nat) (f : Nat → Int) (g : Nat) : Prop := ∃ cs, Blk W g cs 3 ∧ cs.size = n ∧ ∀ i, i < j → cs[i]? = some (.int .i64 (f i))
def TabP (W : World) (n i : Nat) (M : Nat → Nat → Int) (g top : Nat) (cs : Array Value) : Prop :=
  Blk W g cs 40 ∧ cs.size = n ∧ ∀ a, a < i → ∃ ga, cs[a]? = some (.slice (some ⟨ga, 0, none⟩) n n) ∧ g < ga ∧ ga < top ∧ RowB W n (M a) ga
section
variable {W W' : World} {n i j g gr top : Nat} {M : Nat → Nat → Int} {f : Nat → Int} {cs : Array Value}
theorem RowB.sb (h : RowB W n f g) (hs : Sb gr W W') (hne : g ≠ gr) : RowB W' n f g := by obtain ⟨cs, h1, h2, h3⟩ := h; exact ⟨cs, h1.kpb hs hne, h2, h3⟩
theorem RowP.sb (h : RowP W n j f g) (hs : Sb gr W W') (hne : g ≠ gr) : RowP W' n j f g := by obtain ⟨cs, h1, h2, h3⟩ := h; exact ⟨cs, h1.kpb hs hne, h2, h3⟩
theorem RowP.done (h : RowP W n n f g) : RowB W n f g := h
theorem RowP.put (h : RowP W n j f g) (hj : j < n) : RowP (W.setCell ⟨g, j, none⟩ (.int .i64 (f j))) n (j + 1) f g := by
  obtain ⟨cs, h1, h2, h3⟩ := h
  refine ⟨cs.setIfInBounds j (.int .i64 (f j)), h1.set j _, by simpa using h2, fun a ha => ?_⟩
  rw [Array.getElem?_setIfInBounds]
  by_cases e : j = a
  · subst e; rw [if_pos rfl, if_pos (by omega)]
  · rw [if_neg e]; exact h3 a (by omega)
theorem RowP.here (h : RowP W n j f g) (hj : j < n) : (∃ v, W.cell? ⟨g, j, none⟩ = some v) ∧ W.frozen? ⟨g, j, none⟩ = false := by
  obtain ⟨cs, h1, h2, h3⟩ := h
  exact ⟨⟨_, h1.cell (Array.getElem?_eq_getElem (by omega))⟩, h1.free j⟩
theorem TabP.sb (h : TabP W n i M g top cs) (hs : Sb gr W W') (hg : gr < g) : TabP W' n i M g top cs := by
  obtain ⟨h1, h2, h3⟩ := h
  refine ⟨h1.kpb hs (show ¬ g = gr by omega), h2, fun a ha => ?_⟩
  obtain ⟨ga, k1, k2, k3, k4⟩ := h3 a ha
  exact ⟨ga, k1, k2, k3, k4.sb hs (by omega)⟩
theorem TabP.far (h : TabP W n i M g top cs) {p : Addr} (hp : top ≤ p.block) (ht : g < top) (u : Value) : TabP (W.setCell p u) n i M g top cs := by
  obtain ⟨h1, h2, h3⟩ := h
  refine ⟨h1.far (by omega) u, h2, fun a ha => ?_⟩
  obtain ⟨ga, k1, k2, k3, k4⟩ := h3 a ha
  exact ⟨ga, k1, k2, k3, k4.far (by omega) u⟩
theorem TabP.alloc (h : TabP W n i M g top cs) (o : Obj) : TabP (W.alloc o) n i M g top cs := by
  obtain ⟨h1, h2, h3⟩ := h
  refine ⟨h1.alloc o, h2, fun a ha => ?_⟩
  obtain ⟨ga, k1, k2, k3, cs', c1, c2, c3⟩ := h3 a ha
  exact ⟨ga, k1, k2, k3, cs', c1.alloc o, c2, c3⟩
theorem TabP.row (h : TabP W n i M g top cs) {gi : Nat} (ht : top ≤ gi) : TabP (W.setCell ⟨g, i, none⟩ (.slice (some ⟨gi, 0, none⟩) n n)) n i M g top (cs.setIfInBounds i (.slice (some ⟨gi, 0, none⟩) n n)) := by
  obtain ⟨h1, h2, h3⟩ := h
  refine ⟨h1.set i _, by simpa using h2, fun a ha => ?_⟩
  obtain ⟨ga, k1, k2, k3, k4⟩ := h3 a ha
  refine ⟨ga, ?_, k2, k3, k4.far (p := ⟨g, i, none⟩) (show ga ≠ g by omega) _⟩
  rw [Array.getElem?_setIfInBounds, if_neg (by omega)]; exact k1
theorem TabP.next_row (h : TabP W n i M g top cs) {gi top' : Nat} (hc : cs[i]? = some (.slice (some ⟨gi, 0, none⟩) n n)) (hr : RowB W n (M i) gi) (h1 : g < gi) (h2 : gi < top') (h3 : top ≤ top') : TabP W n (i + 1) M g top' cs := by
  obtain ⟨k1, k2, k3⟩ := h
  refine ⟨k1, k2, fun a ha => ?_⟩
  by_cases e : a = i
  · subst e; exact ⟨gi, hc, h1, h2, hr⟩
  · obtain ⟨ga, l1, l2, l3, l4⟩ := k3 a (by omega)
    exact ⟨ga, l1, l2, by omega, l4⟩
theorem TabP.mat (h : TabP W n n M g top cs) : MatB W n M g := by
  obtain ⟨h1, h2, h3⟩ := h
  exact ⟨cs, h1, h2, fun a ha => by obtain ⟨ga, k1, k2, _, k4⟩ := h3 a ha; exact ⟨ga, k1, k2, k4⟩⟩
theorem MatB.sb (h : MatB W n M g) (hs : Sb gr W W') (hg : gr < g) : MatB W' n M g := by
  obtain ⟨cs, h1, h2, h3⟩ := h
  exact ⟨cs, h1.kpb hs (show ¬ g = gr by omega), h2, fun i hi => by obtain ⟨gi, k1, k2, k3⟩ := h3 i hi; exact ⟨gi, k1, k2, k3.sb hs (by omega)⟩⟩
end
theorem range_drop {n j : Nat} (h : j < n) : (List.range n).drop j = j :: (List.range n).drop (j + 1) := by
  rw [List.drop_eq_getElem_cons (by simpa using h)]; simp
def tabRest (n : Nat) (M : Nat → Nat → Int) (i j : Nat) : List Int := ((List.range n).drop j).map (fun d => M i d + 1) ++ ((List.range n).drop (i + 1)).flatMap fun o => (List.range n).map fun d => M o d + 1
def tabFrom (n : Nat) (M : Nat → Nat → Int) (i : Nat) : List Int := ((List.range n).drop i).flatMap fun o => (List.range n).map fun d => M o d + 1
theorem tabFrom_row {n : Nat} {M : Nat → Nat → Int} {i : Nat} (h : i < n) : tabFrom n M i = tabRest n M i 0 := by unfold tabFrom tabRest; rw [range_drop h, List.flatMap_cons]; rfl
theorem tabRest_next {n : Nat} {M : Nat → Nat → Int} {i j : Nat} (h : j < n) : tabRest n M i j = (M i j + 1) :: tabRest n M i (j + 1) := by unfold tabRest; rw [range_drop h]; rfl
theorem tabRest_end (n : Nat) (M : Nat → Nat → Int) (i : Nat) : tabRest n M i n = tabFrom n M (i + 1) := by unfold tabRest tabFrom; rw [List.drop_eq_nil_of_le (by simp)]; rfl
theorem tabFrom_end (n : Nat) (M : Nat → Nat → Int) : tabFrom n M n = [] := by unfold tabFrom; rw [List.drop_eq_nil_of_le (by simp)]; rfl
theorem tabFrom_zero (n : Nat) (M : Nat → Nat → Int) : (tableL n M).map (· + 1) = tabFrom n M 0 := by
  unfold tableL tabFrom
  rw [List.map_flatMap]
  simp [Function.comp_def]
set_option maxRecDepth 100000 in
set_option maxHeartbeats 4000000 in
theorem itable_c (gr n : Nat) (M : Nat → Nat → Int) (rest : List Int) (w0 w : World) (R) (hS : RdS w0 gr ((tableL n M).map (· + 1) ++ rest) w) (hn : n ≤ 40) (hlen : ((tableL n M).map (· + 1)).length + rest.length ≤ 1000000) (hrg : ∀ o d, -1 ≤ M o d ∧ M o d ≤ 65518)
    (hR : ∀ g w', w.heap.size ≤ g → MatB w' n M g → RdS w0 gr rest w' → Sb gr w w' → R (.returned (.slice (some ⟨g, 0, none⟩) n n)) w') :
    Calls Tryz.prog 208 #[.pointer (some ⟨gr, 0, none⟩), .int .i64 (n : Int)] w R := by
  have HR := hide hR; have HRg := hide hrg
  rw [tabFrom_zero] at hS hlen
  have hgr := hS.gr_lt
  obtain ⟨os, hos, hmk⟩ := mkRows w n (by omega)
  obtain ⟨w1, hw1⟩ : ∃ w1, w.alloc (.cells os 40) = w1 := ⟨_, rfl⟩
  have hb1 : Below w.heap.size w w1 := hw1 ▸ balloc (Below.refl _ _) _
  have H0 := hide (show TabP w1 n 0 M w.heap.size w1.heap.size os from ⟨hw1 ▸ Blk.new _ _ _, hos, fun a h => by omega⟩)
  have HS := hide (hS.next hb1); have HK : Hid (Sb gr w w1) := hide (Sb.of_below hb1)
  have hlt1 : w.heap.size < w1.heap.size := H0.out.1.lt
  have HB0 := hide hS.below.size
  rw [hw1] at hmk
  clear hR hrg hS hos hb1
  go_enter Tryz.func208, Tryz.ntmps208
  go_wp2
  clear hmk hw1
  obtain ⟨g, hg⟩ : ∃ g, w.heap.size = g := ⟨_, rfl⟩
  have Hg := hide hg
  rw [hg] at H0 hgr hlt1
  rw [hg]
  clear hg
  have hgr2 : gr < g := hgr
  go_loopw [12] (fun si wr => ∃ (i : Nat) (cs : Array Value), i ≤ n ∧ si = .int .i64 (i : Int) ∧ Hid (TabP wr n i M g wr.heap.size cs) ∧ Hid (RdS w0 gr (tabFrom n M i ++ rest) wr) ∧ Hid (Sb gr w wr) ∧ (tabFrom n M i).length + rest.length ≤ 1000000) (fun si _ => n - (intOf si).toNat)
  case atStart => exact ⟨0, os, Nat.zero_le _, rfl, H0, HS, HK, hlen⟩
  case round =>
    clear H0 HS HK
    obtain ⟨i, cs, hi, rfl, HT, HS, HK, hln⟩ := hrel
    by_cases hlt : i < n
    · obtain ⟨rs, hrs, hmk⟩ := mkInts wr n (by omega)
      obtain ⟨w2, hw2⟩ : ∃ w2, wr.alloc (.cells rs 3) = w2 := ⟨_, rfl⟩
      have hb2 : Below wr.heap.size wr w2 := hw2 ▸ balloc (Below.refl _ _) _
      have hTa : TabP w2 n i M g wr.heap.size cs := hw2 ▸ HT.out.alloc _
      have hgt : g < wr.heap.size := HT.out.1.lt
      have hRa : RowP w2 n 0 (M i) wr.heap.size := hw2 ▸ ⟨rs, Blk.new _ _ _, hrs, fun a h => by omega⟩
      rw [hw2] at hmk
      have c0 := hTa.1.cell (k := i) (v := cs[i]'(by rw [hTa.2.1]; exact hlt)) (Array.getElem?_eq_getElem _)
      have f0 := hTa.1.free i
      obtain ⟨gi, hgi⟩ : ∃ gi, wr.heap.size = gi := ⟨_, rfl⟩
      have Hgi := hide hgi
      rw [hgi] at hmk hTa hRa hgt
      have HT2 := hide (hTa.row (gi := gi) (Nat.le_refl _))
      have HR2 : Hid (RowP (w2.setCell ⟨g, i, none⟩ (.slice (some ⟨gi, 0, none⟩) n n)) n 0 (M i) gi) := hide (by
        obtain ⟨c, h1, h2, h3⟩ := hRa
        exact ⟨c, h1.far (p := ⟨g, i, none⟩) (show gi ≠ g by omega) _, h2, h3⟩)
      have hbs := HS.out.below.size
      have hws : w.heap.size ≤ g := by rw [Hg.out]; exact Nat.le_refl _
      have hw0 : w0.heap.size ≤ g := Nat.le_trans HB0.out hws
      have HS2 : Hid (RdS w0 gr (tabRest n M i 0 ++ rest) (w2.setCell ⟨g, i, none⟩ (.slice (some ⟨gi, 0, none⟩) n n))) := hide (by rw [← tabFrom_row hlt]; exact (HS.out.next hb2).far (p := ⟨g, i, none⟩) hw0 (show gr ≠ g by omega) _)
      have HK2 : Hid (Sb gr w (w2.setCell ⟨g, i, none⟩ (.slice (some ⟨gi, 0, none⟩) n n))) := hide ((HK.out.seq hb2).cell (p := ⟨g, i, none⟩) hws _)
      have hgis : gi < (w2.setCell ⟨g, i, none⟩ (.slice (some ⟨gi, 0, none⟩) n n)).heap.size := by obtain ⟨c, h1, _⟩ := HR2.out; exact h1.lt
      have hcs : cs.size = n := hTa.2.1
      have Hcs := hide hcs
      have q1 : (0 : Int) ≤ (i : Int) := by omega
      have q2 : (i : Int) < (n : Int) := by omega
      clear hTa hRa hgi hb2 HT HS HK hrs hbs hcs
      go_wp2
      clear hmk c0 f0 hw2
      generalize w2.setCell ⟨g, i, none⟩ (.slice (some ⟨gi, 0, none⟩) n n) = w3 at *
      rw [tabFrom_row hlt] at hln
      obtain ⟨cs', hcs'⟩ : ∃ cs', cs.setIfInBounds i (.slice (some ⟨gi, 0, none⟩) n n) = cs' := ⟨_, rfl⟩
      have hci : cs'[i]? = some (.slice (some ⟨gi, 0, none⟩) n n) := by rw [← hcs', Array.getElem?_setIfInBounds, if_pos rfl, if_pos (by rw [Hcs.out]; exact hlt)]
      rw [hcs'] at HT2
      have Hci := hide hci
      clear hcs' hci
      go_loopw [25] (fun sj wq => ∃ j : Nat, j ≤ n ∧ sj = .int .i64 (j : Int) ∧ Hid (TabP wq n i M g gi cs') ∧ Hid (RowP wq n j (M i) gi) ∧ Hid (RdS w0 gr (tabRest n M i j ++ rest) wq) ∧ Hid (Sb gr w wq) ∧ (tabRest n M i j).length + rest.length ≤ 1000000) (fun sj _ => n - (intOf sj).toNat)
      case atStart => exact ⟨0, Nat.zero_le _, rfl, HT2, HR2, HS2, HK2, hln⟩
      case round =>
        clear HT2 HR2 HS2 HK2 hln hgis
        obtain ⟨j, hj, rfl, HT, HRw, HS, HK, hln⟩ := hrel
        by_cases hlj : j < n
        · rw [tabRest_next hlj] at hln
          have HS3 : Hid (RdS w0 gr ((M i j + 1) :: (tabRest n M i (j + 1) ++ rest)) wr) := hide (by have h9 := HS.out; rw [tabRest_next hlj] at h9; exact h9)
          have hln2 : (tabRest n M i (j + 1) ++ rest).length ≤ 1000000 := by rw [List.length_append]; simp at hln; omega
          have hln3 : (tabRest n M i (j + 1)).length + rest.length ≤ 1000000 := by simp at hln; omega
          have hmr := HRg.out i j
          have q3 : (0 : Int) ≤ (j : Int) := by omega
          have q4 : (j : Int) < (n : Int) := by omega
          have c0 := HT.out.1.cell Hci.out
          have KB : Hid (∀ W', Sb gr wr W' → W'.cell? ⟨g, i, none⟩ = some (.slice (some ⟨gi, 0, none⟩) n n)) := hide (fun W' hb => (HT.out.sb hb hgr2).1.cell Hci.out)
          have e1 : IntKind.i64.wrap (M i j + 1 - 1) = M i j := by rw [IntWalk.i64_in _ (by omega)]; omega
          have e2 : IntKind.i64.wrap (M i j) = M i j := IntWalk.i64_in _ (by omega)
          clear HS hln
          go_wp2
          go_region_held3 (fun w' => w'.cell? ⟨g, i, none⟩ = some (.slice (some ⟨gi, 0, none⟩) n n))
            (first | exact KB.out _ (Sb.of_below (Below.refl _ _).drew) | exact KB.out _ hbb | exact HTf.out.1.cell Hci.out)
            (first
            | (go_at_call 207
               refine inext_c gr (M i j + 1) _ w0 _ _ (HS3.out.next (Below.refl _ _).drew) hln2 (fun W' hS' hb => ?_)
               have hbb : Sb gr wr W' := (Sb.of_below (Below.refl _ _).drew).trans hb
               have HRw2 := hide (HRw.out.sb hbb (show gi ≠ gr by omega))
               have HS4 := hide hS'
               have HT3 := hide (HT.out.sb hbb hgr2)
               have HTf := hide (HT3.out.far (p := ⟨gi, j, none⟩) (Nat.le_refl _) hgt (.int .i64 (M i j)))
               obtain ⟨⟨v1, c1⟩, f1⟩ := HRw2.out.here hlj))
          have HRw3 := hide (HRw2.out.put hlj)
          have HS5 := hide (HS4.out.far (p := ⟨gi, j, none⟩) (show w0.heap.size ≤ gi by omega) (show gr ≠ gi by omega) (.int .i64 (M i j)))
          have HK3 : Hid (Sb gr w (W'.setCell ⟨gi, j, none⟩ (.int .i64 (M i j)))) := hide (Sb.cell (HK.out.trans hbb) (p := ⟨gi, j, none⟩) (show w.heap.size ≤ gi by omega) _)
          clear hbb hb hS' c1 f1 c0
          go_wp2
          go_roundw
          case rel => exact ⟨j + 1, by omega, by go_num, HTf, HRw3, HS5, HK3, hln3⟩
          case measure => simp [intOf]; omega
        · have q3 : ¬ (j : Int) < (n : Int) := by omega
          obtain rfl : j = n := by omega
          have hlg : gi < wr.heap.size := by obtain ⟨c, h1, _⟩ := HRw.out; exact h1.lt
          have HT4 := hide (HT.out.next_row Hci.out HRw.out.done (by omega) hlg (Nat.le_of_lt hlg))
          have HS6 : Hid (RdS w0 gr (tabFrom j M (i + 1) ++ rest) wr) := hide (by rw [← tabRest_end]; exact HS.out)
          rw [tabRest_end] at hln
          clear HT HRw HS
          go_wp2
          go_roundw
          case rel => exact ⟨i + 1, cs', by omega, by go_num, HT4, HS6, HK, hln⟩
          case measure => simp [intOf]; omega
    · obtain rfl : i = n := by omega
      have q1 : ¬ (i : Int) < (i : Int) := by omega
      have HF := hide (HR.out g wr (by rw [Hg.out]; exact Nat.le_refl _) HT.out.mat (by have h9 := HS.out; rw [tabFrom_end] at h9; exact h9) HK.out)
      clear HT HS HK
      go_wp2
      exact HF.out
end Go.Proofs.YtgfhcmidnbahjaaGreatDoor
namespace Go.Proofs.YtgfhcmidnbahjaaGreatDoor
open Go.RowKit Go.Shelf
attribute [local go_sem] Oper.semAt_some run_store_func
theorem infoT2 : (Tryz.prog.info? 36).map (fun i => (i.zero, i.size, i.bytes)) = some (some (.slice none 0 0), 1, 24) := by kernel_rfl
theorem und_cube2 : Tryz.prog.underlying 37 = some (.slice 36) := by kernel_rfl
theorem mkTabs (w : World) (n : Nat) (hn : n ≤ 100000) : ∃ cs : Array Value, cs.size = n ∧ Sem.run Tryz.prog (Instr.makeSlice 37 (.int .i64 (n : Int)) (.int .i64 (n : Int))) w = .ok (.slice (some ⟨w.heap.size, 0, none⟩) n n) (w.alloc (.cells cs 36)) := by
  obtain ⟨i, hi, h⟩ := Option.map_eq_some_iff.1 infoT2
  simp only [Prod.mk.injEq] at h
  obtain ⟨hz, hs, hb⟩ := h
  exact ⟨_, by rw [size_madeCells, hs]; simp, run_make w 37 36 i _ und_cube2 hi hz .i64 .i64 n n (by omega) (by omega) (by rw [hb]; omega) (by omega)⟩
def CubP (W : World) (n i : Nat) (C : Cube) (g : Nat) (cs : Array Value) : Prop := Blk W g cs 36 ∧ ∀ a, a < i → ∃ ga, cs[a]? = some (.slice (some ⟨ga, 0, none⟩) n n) ∧ g < ga ∧ MatB W n (C a) ga
section
variable {W W' : World} {n i g gr : Nat} {C : Cube} {cs : Array Value}
theorem CubP.sb (h : CubP W n i C g cs) (hs : Sb gr W W') (hg : gr < g) : CubP W' n i C g cs := by
  obtain ⟨h1, h2⟩ := h
  refine ⟨h1.kpb hs (show ¬ g = gr by omega), fun a ha => ?_⟩
  obtain ⟨ga, k1, k2, k3⟩ := h2 a ha
  exact ⟨ga, k1, k2, k3.sb hs (by omega)⟩
theorem CubP.put (h : CubP W n i C g cs) {gi : Nat} (hi : i < cs.size) (hg : g < gi) (hm : MatB W n (C i) gi) : CubP (W.setCell ⟨g, i, none⟩ (.slice (some ⟨gi, 0, none⟩) n n)) n (i + 1) C g (cs.setIfInBounds i (.slice (some ⟨gi, 0, none⟩) n n)) := by
  obtain ⟨h1, h2⟩ := h
  refine ⟨h1.set i _, fun a ha => ?_⟩
  rw [Array.getElem?_setIfInBounds]
  by_cases e : a = i
  · subst e; rw [if_pos rfl, if_pos hi]; exact ⟨gi, rfl, hg, hm.far (p := ⟨g, a, none⟩) hg _⟩
  · obtain ⟨ga, k1, k2, k3⟩ := h2 a (by omega)
    rw [if_neg (by omega)]; exact ⟨ga, k1, k2, k3.far (p := ⟨g, i, none⟩) k2 _⟩
theorem CubP.at_ (h : CubP W n i C g cs) : CubeAt W (some ⟨g, 0, none⟩) i n C := fun k hk => by
  obtain ⟨h1, h2⟩ := h
  obtain ⟨gk, k1, k2, k3⟩ := h2 k hk
  exact ⟨g, 0, _, n, rfl, by rw [Nat.zero_add]; exact h1.cell k1, k3.mat⟩
end
def MatL (W : World) (n : Nat) (M : Nat → Nat → Int) (g top : Nat) : Prop := g < top ∧ ∃ cs, Blk W g cs 40 ∧ cs.size = n ∧ ∀ i, i < n → ∃ gi, cs[i]? = some (.slice (some ⟨gi, 0, none⟩) n n) ∧ g < gi ∧ gi < top ∧ RowB W n (M i) gi
section
variable {W W' : World} {n g gr top : Nat} {M : Nat → Nat → Int}
theorem MatB.low (h : MatB W n M g) : MatL W n M g W.heap.size := by
  obtain ⟨cs, h1, h2, h3⟩ := h
  exact ⟨h1.lt, cs, h1, h2, fun i hi => by obtain ⟨gi, k1, k2, k3⟩ := h3 i hi; exact ⟨gi, k1, k2, (by obtain ⟨c, c1, _⟩ := k3; exact c1.lt), k3⟩⟩
theorem MatL.mat (h : MatL W n M g top) : MatB W n M g := by
  obtain ⟨_, cs, h1, h2, h3⟩ := h
  exact ⟨cs, h1, h2, fun i hi => by obtain ⟨gi, k1, k2, _, k3⟩ := h3 i hi; exact ⟨gi, k1, k2, k3⟩⟩
theorem MatL.far (h : MatL W n M g top) {p : Addr} (hp : p.block < g ∨ top ≤ p.block) (u : Value) : MatL (W.setCell p u) n M g top := by
  obtain ⟨ht, cs, h1, h2, h3⟩ := h
  refine ⟨ht, cs, h1.far (by omega) u, h2, fun i hi => ?_⟩
  obtain ⟨gi, k1, k2, k3, k4⟩ := h3 i hi
  exact ⟨gi, k1, k2, k3, k4.far (by omega) u⟩
theorem MatL.sb (h : MatL W n M g top) (hs : Sb gr W W') (hg : gr < g) : MatL W' n M g top := by
  obtain ⟨ht, cs, h1, h2, h3⟩ := h
  refine ⟨ht, cs, h1.kpb hs (show ¬ g = gr by omega), h2, fun i hi => ?_⟩
  obtain ⟨gi, k1, k2, k3, k4⟩ := h3 i hi
  exact ⟨gi, k1, k2, k3, k4.sb hs (by omega)⟩
theorem CubP.low {i : Nat} {C : Cube} {cs : Array Value} (h : CubP W n i C g cs) {p : Addr} (hp : p.block < g) (u : Value) : CubP (W.setCell p u) n i C g cs := by
  obtain ⟨h1, h2⟩ := h
  refine ⟨h1.far (by omega) u, fun a ha => ?_⟩
  obtain ⟨ga, k1, k2, k3⟩ := h2 a ha
  exact ⟨ga, k1, k2, k3.far (by omega) u⟩
end
def Ab (gr : Nat) (A B : World) : Prop := A.heap.size ≤ B.heap.size ∧ ∀ k o, gr < k → A.heap[k]? = some o → o.isCells = true → B.heap[k]? = some o
section
variable {A B D : World} {gr g n : Nat}
theorem Ab.of_sc (h : Sc gr A B) : Ab gr A B := ⟨h.1, fun k o hk ho hc => h.2 k o (by omega) ho hc⟩
theorem Ab.of_sb (h : Sb gr A B) : Ab gr A B := .of_sc (.of_sb h)
theorem Ab.trans (h : Ab gr A B) (k : Ab gr B D) : Ab gr A D := ⟨Nat.le_trans h.1 k.1, fun j o hj ho hc => k.2 j o hj (h.2 j o hj ho hc) hc⟩
theorem Ab.cell (h : Ab gr A B) {p : Addr} (hp : p.block ≤ gr) (u : Value) : Ab gr A (B.setCell p u) :=
  ⟨Nat.le_trans h.1 ((Below.refl 0 B).setCell (p := p) (Nat.zero_le _) u).size, fun k o hk ho hc => (Below.heap_setCell _ _ _ _ (by omega)).trans (h.2 k o hk ho hc)⟩
theorem Blk.ab {cs : Array Value} {t : TypeId} (h : Blk A g cs t) (hs : Ab gr A B) (hg : gr < g) : Blk B g cs t := hs.2 g _ hg h rfl
theorem RowB.ab {f : Nat → Int} (h : RowB A n f g) (hs : Ab gr A B) (hg : gr < g) : RowB B n f g := by obtain ⟨cs, h1, h2, h3⟩ := h; exact ⟨cs, h1.ab hs hg, h2, h3⟩
theorem MatB.ab {M : Nat → Nat → Int} (h : MatB A n M g) (hs : Ab gr A B) (hg : gr < g) : MatB B n M g := by
  obtain ⟨cs, h1, h2, h3⟩ := h
  exact ⟨cs, h1.ab hs hg, h2, fun i hi => by obtain ⟨gi, k1, k2, k3⟩ := h3 i hi; exact ⟨gi, k1, k2, k3.ab hs (by omega)⟩⟩
theorem CubP.ab {i : Nat} {C : Cube} {cs : Array Value} (h : CubP A n i C g cs) (hs : Ab gr A B) (hg : gr < g) : CubP B n i C g cs := by
  obtain ⟨h1, h2⟩ := h
  refine ⟨h1.ab hs hg, fun a ha => ?_⟩
  obtain ⟨ga, k1, k2, k3⟩ := h2 a ha
  exact ⟨ga, k1, k2, k3.ab hs (by omega)⟩
end
def cubFrom (n c : Nat) (C : Cube) (i : Nat) : List Int := ((List.range c).drop i).flatMap fun k => (tableL n (C k)).map (· + 1)
theorem cubFrom_next {n c : Nat} {C : Cube} {i : Nat} (h : i < c) : cubFrom n c C i = (tableL n (C i)).map (· + 1) ++ cubFrom n c C (i + 1) := by unfold cubFrom; rw [range_drop h, List.flatMap_cons]
theorem cubFrom_end (n c : Nat) (C : Cube) : cubFrom n c C c = [] := by unfold cubFrom; rw [List.drop_eq_nil_of_le (by simp)]; rfl
theorem headL_eq (n c : Nat) (next : Mat) (C : Cube) (fr till : Int) (rest : List Int) : headL n c next C fr till ++ rest = fr :: till :: (n : Int) :: (c : Int) :: ((tableL n next).map (· + 1) ++ (cubFrom n c C 0 ++ rest)) := by
  unfold headL cubFrom; simp
theorem Blk.sb {W W' : World} {gr g : Nat} {cs : Array Value} {t : TypeId} (h : Blk W g cs t) (hs : Sb gr W W') (hne : g ≠ gr) : Blk W' g cs t := h.kpb hs hne
set_option maxRecDepth 100000 in
set_option maxHeartbeats 4000000 in
theorem iplan_c (gr n c : Nat) (next : Mat) (C : Cube) (fr till : Int) (rest : List Int) (w0 w : World) (R) (hS : RdS w0 gr (headL n c next C fr till ++ rest) w) (hn : n ≤ 12) (hc : c ≤ 4) (hft : fr < till) (h60 : till ≤ fr + 60) (h600 : till ≤ 600) (h0 : 0 ≤ fr) (hlen : (headL n c next C fr till ++ rest).length ≤ 1000000)
    (hrn : ∀ o d, -1 ≤ next o d ∧ next o d ≤ 65518) (hrc : ∀ k o d, -1 ≤ C k o d ∧ C k o d ≤ 65518)
    (hR : ∀ g1 g2 w', RdS w0 gr rest w' → Sb gr w w' → (∀ W, Ab gr w' W → MatAt W (some ⟨g1, 0, none⟩) n next ∧ CubeAt W (some ⟨g2, 0, none⟩) c n C) → R (.returned (.agg #[.int .i64 fr, .int .i64 till, .slice (some ⟨g1, 0, none⟩) n n, .slice (some ⟨g2, 0, none⟩) c c])) w') :
    Calls Tryz.prog 150 #[.pointer (some ⟨gr, 0, none⟩)] w R := by
  have HR := hide hR; have HRn := hide hrn; have HRc := hide hrc
  rw [headL_eq] at hS hlen
  have hgr := hS.gr_lt
  have hB0 := hS.below.size
  obtain ⟨w1, hw1⟩ : ∃ w1, (w.alloc (.cells #[.int .i64 0, .int .i64 0, .slice none 0 0, .slice none 0 0] 39)).alloc (.cells #[.int .i64 0, .int .i64 0, .slice none 0 0, .slice none 0 0] 39) = w1 := ⟨_, rfl⟩
  have hb1 : Below w.heap.size w w1 := hw1 ▸ balloc (balloc (Below.refl _ _) _) _
  have kr : Blk w1 w.heap.size #[.int .i64 0, .int .i64 0, .slice none 0 0, .slice none 0 0] 39 := by rw [← hw1]; exact Blk.alloc (Blk.new _ _ _) _
  have kp : Blk w1 (w.heap.size + 1) #[.int .i64 0, .int .i64 0, .slice none 0 0, .slice none 0 0] 39 := by rw [← hw1]; exact Blk.new_at (by simp)
  have HS1 := hide (hS.next hb1); have HK1 : Hid (Sb gr w w1) := hide (Sb.of_below hb1); have KR1 := hide kr; have KP1 := hide kp
  simp only [List.length_cons, List.length_append] at hlen
  obtain ⟨g0, hg0⟩ : ∃ g0, w.heap.size = g0 := ⟨_, rfl⟩
  have Hg0 := hide hg0
  rw [hg0] at hgr hB0 KR1 KP1
  clear hR hrn hrc hS hb1 kr kp
  go_enter Tryz.func150, Tryz.ntmps150
  go_wp2_with (go_at_call 207; refine Stop.out ?_)
  clear hw1
  refine Stop.go (inext_c gr fr _ w0 w1 _ HS1.out (by simp only [List.length_cons, List.length_append]; omega) ?_)
  intro w2 hS2 hK2
  have HS2 := hide hS2; have HK2 : Hid (Sb gr w w2) := hide (HK1.out.trans hK2); have KR2 := hide (KR1.out.sb hK2 (show g0 ≠ gr by omega)); have KP2 := hide (KP1.out.sb hK2 (show g0 + 1 ≠ gr by omega))
  clear hS2 hK2 HS1 HK1 KR1 KP1
  go_wp2_with (go_at_call 207; refine Stop.out ?_)
  refine Stop.go (inext_c gr till _ w0 w2 _ HS2.out (by simp only [List.length_cons, List.length_append]; omega) ?_)
  intro w3 hS3 hK3
  have hK3' : Sb gr w w3 := HK2.out.trans hK3
  have kr3 := KR2.out.sb hK3 (show g0 ≠ gr by omega)
  have kp3 := KP2.out.sb hK3 (show g0 + 1 ≠ gr by omega)
  have y0 := kp3.cell (k := 0) rfl; have y1 := kp3.cell (k := 1) rfl
  have f0 := kp3.free 0; have f1 := kp3.free 1
  have hws : w.heap.size ≤ g0 := Nat.le_of_eq hg0
  have HS3 := hide ((hS3.far (p := ⟨g0 + 1, 0, none⟩) (show w0.heap.size ≤ g0 + 1 by omega) (show gr ≠ g0 + 1 by omega) (.int .i64 fr)).far (p := ⟨g0 + 1, 1, none⟩) (show w0.heap.size ≤ g0 + 1 by omega) (show gr ≠ g0 + 1 by omega) (.int .i64 till))
  have HK3 : Hid (Sb gr w ((w3.setCell ⟨g0 + 1, 0, none⟩ (.int .i64 fr)).setCell ⟨g0 + 1, 1, none⟩ (.int .i64 till))) := hide (Sb.cell (Sb.cell hK3' (p := ⟨g0 + 1, 0, none⟩) (show w.heap.size ≤ g0 + 1 by omega) _) (p := ⟨g0 + 1, 1, none⟩) (show w.heap.size ≤ g0 + 1 by omega) _)
  have KR3 := hide ((kr3.far (p := ⟨g0 + 1, 0, none⟩) (show g0 ≠ g0 + 1 by omega) (.int .i64 fr)).far (p := ⟨g0 + 1, 1, none⟩) (show g0 ≠ g0 + 1 by omega) (.int .i64 till))
  have KP3 : Hid (Blk ((w3.setCell ⟨g0 + 1, 0, none⟩ (.int .i64 fr)).setCell ⟨g0 + 1, 1, none⟩ (.int .i64 till)) (g0 + 1) #[.int .i64 fr, .int .i64 till, .slice none 0 0, .slice none 0 0] 39) := hide ((kp3.set 0 (.int .i64 fr)).set 1 (.int .i64 till))
  clear hS3 hK3 hK3' kr3 kp3 HS2 HK2 KR2 KP2
  go_wp2_with (go_at_call 207; refine Stop.out ?_)
  clear y0 y1 f0 f1
  generalize (w3.setCell ⟨g0 + 1, 0, none⟩ (.int .i64 fr)).setCell ⟨g0 + 1, 1, none⟩ (.int .i64 till) = w4 at *
  refine Stop.go (inext_c gr (n : Int) _ w0 w4 _ HS3.out (by simp only [List.length_cons, List.length_append]; omega) ?_)
  intro w5 hS5 hK5
  have HS5 := hide hS5; have HK5 : Hid (Sb gr w w5) := hide (HK3.out.trans hK5); have KR5 := hide (KR3.out.sb hK5 (show g0 ≠ gr by omega)); have KP5 := hide (KP3.out.sb hK5 (show g0 + 1 ≠ gr by omega))
  clear hS5 hK5 HS3 HK3 KR3 KP3
  go_wp2_with (go_at_call 207; refine Stop.out ?_)
  refine Stop.go (inext_c gr (c : Int) _ w0 w5 _ HS5.out (by simp only [List.length_cons, List.length_append]; omega) ?_)
  intro w6 hS6 hK6
  have HS6 := hide hS6; have HK6 : Hid (Sb gr w w6) := hide (HK5.out.trans hK6); have KR6 := hide (KR5.out.sb hK6 (show g0 ≠ gr by omega)); have KP6 := hide (KP5.out.sb hK6 (show g0 + 1 ≠ gr by omega))
  clear hS6 hK6 HS5 HK5 KR5 KP5
  have y0 := KP6.out.cell (k := 0) rfl; have y1 := KP6.out.cell (k := 1) rfl
  have t1 : (n : Int) ≤ 12 := by omega
  have t2 : (c : Int) ≤ 4 := by omega
  go_wp2_with (go_at_call 100; refine Stop.out ?_)
  refine Stop.go (require_yes 190 _ _ ?_)
  intro v1
  go_wp2_with (go_at_call 100; refine Stop.out ?_)
  refine Stop.go (require_yes 190 _ _ ?_)
  intro v2
  go_wp2_with (go_at_call 208; refine Stop.out ?_)
  refine Stop.go (itable_c gr n next _ w0 w6 _ HS6.out (by omega) (by rw [List.length_append]; omega) HRn.out ?_)
  intro g1 w7 hg1 hM1 hS7 hK7
  have hgr1 : gr < g1 := by have := KP6.out.lt; omega
  have hw7 : w6.heap.size ≤ w7.heap.size := hK7.1
  have kp7 := KP6.out.sb hK7 (show g0 + 1 ≠ gr by omega)
  have y2 := kp7.cell (k := 2) rfl
  have f2 := kp7.free 2
  have hpl := KP6.out.lt
  have HS8 := hide (hS7.far (p := ⟨g0 + 1, 2, none⟩) (show w0.heap.size ≤ g0 + 1 by omega) (show gr ≠ g0 + 1 by omega) (.slice (some ⟨g1, 0, none⟩) n n))
  have HK8 : Hid (Sb gr w (w7.setCell ⟨g0 + 1, 2, none⟩ (.slice (some ⟨g1, 0, none⟩) n n))) := hide (Sb.cell (HK6.out.trans hK7) (p := ⟨g0 + 1, 2, none⟩) (show w.heap.size ≤ g0 + 1 by omega) _)
  have KR8 := hide ((KR6.out.sb hK7 (show g0 ≠ gr by omega)).far (p := ⟨g0 + 1, 2, none⟩) (show g0 ≠ g0 + 1 by omega) (.slice (some ⟨g1, 0, none⟩) n n))
  have KP8 : Hid (Blk (w7.setCell ⟨g0 + 1, 2, none⟩ (.slice (some ⟨g1, 0, none⟩) n n)) (g0 + 1) #[.int .i64 fr, .int .i64 till, .slice (some ⟨g1, 0, none⟩) n n, .slice none 0 0] 39) := hide (kp7.set 2 _)
  have HM8 := hide (hM1.far (p := ⟨g0 + 1, 2, none⟩) (show g0 + 1 < g1 by omega) (.slice (some ⟨g1, 0, none⟩) n n))
  clear hS7 hK7 hM1 kp7 HS6 HK6 KR6 KP6 y0 y1 hw7
  have hcn : c ≤ 100000 := by omega
  obtain ⟨w8, hw8⟩ : ∃ w8, w7.setCell ⟨g0 + 1, 2, none⟩ (.slice (some ⟨g1, 0, none⟩) n n) = w8 := ⟨_, rfl⟩
  rw [hw8] at HS8 HK8 KR8 KP8 HM8
  obtain ⟨os, hos, hmk⟩ := mkTabs w8 c hcn
  obtain ⟨w9, hw9⟩ : ∃ w9, w8.alloc (.cells os 36) = w9 := ⟨_, rfl⟩
  have hb9 : Below w8.heap.size w8 w9 := hw9 ▸ balloc (Below.refl _ _) _
  have kd : Blk w9 w8.heap.size os 36 := hw9 ▸ Blk.new _ _ _
  rw [hw9] at hmk
  have kp9 := KP8.out.next hb9
  have y3 := kp9.cell (k := 3) rfl
  have f3 := kp9.free 3
  have hp8 := KP8.out.lt
  have HS9 := hide ((HS8.out.next hb9).far (p := ⟨g0 + 1, 3, none⟩) (show w0.heap.size ≤ g0 + 1 by omega) (show gr ≠ g0 + 1 by omega) (.slice (some ⟨w8.heap.size, 0, none⟩) c c))
  have HK9 : Hid (Sb gr w (w9.setCell ⟨g0 + 1, 3, none⟩ (.slice (some ⟨w8.heap.size, 0, none⟩) c c))) := hide (Sb.cell (HK8.out.seq hb9) (p := ⟨g0 + 1, 3, none⟩) (show w.heap.size ≤ g0 + 1 by omega) _)
  have KR9 := hide ((KR8.out.next hb9).far (p := ⟨g0 + 1, 3, none⟩) (show g0 ≠ g0 + 1 by omega) (.slice (some ⟨w8.heap.size, 0, none⟩) c c))
  have KP9 : Hid (Blk (w9.setCell ⟨g0 + 1, 3, none⟩ (.slice (some ⟨w8.heap.size, 0, none⟩) c c)) (g0 + 1) #[.int .i64 fr, .int .i64 till, .slice (some ⟨g1, 0, none⟩) n n, .slice (some ⟨w8.heap.size, 0, none⟩) c c] 39) := hide (kp9.set 3 _)
  have hm8 : MatL w8 n next g1 w8.heap.size := HM8.out.low
  have HM9 := hide ((hm8.sb (gr := gr) (Sb.of_below hb9) hgr1).far (p := ⟨g0 + 1, 3, none⟩) (Or.inl (show g0 + 1 < g1 by omega)) (.slice (some ⟨w8.heap.size, 0, none⟩) c c))
  have HC9 := hide (show CubP (w9.setCell ⟨g0 + 1, 3, none⟩ (.slice (some ⟨w8.heap.size, 0, none⟩) c c)) n 0 C w8.heap.size os from ⟨kd.far (p := ⟨g0 + 1, 3, none⟩) (show w8.heap.size ≠ g0 + 1 by omega) _, fun a h => by omega⟩)
  have Hos := hide hos
  obtain ⟨gd, hgd⟩ : ∃ gd, w8.heap.size = gd := ⟨_, rfl⟩
  rw [hgd] at hmk HS9 HK9 KR9 KP9 HM9 HC9 hp8
  have hlc : (cubFrom n c C 0).length + rest.length ≤ 1000000 := by omega
  clear hb9 kd kp9 HS8 HK8 KR8 KP8 HM8 hm8 hos hgd
  go_wp2
  clear y2 f2 y3 f3 hmk
  generalize w9.setCell ⟨g0 + 1, 3, none⟩ (.slice (some ⟨gd, 0, none⟩) c c) = w10 at *
  clear hw8 hw9
  have hgd2 : gr < gd := by omega
  go_loopw [53] (fun si wr => ∃ (i : Nat) (cs : Array Value), i ≤ c ∧ si = .int .i64 (i : Int) ∧ Hid (cs.size = c) ∧ Hid (CubP wr n i C gd cs) ∧ Hid (Blk wr (g0 + 1) #[.int .i64 fr, .int .i64 till, .slice (some ⟨g1, 0, none⟩) n n, .slice (some ⟨gd, 0, none⟩) c c] 39) ∧
    Hid (Blk wr g0 #[.int .i64 0, .int .i64 0, .slice none 0 0, .slice none 0 0] 39) ∧ Hid (MatL wr n next g1 gd) ∧ Hid (RdS w0 gr (cubFrom n c C i ++ rest) wr) ∧ Hid (Sb gr w wr) ∧ (cubFrom n c C i).length + rest.length ≤ 1000000) (fun si _ => c - (intOf si).toNat)
  case atStart => exact ⟨0, os, Nat.zero_le _, rfl, Hos, HC9, KP9, KR9, HM9, HS9, HK9, hlc⟩
  case round =>
    clear HC9 KP9 KR9 HM9 HS9 HK9 hlc Hos
    obtain ⟨i, cs, hi, rfl, Hcs, HC, KP, KR, HM, HS, HK, hln⟩ := hrel
    by_cases hlt : i < c
    · rw [cubFrom_next hlt] at hln
      have HS2 : Hid (RdS w0 gr ((tableL n (C i)).map (· + 1) ++ (cubFrom n c C (i + 1) ++ rest)) wr) := hide (by have h9 := HS.out; rw [cubFrom_next hlt, List.append_assoc] at h9; exact h9)
      simp only [List.length_append] at hln
      have hln2 : ((tableL n (C i)).map (· + 1)).length + (cubFrom n c C (i + 1) ++ rest).length ≤ 1000000 := by rw [List.length_append]; omega
      have hln3 : (cubFrom n c C (i + 1)).length + rest.length ≤ 1000000 := by omega
      have q1 : (0 : Int) ≤ (i : Int) := by omega
      have q2 : (i : Int) < (c : Int) := by omega
      have hgdw : gd < wr.heap.size := HC.out.1.lt
      have KB : Hid (∀ W', Sb gr wr W' → W'.cell? ⟨g0 + 1, 3, none⟩ = some (.slice (some ⟨gd, 0, none⟩) c c)) := hide (fun W' hb => (KP.out.sb hb (show g0 + 1 ≠ gr by omega)).cell (k := 3) rfl)
      have y3 := KB.out _ (Kpb.refl _ _)
      clear HS hln
      go_wp2
      clear y3
      go_region_held3 (fun w' => w'.cell? ⟨g0 + 1, 3, none⟩ = some (.slice (some ⟨gd, 0, none⟩) c c))
        (first | exact KB.out _ (Sb.of_below (Below.refl _ _).drew) | exact KB.out _ hbb | exact KPf.out.cell (k := 3) rfl)
        (first
        | (go_at_call 208
           refine itable_c gr n (C i) _ w0 _ _ (HS2.out.next (Below.refl _ _).drew) (by omega) hln2 (HRc.out i) (fun gt W' hgt hMt hS' hb => ?_)
           have hbb : Sb gr wr W' := (Sb.of_below (Below.refl _ _).drew).trans hb
           have hgt2 : gd < gt := Nat.lt_of_lt_of_le hgdw hgt
           have HC2 := hide (HC.out.sb hbb hgd2)
           have HS3 := hide hS'
           have HMt := hide hMt
           have KP2 := hide (KP.out.sb hbb (show g0 + 1 ≠ gr by omega))
           have KPf := hide (KP2.out.far (p := ⟨gd, i, none⟩) (show g0 + 1 ≠ gd by omega) (.slice (some ⟨gt, 0, none⟩) n n))
           have c1 := HC2.out.1.cell (k := i) (v := cs[i]'(by rw [Hcs.out]; exact hlt)) (Array.getElem?_eq_getElem _)
           have f1 := HC2.out.1.free i))
      have HC3 := hide (HC2.out.put (by rw [Hcs.out]; exact hlt) hgt2 HMt.out)
      have KR3 := hide ((KR.out.sb hbb (show g0 ≠ gr by omega)).far (p := ⟨gd, i, none⟩) (show g0 ≠ gd by omega) (.slice (some ⟨gt, 0, none⟩) n n))
      have HM3 : Hid (MatL (W'.setCell ⟨gd, i, none⟩ (.slice (some ⟨gt, 0, none⟩) n n)) n next g1 gd) := hide ((HM.out.sb hbb hgr1).far (p := ⟨gd, i, none⟩) (Or.inr (Nat.le_refl _)) _)
      have HS4 := hide (HS3.out.far (p := ⟨gd, i, none⟩) (show w0.heap.size ≤ gd by omega) (show gr ≠ gd by omega) (.slice (some ⟨gt, 0, none⟩) n n))
      have HK3 : Hid (Sb gr w (W'.setCell ⟨gd, i, none⟩ (.slice (some ⟨gt, 0, none⟩) n n))) := hide (Sb.cell (HK.out.trans hbb) (p := ⟨gd, i, none⟩) (show w.heap.size ≤ gd by omega) _)
      have Hcs2 : Hid ((cs.setIfInBounds i (.slice (some ⟨gt, 0, none⟩) n n)).size = c) := hide (by simpa using Hcs.out)
      clear hbb hb hS' hMt c1 f1
      go_wp2
      go_roundw
      case rel => exact ⟨i + 1, _, by omega, by go_num, Hcs2, HC3, KPf, KR3, HM3, HS4, HK3, hln3⟩
      case measure => simp [intOf]; omega
    · obtain rfl : i = c := by omega
      have q1 : ¬ (i : Int) < (i : Int) := by omega
      have y0 := KP.out.cell (k := 0) rfl; have y1 := KP.out.cell (k := 1) rfl; have y2 := KP.out.cell (k := 2) rfl; have y3 := KP.out.cell (k := 3) rfl
      have z0 := KR.out.cell (k := 0) rfl; have z1 := KR.out.cell (k := 1) rfl; have z2 := KR.out.cell (k := 2) rfl; have z3 := KR.out.cell (k := 3) rfl
      have f0 := KR.out.free 0; have f1 := KR.out.free 1; have f2 := KR.out.free 2; have f3 := KR.out.free 3
      have hg1d : g0 < g1 := by omega
      have HF := hide (HR.out g1 gd ((((wr.setCell ⟨g0, 0, none⟩ (.int .i64 fr)).setCell ⟨g0, 1, none⟩ (.int .i64 till)).setCell ⟨g0, 2, none⟩ (.slice (some ⟨g1, 0, none⟩) n n)).setCell ⟨g0, 3, none⟩ (.slice (some ⟨gd, 0, none⟩) i i))
        ((((by have h9 := HS.out; rw [cubFrom_end] at h9; exact h9 : RdS w0 gr rest wr).far (p := ⟨g0, 0, none⟩) (show w0.heap.size ≤ g0 by omega) (show gr ≠ g0 by omega) _).far (p := ⟨g0, 1, none⟩) (show w0.heap.size ≤ g0 by omega) (show gr ≠ g0 by omega) _).far (p := ⟨g0, 2, none⟩) (show w0.heap.size ≤ g0 by omega) (show gr ≠ g0 by omega) _ |>.far (p := ⟨g0, 3, none⟩) (show w0.heap.size ≤ g0 by omega) (show gr ≠ g0 by omega) _)
        ((((HK.out.cell (p := ⟨g0, 0, none⟩) hws _).cell (p := ⟨g0, 1, none⟩) hws _).cell (p := ⟨g0, 2, none⟩) hws _).cell (p := ⟨g0, 3, none⟩) hws _)
        (fun W hW => ⟨(((((HM.out.far (p := ⟨g0, 0, none⟩) (Or.inl hg1d) _).far (p := ⟨g0, 1, none⟩) (Or.inl hg1d) _).far (p := ⟨g0, 2, none⟩) (Or.inl hg1d) _).far (p := ⟨g0, 3, none⟩) (Or.inl hg1d) _).mat.ab hW hgr1).mat,
          (((((HC.out.low (p := ⟨g0, 0, none⟩) (show g0 < gd by omega) _).low (p := ⟨g0, 1, none⟩) (show g0 < gd by omega) _).low (p := ⟨g0, 2, none⟩) (show g0 < gd by omega) _).low (p := ⟨g0, 3, none⟩) (show g0 < gd by omega) _).ab hW hgd2).at_⟩))
      have KF := hide ((((KR.out.set 0 (.int .i64 fr)).set 1 (.int .i64 till)).set 2 (.slice (some ⟨g1, 0, none⟩) n n)).set 3 (.slice (some ⟨gd, 0, none⟩) i i))
      go_wp2
      refine bodyPost_ret (v := .agg #[.int .i64 fr, .int .i64 till, .slice (some ⟨g1, 0, none⟩) n n, .slice (some ⟨gd, 0, none⟩) i i]) ?_ rfl HF.out
      have w0' := KF.out.cell (k := 0) rfl; have w1' := KF.out.cell (k := 1) rfl; have w2' := KF.out.cell (k := 2) rfl; have w3' := KF.out.cell (k := 3) rfl
      rw [results_cell1 (p := 2) (ty := 39) Tryz.results150]
      simp [go_sem, w0', w1', w2', w3']
end Go.Proofs.YtgfhcmidnbahjaaGreatDoor
