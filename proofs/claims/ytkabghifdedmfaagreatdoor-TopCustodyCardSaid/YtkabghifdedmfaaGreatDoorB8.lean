/- The map of containers is made. Steps of a row of the call's own. -/
import Derived.Test.YtkabghifdedmfaaGreatDoorB7
import Derived.Deep.RegionHeld3
set_option linter.unusedVariables false
set_option linter.unusedSimpArgs false
namespace Go.Proofs.YtkabghifdedmfaaGreatDoor
open Go.RowKit

def viewC (L : List Ct) (s : ByteArray) : Option (Nat × Nat × List Nat) := (L.find? fun c => decide (c.s = s)).map fun c => (c.i, c.j, c.ins)
/-- The containers at hand say what f says. -/
structure CI (w0 w : World) (gm : Nat) (l : List Trk) (L : List Ct) (f : ByteArray → Option (Nat × Nat × List Nat)) : Prop where
  cts : CtsAt w w0.heap.size gm L
  view : ∀ s, viewC L s = f s
  st : ∀ c ∈ L, ∃ t, (l.map Trk.tk)[c.i]? = some t ∧ t.stops[c.j]? = some c.a ∧ t.stops[c.j + 1]? = some c.b
  below : Below w0.heap.size w0 w
theorem CI.next {w0 w w' : World} {gm : Nat} {l : List Trk} {L : List Ct} {f} (h : CI w0 w gm l L f) (hb : Below w.heap.size w w') : CI w0 w' gm l L f :=
  ⟨h.cts.next hb, h.view, h.st, bseq h.below hb⟩
theorem CI.like {w0 w : World} {gm : Nat} {l : List Trk} {L : List Ct} {f f'} (h : CI w0 w gm l L f) (he : ∀ s, f s = f' s) : CI w0 w gm l L f' := ⟨h.cts, fun s => (h.view s).trans (he s), h.st, h.below⟩
theorem CI.new (w : World) (l : List Trk) : CI w (w.alloc (.map #[] 0)) w.heap.size l [] (fun _ => none) := ⟨CtsAt.new w (Nat.le_refl _), fun _ => rfl, by simp, balloc (Below.refl _ _) _⟩

theorem specC_ne {ts : List Tk} {i : Nat} {t : Tk} {j : Nat} {s : ByteArray} {a b : Nat} {ins : List Nat} (h : specC ts i t j s = some (a, b, ins)) : ins ≠ [] := by
  unfold specC at h
  cases hf : firstP (ts.take i) s with
  | some p =>
    rw [hf] at h
    simp only [Option.some.injEq, Prod.mk.injEq] at h
    obtain ⟨_, _, rfl⟩ := h
    obtain ⟨u, h1, h2⟩ := firstP_at (a := p.1) (b := p.2) hf
    intro e
    have hm : p.1 ∈ insideP (ts.take i) s := by
      unfold insideP
      rw [List.mem_filter, List.mem_range]
      refine ⟨(List.getElem?_eq_some_iff.1 h1).1, ?_⟩
      rw [h1]
      simp only [List.any_eq_true, decide_eq_true_eq]
      exact ⟨s, List.mem_of_getElem? h2, rfl⟩
    rw [(List.append_eq_nil_iff.1 e).1] at hm
    cases hm
  | none =>
    rw [hf] at h
    cases hh : hereP t j s with
    | none => rw [hh] at h; cases h
    | some b =>
      rw [hh] at h
      simp only [Option.map_some, Option.some.injEq, Prod.mk.injEq] at h
      obtain ⟨_, _, rfl⟩ := h
      simp
theorem viewC_put (A B : List Ct) (c : Ct) (hA : ∀ x ∈ A, decide (x.s = c.s) = false) (v' : Value) (ins' : List Nat) (s : ByteArray) : viewC (A ++ { c with v := v', ins := ins' } :: B) s = if s = c.s then some (c.i, c.j, ins') else viewC (A ++ c :: B) s := by
  unfold viewC
  rw [List.find?_append, List.find?_append, List.find?_cons, List.find?_cons]
  by_cases h : s = c.s
  · subst h
    have : A.find? (fun x => decide (x.s = c.s)) = none := List.find?_eq_none.2 fun x hx => by rw [hA x hx]; simp
    rw [this]; simp
  · have : decide (c.s = s) = false := by simpa using fun e : c.s = s => h e.symm
    simp only [this, if_neg h]
theorem viewC_add (L : List Ct) (c : Ct) (hL : L.find? (fun x => decide (x.s = c.s)) = none) (s : ByteArray) : viewC (L ++ [c]) s = if s = c.s then some (c.i, c.j, c.ins) else viewC L s := by
  unfold viewC
  rw [List.find?_append]
  by_cases h : s = c.s
  · subst h
    rw [hL]; simp
  · have : decide (c.s = s) = false := by simpa using fun e : c.s = s => h e.symm
    rw [if_neg h]
    simp [List.find?_cons, this]
/-- A found container. -/
theorem CI.found {w0 w : World} {gm : Nat} {l : List Trk} {L : List Ct} {f} (h : CI w0 w gm l L f) {s : ByteArray} {r} (hf : f s = some r) : ∃ A c B, L = A ++ c :: B ∧ (∀ x ∈ A, decide (x.s = c.s) = false) ∧ c.s = s ∧ L.find? (fun c => decide (c.s = s)) = some c ∧ (c.i, c.j, c.ins) = r := by
  have hv := h.view s
  rw [hf] at hv
  unfold viewC at hv
  cases hfd : L.find? (fun c => decide (c.s = s)) with
  | none => rw [hfd] at hv; cases hv
  | some c =>
    rw [hfd] at hv
    obtain ⟨h1, A, B, h2, h3⟩ := List.find?_eq_some_iff_append.1 hfd
    have h1 : c.s = s := by simpa using h1
    refine ⟨A, c, B, h2, fun x hx => ?_, h1, rfl, by simpa using hv⟩
    have := h3 x hx
    rw [h1]; simpa using this
theorem CI.unfound {w0 w : World} {gm : Nat} {l : List Trk} {L : List Ct} {f} (h : CI w0 w gm l L f) {s : ByteArray} (hf : f s = none) : L.find? (fun c => decide (c.s = s)) = none := by
  have hv := h.view s
  rw [hf] at hv
  unfold viewC at hv
  simpa using hv
/-- A container gets a further track. -/
theorem CI.app {w0 w w1 : World} {gm : Nat} {l : List Trk} {A B : List Ct} {c : Ct} {f} {v' : Value} (i : Nat) (h : CI w0 w gm l (A ++ c :: B) f) (hA : ∀ x ∈ A, decide (x.s = c.s) = false)
    (hgr : w.grownBy w1 c.v.ownBlock) (hown : w1.ownsRow w0.heap.size 3 1 v' (c.ins.length + 1) (natsV c.ins ++ [.int .i64 (i : Int)]))
    (hw : v'.ownBlock = c.v.ownBlock ∨ ∀ k, v'.ownBlock = some k → w.heap.size ≤ k) : CI w0 (w1.setCell ⟨c.g, 10, none⟩ v') gm l (A ++ { c with v := v', ins := c.ins ++ [i] } :: B) (fun s => if s = c.s then some (c.i, c.j, c.ins ++ [i]) else f s) := by
  have hc : c ∈ A ++ c :: B := by simp
  refine ⟨h.cts.app i hgr hown h.below.size hw, fun s => ?_, fun d hd => ?_, ?_⟩
  · rw [viewC_put A B c hA]
    split
    · rfl
    · exact h.view s
  · rcases List.mem_append.1 hd with hd | hd
    · exact h.st d (by simp [hd])
    · rcases List.mem_cons.1 hd with rfl | hd
      · exact h.st c hc
      · exact h.st d (by simp [hd])
  · have h1 := h.cts.off c hc
    have h2 : Below w0.heap.size w0 w1 := h.below.grown hgr h.below.size (fun k hk => (h1 k (.inr hk)).2)
    exact h2.setCell (p := ⟨c.g, 10, none⟩) (h1 _ (.inl rfl)).2 _
theorem CI.add {w0 w w' : World} {gm : Nat} {l : List Trk} {L : List Ct} {f} (h : CI w0 w gm l L f) (s : ByteArray) (a b : Stp) (i j : Nat) (t : Tk) (hs : f s = none) (ht : (l.map Trk.tk)[i]? = some t) (ha : t.stops[j]? = some a) (hb : t.stops[j + 1]? = some b)
    (hs2 : Blk w' w.heap.size (Ct.cells ⟨s, w.heap.size, a, b, i, j, .slice none 0 0, []⟩).toArray 145)
    (hm : MpAt strK w' gm (putL (L.map fun c => (c.s, c.ptr)) s (.pointer (some ⟨w.heap.size, 0, none⟩)))) (hg : ∀ k, k < w.heap.size → k ≠ gm → w'.heap[k]? = w.heap[k]?) (hbl : Below w0.heap.size w0 w') :
    CI w0 w' gm l (L ++ [⟨s, w.heap.size, a, b, i, j, .slice none 0 0, []⟩]) (fun x => if x = s then some (i, j, []) else f x) := by
  have hn := h.unfound hs
  refine ⟨h.cts.add h.below.size s a b i j hn hs2 hm hg, fun x => ?_, fun d hd => ?_, hbl⟩
  · rw [viewC_add L _ hn]
    show (if x = s then some (i, j, []) else _) = _
    split
    · rfl
    · exact h.view x
  · rcases List.mem_append.1 hd with hd | hd
    · exact h.st d hd
    · rw [List.mem_singleton.1 hd]
      exact ⟨t, ht, ha, hb⟩
theorem Blk.off_row {w : World} {b base e size n : Nat} {cs : Array Value} {T : TypeId} {v : Value} {xs : List Value} (h : Blk w b cs T) (hr : w.ownsRow base e size v n xs) (hne : T ≠ e) : v.ownBlock ≠ some b := fun hk => by
  rcases hr.2 with ⟨hv, _⟩ | ⟨g', cap', cur, hv, hb, hh, rest⟩
  · subst hv; cases hk
  · subst hv
    cases hk
    unfold Blk at h
    rw [hh] at h
    injection h with h
    injection h with _ h
    exact hne h.symm
theorem Blk.ne {w : World} {b b' : Nat} {cs cs' : Array Value} {T T' : TypeId} (h : Blk w b cs T) (h' : Blk w b' cs' T') (hne : T ≠ T') : b ≠ b' := fun e => by
  subst e
  unfold Blk at h h'
  rw [h'] at h
  injection h with h
  injection h with _ h
  exact hne h.symm
theorem Tryz.info3 : (Tryz.prog.info? 3).map (fun i => (i.zero, i.size, i.bytes)) = some (some (.int .i64 0), 1, 8) := by kernel_rfl

set_option maxRecDepth 100000 in
set_option maxHeartbeats 4000000 in
theorem containers_c (p : Option Addr) (cap n : Nat) (l : List Trk) (w : World) (R) (hn : l.length = n) (hl : n ≤ 8) (h : TrksAt w p l) (hk : ∀ t ∈ l, TkOk t.tk)
    (hR : ∀ w' gm L, CI w w' gm l L (specD (l.map Trk.tk) n) → R (.returned (.map (some gm))) w') : Calls Tryz.prog 50 #[.slice p n cap] w R := by
  have HR := hide hR; have H := hide h; have Hk := hide hk; have Hn := hide hn
  have hmm := @run_makeMap Tryz.prog
  have HC0 := hide (CI.new w l)
  clear hR h hk hn
  go_enter Tryz.func50, Tryz.ntmps50
  go_wp2
  go_loopw [13] (fun si wr => ∃ (i : Nat) (L : List Ct), i ≤ n ∧ si = .int .i64 i ∧ Hid (CI w wr w.heap.size l L (specD (l.map Trk.tk) i))) (fun si _ => n - (intOf si).toNat)
  case atStart => exact ⟨0, [], Nat.zero_le _, rfl, hide (HC0.out.like fun s => rfl)⟩
  case round =>
    obtain ⟨i, L, hi, rfl, HC⟩ := hrel
    by_cases hlt : i < n
    · obtain ⟨b, o, t, rfl, hx, ht, x0, x1, x2, x3, x4, x5, x6, x7, x8, x9⟩ := (H.out.keep (Keeps.of_below HC.out.below)).trk (i := i) (by rw [Hn.out]; exact hlt)
      have Ht := hide ht
      have Hok := hide (Hk.out t (List.mem_of_getElem? hx))
      have Hx := hide hx
      have HC2 := hide (HC.out.next (balloc (Below.refl _ _) (.cells t.cells.toArray 43)))
      clear hx ht HC HC0
      obtain ⟨W0, rfl⟩ : ∃ W0, W0 = wr := ⟨wr, rfl⟩
      obtain ⟨i0, hi0, hz0, hz1, hz2⟩ := info_parts Tryz.info3
      have HI := hide (And.intro hi0 (And.intro hz0 (And.intro hz1 hz2)))
      obtain ⟨W1, hW1⟩ : ∃ W1, W0.alloc (.cells t.cells.toArray 43) = W1 := ⟨_, rfl⟩
      have HW1 := hide hW1
      have HBW := hide (show Below W0.heap.size W0 W1 from hW1 ▸ balloc (Below.refl _ _) _)
      have HC3 := HC2
      rw [hW1] at HC3
      clear hi0 hz0 hz1 hz2 hW1 HC2
      unfold Trk.cells at HW1
      obtain ⟨m, hm⟩ : ∃ m, t.seals.length = m := ⟨_, rfl⟩
      have Hm := hide hm
      rw [hm] at x9
      have hms : m + 1 = t.stops.length := by rw [← hm]; exact Hok.out.seals
      have Hms := hide hms
      have hm20 : m ≤ 20 := by have := Hok.out.few.1; have : t.stops.length ≤ 20 := this; omega
      rw [hm] at HW1
      clear hm hms
      obtain ⟨bx, hbx⟩ : ∃ bx : Array Value, bx = #[.string t.label0, .int .i64 t.from0, .int .i64 t.to0, .int .i64 t.class0, .int .i64 t.accept, .slice t.sp t.stops.length t.sc, .bool t.lost, .slice t.np t.since.length t.nc, .slice t.lp t.label.length t.lc, .slice t.ep m t.ec] := ⟨_, rfl⟩
      have Hbx := hide hbx
      clear hbx
      go_wp2
      go_loopw [21] (fun sj wj => ∃ (j : Nat) (L2 : List Ct), j ≤ m ∧ sj = .int .i64 j ∧ Hid (CI w wj w.heap.size l L2 (specC (l.map Trk.tk) i t.tk j)) ∧ Hid (Blk wj W0.heap.size bx 43)) (fun sj _ => m - (intOf sj).toNat)
      case atStart => exact ⟨0, L, Nat.zero_le _, rfl, hide (by rw [HW1.out]; exact HC3.out.like fun s => (specC_zero _ _ _ _).symm), hide (by rw [Hbx.out]; exact Blk.new _ _ _)⟩
      case round =>
        clear x0 x1 x2 x3 x4 x5 x6 x7 x8 x9
        obtain ⟨j, L2, hj, rfl, HJ, HBJ⟩ := hrel
        by_cases hjm : j < m
        · obtain ⟨b9, o9, e, hp9, he, cse, hse⟩ := (((H.out.keep (Keeps.of_below HJ.out.below)).2 t (List.mem_of_getElem? Hx.out))).seals.at_ (i := j) (by rw [Hm.out]; exact hjm)
          have c5 : wr.cell? ⟨W0.heap.size, 5, none⟩ = some (.slice t.sp t.stops.length t.sc) := HBJ.out.cell (k := 5) (by rw [Hbx.out]; rfl)
          have He := hide he
          rw [hp9]
          clear he hp9
          have Hstep := hide (fun s => specC_step (ts := l.map Trk.tk) (i := i) (t := t.tk) (j := j) (e := e) (by rw [List.length_map, Hn.out]; omega) He.out s)
          cases hsp : specC (l.map Trk.tk) i t.tk j e with
          | some r =>
            obtain ⟨A, c, B, rfl, hA, hcs, hfd, hr⟩ := HJ.out.found hsp
            obtain ⟨ra, rb, rins⟩ := r
            simp only [Prod.mk.injEq] at hr
            obtain ⟨rfl, rfl, rfl⟩ := hr
            have hne := specC_ne hsp
            have hfew := specC_few hsp
            rw [List.length_map, Hn.out] at hfew
            have hcm : c ∈ A ++ c :: B := by simp
            have hrow := HJ.out.cts.row c hcm
            have hblk := HJ.out.cts.blk c hcm
            obtain ⟨xs, x, hxs⟩ : ∃ xs x, c.ins = xs ++ [x] := ⟨c.ins.dropLast, c.ins.getLast hne, (List.dropLast_concat_getLast hne).symm⟩
            obtain ⟨q, hq⟩ : ∃ q, xs.length = q := ⟨_, rfl⟩
            have hlen : c.ins.length = q + 1 := by rw [hxs]; simp [hq]
            obtain ⟨g', cap', hv⟩ : ∃ g' cap', c.v = .slice (some ⟨g', 0, none⟩) (q + 1) cap' := by
              rw [hlen] at hrow
              exact ownsRow_succ hrow
            have cell10 : wr.cell? ⟨c.g, 10, none⟩ = some (.slice (some ⟨g', 0, none⟩) (q + 1) cap') := hv ▸ hblk.cell (k := 10) rfl
            have cellL : wr.cell? ⟨g', q, none⟩ = some (.int .i64 (x : Int)) := by
              rw [hv, hlen] at hrow
              rw [hrow.cellAt q (by omega), hxs]
              simp [natsV, hq]
            obtain ⟨N, hN⟩ : ∃ N, q + 1 = N := ⟨_, rfl⟩
            rw [hN] at cell10
            have hwz : IntKind.i64.wrap ((N : Int) - 1) = (q : Int) := by rw [IntWalk.i64_in _ (by omega)]; omega
            have hN0 : ((N : Int) == 0) = false := by simp; omega
            have hN40 : (N : Int) < 40 := by omega
            have hqN : (q : Int) < (N : Int) := by omega
            have hlk := HJ.out.cts.map.lookup mlaw79 e true
            rw [if_pos rfl, find2_cts, hfd] at hlk
            simp only [Option.map_some, Option.getD_some, Option.isSome_some, Ct.ptr] at hlk
            have HF := hide (And.intro hA (And.intro hcs (And.intro hxs (And.intro hq (And.intro hN (And.intro hv (And.intro hlen hsp)))))))
            have Hrow := hide hrow
            clear hA hcs hfd hne hxs hq hN hv hlen hsp hblk hrow
            by_cases hxi : x = i
            · have hne1 : ((x : Int) != (i : Int)) = false := by simp [hxi]
              have HS2 := hide (HJ.out.like (f' := specC (l.map Trk.tk) i t.tk (j + 1)) (fun s => by
                rw [Hstep.out s]
                split
                · rename_i e1
                  subst e1
                  obtain ⟨h1, h2, h3, h4, h5, h6, h7, h8⟩ := HF.out
                  rw [h8]
                  simp only
                  rw [if_pos (by rw [h3, List.getLast?_concat, hxi])]
                · rfl))
              clear hxi
              go_wp2
              go_quiet (fail)
              go_wp2
              go_roundw
              case rel => exact ⟨j + 1, A ++ c :: B, by omega, by go_num, hide (HS2.out.next (below_drewN' (Below.refl _ _) _)), hide (HBJ.out.drewN _)⟩
              case measure => simp [intOf]; omega
            · have hne1 : ((x : Int) != (i : Int)) = true := by simp; omega
              have Hxi := hide hxi
              clear hxi
              go_wp2
              go_quiet (fail)
              rename Nat => nq
              have c10 : ((wr.drewN nq).alloc (.cells #[.int .i64 (i : Int)] 3)).cell? ⟨c.g, 10, none⟩ = some (.slice (some ⟨g', 0, none⟩) N cap') := cell_later (balloc (Below.refl (wr.drewN nq).heap.size _) _) cell10
              have HJ5 := hide (HJ.out.next (w' := (wr.drewN nq).alloc (.cells #[.int .i64 (i : Int)] 3)) (bseq (below_drewN' (Below.refl _ _) nq) (balloc (Below.refl _ _) _)))
              have HB5 := hide ((HBJ.out.drewN nq).alloc (.cells #[.int .i64 (i : Int)] 3))
              clear cellL
              have hsf := HJ5.out.cts.self c hcm
              have hrow5 := HJ5.out.cts.row c hcm
              have HK5 := hide (HJ5.out.cts.blk c hcm)
              have hcl5 := HJ5.out.cts.lt hcm (.inl rfl)
              have Hs5 := hide (And.intro hsf (And.intro hrow5 hcl5))
              clear hsf hrow5 hcl5
              go_wp2_with (at_builtin; refine Stop.out ?_)
              refine Stop.go ?_
              obtain ⟨hi0, hz0, hz1, hz2⟩ := HI.out
              refine wpList_append_where rfl (.tmp 86) (.tmp 88) 24 rfl w.heap.size 3 i0 _ 1 8 Tryz.underlying24 hi0 hz0 hz1 hz2 rfl (by omega) c.v c.ins.length (natsV c.ins) (by obtain ⟨_, _, _, _, h5, h6, _⟩ := HF.out; rw [h6, h5]; rfl) Hs5.out.2.1 ⟨(wr.drewN nq).heap.size, 0, none⟩ 1 1 [.int .i64 (i : Int)] rfl rfl (cell_one_new _ _ _) (by intro u hu; obtain rfl := List.mem_singleton.1 hu; rfl) (by unfold maxLen; omega) (by omega) HJ5.out.below.size ?_
              clear hi0 hz0 hz1 hz2
              intro v7 w7 hown hg hw
              have HA7 := hide (HJ5.out.app i HF.out.1 hg hown hw)
              have hK7 : Blk w7 c.g c.cells.toArray 145 := (hg.block c.g Hs5.out.2.2 (fun e => Hs5.out.1 e.symm)).trans HK5.out
              have HX7 := hide (((show Blk w7 W0.heap.size _ 43 from (hg.block W0.heap.size HB5.out.lt (fun e => HB5.out.off_row Hs5.out.2.1 (by decide) e.symm)).trans HB5.out)).set_other (a := ⟨c.g, 10, none⟩) (hK7.ne (show Blk w7 W0.heap.size _ 43 from (hg.block W0.heap.size HB5.out.lt (fun e => HB5.out.off_row Hs5.out.2.1 (by decide) e.symm)).trans HB5.out) (by decide)) v7)
              have d10 : w7.cell? ⟨c.g, 10, none⟩ = some c.v := hK7.cell (k := 10) rfl
              have f10 := hK7.free 10
              obtain ⟨g7, cap7, rfl⟩ := ownsRow_succ hown
              have HF7 := hide (HA7.out.like (f' := specC (l.map Trk.tk) i t.tk (j + 1)) (fun s => by
                rw [Hstep.out s]
                obtain ⟨h1, h2, h3, h4, h5, h6, h7, h8⟩ := HF.out
                show (if s = c.s then _ else _) = _
                rw [h2]
                split
                · rename_i e1
                  subst e1
                  rw [h8]
                  simp only
                  rw [if_neg (by rw [h3, List.getLast?_concat]; intro e2; injection e2 with e2; exact Hxi.out e2)]
                · rfl))
              clear hown hg hw hK7
              go_wp2
              go_roundw
              case rel => exact ⟨j + 1, _, by omega, by go_num, HF7, HX7⟩
              case measure => simp [intOf]; omega
          | none =>
            have HT2 := hide ((H.out.keep (Keeps.of_below HJ.out.below)).2 t (List.mem_of_getElem? Hx.out))
            obtain ⟨bs, os, s0, hps, hs0, y0, y1, y2, y3⟩ := HT2.out.stops.stp (i := j) (by have := Hms.out; omega)
            obtain ⟨bs', os', s1, hps', hs1, z0, z1, z2, z3⟩ := HT2.out.stops.stp (i := j + 1) (by have := Hms.out; omega)
            obtain ⟨rfl, rfl⟩ : bs = bs' ∧ os = os' := by rw [hps] at hps'; injection hps' with hp'; injection hp' with h1 h2; exact ⟨h1, h2⟩
            have hlk := HJ.out.cts.map.lookup mlaw79 e true
            rw [if_pos rfl, find2_cts, HJ.out.unfound hsp] at hlk
            simp only [Option.map_none, Option.getD_none, Option.isSome_none] at hlk
            obtain ⟨w5, hw5⟩ : ∃ w5, (wr.alloc (.cells (Ct.cells ⟨e, wr.heap.size, s0, s1, i, j, .slice none 0 0, []⟩).toArray 145)).drew = w5 := ⟨_, rfl⟩
            have HJ5 := hide (HJ.out.next (w' := w5) (by rw [← hw5]; exact (balloc (Below.refl _ _) _).drew))
            obtain ⟨w6, hu, hM6, hg6, hs6⟩ := HJ5.out.cts.map.update mlaw79 e (.pointer (some ⟨wr.heap.size, 0, none⟩))
            have hsz5 : wr.heap.size < w5.heap.size := by rw [← hw5]; simp
            have hold : ∀ k, k < wr.heap.size → w5.heap[k]? = wr.heap[k]? := fun k hk => by rw [← hw5]; exact (balloc (Below.refl wr.heap.size wr) _).drew.block k hk
            have hgm : w.heap.size < wr.heap.size := HJ.out.cts.map.lt
            have hK5 : Blk w5 wr.heap.size (Ct.cells ⟨e, wr.heap.size, s0, s1, i, j, .slice none 0 0, []⟩).toArray 145 := by rw [← hw5]; exact (Blk.new _ _ _).drew
            have hK6 : Blk w6 wr.heap.size (Ct.cells ⟨e, wr.heap.size, s0, s1, i, j, .slice none 0 0, []⟩).toArray 145 := (hg6.block _ hsz5 (by intro e2; injection e2 with e2; omega)).trans hK5
            have HC6 := hide (HJ.out.add (w' := w6) e s0 s1 i j t.tk hsp (by rw [List.getElem?_map, Hx.out]; rfl) hs0 hs1 hK6 hM6 (fun k hk hne => (hg6.block k (by omega) (fun e2 => hne (by injection e2))).trans (hold k hk))
              (HJ5.out.below.grown hg6 HJ5.out.below.size (fun k hk => by injection hk with hk; omega)))
            have hbx : W0.heap.size ≠ w.heap.size := by
              have := HC3.out.cts.map.lt
              have := HJ.out.cts.gmb
              intro e2
              have h9 := HJ.out.cts.map
              obtain ⟨es, cl, hh, _⟩ := h9
              have h8 := HBJ.out
              unfold Blk at h8
              rw [e2] at h8
              rw [h8] at hh
              cases hh
            have HB6 := hide (show Blk w6 W0.heap.size bx 43 from (hg6.block _ (by have := HBJ.out.lt; omega) (by intro e2; injection e2 with e2; exact hbx e2)).trans ((hold _ HBJ.out.lt).trans HBJ.out))
            have HJ7 := hide (HC6.out.next (w' := w6.alloc (.cells #[.int .i64 (i : Int)] 3)) (balloc (Below.refl _ _) _))
            have d10 : w6.cell? ⟨wr.heap.size, 10, none⟩ = some (.slice none 0 0) := hK6.cell (k := 10) rfl
            simp only [Ct.cells] at hw5
            obtain ⟨M, hM⟩ : ∃ M, t.stops.length = M := ⟨_, rfl⟩
            rw [hps, hM] at c5
            obtain ⟨j1, hj1⟩ : ∃ j1, j + 1 = j1 := ⟨_, rfl⟩
            rw [hj1] at z0 z1 z2 z3
            have hw1 : IntKind.i64.wrap ((j : Int) + 1) = (j1 : Int) := by rw [IntWalk.i64_in _ (by omega)]; omega
            have hjM : (j : Int) < (M : Int) := by have := Hms.out; omega
            have hj1M : (j1 : Int) < (M : Int) := by have := Hms.out; omega
            have Hj1 := hide hj1
            have Hsp := hide hsp
            clear hps' hps hs0 hs1 HJ5 hM6 hg6 hs6 hsz5 hold hgm hK5 hK6 hbx hsp hM hj1
            go_wp2
            go_still_tail 14, (by kernel_rfl)
            go_wp2
            go_quiet (fail)
            rename Nat => nq
            have HJ8 := hide (HC6.out.next (w' := (w6.drewN nq).alloc (.cells #[.int .i64 (i : Int)] 3)) (bseq (below_drewN' (Below.refl _ _) nq) (balloc (Below.refl _ _) _)))
            have HB8 := hide ((HB6.out.drewN nq).alloc (.cells #[.int .i64 (i : Int)] 3))
            have hcm : (⟨e, wr.heap.size, s0, s1, i, j, .slice none 0 0, []⟩ : Ct) ∈ L2 ++ [⟨e, wr.heap.size, s0, s1, i, j, .slice none 0 0, []⟩] := by simp
            have hsf := HJ8.out.cts.self _ hcm
            have hrow5 := HJ8.out.cts.row _ hcm
            have HK8 := hide (HJ8.out.cts.blk _ hcm)
            have hcl5 := HJ8.out.cts.lt hcm (.inl rfl)
            have Hs5 := hide (And.intro hsf (And.intro hrow5 hcl5))
            clear hsf hrow5 hcl5 HJ7 hu hlk y0 y1 y2 y3 z0 z1 z2 z3 hw5
            go_wp2_with (at_builtin; refine Stop.out ?_)
            refine Stop.go ?_
            obtain ⟨hi0, hz0, hz1, hz2⟩ := HI.out
            refine wpList_append_where rfl (.tmp 86) (.tmp 88) 24 rfl w.heap.size 3 i0 _ 1 8 Tryz.underlying24 hi0 hz0 hz1 hz2 rfl (by omega) (.slice none 0 0) 0 [] rfl Hs5.out.2.1 ⟨(w6.drewN nq).heap.size, 0, none⟩ 1 1 [.int .i64 (i : Int)] rfl rfl (cell_one_new _ _ _) (by intro u hu; obtain rfl := List.mem_singleton.1 hu; rfl) (by unfold maxLen; omega) (by omega) HJ8.out.below.size ?_
            clear hi0 hz0 hz1 hz2
            intro v7 w7 hown hg hw
            have hun := HJ.out.unfound Hsp.out
            have HA7 := hide (HJ8.out.app i (fun x hx => by have := List.find?_eq_none.1 hun x hx; simpa using this) hg hown hw)
            have hK7 : Blk w7 wr.heap.size _ 145 := (hg.block wr.heap.size Hs5.out.2.2 (by simp [Value.ownBlock])).trans HK8.out
            have hX7 : Blk w7 W0.heap.size bx 43 := (hg.block W0.heap.size HB8.out.lt (by simp [Value.ownBlock])).trans HB8.out
            have HX7 := hide (hX7.set_other (a := ⟨wr.heap.size, 10, none⟩) (hK7.ne hX7 (by decide)) v7)
            have d11 : w7.cell? ⟨wr.heap.size, 10, none⟩ = some (.slice none 0 0) := hK7.cell (k := 10) rfl
            have f11 := hK7.free 10
            obtain ⟨g7, cap7, rfl⟩ := ownsRow_succ hown
            have HF7 := hide (HA7.out.like (f' := specC (l.map Trk.tk) i t.tk (j + 1)) (fun s => by
              rw [Hstep.out s, Hsp.out]
              show (if s = e then _ else if s = e then _ else _) = _
              split <;> rfl))
            clear hown hg hw hK7 hX7
            go_wp2
            go_roundw
            case rel => exact ⟨j1, _, by have := Hj1.out; omega, by have := Hj1.out; first | rfl | (congr 1; omega), by rw [← Hj1.out]; exact HF7, HX7⟩
            case measure => have := Hj1.out; simp [intOf]; omega
        · obtain rfl : j = m := by omega
          have HJ2 := hide (HJ.out.like (f' := specD (l.map Trk.tk) (i + 1)) (fun s => by have := specC_next (ts := l.map Trk.tk) (i := i) (t := t.tk) (by rw [List.getElem?_map, Hx.out]; rfl) s; rw [← this]; show _ = specC _ _ _ t.seals.length s; rw [Hm.out]))
          go_wp2
          go_roundw
          case rel => exact ⟨i + 1, L2, by omega, by go_num, HJ2⟩
          case measure => simp [intOf]; omega
    · obtain rfl : i = n := by omega
      go_wp2
      exact HR.out _ _ _ HC.out
end Go.Proofs.YtkabghifdedmfaaGreatDoor

namespace Go.Proofs.YtkabghifdedmfaaGreatDoor
open Go.RowKit

theorem own_below {w w' : World} {base : Nat} {e : TypeId} {size n : Nat} {v : Value} {xs : List Value} (h : w.ownsRow base e size v n xs) (hb : Below w.heap.size w w') : w'.ownsRow base e size v n xs :=
  h.kept (row := none) ⟨hb.os, hb.tape, hb.output, hb.size, fun k hk _ => hb.block k hk⟩ (by cases v.ownBlock <;> simp)
theorem grow_next {w w1 w2 : World} {row : Option Nat} (h : w.grownBy w1 row) (hb : Below w1.heap.size w1 w2) : w.grownBy w2 row :=
  ⟨hb.os.trans h.os, hb.tape.trans h.tape, hb.output.trans h.output, Nat.le_trans h.size hb.size, fun k hk hne => (hb.block k (Nat.lt_of_lt_of_le hk h.size)).trans (h.block k hk hne)⟩
theorem wp_where {P : Program} {w : World} {o : Oper} {a : Act} {K : Act → World → Prop} {Q : Exit → Act → World → Prop} (s x : Operand) (t : TypeId)
    (ho : o.op = .call { callee := .builtin .append, args := #[s, x], argTypes := #[t, t] })
    (base : Nat) (e : TypeId) (i : TypeInfo) (z : Value) (size bytes : Nat) (ht : P.underlying t = some (.slice e)) (hi : P.info? e = some i) (hz : i.zero = some z)
    (hsize : i.size = size) (hby : i.bytes = bytes) (hzs : z.cells.size = size) (hsz : 0 < size)
    (v : Value) (n : Nat) (xs : List Value) (hs : a.eval s = v) (hown : w.ownsRow base e size v n xs)
    (ad : Addr) (m c : Nat) (news : List Value) (hx : a.eval x = .slice (some ad) m c) (hl : news.length = m * size) (hnews : ∀ j u, news[j]? = some u → w.cell? (ad.add j) = some u) (h1 : ∀ u ∈ news, u.oneCell' = true)
    (h63 : n + m ≤ maxLen) (hbytes : (n + m) * bytes ≤ 140737488355328) (hbase : base ≤ w.heap.size)
    (h : ∀ v' w', w'.ownsRow base e size v' (n + m) (xs ++ news) → w.grownBy w' v.ownBlock → (v'.ownBlock = v.ownBlock ∨ ∀ k, v'.ownBlock = some k → w.heap.size ≤ k) → K (a.put o.dst v') w') : o.wp P a w K Q := by
  obtain ⟨v', w', hr, h2, h3, h4⟩ := run_append_own (P := P) w base t o.type e i z size bytes ht hi hz hsize hby hzs hsz v n xs hown ad m c news hl hnews h1 h63 hbytes hbase
  have hw := app_where w base t o.type e i z size bytes ht hi hz hsize hby hzs hsz v n xs hown ad m c news hl hnews h1 h63 hbytes v' w' hr
  unfold Oper.wp execOp
  simp only [ho, resolve, invoke, builtin, Sem.run_bind, Sem.run_pure, Result.andThen_ok, List.map_toArray, List.map_cons, List.map_nil, hs, hx, hr]
  exact h v' w' h2 h3 hw
theorem step_where {P : Program} {w : World} {ops : Array Oper} {o : Oper} {a : Act} {K : Act → World → Prop} {Q : Exit → Act → World → Prop} {E : Prop} (hgd : o.guard = none) (s x : Operand) (t : TypeId)
    (ho : o.op = .call { callee := .builtin .append, args := #[s, x], argTypes := #[t, t] })
    (base : Nat) (e : TypeId) (i : TypeInfo) (z : Value) (size bytes : Nat) (ht : P.underlying t = some (.slice e)) (hi : P.info? e = some i) (hz : i.zero = some z)
    (hsize : i.size = size) (hby : i.bytes = bytes) (hzs : z.cells.size = size) (hsz : 0 < size)
    (v : Value) (n : Nat) (xs : List Value) (hs : a.eval s = v) (hown : w.ownsRow base e size v n xs)
    (ad : Addr) (m c : Nat) (news : List Value) (hx : a.eval x = .slice (some ad) m c) (hl : news.length = m * size) (hnews : ∀ j u, news[j]? = some u → w.cell? (ad.add j) = some u) (h1 : ∀ u ∈ news, u.oneCell' = true)
    (h63 : n + m ≤ maxLen) (hbytes : (n + m) * bytes ≤ 140737488355328) (hbase : base ≤ w.heap.size)
    (h : ∀ v' w', w'.ownsRow base e size v' (n + m) (xs ++ news) → w.grownBy w' v.ownBlock → (v'.ownBlock = v.ownBlock ∨ ∀ k, v'.ownBlock = some k → w.heap.size ≤ k) → K (a.put o.dst v') w') : if Region.wanted o (yielded ops a.tmps) = true then Oper.wp P o a w K Q else E := by
  rw [if_pos (by simp [Region.wanted, hgd])]
  exact wp_where s x t ho base e i z size bytes ht hi hz hsize hby hzs hsz v n xs hs hown ad m c news hx hl hnews h1 h63 hbytes hbase h
theorem one_cells {v : Value} {w : World} {t : TypeId} {n : Nat} (hn : n = w.heap.size) : ∀ j u, ([v] : List Value)[j]? = some u → (w.alloc (.cells #[v] t)).cell? ((⟨n, 0, none⟩ : Addr).add j) = some u := by
  intro j u h
  rw [Addr.add_lit, Nat.zero_add]
  exact (Blk.new_at hn).cell (by simpa using h)
theorem grow_cell {w w' : World} {row : Option Nat} {b o : Nat} {v : Value} (h : w.grownBy w' row) (hc : w.cell? ⟨b, o, none⟩ = some v) (hne : row ≠ some b) : w'.cell? ⟨b, o, none⟩ = some v := by
  rw [World.cell?_of_block (h.block b (block_lt hc) (fun e => hne e.symm))]; exact hc
theorem grow_drew {w w' : World} {row : Option Nat} (h : w.grownBy w' row) : w.grownBy w'.drew row := grow_next h ((Below.refl _ _).drew)
end Go.Proofs.YtkabghifdedmfaaGreatDoor
