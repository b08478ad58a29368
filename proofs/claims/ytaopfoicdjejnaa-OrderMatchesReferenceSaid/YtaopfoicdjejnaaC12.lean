/- Well-formed distances, events and legs. -/
import Derived.Test.YtaopfoicdjejnaaC10
import Derived.Test.YtaopfoicdjejnaaC11
set_option linter.unusedVariables false
set_option linter.unusedSimpArgs false
namespace Go.Proofs.Ytaopfoicdjejnaa
open Go.RowKit

set_option maxHeartbeats 1000000 in
theorem use_no (x : Int) (eb ub ib n ec : Nat) (ep : Option Addr) (w : World) (R) (h1 : w.cell? ⟨eb, 0, none⟩ = some (.slice ep n ec)) (h2 : w.cell? ⟨ub, 0, none⟩ = some (.slice (some ⟨ib, 0, none⟩) n n)) (hn : n ≤ 16)
    (hx : x < 0 ∨ (n : Int) ≤ x ∨ (0 ≤ x ∧ x < n ∧ w.cell? ⟨ib, x.toNat, none⟩ = some (.bool true))) (hR : R (.returned (.bool false)) w) :
    Calls Try.prog 38 #[.int .i64 x, .pointer (some ⟨eb, 0, none⟩), .pointer (some ⟨ub, 0, none⟩)] w R := by
  have HR := hide hR; clear hR
  by_cases a : x < 0
  · clear hx
    go_enter Try.func38, Try.ntmps38
    go_wp2
    exact HR.out
  by_cases b : (n : Int) ≤ x
  · clear hx
    go_enter Try.func38, Try.ntmps38
    go_wp2
    exact HR.out
  have h3 : w.cell? ⟨ib, x.toNat, none⟩ = some (.bool true) := by
    rcases hx with h | h | h
    · exact absurd h a
    · exact absurd h b
    · exact h.2.2
  clear hx
  have a0 : 0 ≤ x := by omega
  have b0 : x < (n : Int) := by omega
  go_enter Try.func38, Try.ntmps38
  go_wp2
  exact HR.out
set_option maxHeartbeats 1000000 in
theorem use_yes (x : Nat) (eb ub ib n ec : Nat) (ep : Option Addr) (w : World) (R) (h1 : w.cell? ⟨eb, 0, none⟩ = some (.slice ep n ec)) (h2 : w.cell? ⟨ub, 0, none⟩ = some (.slice (some ⟨ib, 0, none⟩) n n)) (hn : n ≤ 16)
    (hx : x < n) (h3 : w.cell? ⟨ib, x, none⟩ = some (.bool false)) (hf : w.frozen? ⟨ib, x, none⟩ = false) (hR : R (.returned (.bool true)) (w.setCell ⟨ib, x, none⟩ (.bool true))) :
    Calls Try.prog 38 #[.int .i64 (x : Int), .pointer (some ⟨eb, 0, none⟩), .pointer (some ⟨ub, 0, none⟩)] w R := by
  have HR := hide hR; clear hR
  go_enter Try.func38, Try.ntmps38
  go_wp2
  exact HR.out
def fl (ls : List Lgr) : List Int := ls.flatMap fun g => [g.src, g.dst]
theorem inL_mem {L : List Lgr} {i : Nat} : inL L i = true ↔ (i : Int) ∈ fl L := by
  unfold inL fl
  rw [List.any_eq_true, List.mem_flatMap]
  constructor
  · rintro ⟨g, hg, h⟩
    refine ⟨g, hg, ?_⟩
    simp at h
    rcases h with h | h <;> simp [h]
  · rintro ⟨g, hg, h⟩
    refine ⟨g, hg, ?_⟩
    simp at h
    rcases h with h | h <;> simp [h]
theorem fl_succ {ls : List Lgr} {k : Nat} {g : Lgr} (h : ls[k]? = some g) : fl (ls.take (k + 1)) = fl (ls.take k) ++ [g.src, g.dst] := by
  unfold fl; rw [List.take_add_one, h, List.flatMap_append]; simp
theorem fl_once {ls : List Lgr} {k : Nat} {g : Lgr} (h : ls[k]? = some g) (hn : (fl ls).Nodup) : g.src ∉ fl (ls.take k) ∧ g.dst ∉ fl (ls.take k) ∧ g.src ≠ g.dst := by
  have e : fl ls = fl (ls.take (k + 1)) ++ fl (ls.drop (k + 1)) := by unfold fl; rw [← List.flatMap_append, List.take_append_drop]
  rw [e, fl_succ h] at hn
  have h1 := (List.nodup_append.1 hn).1
  rw [List.nodup_append] at h1
  obtain ⟨_, h3, h4⟩ := h1
  refine ⟨fun hm => h4 _ hm g.src (by simp) rfl, fun hm => h4 _ hm g.dst (by simp) rfl, ?_⟩
  simp at h3
  exact h3
def legIn (n : Nat) (g : Lgr) : Prop := 0 ≤ g.src ∧ g.src < n ∧ 0 ≤ g.dst ∧ g.dst < n ∧ 0 ≤ g.gap ∧ g.gap ≤ 1000000
/-- While the legs are looked at. -/
structure UP (w : World) (eb ub ib n : Nat) (ep : Option Addr) (ec : Nat) (xs : List Bool) (wr : World) : Prop where
  below : Below w.heap.size w wr
  be : Blk wr eb #[.slice ep n ec] 23
  bu : Blk wr ub #[.slice (some ⟨ib, 0, none⟩) n n] 75
  own : wr.ownsRow w.heap.size 4 1 (.slice (some ⟨ib, 0, none⟩) n n) n (xs.map Value.bool)
  ne : ib ≠ eb ∧ ib ≠ ub
section
variable {w : World} {eb ub ib n ec : Nat} {ep : Option Addr} {xs : List Bool} {wr w' : World}
theorem UP.next (h : UP w eb ub ib n ep ec xs wr) (hb : Below wr.heap.size wr w') : UP w eb ub ib n ep ec xs w' := ⟨bseq h.below hb, h.be.next hb, h.bu.next hb, own_below h.own hb, h.ne⟩
theorem UP.put (h : UP w eb ub ib n ep ec xs wr) (i : Nat) (b : Bool) : UP w eb ub ib n ep ec (xs.set i b) (wr.setCell ⟨ib, i, none⟩ (.bool b)) :=
  ⟨h.below.setCell (p := ⟨ib, i, none⟩) (h.own.lt ib rfl).1 _, h.be.set_other (a := ⟨ib, i, none⟩) h.ne.1 _, h.bu.set_other (a := ⟨ib, i, none⟩) h.ne.2 _, by rw [List.map_set]; exact (h.own.stored i (.bool b)).1, h.ne⟩
theorem UP.cell (h : UP w eb ub ib n ep ec xs wr) {i : Nat} {b : Bool} (hi : xs[i]? = some b) : wr.cell? ⟨ib, i, none⟩ = some (.bool b) := by
  have hl : xs.length = n := by have := h.own.1; simpa using this
  have := (List.getElem?_eq_some_iff.1 hi).1
  rw [h.own.cellAt i (by omega), List.getElem?_map, hi]; rfl
end

set_option maxRecDepth 100000 in
set_option maxHeartbeats 8000000 in
theorem well_c (dp ep lp : Option Addr) (dc ec lc : Nat) (d : List (List Int)) (es : List Evt) (ls : List Lgr) (w : World) (R) (hdl : d.length ≤ maxLen) (hel : es.length ≤ maxLen) (hll : ls.length ≤ maxLen) (hd : RowsAt w dp d) (he : EvsAt w ep es) (hl : LgsAt w lp ls)
    (hR : ∀ w', Below w.heap.size w w' → R (.returned (.bool (wellB d es ls))) w') :
    Calls Try.prog 23 #[.slice dp d.length dc, .slice ep es.length ec, .slice lp ls.length lc] w R := by
  unfold maxLen at hdl hel hll
  have HF : Hid (¬ WellP d es ls → ∀ w', Below w.heap.size w w' → R (.returned (.bool false)) w') := hide (fun hn w' hb => by have := hR w' hb; rw [wellB_false hn] at this; exact this)
  have HT : Hid (WellP d es ls → ∀ w', Below w.heap.size w w' → R (.returned (.bool true)) w') := hide (fun hn w' hb => by have := hR w' hb; rw [wellB_true.2 hn] at this; exact this)
  have He := hide he; have Hl := hide hl
  have HK0 := hide (Blk.new w #[.slice ep es.length ec] 23)
  have hbx := balloc (Below.refl w.heap.size w) (.cells #[.slice ep es.length ec] 23)
  have Hd1 := hide (hd.keep (Keeps.alloc w (.cells #[.slice ep es.length ec] 23)))
  have HB := hide hbx
  clear hR hd he hl hbx
  cases hdb : distB d with
  | false =>
    have HF1 := hide (HF.out (fun h => by rw [distB_true.2 h.dist] at hdb; cases hdb))
    have Hdb := hide hdb
    clear hdb
    go_enter Try.func23, Try.ntmps23
    go_wp2_with (go_at_call 37; refine Stop.out ?_)
    refine Stop.go (dist_c dp dc d _ _ (by unfold maxLen; omega) Hd1.out ?_)
    rw [Hdb.out]
    go_wp2
    exact HF1.out _ HB.out
  | true =>
    have Hdist := hide (distB_true.1 hdb)
    have Hdb := hide hdb
    have hd12 := Hdist.out.few
    clear hdb
    by_cases hn16 : es.length ≤ 16
    rotate_left
    · have HF1 := hide (HF.out (fun h => hn16 h.few))
      have hn : (16 : Int) < (es.length : Int) := by omega
      go_enter Try.func23, Try.ntmps23
      go_wp2_with (go_at_call 37; refine Stop.out ?_)
      refine Stop.go (dist_c dp dc d _ _ (by unfold maxLen; omega) Hd1.out ?_)
      rw [Hdb.out]
      go_wp2
      exact HF1.out _ HB.out
    have hn : ¬ (16 : Int) < (es.length : Int) := by omega
    go_enter Try.func23, Try.ntmps23
    go_wp2_with (go_at_call 37; refine Stop.out ?_)
    refine Stop.go (dist_c dp dc d _ _ (by unfold maxLen; omega) Hd1.out ?_)
    rw [Hdb.out]
    go_wp2
    generalize w.alloc (.cells #[.slice ep es.length ec] 23) = W at *
    clear Hd1
    go_loopw [23] (fun si wr => ∃ i : Nat, i ≤ es.length ∧ si = .int .i64 i ∧ Hid (Below w.heap.size w wr ∧ Blk wr w.heap.size #[.slice ep es.length ec] 23) ∧ Hid (∀ e ∈ es.take i, 0 ≤ e.office ∧ e.office < d.length)) (fun si _ => es.length - (intOf si).toNat)
    case atStart => exact ⟨0, Nat.zero_le _, rfl, hide ⟨HB.out, HK0.out⟩, hide (by simp)⟩
    case round =>
      clear HB HK0
      obtain ⟨i, hi, rfl, HB, HE⟩ := hrel
      by_cases hlt : i < es.length
      · obtain ⟨b, o, e, rfl, hev, e0, e1, e2, e3⟩ := (He.out.keep (Keeps.of_below HB.out.1)).ev hlt
        have Hev := hide hev
        have HK := hide (Blk.new wr #[.int .i64 e.office, .int .i64 e.low, .int .i64 e.high, .slice e.np e.nn e.nc] 32)
        have k0 := HK.out.cell (k := 0) (v := .int .i64 e.office) rfl
        have HB2 := hide (And.intro (balloc HB.out.1 (.cells #[.int .i64 e.office, .int .i64 e.low, .int .i64 e.high, .slice e.np e.nn e.nc] 32)) (HB.out.2.next (balloc (Below.refl _ _) (.cells #[.int .i64 e.office, .int .i64 e.low, .int .i64 e.high, .slice e.np e.nn e.nc] 32))))
        clear hev
        by_cases ho : e.office < 0
        · have HF1 := hide (HF.out (fun h => by have := (h.office e (List.mem_of_getElem? Hev.out)).1; omega))
          go_wp2
          exact HF1.out _ HB2.out.1
        by_cases ho2 : (d.length : Int) ≤ e.office
        · have HF1 := hide (HF.out (fun h => by have := (h.office e (List.mem_of_getElem? Hev.out)).2; omega))
          go_wp2
          exact HF1.out _ HB2.out.1
        have HE2 := hide (show ∀ e' ∈ es.take (i + 1), 0 ≤ e'.office ∧ e'.office < d.length by
          intro e' he'
          rw [List.take_add_one, Hev.out] at he'
          rcases List.mem_append.1 he' with h | h
          · exact HE.out e' h
          · simp at h; rw [h]; omega)
        go_wp2
        go_roundw
        case rel => exact ⟨i + 1, by omega, by go_num, HB2, HE2⟩
        case measure => simp [intOf]; omega
      · obtain rfl : i = es.length := by omega
        have HO := hide (show ∀ e ∈ es, 0 ≤ e.office ∧ e.office < d.length by have := HE.out; rwa [List.take_length] at this)
        obtain ⟨w1, hm, how, hb1⟩ := mk75 wr es.length (by omega)
        have c1 := HB.out.2.cell (k := 0) (v := .slice ep es.length ec) rfl
        have hib : wr.heap.size < w1.heap.size := (how.lt wr.heap.size rfl).2
        have hsz : w.heap.size < wr.heap.size := HB.out.2.lt
        have HU := hide (show UP w w.heap.size w1.heap.size wr.heap.size es.length ep ec (List.replicate es.length false) (w1.alloc (.cells #[.slice (some ⟨wr.heap.size, 0, none⟩) es.length es.length] 75)) from
          ⟨balloc (bseq HB.out.1 hb1) _, (HB.out.2.next hb1).alloc _, Blk.new _ _ _, own_below (own_mono how HB.out.1.size) (balloc (Below.refl _ _) _), by omega, by omega⟩)
        clear how hb1
        go_wp2
        clear hm c1
        generalize w1.alloc (.cells #[.slice (some ⟨wr.heap.size, 0, none⟩) es.length es.length] 75) = W2 at *
        obtain ⟨ib, hibe⟩ : ∃ ib, wr.heap.size = ib := ⟨_, rfl⟩
        obtain ⟨ub, hube⟩ : ∃ ub, w1.heap.size = ub := ⟨_, rfl⟩
        rw [hibe, hube] at HU ⊢
        clear hibe hube hsz hib
        go_loopw [44] (fun sk wr => ∃ (k : Nat) (xs : List Bool), k ≤ ls.length ∧ sk = .int .i64 k ∧ Hid (UP w w.heap.size ub ib es.length ep ec xs wr) ∧ Hid (xs.length = es.length ∧ (∀ (i : Nat) (b : Bool), xs[i]? = some b → b = inL (ls.take k) i) ∧ (∀ g ∈ ls.take k, legIn es.length g) ∧ (fl (ls.take k)).Nodup)) (fun sk _ => ls.length - (intOf sk).toNat)
        case atStart => exact ⟨0, _, Nat.zero_le _, rfl, HU, hide ⟨by simp, fun i b hb => by
          have := List.mem_of_getElem? hb
          rw [List.mem_replicate] at this
          rw [this.2]; rfl, fun g hg => by simp at hg, by simp [fl]⟩⟩
        case round =>
          clear HU
          obtain ⟨k, xs, hk, rfl, HU, HX⟩ := hrel
          by_cases hltk : k < ls.length
          · obtain ⟨lb, lo, g, rfl, hg, l0, l1, l2⟩ := (Hl.out.keep (Keeps.of_below HU.out.below)).lg hltk
            have Hg := hide hg
            have HU1 := hide (HU.out.next (balloc (Below.refl _ _) (.cells #[.int .i64 g.src, .int .i64 g.dst, .int .i64 g.gap] 39)))
            have HK := hide (Blk.new wr #[.int .i64 g.src, .int .i64 g.dst, .int .i64 g.gap] 39)
            have hbl := (HU.out.own.lt ib rfl).2
            have Hbad := hide (fun (h : ¬ WellP d es ls) => HF.out h)
            clear hg
            have HLg := hide (fun (h : WellP d es ls) => h.leg g (List.mem_of_getElem? Hg.out))
            have HOn := hide (fun (h : WellP d es ls) => fl_once Hg.out h.once)
            by_cases hs : g.src < 0 ∨ (es.length : Int) ≤ g.src ∨ (0 ≤ g.src ∧ g.src < es.length ∧ inL (ls.take k) g.src.toNat = true)
            · have HF1 := hide (Hbad.out (fun h => by
                have h1 := HLg.out h
                rcases hs with h2 | h2 | h2
                · omega
                · omega
                · have h3 := inL_mem.1 h2.2.2
                  rw [show ((g.src.toNat : Nat) : Int) = g.src by omega] at h3
                  exact (HOn.out h).1 h3))
              have HS := hide hs
              clear hs
              go_wp2_with (go_at_call 38; refine Stop.out ?_)
              refine Stop.go (use_no _ _ _ _ _ _ _ _ _ (HU1.out.be.cell rfl) (HU1.out.bu.cell rfl) hn16 (by
                rcases HS.out with h | h | ⟨h1, h2, h3⟩
                · exact .inl h
                · exact .inr (.inl h)
                · refine .inr (.inr ⟨h1, h2, ?_⟩)
                  obtain ⟨bb, hbb⟩ : ∃ bb, xs[g.src.toNat]? = some bb := ⟨_, List.getElem?_eq_getElem (by rw [HX.out.1]; omega)⟩
                  have := HX.out.2.1 _ _ hbb
                  rw [h3] at this; subst this
                  exact HU1.out.cell hbb) ?_)
              go_wp2
              exact HF1.out _ HU1.out.below
            rcases g with ⟨gs, gd, gg⟩
            simp only at hs l0 l1 l2 HLg HOn HK HU1
            obtain ⟨a, rfl⟩ : ∃ a : Nat, gs = a := ⟨gs.toNat, by omega⟩
            have ha : a < es.length := by omega
            have hia : inL (ls.take k) a = false := by
              cases hh : inL (ls.take k) a with
              | false => rfl
              | true => exact absurd (Or.inr (Or.inr ⟨by omega, by omega, by simpa using hh⟩)) hs
            obtain ⟨ba, hba⟩ : ∃ ba, xs[a]? = some ba := ⟨_, List.getElem?_eq_getElem (by rw [HX.out.1]; exact ha)⟩
            have hba2 := HX.out.2.1 _ _ hba
            rw [hia] at hba2
            subst hba2
            have ca := HU1.out.cell hba
            have fa := HU1.out.own.frozenAt a
            have k0 := HK.out.cell (k := 0) (v := .int .i64 (a : Int)) rfl
            have Hia := hide hia
            have HU2 := hide (HU1.out.put a true)
            have HK2 := hide (HK.out.set_other (a := ⟨ib, a, none⟩) (by show ib ≠ wr.heap.size; omega) (.bool true))
            have he1 := HU1.out.be.cell (k := 0) (v := .slice ep es.length ec) rfl
            have he2 := HU1.out.bu.cell (k := 0) (v := .slice (some ⟨ib, 0, none⟩) es.length es.length) rfl
            clear hs hia hba
            go_wp2_with (go_at_call 38; refine Stop.out ?_)
            refine Stop.go (use_yes a _ _ _ _ _ _ _ _ he1 he2 hn16 ha ca fa ?_)
            clear he1 he2 ca fa k0 HU1 HK
            generalize (wr.alloc (.cells #[.int .i64 (a : Int), .int .i64 gd, .int .i64 gg] 39)).setCell ⟨ib, a, none⟩ (.bool true) = V at *
            obtain ⟨bx, hbx⟩ : ∃ bx, wr.heap.size = bx := ⟨_, rfl⟩
            rw [hbx] at HK2 hbl ⊢
            clear hbx HU l0 l1 l2
            have k1 := HK2.out.cell (k := 1) (v := .int .i64 gd) rfl
            have k2 := HK2.out.cell (k := 2) (v := .int .i64 gg) rfl
            have he1 := HU2.out.be.cell (k := 0) (v := .slice ep es.length ec) rfl
            have he2 := HU2.out.bu.cell (k := 0) (v := .slice (some ⟨ib, 0, none⟩) es.length es.length) rfl
            by_cases hs : gd < 0 ∨ (es.length : Int) ≤ gd ∨ (0 ≤ gd ∧ gd < es.length ∧ (gd = a ∨ inL (ls.take k) gd.toNat = true))
            · have HF1 := hide (Hbad.out (fun h => by
                have h1 := HLg.out h
                have h5 := HOn.out h
                try simp only at h1 h5
                rcases hs with h2 | h2 | ⟨h2, h3, h4 | h4⟩
                · omega
                · omega
                · exact h5.2.2 h4.symm
                · have h3 := inL_mem.1 h4
                  rw [show ((gd.toNat : Nat) : Int) = gd by omega] at h3
                  exact h5.2.1 h3))
              have HS := hide hs
              clear hs
              go_wp2_with (go_at_call 38; refine Stop.out ?_)
              refine Stop.go (use_no _ _ _ _ _ _ _ _ _ he1 he2 hn16 (by
                rcases HS.out with h | h | ⟨h1, h2, h3⟩
                · exact .inl h
                · exact .inr (.inl h)
                · refine .inr (.inr ⟨h1, h2, ?_⟩)
                  refine HU2.out.cell ?_
                  rw [List.getElem?_set]
                  by_cases he : a = gd.toNat
                  · rw [if_pos he]; simp [HX.out.1]; omega
                  · rw [if_neg he]
                    obtain ⟨bb, hbb⟩ : ∃ bb, xs[gd.toNat]? = some bb := ⟨_, List.getElem?_eq_getElem (by rw [HX.out.1]; omega)⟩
                    have := HX.out.2.1 _ _ hbb
                    rcases h3 with h3 | h3
                    · omega
                    · rw [h3] at this; rw [hbb, this]) ?_)
              go_wp2
              exact HF1.out _ HU2.out.below
            obtain ⟨b, rfl⟩ : ∃ b : Nat, gd = b := ⟨gd.toNat, by omega⟩
            have hb : b < es.length := by omega
            have hab : ¬ a = b := by intro e; exact hs (.inr (.inr ⟨by omega, by omega, .inl (by omega)⟩))
            have hib : inL (ls.take k) b = false := by
              cases hh : inL (ls.take k) b with
              | false => rfl
              | true => exact absurd (Or.inr (Or.inr ⟨by omega, by omega, .inr (by simpa using hh)⟩)) hs
            obtain ⟨bb, hbb⟩ : ∃ bb, xs[b]? = some bb := ⟨_, List.getElem?_eq_getElem (by rw [HX.out.1]; exact hb)⟩
            have hbb2 := HX.out.2.1 _ _ hbb
            rw [hib] at hbb2
            subst hbb2
            have cb := HU2.out.cell (i := b) (b := false) (by rw [List.getElem?_set, if_neg hab]; exact hbb)
            have fb := HU2.out.own.frozenAt b
            have Hib := hide hib
            have HU3 := hide (HU2.out.put b true)
            have HK3 := hide (HK2.out.set_other (a := ⟨ib, b, none⟩) (by show ib ≠ bx; omega) (.bool true))
            clear hs hib hbb
            go_wp2_with (go_at_call 38; refine Stop.out ?_)
            refine Stop.go (use_yes b _ _ _ _ _ _ _ _ he1 he2 hn16 hb cb fb ?_)
            clear he1 he2 cb fb k1 k2 HU2 HK2
            generalize V.setCell ⟨ib, b, none⟩ (.bool true) = V2 at *
            have k2 := HK3.out.cell (k := 2) (v := .int .i64 gg) rfl
            by_cases hg0 : gg < 0
            · have HF1 := hide (Hbad.out (fun h => by have h1 := HLg.out h; omega))
              go_wp2
              exact HF1.out _ HU3.out.below
            by_cases hg1 : (1000000 : Int) < gg
            · have HF1 := hide (Hbad.out (fun h => by have h1 := HLg.out h; omega))
              go_wp2
              exact HF1.out _ HU3.out.below
            have HX3 := hide (show ((xs.set a true).set b true).length = es.length ∧ (∀ (i : Nat) (bb : Bool), ((xs.set a true).set b true)[i]? = some bb → bb = inL (ls.take (k + 1)) i) ∧ (∀ g ∈ ls.take (k + 1), legIn es.length g) ∧ (fl (ls.take (k + 1))).Nodup by
              refine ⟨by simp [HX.out.1], fun i bb hbb => ?_, fun g' hg' => ?_, ?_⟩
              · rw [inL_succ Hg.out]
                rw [List.getElem?_set] at hbb
                split at hbb
                · rename_i e; subst e
                  simp at hbb
                  obtain ⟨_, rfl⟩ := hbb
                  simp
                · rename_i e
                  rw [List.getElem?_set] at hbb
                  split at hbb
                  · rename_i e2; subst e2
                    simp at hbb
                    obtain ⟨_, rfl⟩ := hbb
                    simp
                  · rename_i e2
                    rw [HX.out.2.1 i bb hbb]
                    have q1 : ((a : Int) == (i : Int)) = false := by simp; omega
                    have q2 : ((b : Int) == (i : Int)) = false := by simp; omega
                    rw [q1, q2]; simp
              · rw [List.take_add_one, Hg.out] at hg'
                rcases List.mem_append.1 hg' with h | h
                · exact HX.out.2.2.1 g' h
                · simp at h; rw [h]; exact ⟨by show (0 : Int) ≤ (a : Int); omega, by show (a : Int) < _; omega, by show (0 : Int) ≤ (b : Int); omega, by show (b : Int) < _; omega, by show (0 : Int) ≤ gg; omega, by show gg ≤ _; omega⟩
              · rw [fl_succ Hg.out, List.nodup_append]
                refine ⟨HX.out.2.2.2, by simp; omega, fun x hx y hy e => ?_⟩
                subst e
                simp at hy
                rcases hy with rfl | rfl
                · have := inL_mem.2 hx; rw [Hia.out] at this; cases this
                · have := inL_mem.2 hx; rw [Hib.out] at this; cases this)
            go_wp2
            go_roundw
            case rel => exact ⟨k + 1, _, by omega, by go_num, HU3, HX3⟩
            case measure => simp [intOf]; omega
          · obtain rfl : k = ls.length := by omega
            have HD := hide (HT.out ⟨Hdist.out, hn16, HO.out, by have := HX.out.2.2.1; rw [List.take_length] at this; exact this, by have := HX.out.2.2.2; rw [List.take_length] at this; exact this⟩)
            go_wp2
            exact HD.out _ HU.out.below
end Go.Proofs.Ytaopfoicdjejnaa
