/- Holds. -/
import Derived.Test.YtaopfoicdjejnaaC15
set_option linter.unusedVariables false
set_option linter.unusedSimpArgs false
namespace Go.Proofs.Ytaopfoicdjejnaa
open Go.RowKit

theorem before_b {d es ls ts dp ep tp dc ec tc b4 b5 b7} (i j : Nat) (v : Bool) (w : World) (R) (hH : HB d es ts dp ep tp dc ec tc b4 b5 b7 w) (hT : HT d es ls ts) (hi : i < es.length) (hj : j < es.length) (hv : befB d es ts i j = v)
    (hR : ∀ w', Below w.heap.size w w' → R (.returned (.bool v)) w') :
    Calls Try.prog 34 #[.int .i64 (i : Int), .int .i64 (j : Int), .pointer (some ⟨b4, 0, none⟩), .pointer (some ⟨b5, 0, none⟩), .pointer (some ⟨b7, 0, none⟩)] w R :=
  before_c i j w R hH hT hi hj (by rw [hv]; exact fun w' h => hR w' h.below)
def winP (es : List Evt) (ts : List Int) (i : Nat) : Prop := max (evF es i).low 0 ≤ tmF ts i ∧ tmF ts i ≤ min (evF es i).high 1000000

/-- Of each two events below j, one is before the other. -/
def twoP (d : List (List Int)) (es : List Evt) (ts : List Int) (j i : Nat) : Prop := ∀ a b, a < b → (b < j ∨ (b = j ∧ a < i)) → befB d es ts a b = true ∨ befB d es ts b a = true
/-- A leg takes its time, and no event is between. -/
def legP (d : List (List Int)) (es : List Evt) (ts : List Int) (g : Lgr) : Prop := tmF ts g.dst.toNat - tmF ts g.src.toNat = g.gap ∧ befB d es ts g.src.toNat g.dst.toNat = true
def outP (d : List (List Int)) (es : List Evt) (ts : List Int) (g : Lgr) (k : Nat) : Prop := k ≠ g.src.toNat → k ≠ g.dst.toNat → befB d es ts k g.src.toNat = true ∨ befB d es ts g.dst.toNat k = true
def pairP (d : List (List Int)) (es : List Evt) (ts : List Int) (a b : Lgr) : Prop := befB d es ts a.dst.toNat b.src.toNat = true ∨ befB d es ts b.dst.toNat a.src.toNat = true
set_option maxRecDepth 100000 in
set_option maxHeartbeats 8000000 in
theorem holds_c (dp ep lp tp : Option Addr) (dc ec lc tc n : Nat) (d : List (List Int)) (es : List Evt) (ls : List Lgr) (ts : List Int) (w : World) (R) (hdl : d.length ≤ maxLen) (hel : es.length ≤ maxLen) (hll : ls.length ≤ maxLen) (htl : n ≤ maxLen) (hn : ts.length = n) (hlc : ls.length ≤ lc) (hd : RowsAt w dp d) (he : EvsAt w ep es) (hl : LgsAt w lp ls) (ht : IntsAt .i64 w tp ts)
    (hR : ∀ w', Below w.heap.size w w' → R (.returned (.bool (holdB d es ls ts))) w') :
    Calls Try.prog 14 #[.slice dp d.length dc, .slice ep es.length ec, .slice lp ls.length lc, .slice tp n tc] w R := by
  have HF : Hid (¬ HoldP d es ls ts → ∀ w', Below w.heap.size w w' → R (.returned (.bool false)) w') := hide (fun hn w' hb => by have := hR w' hb; rw [holdB_false hn] at this; exact this)
  have HTr : Hid (HoldP d es ls ts → ∀ w', Below w.heap.size w w' → R (.returned (.bool true)) w') := hide (fun hn w' hb => by have := hR w' hb; rw [holdB_true.2 hn] at this; exact this)
  unfold maxLen at htl
  have Hn := hide hn
  have hz1 : (w.alloc (.cells #[.slice dp d.length dc] 22)).heap.size = w.heap.size + 1 := by simp
  have hz2 : ((w.alloc (.cells #[.slice dp d.length dc] 22)).alloc (.cells #[.slice ep es.length ec] 23)).heap.size = w.heap.size + 2 := by simp
  have HB0 := hide (balloc (balloc (balloc (Below.refl w.heap.size w) (.cells #[.slice dp d.length dc] 22)) (.cells #[.slice ep es.length ec] 23)) (.cells #[.slice tp n tc] 25))
  have K4 := hide (((Blk.new w #[.slice dp d.length dc] 22).alloc (.cells #[.slice ep es.length ec] 23)).alloc (.cells #[.slice tp n tc] 25))
  have K5 := hide ((Blk.new_at (w := w.alloc (.cells #[.slice dp d.length dc] 22)) (cs := #[.slice ep es.length ec]) (t := 23) hz1.symm).alloc (.cells #[.slice tp n tc] 25))
  have K7 := hide (Blk.new_at (w := (w.alloc (.cells #[.slice dp d.length dc] 22)).alloc (.cells #[.slice ep es.length ec] 23)) (cs := #[.slice tp n tc]) (t := 25) hz2.symm)
  have Hd := hide hd; have He := hide he; have Hl := hide hl; have Ht := hide ht
  clear hR hd he hl ht hz1 hz2 hn
  have k4 := K4.out.cell (k := 0) (v := .slice dp d.length dc) rfl
  have k5 := K5.out.cell (k := 0) (v := .slice ep es.length ec) rfl
  go_enter Try.func14, Try.ntmps14
  go_wp2_with (go_at_call 23; refine Stop.out ?_)
  generalize ((w.alloc (.cells #[.slice dp d.length dc] 22)).alloc (.cells #[.slice ep es.length ec] 23)).alloc (.cells #[.slice tp n tc] 25) = W at *
  refine Stop.go (well_c dp ep lp dc ec lc d es ls _ _ hdl hel hll (Hd.out.keep (Keeps.of_below HB0.out)) (He.out.keep (Keeps.of_below HB0.out)) (Hl.out.keep (Keeps.of_below HB0.out)) ?_)
  intro w1 hb
  have B1 := hide (bseq HB0.out hb)
  replace K4 := hide (K4.out.next hb); replace K5 := hide (K5.out.next hb); replace K7 := hide (K7.out.next hb)
  clear hb k4 k5 HB0
  have k5 := K5.out.cell (k := 0) (v := .slice ep es.length ec) rfl
  have k7 := K7.out.cell (k := 0) (v := .slice tp n tc) rfl
  unfold maxLen at hdl hel hll
  cases hwb : wellB d es ls with
  | false =>
    have HF1 := hide (HF.out (fun h => by rw [wellB_true.2 h.1] at hwb; cases hwb))
    clear hwb
    go_wp2
    exact HF1.out _ B1.out
  | true =>
  have HW := hide (wellB_true.1 hwb)
  have hfew := HW.out.few
  have hl8 := legs_few HW.out
  clear hwb
  by_cases hne : n = es.length
  rotate_left
  · have hq : ((n : Int) != (es.length : Int)) = true := by simp; omega
    have HF1 := hide (HF.out (fun h => hne (by rw [← Hn.out]; exact h.2.1)))
    clear hne
    go_wp2
    exact HF1.out _ B1.out
  have hq : ((n : Int) != (es.length : Int)) = false := by simp; omega
  subst hne
  have HH := hide (show HB d es ts dp ep tp dc ec tc w.heap.size (w.heap.size + 1) (w.heap.size + 2) w1 from ⟨K4.out, K5.out, K7.out, Hd.out.keep (Keeps.of_below B1.out), He.out.keep (Keeps.of_below B1.out), Ht.out.keep (Keeps.of_below B1.out)⟩)
  clear K4 K5 K7
  go_wp2
  clear k5 k7
  go_loopw [33] (fun si wr => ∃ i : Nat, i ≤ es.length ∧ si = .int .i64 i ∧ Hid (Below w.heap.size w wr ∧ HB d es ts dp ep tp dc ec tc w.heap.size (w.heap.size + 1) (w.heap.size + 2) wr) ∧ Hid (∀ j, j < i → winP es ts j)) (fun si _ => es.length - (intOf si).toNat)
  case atStart => exact ⟨0, Nat.zero_le _, rfl, hide ⟨B1.out, HH.out⟩, hide (fun j h => absurd h (by omega))⟩
  case round =>
    clear B1 HH
    obtain ⟨i, hi, rfl, HB1, HWn⟩ := hrel
    by_cases hlt : i < es.length
    · obtain ⟨eb, eo, e, hep, hev, e0, e1, e2, e3⟩ := HB1.out.2.evs.ev hlt
      obtain ⟨tb, to0, t, htp, hti, ct⟩ := HB1.out.2.tms.at_ (i := i) (by rw [Hn.out]; exact hlt)
      subst hep
      subst htp
      have hal := balloc (Below.refl wr.heap.size wr) (.cells #[.int .i64 e.office, .int .i64 e.low, .int .i64 e.high, .slice e.np e.nn e.nc] 32)
      have HB2 := hide (And.intro (bseq HB1.out.1 hal) (HB1.out.2.next hal))
      have HK := hide (Blk.new wr #[.int .i64 e.office, .int .i64 e.low, .int .i64 e.high, .slice e.np e.nn e.nc] 32)
      have k1 := HK.out.cell (k := 1) (v := .int .i64 e.low) rfl
      have k2 := HK.out.cell (k := 2) (v := .int .i64 e.high) rfl
      have k7 := HB2.out.2.k7.cell (k := 0) (v := .slice (some ⟨tb, to0, none⟩) es.length tc) rfl
      have ct2 := cell_later hal ct
      have HV := hide (show winP es ts i ↔ (max e.low 0 ≤ t ∧ t ≤ min e.high 1000000) by unfold winP; rw [evF_at hev, tmF_at hti]; rfl)
      have HFw := hide (fun (h : ¬ winP es ts i) => HF.out (fun h2 => h (h2.2.2.win i hlt)))
      have hi2 : (i : Int) < (es.length : Int) := by omega
      clear hal hev hti ct
      by_cases h1 : t < max e.low 0
      · have HF1 := hide (HFw.out (fun h => by have := HV.out.1 h; omega))
        have d1 : decide (t < max e.low 0) = true := by simpa using h1
        go_wp2
        go_quiet (fail)
        go_wp2
        exact HF1.out _ (below_drewN' HB2.out.1 _)
      have d1 : decide (t < max e.low 0) = false := by simpa using h1
      by_cases h2 : min e.high 1000000 < t
      · have HF1 := hide (HFw.out (fun h => by have := HV.out.1 h; omega))
        have d2 : decide (min e.high 1000000 < t) = true := by simpa using h2
        go_wp2
        go_quiet (fail)
        go_wp2
        exact HF1.out _ (below_drewN' HB2.out.1 _)
      have d2 : decide (min e.high 1000000 < t) = false := by simpa using h2
      have HW2 := hide (show ∀ j, j < i + 1 → winP es ts j from fun j hj => by
        rcases Nat.lt_or_ge j i with h' | h'
        · exact HWn.out j h'
        · obtain rfl : j = i := by omega
          exact HV.out.2 ⟨by omega, by omega⟩)
      go_wp2
      go_quiet (fail)
      go_wp2
      go_roundw
      case rel => exact ⟨i + 1, by omega, by go_num, hide ⟨below_drewN' HB2.out.1 _, HB2.out.2.next (below_drewN' (Below.refl _ _) _)⟩, HW2⟩
      case measure => simp [intOf]; omega
    · obtain rfl : i = es.length := by omega
      have HTT := hide (show HT d es ls ts from ⟨HW.out, Hn.out, fun x hx => by
        obtain ⟨i, hi⟩ := List.getElem?_of_mem hx
        have h1 := HWn.out i (by rw [← Hn.out]; exact (List.getElem?_eq_some_iff.1 hi).1)
        unfold winP at h1
        rw [tmF_at hi] at h1
        omega⟩)
      have k5 := HB1.out.2.k5.cell (k := 0) (v := .slice ep es.length ec) rfl
      go_wp2
      clear k5
      have HF2 := hide (fun (a b : Nat) (hab : a < b) (hb : b < es.length) (h : ¬ (befB d es ts a b = true ∨ befB d es ts b a = true)) => HF.out (fun h2 => h (by
        rcases h2.2.2.two a (by omega) b hb (by omega) with h3 | h3
        · exact .inl (befB_true.2 h3)
        · exact .inr (befB_true.2 h3))))
      go_loopw [60] (fun sj wr => ∃ j : Nat, j ≤ es.length ∧ sj = .int .i64 j ∧ Hid (Below w.heap.size w wr ∧ HB d es ts dp ep tp dc ec tc w.heap.size (w.heap.size + 1) (w.heap.size + 2) wr) ∧ Hid (twoP d es ts j 0)) (fun sj _ => es.length - (intOf sj).toNat)
      case atStart => exact ⟨0, Nat.zero_le _, rfl, HB1, hide (fun a b _ h => absurd h (by omega))⟩
      case round =>
        clear HB1
        obtain ⟨j, hj, rfl, HB1, H2⟩ := hrel
        by_cases hltj : j < es.length
        · go_wp2
          go_loopw [64] (fun si wr => ∃ i : Nat, i ≤ j ∧ si = .int .i64 i ∧ Hid (Below w.heap.size w wr ∧ HB d es ts dp ep tp dc ec tc w.heap.size (w.heap.size + 1) (w.heap.size + 2) wr) ∧ Hid (twoP d es ts j i)) (fun si _ => j - (intOf si).toNat)
          case atStart => exact ⟨0, Nat.zero_le _, rfl, HB1, H2⟩
          case round =>
            clear HB1 H2
            obtain ⟨i, hi, rfl, HB1, H2⟩ := hrel
            by_cases hlti : i < j
            · cases hv1 : befB d es ts i j with
              | true =>
                have HX := hide hv1
                have H3 := hide (show twoP d es ts j (i + 1) from fun a b hab h => by
                  by_cases e : a = i ∧ b = j
                  · obtain ⟨rfl, rfl⟩ := e; exact .inl hv1
                  · exact H2.out a b hab (by omega))
                clear hv1
                go_wp2_with (go_at_call 34; refine Stop.out ?_)
                refine Stop.go (before_b i j true _ _ HB1.out.2 HTT.out (by omega) hltj HX.out ?_)
                intro w5 hb
                have HB2 := hide (And.intro (bseq HB1.out.1 hb) (HB1.out.2.next hb))
                clear hb
                go_wp2
                go_roundw
                case rel => exact ⟨i + 1, by omega, by go_num, HB2, H3⟩
                case measure => simp [intOf]; omega
              | false =>
                have HX := hide hv1
                cases hv2 : befB d es ts j i with
                | true =>
                  have HY := hide hv2
                  have H3 := hide (show twoP d es ts j (i + 1) from fun a b hab h => by
                    by_cases e : a = i ∧ b = j
                    · obtain ⟨rfl, rfl⟩ := e; exact .inr hv2
                    · exact H2.out a b hab (by omega))
                  clear hv1 hv2
                  go_wp2_with (go_at_call 34; refine Stop.out ?_)
                  refine Stop.go (before_b i j false _ _ HB1.out.2 HTT.out (by omega) hltj HX.out ?_)
                  intro w5 hb
                  have HB2 := hide (And.intro (bseq HB1.out.1 hb) (HB1.out.2.next hb))
                  clear hb
                  go_wp2_with (go_at_call 34; refine Stop.out ?_)
                  refine Stop.go (before_b j i true _ _ HB2.out.2 HTT.out hltj (by omega) HY.out ?_)
                  intro w6 hb
                  have HB3 := hide (And.intro (bseq HB2.out.1 hb) (HB2.out.2.next hb))
                  clear hb
                  go_wp2
                  go_roundw
                  case rel => exact ⟨i + 1, by omega, by go_num, HB3, H3⟩
                  case measure => simp [intOf]; omega
                | false =>
                  have HY := hide hv2
                  have HF1 := hide (HF2.out i j hlti hltj (by rw [hv1, hv2]; simp))
                  clear hv1 hv2
                  go_wp2_with (go_at_call 34; refine Stop.out ?_)
                  refine Stop.go (before_b i j false _ _ HB1.out.2 HTT.out (by omega) hltj HX.out ?_)
                  intro w5 hb
                  have HB2 := hide (And.intro (bseq HB1.out.1 hb) (HB1.out.2.next hb))
                  clear hb
                  go_wp2_with (go_at_call 34; refine Stop.out ?_)
                  refine Stop.go (before_b j i false _ _ HB2.out.2 HTT.out hltj (by omega) HY.out ?_)
                  intro w6 hb
                  have HB3 := hide (And.intro (bseq HB2.out.1 hb) (HB2.out.2.next hb))
                  clear hb
                  go_wp2
                  exact HF1.out _ HB3.out.1
            · obtain rfl : i = j := by omega
              have H3 := hide (show twoP d es ts (i + 1) 0 from fun a b hab h => H2.out a b hab (by omega))
              go_wp2
              go_roundw
              case rel => exact ⟨i + 1, by omega, by go_num, HB1, H3⟩
              case measure => simp [intOf]; omega
        · obtain rfl : j = es.length := by omega
          go_wp2
          go_loopw [83] (fun sk wr => ∃ k : Nat, k ≤ ls.length ∧ sk = .int .i64 k ∧ Hid (Below w.heap.size w wr ∧ HB d es ts dp ep tp dc ec tc w.heap.size (w.heap.size + 1) (w.heap.size + 2) wr) ∧ Hid ((∀ g ∈ ls.take k, legP d es ts g ∧ ∀ x, x < es.length → outP d es ts g x) ∧ ∀ (a b : Nat) (g g' : Lgr), a < b → b < k → ls[a]? = some g → ls[b]? = some g' → pairP d es ts g' g)) (fun sk _ => ls.length - (intOf sk).toNat)
          case atStart => exact ⟨0, Nat.zero_le _, rfl, HB1, hide ⟨by simp, fun a b g g' h h' => absurd h' (by omega)⟩⟩
          case round =>
            clear HB1
            obtain ⟨k, hk, rfl, HB1, HL⟩ := hrel
            by_cases hltk : k < ls.length
            · obtain ⟨lb, lo, g, hlp, hg, l0, l1, l2⟩ := (Hl.out.keep (Keeps.of_below HB1.out.1)).lg hltk
              subst hlp
              have Hg := hide hg
              have hwl := HW.out.leg g (List.mem_of_getElem? hg)
              have hal := balloc (Below.refl wr.heap.size wr) (.cells #[.int .i64 g.src, .int .i64 g.dst, .int .i64 g.gap] 39)
              have HB2 := hide (And.intro (bseq HB1.out.1 hal) (HB1.out.2.next hal))
              have HK := hide (Blk.new wr #[.int .i64 g.src, .int .i64 g.dst, .int .i64 g.gap] 39)
              have HF3 := hide (fun (h : ¬ legP d es ts g) => HF.out (fun h2 => h (by
                obtain ⟨h3, h4⟩ := h2.2.2.leg g.lg (List.mem_map.2 ⟨g, List.mem_of_getElem? Hg.out, rfl⟩)
                exact ⟨h3, befB_true.2 h4⟩)))
              have HF4 := hide (fun (x : Nat) (hx : x < es.length) (h : ¬ outP d es ts g x) => HF.out (fun h2 => h (fun e1 e2 => by
                rcases h2.2.2.out g.lg (List.mem_map.2 ⟨g, List.mem_of_getElem? Hg.out, rfl⟩) x hx e1 e2 with h3 | h3
                · exact .inl (befB_true.2 h3)
                · exact .inr (befB_true.2 h3))))
              have HF5 := hide (fun (a : Nat) (g' : Lgr) (ha : a < k) (hg' : ls[a]? = some g') (h : ¬ pairP d es ts g g') => HF.out (fun h2 => h (by
                have hne : g.lg.src ≠ g'.lg.src := by
                  have h6 := (fl_once Hg.out HW.out.once).1
                  intro e
                  have h7 : g'.src ∈ fl (ls.take k) := by
                    unfold fl
                    refine List.mem_flatMap.2 ⟨g', ?_, by simp⟩
                    refine List.mem_of_getElem? (i := a) ?_
                    rw [List.getElem?_take, if_pos ha]; exact hg'
                  have h8 := HW.out.leg g' (List.mem_of_getElem? hg')
                  have e' : g.src.toNat = g'.src.toNat := e
                  have : g.src = g'.src := by omega
                  exact h6 (by rw [this]; exact h7)
                rcases h2.2.2.legs g.lg (List.mem_map.2 ⟨g, List.mem_of_getElem? Hg.out, rfl⟩) g'.lg (List.mem_map.2 ⟨g', List.mem_of_getElem? hg', rfl⟩) hne with h3 | h3
                · exact .inl (befB_true.2 h3)
                · exact .inr (befB_true.2 h3))))
              rcases g with ⟨gs, gd, gg⟩
              simp only at hwl l0 l1 l2 HB2 HK hal
              obtain ⟨a, rfl⟩ : ∃ a : Nat, gs = a := ⟨gs.toNat, by omega⟩
              obtain ⟨b, rfl⟩ : ∃ b : Nat, gd = b := ⟨gd.toNat, by omega⟩
              obtain ⟨q1, q2, q3, q4, q5, q6⟩ := hwl
              have ha : a < es.length := by omega
              have hb : b < es.length := by omega
              obtain ⟨tb, to0, ta, htp, hta, cta⟩ := HB2.out.2.tms.at_ (i := a) (by rw [Hn.out]; exact ha)
              obtain ⟨tb', to0', tb2, htp', htb, ctb⟩ := HB2.out.2.tms.at_ (i := b) (by rw [Hn.out]; exact hb)
              have h1 : tb' = tb ∧ to0' = to0 := by rw [htp] at htp'; injection htp' with h; injection h with h1 h2; exact ⟨h1.symm, h2.symm⟩
              obtain ⟨rfl, rfl⟩ := h1
              subst htp
              have wa := HTT.out.win ta (List.mem_of_getElem? hta)
              have wb := HTT.out.win tb2 (List.mem_of_getElem? htb)
              have HV := hide (show legP d es ts ⟨a, b, gg⟩ ↔ (tb2 - ta = gg ∧ befB d es ts a b = true) by
                unfold legP
                simp only [Int.toNat_natCast]
                rw [tmF_at hta, tmF_at htb])
              have hwr : IntKind.i64.wrap (tb2 - ta) = tb2 - ta := IntWalk.i64_in _ (by omega)
              have k0 := HK.out.cell (k := 0) (v := .int .i64 (a : Int)) rfl
              have k1 := HK.out.cell (k := 1) (v := .int .i64 (b : Int)) rfl
              have k2 := HK.out.cell (k := 2) (v := .int .i64 gg) rfl
              have k7 := HB2.out.2.k7.cell (k := 0) (v := .slice (some ⟨tb', to0', none⟩) es.length tc) rfl
              have k5 := HB2.out.2.k5.cell (k := 0) (v := .slice ep es.length ec) rfl
              have ha2 : (a : Int) < (es.length : Int) := by omega
              have hb2 : (b : Int) < (es.length : Int) := by omega
              clear hg hta htb htp' hal
              by_cases hgap : tb2 - ta = gg
              rotate_left
              · have HF1 := hide (HF3.out (fun h => hgap (HV.out.1 h).1))
                have d1 : (tb2 - ta != gg) = true := by simpa using hgap
                clear hgap
                go_wp2
                go_quiet (fail)
                go_wp2
                exact HF1.out _ (below_drewN' HB2.out.1 _)
              have d1 : (tb2 - ta != gg) = false := by simpa using hgap
              have Hgap := hide hgap
              clear hgap
              cases hv : befB d es ts a b with
              | false =>
                have HX := hide hv
                have HF1 := hide (HF3.out (fun h => by have := (HV.out.1 h).2; rw [hv] at this; cases this))
                clear hv
                go_wp2
                go_quiet ((go_at_call 34; exact quiet_dr (before_c a b _ _ (HB2.out.2.next (below_drewN' (Below.refl _ _) _)) HTT.out ha hb (fun w' h => ⟨by rw [HX.out], h⟩))))
                go_wp2
                exact HF1.out _ (below_drewN' HB2.out.1 _)
              | true =>
                have HX := hide hv
                have HLg := hide (HV.out.2 ⟨Hgap.out, hv⟩)
                clear hv
                go_wp2
                go_quiet ((go_at_call 34; exact quiet_dr (before_c a b _ _ (HB2.out.2.next (below_drewN' (Below.refl _ _) _)) HTT.out ha hb (fun w' h => ⟨by rw [HX.out], h⟩))))
                go_wp2
                have HB3 := hide (And.intro (below_drewN' HB2.out.1 nq) (HB2.out.2.next (below_drewN' (Below.refl _ _) nq)))
                have HK3 := hide (HK.out.drewN nq)
                have hbl : wr.heap.size < ((wr.alloc (.cells #[.int .i64 (a : Int), .int .i64 (b : Int), .int .i64 gg] 39)).drewN nq).heap.size := HK3.out.lt
                clear k0 k1 k2 k7 k5 cta ctb HB2 HK d1 hwr HV HF3
                generalize (wr.alloc (.cells #[.int .i64 (a : Int), .int .i64 (b : Int), .int .i64 gg] 39)).drewN nq = V at *
                obtain ⟨bx, hbx⟩ : ∃ bx, wr.heap.size = bx := ⟨_, rfl⟩
                rw [hbx] at HK3 hbl ⊢
                clear hbx
                go_loopw [113] (fun sx wr => ∃ x : Nat, x ≤ es.length ∧ sx = .int .i64 x ∧ Hid (Below w.heap.size w wr ∧ HB d es ts dp ep (some ⟨tb', to0', none⟩) dc ec tc w.heap.size (w.heap.size + 1) (w.heap.size + 2) wr) ∧ Hid (Blk wr bx #[.int .i64 (a : Int), .int .i64 (b : Int), .int .i64 gg] 39) ∧ Hid (∀ y, y < x → outP d es ts ⟨a, b, gg⟩ y)) (fun sx _ => es.length - (intOf sx).toNat)
                case atStart => exact ⟨0, Nat.zero_le _, rfl, HB3, HK3, hide (fun y h => absurd h (by omega))⟩
                case round =>
                  clear HB3 HK3
                  obtain ⟨x, hx, rfl, HB3, HK3, HO⟩ := hrel
                  have k0 := HK3.out.cell (k := 0) (v := .int .i64 (a : Int)) rfl
                  have k1 := HK3.out.cell (k := 1) (v := .int .i64 (b : Int)) rfl
                  by_cases hltx : x < es.length
                  · have HO2 := hide (fun (h : outP d es ts ⟨a, b, gg⟩ x) => (show ∀ y, y < x + 1 → outP d es ts ⟨a, b, gg⟩ y from fun y hy => by
                      rcases Nat.lt_or_ge y x with h' | h'
                      · exact HO.out y h'
                      · obtain rfl : y = x := by omega
                        exact h))
                    have hun : ∀ x, outP d es ts ⟨a, b, gg⟩ x ↔ (x ≠ a → x ≠ b → befB d es ts x a = true ∨ befB d es ts b x = true) := fun x => by
                      unfold outP; simp only [Int.toNat_natCast]
                    have HUn := hide hun
                    clear hun
                    by_cases hxa : x = a
                    · have d1 : ((x : Int) != (a : Int)) = false := by simp; omega
                      have H3 := hide (HO2.out ((HUn.out x).2 (fun h => absurd hxa h)))
                      clear hxa
                      go_wp2
                      go_roundw
                      case rel => exact ⟨x + 1, by omega, by go_num, HB3, HK3, H3⟩
                      case measure => simp [intOf]; omega
                    have d1 : ((x : Int) != (a : Int)) = true := by simp; omega
                    by_cases hxb : x = b
                    · have d2 : ((x : Int) != (b : Int)) = false := by simp; omega
                      have H3 := hide (HO2.out ((HUn.out x).2 (fun _ h => absurd hxb h)))
                      clear hxa hxb
                      go_wp2
                      go_roundw
                      case rel => exact ⟨x + 1, by omega, by go_num, HB3, HK3, H3⟩
                      case measure => simp [intOf]; omega
                    have d2 : ((x : Int) != (b : Int)) = true := by simp; omega
                    cases hv1 : befB d es ts x a with
                    | true =>
                      have HX1 := hide hv1
                      have H3 := hide (HO2.out ((HUn.out x).2 (fun _ _ => .inl hv1)))
                      clear hv1 hxa hxb
                      go_wp2_with (go_at_call 34; refine Stop.out ?_)
                      refine Stop.go (before_b x a true _ _ HB3.out.2 HTT.out hltx ha HX1.out ?_)
                      intro w5 hb5
                      have HB4 := hide (And.intro (bseq HB3.out.1 hb5) (HB3.out.2.next hb5))
                      have HK4 := hide (HK3.out.next hb5)
                      clear hb5 k0 k1
                      go_wp2
                      go_roundw
                      case rel => exact ⟨x + 1, by omega, by go_num, HB4, HK4, H3⟩
                      case measure => simp [intOf]; omega
                    | false =>
                      have HX1 := hide hv1
                      cases hv2 : befB d es ts b x with
                      | true =>
                        have HX2 := hide hv2
                        have H3 := hide (HO2.out ((HUn.out x).2 (fun _ _ => .inr hv2)))
                        clear hv1 hv2 hxa hxb
                        go_wp2_with (go_at_call 34; refine Stop.out ?_)
                        refine Stop.go (before_b x a false _ _ HB3.out.2 HTT.out hltx ha HX1.out ?_)
                        intro w5 hb5
                        have HB4 := hide (And.intro (bseq HB3.out.1 hb5) (HB3.out.2.next hb5))
                        have HK4 := hide (HK3.out.next hb5)
                        have j1 := HK4.out.cell (k := 1) (v := .int .i64 (b : Int)) rfl
                        clear hb5 k0 k1
                        go_wp2_with (go_at_call 34; refine Stop.out ?_)
                        refine Stop.go (before_b b x true _ _ HB4.out.2 HTT.out hb hltx HX2.out ?_)
                        intro w6 hb5
                        have HB5 := hide (And.intro (bseq HB4.out.1 hb5) (HB4.out.2.next hb5))
                        have HK5 := hide (HK4.out.next hb5)
                        clear hb5 j1
                        go_wp2
                        go_roundw
                        case rel => exact ⟨x + 1, by omega, by go_num, HB5, HK5, H3⟩
                        case measure => simp [intOf]; omega
                      | false =>
                        have HX2 := hide hv2
                        have HF1 := hide (HF4.out x hltx (fun h => by
                          rcases (HUn.out x).1 h hxa hxb with h | h
                          · rw [hv1] at h; cases h
                          · rw [hv2] at h; cases h))
                        clear hv1 hv2 hxa hxb
                        go_wp2_with (go_at_call 34; refine Stop.out ?_)
                        refine Stop.go (before_b x a false _ _ HB3.out.2 HTT.out hltx ha HX1.out ?_)
                        intro w5 hb5
                        have HB4 := hide (And.intro (bseq HB3.out.1 hb5) (HB3.out.2.next hb5))
                        have HK4 := hide (HK3.out.next hb5)
                        have j1 := HK4.out.cell (k := 1) (v := .int .i64 (b : Int)) rfl
                        clear hb5 k0 k1
                        go_wp2_with (go_at_call 34; refine Stop.out ?_)
                        refine Stop.go (before_b b x false _ _ HB4.out.2 HTT.out hb hltx HX2.out ?_)
                        intro w6 hb5
                        have HB5 := hide (And.intro (bseq HB4.out.1 hb5) (HB4.out.2.next hb5))
                        clear hb5 j1
                        go_wp2
                        exact HF1.out _ HB5.out.1
                  · obtain rfl : x = es.length := by omega
                    have hklc : (k : Int) ≤ (lc : Int) := by omega
                    have hk0 : (0 : Int) ≤ (k : Int) := by omega
                    clear k0 k1
                    go_wp2
                    go_loopw [147] (fun sy wr => ∃ y : Nat, y ≤ k ∧ sy = .int .i64 y ∧ Hid (Below w.heap.size w wr ∧ HB d es ts dp ep (some ⟨tb', to0', none⟩) dc ec tc w.heap.size (w.heap.size + 1) (w.heap.size + 2) wr) ∧ Hid (Blk wr bx #[.int .i64 (a : Int), .int .i64 (b : Int), .int .i64 gg] 39) ∧ Hid (∀ (c : Nat) (g' : Lgr), c < y → ls[c]? = some g' → pairP d es ts ⟨a, b, gg⟩ g')) (fun sy _ => k - (intOf sy).toNat)
                    case atStart => exact ⟨0, Nat.zero_le _, rfl, HB3, HK3, hide (fun c g' h => absurd h (by omega))⟩
                    case round =>
                      have HOall := hide HO.out
                      clear HB3 HK3 HO
                      obtain ⟨y, hy, rfl, HB3, HK3, HPr⟩ := hrel
                      by_cases hlty : y < k
                      · obtain ⟨lb2, lo2, g2, hlp2, hg2, m0, m1, m2⟩ := (Hl.out.keep (Keeps.of_below HB3.out.1)).lg (i := y) (by omega)
                        injection hlp2 with hlp2; injection hlp2 with z1 z2
                        subst z1; subst z2
                        have Hg2 := hide hg2
                        have hw2 := HW.out.leg g2 (List.mem_of_getElem? hg2)
                        clear hg2
                        rcases g2 with ⟨gs2, gd2, gg2⟩
                        simp only at hw2 m0 m1 m2
                        obtain ⟨a2, rfl⟩ : ∃ a2 : Nat, gs2 = a2 := ⟨gs2.toNat, by omega⟩
                        obtain ⟨b2, rfl⟩ : ∃ b2 : Nat, gd2 = b2 := ⟨gd2.toNat, by omega⟩
                        obtain ⟨r1, r2, r3, r4, r5, r6⟩ := hw2
                        have ha2' : a2 < es.length := by omega
                        have hb2' : b2 < es.length := by omega
                        have hal := balloc (Below.refl wr.heap.size wr) (.cells #[.int .i64 (a2 : Int), .int .i64 (b2 : Int), .int .i64 gg2] 39)
                        have HB4 := hide (And.intro (bseq HB3.out.1 hal) (HB3.out.2.next hal))
                        have HK4 := hide (HK3.out.next hal)
                        have HN4 := hide (Blk.new wr #[.int .i64 (a2 : Int), .int .i64 (b2 : Int), .int .i64 gg2] 39)
                        have k0 := HK4.out.cell (k := 0) (v := .int .i64 (a : Int)) rfl
                        have k1 := HK4.out.cell (k := 1) (v := .int .i64 (b : Int)) rfl
                        have n0 := HN4.out.cell (k := 0) (v := .int .i64 (a2 : Int)) rfl
                        have n1 := HN4.out.cell (k := 1) (v := .int .i64 (b2 : Int)) rfl
                        have HUn := hide (show pairP d es ts ⟨a, b, gg⟩ ⟨a2, b2, gg2⟩ ↔ (befB d es ts b a2 = true ∨ befB d es ts b2 a = true) by unfold pairP; simp only [Int.toNat_natCast])
                        have HP2 := hide (fun (h : pairP d es ts ⟨a, b, gg⟩ ⟨a2, b2, gg2⟩) => (show ∀ (c : Nat) (g' : Lgr), c < y + 1 → ls[c]? = some g' → pairP d es ts ⟨a, b, gg⟩ g' from fun c g' hc hg' => by
                          rcases Nat.lt_or_ge c y with h' | h'
                          · exact HPr.out c g' h' hg'
                          · obtain rfl : c = y := by omega
                            have := Hg2.out
                            rw [hg'] at this; injection this with this; rw [this]; exact h))
                        clear hal
                        cases hv1 : befB d es ts b a2 with
                        | true =>
                          have HX1 := hide hv1
                          have H3 := hide (HP2.out (HUn.out.2 (.inl hv1)))
                          clear hv1
                          go_wp2_with (go_at_call 34; refine Stop.out ?_)
                          refine Stop.go (before_b b a2 true _ _ HB4.out.2 HTT.out hb ha2' HX1.out ?_)
                          intro w5 hb5
                          have HB5 := hide (And.intro (bseq HB4.out.1 hb5) (HB4.out.2.next hb5))
                          have HK5 := hide (HK4.out.next hb5)
                          clear hb5 k0 k1 n0 n1 m0 m1 m2
                          go_wp2
                          go_roundw
                          case rel => exact ⟨y + 1, by omega, by go_num, HB5, HK5, H3⟩
                          case measure => simp [intOf]; omega
                        | false =>
                          have HX1 := hide hv1
                          cases hv2 : befB d es ts b2 a with
                          | true =>
                            have HX2 := hide hv2
                            have H3 := hide (HP2.out (HUn.out.2 (.inr hv2)))
                            clear hv1 hv2
                            go_wp2_with (go_at_call 34; refine Stop.out ?_)
                            refine Stop.go (before_b b a2 false _ _ HB4.out.2 HTT.out hb ha2' HX1.out ?_)
                            intro w5 hb5
                            have HB5 := hide (And.intro (bseq HB4.out.1 hb5) (HB4.out.2.next hb5))
                            have HK5 := hide (HK4.out.next hb5)
                            have HN5 := hide (HN4.out.next hb5)
                            have j0 := HK5.out.cell (k := 0) (v := .int .i64 (a : Int)) rfl
                            have j1 := HN5.out.cell (k := 1) (v := .int .i64 (b2 : Int)) rfl
                            clear hb5 k0 k1 n0 n1 m0 m1 m2
                            go_wp2_with (go_at_call 34; refine Stop.out ?_)
                            refine Stop.go (before_b b2 a true _ _ HB5.out.2 HTT.out hb2' ha HX2.out ?_)
                            intro w6 hb5
                            have HB6 := hide (And.intro (bseq HB5.out.1 hb5) (HB5.out.2.next hb5))
                            have HK6 := hide (HK5.out.next hb5)
                            clear hb5 j0 j1
                            go_wp2
                            go_roundw
                            case rel => exact ⟨y + 1, by omega, by go_num, HB6, HK6, H3⟩
                            case measure => simp [intOf]; omega
                          | false =>
                            have HX2 := hide hv2
                            have HF1 := hide (HF5.out y _ hlty Hg2.out (fun h => by
                              rcases HUn.out.1 h with h | h
                              · rw [hv1] at h; cases h
                              · rw [hv2] at h; cases h))
                            clear hv1 hv2
                            go_wp2_with (go_at_call 34; refine Stop.out ?_)
                            refine Stop.go (before_b b a2 false _ _ HB4.out.2 HTT.out hb ha2' HX1.out ?_)
                            intro w5 hb5
                            have HB5 := hide (And.intro (bseq HB4.out.1 hb5) (HB4.out.2.next hb5))
                            have HK5 := hide (HK4.out.next hb5)
                            have HN5 := hide (HN4.out.next hb5)
                            have j0 := HK5.out.cell (k := 0) (v := .int .i64 (a : Int)) rfl
                            have j1 := HN5.out.cell (k := 1) (v := .int .i64 (b2 : Int)) rfl
                            clear hb5 k0 k1 n0 n1 m0 m1 m2
                            go_wp2_with (go_at_call 34; refine Stop.out ?_)
                            refine Stop.go (before_b b2 a false _ _ HB5.out.2 HTT.out hb2' ha HX2.out ?_)
                            intro w6 hb5
                            have HB6 := hide (And.intro (bseq HB5.out.1 hb5) (HB5.out.2.next hb5))
                            clear hb5 j0 j1
                            go_wp2
                            exact HF1.out _ HB6.out.1
                      · obtain rfl : y = k := by omega
                        have HLn := hide (show (∀ g ∈ ls.take (y + 1), legP d es ts g ∧ ∀ x, x < es.length → outP d es ts g x) ∧ ∀ (a b : Nat) (g g' : Lgr), a < b → b < y + 1 → ls[a]? = some g → ls[b]? = some g' → pairP d es ts g' g by
                          refine ⟨fun g hg => ?_, fun a' b' g g' h1 h2 h3 h4 => ?_⟩
                          · rw [List.take_add_one, Hg.out] at hg
                            rcases List.mem_append.1 hg with h | h
                            · exact HL.out.1 g h
                            · simp at h; rw [h]; exact ⟨HLg.out, HOall.out⟩
                          · rcases Nat.lt_or_ge b' y with h' | h'
                            · exact HL.out.2 a' b' g g' h1 h' h3 h4
                            · obtain rfl : b' = y := by omega
                              have := Hg.out
                              rw [h4] at this; injection this with this; rw [this]
                              exact HPr.out a' g h1 h3)
                        go_wp2
                        go_roundw
                        case rel => exact ⟨y + 1, by omega, by go_num, HB3, HLn⟩
                        case measure => simp [intOf]; omega
            · obtain rfl : k = ls.length := by omega
              have HD := hide (HTr.out ⟨HW.out, Hn.out, by
                have hl1 := HL.out.1
                rw [List.take_length] at hl1
                have hbb : ∀ i j, i < es.length → j < es.length → i ≠ j → befE (dst d) (evF es) (tmF ts) i j ∨ befE (dst d) (evF es) (tmF ts) j i := fun i j h1 h2 h3 => by
                  rcases Nat.lt_or_ge i j with h | h
                  · rcases H2.out i j h (.inl h2) with h4 | h4
                    · exact .inl (befB_true.1 h4)
                    · exact .inr (befB_true.1 h4)
                  · rcases H2.out j i (by omega) (.inl h1) with h4 | h4
                    · exact .inr (befB_true.1 h4)
                    · exact .inl (befB_true.1 h4)
                refine ⟨fun i hi => HWn.out i hi, fun i hi j hj hne => hbb i j hi hj hne, fun g hg => ?_, fun g hg x hx h1 h2 => ?_, fun g hg g' hg' hne => ?_⟩
                · obtain ⟨g0, hg0, rfl⟩ := List.mem_map.1 hg
                  have := (hl1 g0 hg0).1
                  exact ⟨this.1, befB_true.1 this.2⟩
                · obtain ⟨g0, hg0, rfl⟩ := List.mem_map.1 hg
                  rcases (hl1 g0 hg0).2 x hx h1 h2 with h4 | h4
                  · exact .inl (befB_true.1 h4)
                  · exact .inr (befB_true.1 h4)
                · obtain ⟨g0, hg0, rfl⟩ := List.mem_map.1 hg
                  obtain ⟨g1, hg1, rfl⟩ := List.mem_map.1 hg'
                  obtain ⟨i0, hi0⟩ := List.getElem?_of_mem hg0
                  obtain ⟨i1, hi1⟩ := List.getElem?_of_mem hg1
                  have l0 := (List.getElem?_eq_some_iff.1 hi0).1
                  have l1 := (List.getElem?_eq_some_iff.1 hi1).1
                  rcases Nat.lt_trichotomy i0 i1 with h | h | h
                  · rcases HL.out.2 i0 i1 g0 g1 h l1 hi0 hi1 with h4 | h4
                    · exact .inr (befB_true.1 h4)
                    · exact .inl (befB_true.1 h4)
                  · subst h
                    rw [hi0] at hi1; injection hi1 with hi1
                    exact absurd (by rw [hi1]) hne
                  · rcases HL.out.2 i1 i0 g1 g0 h l0 hi1 hi0 with h4 | h4
                    · exact .inl (befB_true.1 h4)
                    · exact .inr (befB_true.1 h4)⟩)
              go_wp2
              exact HD.out _ HB1.out.1
end Go.Proofs.Ytaopfoicdjejnaa
