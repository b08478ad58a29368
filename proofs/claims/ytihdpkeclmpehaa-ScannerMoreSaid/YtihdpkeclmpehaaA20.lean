/- True. The laws' fixed examples. -/
import Derived.Test.YtihdpkeclmpehaaA6
import Derived.Test.YtihdpkeclmpehaaA4
import Derived.Test.YtihdpkeclmpehaaA19
import Derived.Test.YtihdpkeclmpehaaA8
import Derived.Test.YtihdpkeclmpehaaA7
import Derived.Test.YtihdpkeclmpehaaA18
set_option linter.unusedVariables false
set_option linter.unusedSimpArgs false
namespace Go.Proofs.Ytihdpkeclmpehaa
open Go.RowKit

/-- What a container's entry says. -/
theorem CI.cont {w0 w : World} {gm : Nat} {l : List Trk} {L : List Ct} (h : CI w0 w gm l L (specD (l.map Trk.tk) (l.map Trk.tk).length)) (s : ByteArray) :
    (L.find? (fun c => decide (c.s = s)) = none ∧ ∀ a b, ¬ ContP (l.map Trk.tk) s a b) ∨
    ∃ c ∈ L, L.find? (fun c => decide (c.s = s)) = some c ∧ c.ins = insideP (l.map Trk.tk) s ∧ ∀ a b, ContP (l.map Trk.tk) s a b ↔ a = c.a ∧ b = c.b := by
  have hv := h.view s
  rw [specD_all] at hv
  unfold viewC at hv
  cases hf : L.find? (fun c => decide (c.s = s)) with
  | none =>
    left
    refine ⟨rfl, fun a b ⟨i, j, t, h1, _⟩ => ?_⟩
    rw [hf, h1] at hv
    cases hv
  | some c =>
    right
    have hc := List.mem_of_find?_eq_some hf
    rw [hf] at hv
    cases hp : firstP (l.map Trk.tk) s with
    | none => rw [hp] at hv; cases hv
    | some p =>
      rw [hp] at hv
      simp only [Option.map_some, Option.some.injEq, Prod.mk.injEq] at hv
      obtain ⟨h1, h2, h3⟩ := hv
      obtain ⟨t, t1, t2, t3⟩ := h.st c hc
      refine ⟨c, hc, rfl, h3, fun a b => ⟨fun ⟨i, j, t', q1, q2, q3, q4⟩ => ?_, fun ⟨ha, hb⟩ => ?_⟩⟩
      · rw [hp] at q1
        injection q1 with q1
        rw [q1] at h1 h2
        simp only at h1 h2
        rw [h1, q2] at t1
        injection t1 with t1
        rw [← t1, h2] at t2 t3
        rw [q3] at t2; rw [q4] at t3
        injection t2 with t2; injection t3 with t3
        exact ⟨t2, t3⟩
      · subst ha; subst hb
        exact ⟨c.i, c.j, t, by rw [hp, h1, h2], t1, t2, t3⟩

set_option maxRecDepth 100000 in
set_option maxHeartbeats 4000000 in
theorem true_c (sp : Option Addr) (n cap : Nat) (sl : List Scn) (p : Option Addr) (m cap2 : Nat) (ts : List Trk) (r : Rec) (w : World) (R) (hn : sl.length = n) (hS : ScnsAt w sp sl) (hso : ScnsOk sl) (hm : ts.length = m) (hT : TrksAt w p ts) (hto : TksOk (ts.map Trk.tk)) (hst : StrsAt w r.cp r.contents) (hrl : r.contents.length ≤ maxLen)
    (hR : ∀ b w', Below w.heap.size w w' → (b = true ↔ TrueP sl (ts.map Trk.tk) r.rp) → R (.returned (.bool b)) w') : Calls Try.prog 13 #[.slice sp n cap, .slice p m cap2, .agg r.cells.toArray] w R := by
  have HR := hide hR; have Hn := hide hn; have HS := hide hS; have Hso := hide hso; have Hm := hide hm; have HT := hide hT; have Hto := hide hto; have Hst := hide hst; have Hrl := hide hrl
  have hn24 : n ≤ 24 := by rw [← hn]; exact hso.1
  have hm8 : m ≤ 8 := by have := hto.1; rw [List.length_map, hm] at this; exact this
  have Hok := hide (show ∀ t ∈ ts, TkOk t.tk from fun t ht => hto.2 _ (List.mem_map_of_mem ht))
  have hNo := hide (show ¬ TrueP sl (ts.map Trk.tk) r.rp → ∀ w', Below w.heap.size w w' → R (.returned (.bool false)) w' from fun h w' hb => hR false w' hb ⟨(fun e => by cases e), fun e => absurd e h⟩)
  obtain ⟨w1, hw1⟩ : ∃ w1, w.alloc (.cells r.cells.toArray 31) = w1 := ⟨_, rfl⟩
  have HB1 := hide (show Below w.heap.size w w1 from hw1 ▸ balloc (Below.refl _ _) _)
  have HK1 := hide (show Blk w1 w.heap.size r.cells.toArray 31 from hw1 ▸ Blk.new _ _ _)
  have HW1 := hide hw1
  unfold Rec.cells at HW1
  have hv : Hid (Value.agg r.cells.toArray = .agg #[.int .i64 r.scanner, .int .i64 r.number, .int .i64 r.kind, .int .i64 r.time, .string r.label, .slice r.cp r.contents.length r.cc]) := hide rfl
  clear hR hn hS hso hm hT hto hst hrl hw1
  rw [hv.out]
  go_enter Try.func13, Try.ntmps13
  go_wp2_with (go_at_call 25; rw [HW1.out]; refine Stop.out ?_)
  refine Stop.go (scannersT_c sp cap n sl _ _ Hn.out (HS.out.keep (Keeps.of_below HB1.out)) Hso.out ?_)
  intro w2 hb2
  have HB2 := hide (bseq HB1.out hb2)
  have HK2 := hide (HK1.out.next hb2)
  clear hb2
  go_wp2_with (go_at_call 26; refine Stop.out ?_)
  refine Stop.go (wellFormed_c p cap2 m ts _ _ Hm.out (HT.out.keep (Keeps.of_below HB2.out)) Hto.out ?_)
  intro w3 hb3
  have HB3 := hide (bseq HB2.out hb3)
  have HK3 := hide (HK2.out.next hb3)
  clear hb3
  have z0 : w3.cell? ⟨w.heap.size, 0, none⟩ = some (.int .i64 r.scanner) := HK3.out.cell (k := 0) rfl
  have z2 : w3.cell? ⟨w.heap.size, 2, none⟩ = some (.int .i64 r.kind) := HK3.out.cell (k := 2) rfl
  have z3 : w3.cell? ⟨w.heap.size, 3, none⟩ = some (.int .i64 r.time) := HK3.out.cell (k := 3) rfl
  have z5 : w3.cell? ⟨w.heap.size, 5, none⟩ = some (.slice r.cp r.contents.length r.cc) := HK3.out.cell (k := 5) rfl
  by_cases hs0 : r.scanner < 0
  · have HF := hide (hNo.out (fun h => by have := h.1; exact absurd hs0 (by show ¬ r.rp.scanner < 0; omega)) w3 HB3.out)
    go_wp2
    exact HF.out
  by_cases hs1 : (n : Int) ≤ r.scanner
  · have HF := hide (hNo.out (fun h => by
      obtain ⟨h1, _, _, c, hc, _⟩ := h
      have := (List.getElem?_eq_some_iff.1 hc).1
      rw [Hn.out] at this
      have h2 : r.rp.scanner = r.scanner := rfl
      omega) w3 HB3.out)
    go_wp2
    exact HF.out
  by_cases ht0 : r.time < -2000000000
  · have HF := hide (hNo.out (fun h => by have h1 := h.2.1; have h2 : r.rp.time = r.time := rfl; omega) w3 HB3.out)
    go_wp2
    exact HF.out
  by_cases ht1 : 2000000000 < r.time
  · have HF := hide (hNo.out (fun h => by have h1 := h.2.2.1; have h2 : r.rp.time = r.time := rfl; omega) w3 HB3.out)
    go_wp2
    exact HF.out
  obtain ⟨q, hq⟩ : ∃ q : Nat, r.scanner = (q : Int) := ⟨r.scanner.toNat, by omega⟩
  rw [hq] at z0
  have hqn : q < n := by omega
  obtain ⟨bs, os, c, rfl, hc, y0, y1, y2⟩ := (HS.out.keep (Keeps.of_below HB3.out)).scn (i := q) (by rw [Hn.out]; exact hqn)
  have hcok := scnOk_iff.1 (Hso.out.2 c (List.mem_of_getElem? hc))
  have hqI : (q : Int) < (n : Int) := by omega
  have wz1 : IntKind.i64.wrap (r.time - c.error) = r.time - c.error := IntWalk.i64_in _ (by omega)
  have wz2 : IntKind.i64.wrap (r.time + c.error) = r.time + c.error := IntWalk.i64_in _ (by omega)
  have HTr := hide (show TrueP sl (ts.map Trk.tk) r.rp ↔ ((r.kind = 1 ∧ r.contents = [] ∧ ((∃ t ∈ ts.map Trk.tk, SeesP c.office (r.time - c.error) (r.time + c.error) t r.label) ∨
      ∃ a b, ContP (ts.map Trk.tk) r.label a b ∧ (HasP c.office (r.time - c.error) (r.time + c.error) a.office a.depart ∨ HasP c.office (r.time - c.error) (r.time + c.error) b.office b.arrive))) ∨
     (r.kind = 2 ∧ ∃ a b, ContP (ts.map Trk.tk) r.label a b ∧ HasP c.office (r.time - c.error) (r.time + c.error) a.office a.depart ∧ r.contents = contentsP (ts.map Trk.tk) r.label a.depart)) from by
    have e1 : r.rp.scanner.toNat = q := by show r.scanner.toNat = q; omega
    constructor
    · rintro ⟨_, _, _, c', hc', h⟩
      rw [e1, hc] at hc'
      injection hc' with hc'
      subst hc'
      exact h
    · intro h
      exact ⟨by show 0 ≤ r.scanner; omega, by show -2000000000 ≤ r.time; omega, by show r.time ≤ 2000000000; omega, c, by rw [e1]; exact hc, h⟩)
  obtain ⟨lo, hlo⟩ : ∃ lo, r.time - c.error = lo := ⟨_, rfl⟩
  obtain ⟨hi, hhi⟩ : ∃ hi, r.time + c.error = hi := ⟨_, rfl⟩
  rw [hlo, hhi] at HTr
  have wz1' : IntKind.i64.wrap (r.time - c.error) = lo := wz1.trans hlo
  have wz2' : IntKind.i64.wrap (r.time + c.error) = hi := wz2.trans hhi
  obtain ⟨w4, hw4⟩ : ∃ w4, w3.alloc (.cells #[.int .i64 c.operator, .int .i64 c.office, .int .i64 c.error] 35) = w4 := ⟨_, rfl⟩
  obtain ⟨w5, hw5⟩ : ∃ w5, w4.alloc (.cells #[.int .i64 c.office, .int .i64 lo, .int .i64 hi] 73) = w5 := ⟨_, rfl⟩
  have hb34 : Below w3.heap.size w3 w4 := hw4 ▸ balloc (Below.refl _ _) _
  have hb45 : Below w4.heap.size w4 w5 := hw5 ▸ balloc (Below.refl _ _) _
  have hs4 : w4.heap.size = w3.heap.size + 1 := by rw [← hw4]; simp
  have HB5 := hide (bseq HB3.out (bseq hb34 hb45))
  have HK5 := hide ((HK3.out.next hb34).next hb45)
  have HX5 := hide (show Blk w5 w4.heap.size #[.int .i64 c.office, .int .i64 lo, .int .i64 hi] 73 from hw5 ▸ Blk.new _ _ _)
  have c4 : w4.cell? ⟨w.heap.size, 3, none⟩ = some (.int .i64 r.time) := cell_later hb34 z3
  have d0 : w4.cell? ⟨w3.heap.size, 1, none⟩ = some (.int .i64 c.office) := by rw [← hw4]; exact cell_new.trans rfl
  have d1 : w4.cell? ⟨w3.heap.size, 2, none⟩ = some (.int .i64 c.error) := by rw [← hw4]; exact cell_new.trans rfl
  have e2 : w5.cell? ⟨w.heap.size, 2, none⟩ = some (.int .i64 r.kind) := HK5.out.cell (k := 2) rfl
  have e5 : w5.cell? ⟨w.heap.size, 5, none⟩ = some (.slice r.cp r.contents.length r.cc) := HK5.out.cell (k := 5) rfl
  have HSz := hide hs4
  clear hlo hhi hq hcok hc wz1 wz2 hs4 hb34 hb45
  by_cases hk1 : r.kind = 1
  · rw [hk1] at e2
    by_cases hcn : 0 < r.contents.length
    · have HF := hide (hNo.out (fun h => by
        rcases HTr.out.1 h with h | h
        · rw [h.2.1] at hcn; simp at hcn
        · omega) w5 HB5.out)
      clear hk1
      go_wp2
      exact HF.out
    have hcn0 : r.contents.length = 0 := by omega
    have Hk1 := hide hk1
    have Hcn := hide (List.length_eq_zero_iff.1 hcn0)
    rw [hcn0] at e5
    clear hk1 hcn
    go_wp2_with (go_at_call 33; refine Stop.out ?_)
    refine Stop.go (anySeen_c c.office lo hi w4.heap.size w.heap.size r.label p cap2 m ts w5 _ Hm.out (by omega) (HT.out.keep (Keeps.of_below HB5.out)) Hok.out (HX5.out.cell (k := 0) rfl) (HX5.out.cell (k := 1) rfl) (HX5.out.cell (k := 2) rfl) (HK5.out.cell (k := 4) rfl) ?_)
    intro b w6 hb6 hiff
    have HB6 := hide (bseq HB5.out hb6)
    have HK6 := hide (HK5.out.next hb6)
    have HX6 := hide (HX5.out.next hb6)
    have Hiff := hide hiff
    clear hiff hb6 hcn0
    cases b with
    | true =>
      have HF := hide (HR.out true w6 HB6.out ⟨fun _ => HTr.out.2 (.inl ⟨Hk1.out, Hcn.out, .inl (by
        obtain ⟨t, ht, hs⟩ := Hiff.out.1 rfl
        exact ⟨t.tk, List.mem_map_of_mem ht, hs⟩)⟩), fun _ => rfl⟩)
      go_wp2
      exact HF.out
    | false =>
      have HnS := hide (show ¬ ∃ t ∈ ts.map Trk.tk, SeesP c.office lo hi t r.label from fun ⟨t, ht, hs⟩ => by
        obtain ⟨t', ht', rfl⟩ := List.mem_map.1 ht
        have := Hiff.out.2 ⟨t', ht', hs⟩
        cases this)
      have k4 : w6.cell? ⟨w.heap.size, 4, none⟩ = some (.string r.label) := HK6.out.cell (k := 4) rfl
      go_wp2
      refine true_reg14 _ w.heap.size m cap2 p ts r.label w6 k4 Hm hm8 (hide (HT.out.keep (Keeps.of_below HB6.out))) Hok (hide ?_)
      intro W0 w7 gm L
      intros
      rename_i hbW hCI
      · have hCI2 : CI W0 w7 gm ts L (specD (ts.map Trk.tk) (ts.map Trk.tk).length) := by rw [List.length_map, Hm.out]; exact hCI
        have HB7 := hide (bseq HB6.out (bseq hbW hCI.below))
        have HX7 := hide (HX6.out.next (bseq hbW hCI.below))
        rcases hCI2.cont r.label with ⟨hnf, hnc⟩ | ⟨ct, hcm, hfd, hins, hcon⟩
        · rw [hnf]
          simp only [Option.map_none, Option.getD_none, Option.isSome_none]
          have HF := hide (fun w' hb => hNo.out (fun h => by
            rcases HTr.out.1 h with h | h
            · rcases h.2.2 with h3 | ⟨a, b, h3, _⟩
              · exact HnS.out h3
              · exact hnc a b h3
            · rw [Hk1.out] at h; omega) w' hb)
          clear hnf hnc hCI2 hCI
          go_wp2
          refine true_reg15c _ w7 (hide ?_)
          intros
          rename_i hbe
          have HF2 := hide (HF.out _ (bseq HB7.out hbe))
          clear hbe
          go_wp2
          exact HF2.out
        · rw [hfd]
          simp only [Option.map_some, Option.getD_some, Option.isSome_some, Ct.ptr]
          have hbk := hCI.cts.blk ct hcm
          have hcells : w7.cell? ⟨w4.heap.size, 0, none⟩ = some (.int .i64 c.office) ∧ w7.cell? ⟨w4.heap.size, 1, none⟩ = some (.int .i64 lo) ∧ w7.cell? ⟨w4.heap.size, 2, none⟩ = some (.int .i64 hi) ∧ w7.cell? ⟨ct.g, 0, none⟩ = some (.int .i64 ct.a.office) ∧ w7.cell? ⟨ct.g, 2, none⟩ = some (.int .i64 ct.a.depart) ∧ w7.cell? ⟨ct.g, 4, none⟩ = some (.int .i64 ct.b.office) ∧ w7.cell? ⟨ct.g, 5, none⟩ = some (.int .i64 ct.b.arrive) :=
            ⟨HX7.out.cell (k := 0) rfl, HX7.out.cell (k := 1) rfl, HX7.out.cell (k := 2) rfl, hbk.cell (k := 0) rfl, hbk.cell (k := 2) rfl, hbk.cell (k := 4) rfl, hbk.cell (k := 5) rfl⟩
          have HCC := hide hcells
          have HCon := hide hcon
          clear hfd hins hcon hCI2 hbk hcells hCI
          cases h14 : hasB c.office lo hi ct.a.office ct.a.depart with
          | true =>
            have HF := hide (fun w' hb => HR.out true w' hb ⟨fun _ => HTr.out.2 (.inl ⟨Hk1.out, Hcn.out, .inr ⟨ct.a, ct.b, (HCon.out _ _).2 ⟨rfl, rfl⟩, .inl (hasB_iff.1 h14)⟩⟩), fun _ => rfl⟩)
            have H14 := hide h14
            clear h14
            go_wp2
            refine true_reg15a _ w4.heap.size ct.g c.office lo hi ct.a.office ct.a.depart ct.b.office ct.b.arrive w7 H14.out HCC.out (hide ?_)
            intros
            rename_i hbe
            have HF2 := hide (HF.out _ (bseq HB7.out hbe))
            clear hbe
            go_wp2
            exact HF2.out
          | false =>
            have HF := hide (fun w' hb => HR.out (hasB c.office lo hi ct.b.office ct.b.arrive) w' hb (by
              rw [HTr.out, hasB_iff]
              constructor
              · intro h; exact .inl ⟨Hk1.out, Hcn.out, .inr ⟨ct.a, ct.b, (HCon.out _ _).2 ⟨rfl, rfl⟩, .inr h⟩⟩
              · rintro (h | h)
                · rcases h.2.2 with h3 | ⟨a, b, h3, h4⟩
                  · exact absurd h3 HnS.out
                  · obtain ⟨rfl, rfl⟩ := (HCon.out _ _).1 h3
                    rcases h4 with h4 | h4
                    · rw [← hasB_iff, h14] at h4; cases h4
                    · exact h4
                · rw [Hk1.out] at h; omega))
            have H14 := hide h14
            clear h14
            go_wp2
            refine true_reg15b _ w4.heap.size ct.g c.office lo hi ct.a.office ct.a.depart ct.b.office ct.b.arrive w7 H14.out HCC.out (hide ?_)
            intros
            rename_i hbe
            have HF2 := hide (HF.out _ (bseq HB7.out hbe))
            clear hbe
            go_wp2
            exact HF2.out
  by_cases hk2 : r.kind = 2
  · rw [hk2] at e2
    have Hk2 := hide hk2
    have k4 : w5.cell? ⟨w.heap.size, 4, none⟩ = some (.string r.label) := HK5.out.cell (k := 4) rfl
    clear hk1 hk2
    go_wp2
    refine true_reg17 _ w.heap.size m cap2 p ts r.label w5 k4 Hm hm8 (hide (HT.out.keep (Keeps.of_below HB5.out))) Hok (hide ?_)
    intro W0 w7 gm L
    intros
    rename_i hbW hCI
    have hCI2 : CI W0 w7 gm ts L (specD (ts.map Trk.tk) (ts.map Trk.tk).length) := by rw [List.length_map, Hm.out]; exact hCI
    have HB7 := hide (bseq HB5.out (bseq hbW hCI.below))
    have HX7 := hide (HX5.out.next (bseq hbW hCI.below))
    have HK7 := hide (HK5.out.next (bseq hbW hCI.below))
    rcases hCI2.cont r.label with ⟨hnf, hnc⟩ | ⟨ct, hcm, hfd, hins, hcon⟩
    · rw [hnf]
      simp only [Option.map_none, Option.getD_none, Option.isSome_none]
      have HF := hide (fun w' hb => hNo.out (fun h => by
        rcases HTr.out.1 h with h | h
        · rw [Hk2.out] at h; omega
        · obtain ⟨_, a, b, h3, _⟩ := h
          exact hnc a b h3) w' hb)
      clear hnf hnc hCI2 hCI hbW
      go_wp2
      refine true_reg18c _ w7 (hide ?_)
      intros
      rename_i hbe
      have HF2 := hide (HF.out _ (bseq HB7.out hbe))
      clear hbe
      go_wp2
      exact HF2.out
    · rw [hfd]
      simp only [Option.map_some, Option.getD_some, Option.isSome_some, Ct.ptr]
      have hbk := hCI.cts.blk ct hcm
      obtain ⟨ip, icap, hcv, hints⟩ := ints_own (hCI.cts.row ct hcm)
      have hcells : w7.cell? ⟨w4.heap.size, 0, none⟩ = some (.int .i64 c.office) ∧ w7.cell? ⟨w4.heap.size, 1, none⟩ = some (.int .i64 lo) ∧ w7.cell? ⟨w4.heap.size, 2, none⟩ = some (.int .i64 hi) ∧ w7.cell? ⟨ct.g, 0, none⟩ = some (.int .i64 ct.a.office) ∧ w7.cell? ⟨ct.g, 2, none⟩ = some (.int .i64 ct.a.depart) ∧
          w7.cell? ⟨ct.g, 10, none⟩ = some (.slice ip ct.ins.length icap) ∧ w7.cell? ⟨w.heap.size, 5, none⟩ = some (.slice r.cp r.contents.length r.cc) :=
        ⟨HX7.out.cell (k := 0) rfl, HX7.out.cell (k := 1) rfl, HX7.out.cell (k := 2) rfl, hbk.cell (k := 0) rfl, hbk.cell (k := 2) rfl, hcv ▸ hbk.cell (k := 10) rfl, HK7.out.cell (k := 5) rfl⟩
      have hin : (∀ k ∈ ct.ins, k < m) ∧ ct.ins.length ≤ 9 := by
        rw [hins]
        refine ⟨fun k hk => ?_, ?_⟩
        · have := insideP_lt hk; rwa [List.length_map, Hm.out] at this
        · have := insideP_len (ts.map Trk.tk) r.label; rw [List.length_map, Hm.out] at this; omega
      have hlab : labsP ts ct.ins ct.a.depart = contentsP (ts.map Trk.tk) r.label ct.a.depart := by rw [hins, labsP_contents]
      have HCC := hide hcells
      have HCon := hide hcon
      have HI := hide hints
      have Hin := hide hin
      have HLab := hide hlab
      have HRl := hide (Hst.out.keep (Keeps.of_below HB7.out))
      clear hfd hins hcon hCI2 hbk hcells hCI hbW hcv hints hin hlab
      cases h15 : hasB c.office lo hi ct.a.office ct.a.depart with
      | true =>
        have HF := hide (fun w' hb => HR.out (decide (r.contents = labsP ts ct.ins ct.a.depart)) w' hb (by
          rw [HTr.out, decide_eq_true_eq, HLab.out]
          constructor
          · intro h; exact .inr ⟨Hk2.out, ct.a, ct.b, (HCon.out _ _).2 ⟨rfl, rfl⟩, hasB_iff.1 h15, h⟩
          · rintro (h | ⟨_, a, b, h3, _, h4⟩)
            · rw [Hk2.out] at h; omega
            · obtain ⟨rfl, rfl⟩ := (HCon.out _ _).1 h3
              exact h4))
        have H15 := hide h15
        clear h15
        go_wp2
        refine true_reg18a _ w4.heap.size ct.g w.heap.size r.contents.length r.cc icap m cap2 p ip r.cp ct.ins ts r.contents c.office lo hi ct.a.office ct.a.depart w7 H15.out HCC.out Hm hm8 (hide (HT.out.keep (Keeps.of_below HB7.out))) Hok HI Hin HRl (hide rfl) Hrl.out (hide ?_)
        intros
        rename_i hbe
        have HF2 := hide (HF.out _ (bseq HB7.out hbe))
        clear hbe
        go_wp2
        exact HF2.out
      | false =>
        have HF := hide (fun w' hb => hNo.out (fun h => by
          rcases HTr.out.1 h with h | ⟨_, a, b, h3, h4, _⟩
          · rw [Hk2.out] at h; omega
          · obtain ⟨rfl, rfl⟩ := (HCon.out _ _).1 h3
            rw [← hasB_iff, h15] at h4; cases h4) w' hb)
        have H15 := hide h15
        clear h15
        go_wp2
        refine true_reg18b _ w4.heap.size ct.g w.heap.size r.contents.length r.cc icap m cap2 p ip r.cp ct.ins ts r.contents c.office lo hi ct.a.office ct.a.depart w7 H15.out HCC.out Hm hm8 (hide (HT.out.keep (Keeps.of_below HB7.out))) Hok HI Hin HRl (hide rfl) Hrl.out (hide ?_)
        intros
        rename_i hbe
        have HF2 := hide (HF.out _ (bseq HB7.out hbe))
        clear hbe
        go_wp2
        exact HF2.out
  have hk1' : (r.kind == 1) = false := by simpa using hk1
  have hk2' : (r.kind == 2) = false := by simpa using hk2
  have HF := hide (hNo.out (fun h => by
    rcases HTr.out.1 h with h | h
    · exact hk1 h.1
    · exact hk2 h.1) w5 HB5.out)
  clear hk1 hk2
  go_wp2
  exact HF.out
end Go.Proofs.Ytihdpkeclmpehaa

namespace Go.Proofs.Ytihdpkeclmpehaa
open Go.RowKit

def exRecA : Rec := ⟨0, 0, 1, 100, exA, none, [], 0⟩
def exRecB (g : Nat) : Rec := ⟨0, 1, 2, 160, exC, some ⟨g + 1, 0, none⟩, [exA], 1⟩
def exRecC : Rec := ⟨1, 0, 1, 220, exC, none, [], 0⟩
def exRecD : Rec := ⟨1, 1, 1, 220, exA, none, [], 0⟩
/-- The head's four records in memory. -/
structure HX (w : World) (g : Nat) (W : World) : Prop where
  below : Below w.heap.size w W
  a : Blk W g #[.int .i64 0, .int .i64 0, .int .i64 1, .int .i64 100, .string exA, .slice none 0 0] 31
  s : Blk W (g + 1) #[.string exA] 9
  b : Blk W (g + 1 + 1) #[.int .i64 0, .int .i64 1, .int .i64 2, .int .i64 160, .string exC, .slice (some ⟨g + 1, 0, none⟩) 1 1] 31
  c : Blk W (g + 1 + 1 + 1) #[.int .i64 1, .int .i64 0, .int .i64 1, .int .i64 220, .string exC, .slice none 0 0] 31
  d : Blk W (g + 1 + 1 + 1 + 1) #[.int .i64 1, .int .i64 1, .int .i64 1, .int .i64 220, .string exA, .slice none 0 0] 31
theorem HX.next {w W W' : World} {g : Nat} (h : HX w g W) (hb : Below W.heap.size W W') : HX w g W' := ⟨bseq h.below hb, h.a.next hb, h.s.next hb, h.b.next hb, h.c.next hb, h.d.next hb⟩
def HXC (g : Nat) (W : World) : Prop := W.cell? ⟨g, 0, none⟩ = some (.int .i64 0) ∧ W.cell? ⟨g, 1, none⟩ = some (.int .i64 0) ∧ W.cell? ⟨g, 2, none⟩ = some (.int .i64 1) ∧ W.cell? ⟨g, 3, none⟩ = some (.int .i64 100) ∧ W.cell? ⟨g, 4, none⟩ = some (.string exA) ∧ W.cell? ⟨g, 5, none⟩ = some (.slice none 0 0) ∧ W.cell? ⟨g + 1 + 1, 0, none⟩ = some (.int .i64 0) ∧ W.cell? ⟨g + 1 + 1, 1, none⟩ = some (.int .i64 1) ∧ W.cell? ⟨g + 1 + 1, 2, none⟩ = some (.int .i64 2) ∧ W.cell? ⟨g + 1 + 1, 3, none⟩ = some (.int .i64 160) ∧ W.cell? ⟨g + 1 + 1, 4, none⟩ = some (.string exC) ∧ W.cell? ⟨g + 1 + 1, 5, none⟩ = some (.slice (some ⟨g + 1, 0, none⟩) 1 1) ∧ W.cell? ⟨g + 1 + 1 + 1, 0, none⟩ = some (.int .i64 1) ∧ W.cell? ⟨g + 1 + 1 + 1, 1, none⟩ = some (.int .i64 0) ∧ W.cell? ⟨g + 1 + 1 + 1, 2, none⟩ = some (.int .i64 1) ∧ W.cell? ⟨g + 1 + 1 + 1, 3, none⟩ = some (.int .i64 220) ∧ W.cell? ⟨g + 1 + 1 + 1, 4, none⟩ = some (.string exC) ∧ W.cell? ⟨g + 1 + 1 + 1, 5, none⟩ = some (.slice none 0 0) ∧ W.cell? ⟨g + 1 + 1 + 1 + 1, 0, none⟩ = some (.int .i64 1) ∧ W.cell? ⟨g + 1 + 1 + 1 + 1, 1, none⟩ = some (.int .i64 1) ∧ W.cell? ⟨g + 1 + 1 + 1 + 1, 2, none⟩ = some (.int .i64 1) ∧ W.cell? ⟨g + 1 + 1 + 1 + 1, 3, none⟩ = some (.int .i64 220) ∧ W.cell? ⟨g + 1 + 1 + 1 + 1, 4, none⟩ = some (.string exA) ∧ W.cell? ⟨g + 1 + 1 + 1 + 1, 5, none⟩ = some (.slice none 0 0)
theorem HX.cells {w W : World} {g : Nat} (h : HX w g W) : HXC g W :=
  ⟨h.a.cell (k := 0) rfl, h.a.cell (k := 1) rfl, h.a.cell (k := 2) rfl, h.a.cell (k := 3) rfl, h.a.cell (k := 4) rfl, h.a.cell (k := 5) rfl, h.b.cell (k := 0) rfl, h.b.cell (k := 1) rfl, h.b.cell (k := 2) rfl, h.b.cell (k := 3) rfl, h.b.cell (k := 4) rfl, h.b.cell (k := 5) rfl, h.c.cell (k := 0) rfl, h.c.cell (k := 1) rfl, h.c.cell (k := 2) rfl, h.c.cell (k := 3) rfl, h.c.cell (k := 4) rfl, h.c.cell (k := 5) rfl, h.d.cell (k := 0) rfl, h.d.cell (k := 1) rfl, h.d.cell (k := 2) rfl, h.d.cell (k := 3) rfl, h.d.cell (k := 4) rfl, h.d.cell (k := 5) rfl⟩
theorem HX.strs {w W : World} {g : Nat} (h : HX w g W) : StrsAt W (some ⟨g + 1, 0, none⟩) [exA] :=
  ⟨EncAt.of_flat (enc := fun s => [Value.string s]) (l := [exA]) (fun _ => rfl) (fun j u hu => h.s.cell (by simpa using hu)), fun s hs => by rw [List.mem_singleton.1 hs]; decide⟩
theorem HX.abcd {w W : World} {g : Nat} (h : HX w g W) {l : List Rec} (hl : ∀ r ∈ l, r = exRecA ∨ r = exRecB g ∨ r = exRecC ∨ r = exRecD) : ∀ r ∈ l, StrsAt W r.cp r.contents := fun r hr => by
  rcases hl r hr with rfl | rfl | rfl | rfl
  · exact StrsAt.nil
  · exact h.strs
  · exact StrsAt.nil
  · exact StrsAt.nil
theorem few_of {l : List Rec} {L : List RP} (h : l.map Rec.rp = L) (hL : ∀ x ∈ L, x.contents.length ≤ maxLen) : ∀ r ∈ l, r.contents.length ≤ maxLen := fun r hr => hL r.rp (h ▸ List.mem_map_of_mem hr)
theorem HX.recs {w W : World} {g : Nat} (h : HX w g W) (l : List Rec) (t : TypeId) (hl : ∀ r ∈ l, r = exRecA ∨ r = exRecB g ∨ r = exRecC ∨ r = exRecD) : RecsAt (W.alloc (.cells (l.flatMap Rec.cells).toArray t)) (some ⟨W.heap.size, 0, none⟩) l :=
  ⟨EncAt.lit (enc := Rec.cells) (fun _ => rfl) l, fun r hr => (h.abcd hl r hr).keep (Keeps.alloc _ _)⟩
def exSl (k i b : Int) : Sl := ⟨k, i, b, ⟨#[]⟩, ⟨0, 0, 0, 0, ⟨#[]⟩, none, [], 0⟩⟩
theorem exSls (w : World) (l : List Sl) (t : TypeId) (hl : ∀ s ∈ l, s.r.contents = []) : SlsAt (w.alloc (.cells (l.flatMap Sl.cells).toArray t)) (some ⟨w.heap.size, 0, none⟩) l :=
  ⟨EncAt.lit (enc := Sl.cells) (fun _ => rfl) l, fun s hs => by rw [hl s hs]; exact StrsAt.nil⟩
theorem few0 (l : List Sl) (hl : ∀ s ∈ l, s.r.contents = []) : ∀ s ∈ l, s.kind = 3 → s.r.contents.length ≤ 8796093022208 := fun s hs _ => by rw [hl s hs]; decide
theorem exSl0 (l : List Sl) (hl : ∀ s ∈ l, ∃ k i b, s = exSl k i b) : ∀ s ∈ l, s.r.contents = [] := fun s hs => by obtain ⟨k, i, b, rfl⟩ := hl s hs; rfl
/-- The two records that are changed. -/
structure HY (w : World) (g s : Nat) (W : World) : Prop where
  below : Below w.heap.size w W
  st : Blk W s #[.string exB] 9
  b : Blk W (g + 1 + 1) #[.int .i64 0, .int .i64 1, .int .i64 2, .int .i64 160, .string exC, .slice (some ⟨s, 0, none⟩) 1 1] 31
  c : Blk W (g + 1 + 1 + 1) #[.int .i64 1, .int .i64 0, .int .i64 1, .int .i64 221, .string exC, .slice none 0 0] 31
theorem HY.next {w W W' : World} {g s : Nat} (h : HY w g s W) (hb : Below W.heap.size W W') : HY w g s W' := ⟨bseq h.below hb, h.st.next hb, h.b.next hb, h.c.next hb⟩
theorem HY.strs {w W : World} {g s : Nat} (h : HY w g s W) : StrsAt W (some ⟨s, 0, none⟩) [exB] :=
  ⟨EncAt.of_flat (enc := fun s => [Value.string s]) (l := [exB]) (fun _ => rfl) (fun j u hu => h.st.cell (by simpa using hu)), fun s hs => by rw [List.mem_singleton.1 hs]; decide⟩
theorem not_true {v : Bool} {P : Prop} (h : v = true ↔ P) (hn : ¬ P) : v = false := by
  cases v with
  | false => rfl
  | true => exact absurd (h.1 rfl) hn
end Go.Proofs.Ytihdpkeclmpehaa
