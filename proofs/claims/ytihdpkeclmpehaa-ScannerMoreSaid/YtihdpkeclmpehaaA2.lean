/- The reference's test of a track. Maps that the call has made, at keys that the model compares at once; blocks known whole; where an append's row lies. -/
import Derived.Test.YtihdpkeclmpehaaA1
import Derived.Maps.OwnOps
set_option linter.unusedVariables false
set_option linter.unusedSimpArgs false
namespace Go.Proofs.Ytihdpkeclmpehaa
open Go.RowKit

/-- What is known of the stops before one. -/
structure StG (l : List Stp) (i : Nat) (last : Int) : Prop where
  each : ∀ (j : Nat) (s : Stp), j < i → l[j]? = some s → 0 ≤ s.office ∧ 0 ≤ s.arrive ∧ s.arrive ≤ 1000000000 ∧ s.arrive ≤ s.depart ∧ s.depart ≤ 1000000000 ∧ 0 ≤ s.line
  next : ∀ (j : Nat) (s t : Stp), j + 1 < i → l[j]? = some s → l[j + 1]? = some t → s.depart ≤ t.arrive
  lst : (i = 0 → last = 0) ∧ ∀ (j : Nat) (s : Stp), j + 1 = i → l[j]? = some s → last = s.depart
  bd : 0 ≤ last
theorem StG.zero (l : List Stp) : StG l 0 0 := ⟨fun j s h => absurd h (by omega), fun j s t h => absurd h (by omega), ⟨fun _ => rfl, fun j s h => absurd h (by omega)⟩, by decide⟩
theorem StG.nexts {l : List Stp} {i : Nat} {last : Int} {x : Stp} (h : StG l i last) (hx : l[i]? = some x) (ha : last ≤ x.arrive) : ∀ (j : Nat) (s t : Stp), j < i → l[j]? = some s → l[j + 1]? = some t → s.depart ≤ t.arrive := by
  intro j s t hj hs ht
  by_cases he : j + 1 = i
  · subst he
    rw [hx] at ht; injection ht with ht; subst ht
    have := h.lst.2 j s rfl hs
    omega
  · exact h.next j s t (by omega) hs ht
theorem StG.push {l : List Stp} {i : Nat} {last : Int} {x : Stp} (h : StG l i last) (hx : l[i]? = some x) (ho : 0 ≤ x.office) (ha : last ≤ x.arrive) (ha2 : x.arrive ≤ 1000000000) (hd : x.arrive ≤ x.depart) (hd2 : x.depart ≤ 1000000000) (hl : 0 ≤ x.line) : StG l (i + 1) x.depart := by
  have hb := h.bd
  refine ⟨fun j s hj hs => ?_, fun j s t hj hs ht => h.nexts hx ha j s t (by omega) hs ht, ⟨fun e => absurd e (by omega), fun j s hj hs => ?_⟩, by omega⟩
  · by_cases he : j = i
    · subst he; rw [hx] at hs; injection hs with hs; subst hs
      exact ⟨ho, by omega, ha2, hd, hd2, hl⟩
    · exact h.each j s (by omega) hs
  · obtain rfl : j = i := by omega
    rw [hx] at hs; injection hs with hs; subst hs; rfl
theorem StG.done {l : List Stp} {i : Nat} {last : Int} {x : Stp} (h : StG l i last) (hx : l[i]? = some x) (hn : i + 1 = l.length) (ho : 0 ≤ x.office) (ha : last ≤ x.arrive) (ha2 : x.arrive ≤ 1000000000) (hd : x.depart = -1) (hl : x.line = -1) :
    ∀ (j : Nat) (s : Stp), l[j]? = some s → StpOk l.length j s l[j + 1]? := by
  intro j s hs
  have hb := h.bd
  have hjl : j < l.length := (List.getElem?_eq_some_iff.1 hs).1
  by_cases he : j = i
  · subst he; rw [hx] at hs; injection hs with hs; subst hs
    exact ⟨ho, ⟨by omega, ha2⟩, fun _ => ⟨hd, hl⟩, fun e => absurd e (by omega), fun e => absurd e (by omega)⟩
  · have h1 := h.each j s (by omega) hs
    exact ⟨h1.1, ⟨h1.2.1, h1.2.2.1⟩, fun e => absurd e (by omega), fun _ => ⟨h1.2.2.2.1, h1.2.2.2.2.1, h1.2.2.2.2.2⟩, fun e t ht => h.nexts hx ha j s t (by omega) hs ht⟩
def AscTo (l : List Int) (i : Nat) : Prop := ∀ (m : Nat) (x y : Int), m + 1 < i → l[m]? = some x → l[m + 1]? = some y → x ≤ y
theorem AscTo.push {l : List Int} {i : Nat} {x y : Int} (h : AscTo l (i + 1)) (hx : l[i]? = some x) (hy : l[i + 1]? = some y) (hxy : x ≤ y) : AscTo l (i + 2) := by
  intro m a b hm ha hb
  by_cases he : m = i
  · subst he; rw [hx] at ha; rw [hy] at hb; injection ha with ha; injection hb with hb; subst ha; subst hb; exact hxy
  · exact h m a b (by omega) ha hb
set_option maxRecDepth 100000 in
set_option maxHeartbeats 4000000 in
theorem refTrk_c (t : Trk) (w : World) (R) (h : TrkAt w t) (hf : TrkFew t) (hR : ∀ b w', Below w.heap.size w w' → (b = true → TkOk t.tk) → R (.returned (.bool b)) w') : Calls Try.prog 44 #[t.val] w R := by
  have HR := hide hR; have H := hide h; have HFw := hide hf
  obtain ⟨N, hN⟩ : ∃ N, t.stops.length = N := ⟨_, rfl⟩
  obtain ⟨S, hS⟩ : ∃ S, t.since.length = S := ⟨_, rfl⟩
  obtain ⟨L, hL⟩ : ∃ L, t.label.length = L := ⟨_, rfl⟩
  obtain ⟨E, hE⟩ : ∃ E, t.seals.length = E := ⟨_, rfl⟩
  have hv : Hid (Trk.val t = .agg #[.string t.label0, .int .i64 t.from0, .int .i64 t.to0, .int .i64 t.class0, .int .i64 t.accept, .slice t.sp N t.sc, .bool t.lost, .slice t.np S t.nc, .slice t.lp L t.lc, .slice t.ep E t.ec]) := hide (by subst hN; subst hS; subst hL; subst hE; rfl)
  have HN := hide hN; have HS := hide hS; have HL := hide hL; have HE := hide hE
  obtain ⟨f1, f2, f3, f4⟩ := hf
  rw [hN] at f1; rw [hS] at f2; rw [hL] at f3; rw [hE] at f4
  clear hR h hN hS hL hE
  rw [hv.out]
  obtain ⟨w1, hw1⟩ : ∃ w1, w.alloc (.cells #[.string t.label0, .int .i64 t.from0, .int .i64 t.to0, .int .i64 t.class0, .int .i64 t.accept, .slice t.sp N t.sc, .bool t.lost, .slice t.np S t.nc, .slice t.lp L t.lc, .slice t.ep E t.ec] 40) = w1 := ⟨_, rfl⟩
  have HB1 : Hid (Below w.heap.size w w1) := hide (hw1 ▸ balloc (Below.refl _ _) _)
  have HW1 := hide hw1
  clear hw1
  by_cases hN0 : N = 0
  · subst hN0
    go_enter Try.func44, Try.ntmps44
    go_wp2
    go_quiet (fail)
    go_wp2
    exact HR.out _ _ (below_drewN' (balloc (Below.refl _ _) _) _) (by simp)
  obtain ⟨n, hn⟩ : ∃ n, n + 1 = N := ⟨N - 1, by omega⟩
  have Hn := hide hn
  have b1 : ((N : Int) == 0) = false := by simp; omega
  have hz : IntKind.i64.wrap ((N : Int) - 1) = (n : Int) := by rw [IntWalk.i64_in _ (by omega)]; omega
  clear hn hN0
  by_cases h2 : (E : Int) = (n : Int)
  rotate_left
  · have e2 := bne_iff_ne.2 h2; clear h2
    go_enter Try.func44, Try.ntmps44
    go_wp2
    go_quiet (fail)
    go_wp2
    exact HR.out _ _ (below_drewN' (balloc (Below.refl _ _) _) _) (by simp)
  have b2 : ((E : Int) != (n : Int)) = false := by simp [h2]
  have H2 := hide h2
  clear h2
  by_cases h3 : (S : Int) = (L : Int)
  rotate_left
  · have e2 := bne_iff_ne.2 h3; clear h3
    go_enter Try.func44, Try.ntmps44
    go_wp2
    go_quiet (fail)
    go_wp2
    exact HR.out _ _ (below_drewN' (balloc (Below.refl _ _) _) _) (by simp)
  have b3 : ((S : Int) != (L : Int)) = false := by simp [h3]
  have H3 := hide h3
  clear h3
  by_cases h4 : S = 0
  · have b4 : ((S : Int) == 0) = true := by simp [h4]
    clear h4
    go_enter Try.func44, Try.ntmps44
    go_wp2
    go_quiet (fail)
    go_wp2
    exact HR.out _ _ (below_drewN' (balloc (Below.refl _ _) _) _) (by simp)
  have b4 : ((S : Int) == 0) = false := by simp; omega
  have H4 := hide h4
  have hS0 : 0 < S := by omega
  have hN0 : 0 < N := by have := Hn.out; omega
  clear h4
  obtain ⟨b, o, s0, hp, hs0, x0, x1, x2, x3⟩ := H.out.stops.stp (i := 0) (by rw [HN.out]; have := Hn.out; omega)
  obtain ⟨bi, oi, c0, hq, hc0, ci⟩ := H.out.since.at_ (i := 0) (by rw [HS.out]; have := H4.out; omega)
  have Hs0 := hide hs0; have Hc0 := hide hc0; have Hsp := hide hp; have Hnp := hide hq
  rw [Nat.zero_mul, Nat.add_zero] at x0 x1 x2 x3
  rw [Nat.add_zero] at ci
  have y1 := cell_later HB1.out x1
  have yi := cell_later HB1.out ci
  rw [hp, hq] at HW1 ⊢
  rw [← HW1.out] at y1 yi
  clear x0 x1 x2 x3 ci hp hq hs0 hc0
  by_cases h5 : s0.arrive < c0
  · go_enter Try.func44, Try.ntmps44
    go_wp2
    go_quiet (fail)
    go_wp2
    exact HR.out _ _ (below_drewN' (balloc (Below.refl _ _) _) _) (by simp)
  have H5 := hide h5
  go_enter Try.func44, Try.ntmps44
  go_wp2
  go_quiet (fail)
  clear y1 yi
  go_wp2
  clear h5
  go_loopw [3] (fun si wr => ∃ i : Nat, i < S ∧ si = .int .i64 (i + 1 : Nat) ∧ Hid (AscTo t.since (i + 1)) ∧ Hid (Below w1.heap.size w1 wr)) (fun si _ => S - (intOf si).toNat)
  case atStart => exact ⟨0, hS0, rfl, hide (fun m x y h => absurd h (by omega)), hide (by rw [← HW1.out]; exact below_drewN' (Below.refl _ _) _)⟩
  case round =>
    obtain ⟨i, hi, rfl, HA, HB⟩ := hrel
    have c5 : wr.cell? ⟨w.heap.size, 5, none⟩ = some (.slice (some ⟨b, o, none⟩) N t.sc) := cell_later HB.out (by rw [← HW1.out]; exact cell_new.trans rfl)
    have c7 : wr.cell? ⟨w.heap.size, 7, none⟩ = some (.slice (some ⟨bi, oi, none⟩) S t.nc) := cell_later HB.out (by rw [← HW1.out]; exact cell_new.trans rfl)
    by_cases hlt : i + 1 < S
    · obtain ⟨b', o', x, hp, hx, x0⟩ := (H.out.since.keep (Keeps.of_below (bseq HB1.out HB.out))).at_ (i := i) (by rw [HS.out]; exact hi)
      obtain ⟨rfl, rfl⟩ : bi = b' ∧ oi = o' := by rw [Hnp.out] at hp; injection hp with hp; injection hp with h1 h2; exact ⟨h1, h2⟩
      obtain ⟨b', o', y, hp', hy, y0⟩ := (H.out.since.keep (Keeps.of_below (bseq HB1.out HB.out))).at_ (i := i + 1) (by rw [HS.out]; exact hlt)
      obtain ⟨rfl, rfl⟩ : bi = b' ∧ oi = o' := by rw [Hnp.out] at hp'; injection hp' with hp'; injection hp' with h1 h2; exact ⟨h1, h2⟩
      have Hx := hide hx; have Hy := hide hy
      obtain ⟨i1, hi1'⟩ : ∃ i1, i + 1 = i1 := ⟨_, rfl⟩
      have Hi1 := hide hi1'
      have hz' : IntKind.i64.wrap ((i1 : Int) - 1) = (i : Int) := by rw [IntWalk.i64_in _ (by omega)]; omega
      have w1' : IntKind.i64.wrap ((i1 : Int) + 1) = ((i1 + 1 : Nat) : Int) := by rw [IntWalk.i64_in _ (by omega)]; omega
      rw [hi1'] at hlt y0
      rw [hi1']
      clear hp hp' hx hy hi1'
      by_cases hxy : x ≤ y
      · have HA2 := hide (HA.out.push Hx.out Hy.out hxy)
        have d1 : decide (y < x) = false := by simpa using hxy
        clear hxy
        go_wp2
        go_quiet (fail)
        go_wp2
        go_roundw
        case rel => exact ⟨i1, by omega, by go_num, hide (Hi1.out ▸ HA2.out), hide (by exact below_drewN' HB.out _)⟩
        case measure => have := Hi1.out; simp [intOf]; omega
      · have d1 : decide (y < x) = true := by simpa using hxy
        clear hxy
        go_wp2
        go_quiet (fail)
        go_wp2
        exact HR.out _ _ (below_drewN' (bseq HB1.out HB.out) _) (by simp)
    · obtain ⟨i1, hi1'⟩ : ∃ i1, i + 1 = i1 := ⟨_, rfl⟩
      obtain rfl : i1 = S := by omega
      rw [hi1'] at HA ⊢
      have HAs := hide (show AscI t.since from fun m x y hx hy => HA.out m x y (by have := (List.getElem?_eq_some_iff.1 hy).1; have := HS.out; omega) hx hy)
      clear hlt hi hi1'
      go_wp2
      clear c5 c7
      obtain ⟨w2, rfl⟩ : ∃ w2, w2 = wr := ⟨wr, rfl⟩
      have HTk := hide (fun (he : ∀ (j : Nat) (s : Stp), t.stops[j]? = some s → StpOk t.stops.length j s t.stops[j + 1]?) => (show TkOk t.tk from ⟨by show 0 < t.stops.length; rw [HN.out]; exact hN0, by show t.seals.length + 1 = t.stops.length; rw [HN.out, HE.out]; have := H2.out; have := Hn.out; omega,
        by show t.since.length = t.label.length; rw [HS.out, HL.out]; have := H3.out; omega, by show 0 < t.since.length; rw [HS.out]; exact hS0, fun x s hx hs => by
          have h1 : t.since[0]? = some x := hx
          have h2 : t.stops[0]? = some s := hs
          rw [Hc0.out] at h1; rw [Hs0.out] at h2; injection h1 with h1; injection h2 with h2; subst h1; subst h2; have := H5.out; omega, HAs.out, he, ⟨HFw.out.1, HFw.out.2.1⟩⟩))
      go_loopw [4, 5, 6] (fun sl si _ wr => ∃ (i : Nat) (last : Int), i < N ∧ si = .int .i64 i ∧ sl = .int .i64 last ∧ Hid (StG t.stops i last) ∧ Hid (Below w1.heap.size w1 wr)) (fun _ si _ _ => N - (intOf si).toNat)
      case atStart => exact ⟨0, 0, hN0, rfl, rfl, hide (StG.zero _), HB⟩
      case round =>
        obtain ⟨i, last, hi, rfl, rfl, HG, HB⟩ := hrel
        have c5 : wr.cell? ⟨w.heap.size, 5, none⟩ = some (.slice (some ⟨b, o, none⟩) N t.sc) := cell_later HB.out (by rw [← HW1.out]; exact cell_new.trans rfl)
        obtain ⟨b', o', s, hp, hs, x0, x1, x2, x3⟩ := (H.out.stops.keep (Keeps.of_below (bseq HB1.out HB.out))).stp (i := i) (by rw [HN.out]; exact hi)
        obtain ⟨rfl, rfl⟩ : b = b' ∧ o = o' := by rw [Hsp.out] at hp; injection hp with hp; injection hp with h1 h2; exact ⟨h1, h2⟩
        have Hs := hide hs
        obtain ⟨so, sa, sd, sl⟩ := s
        have HBn := hide (balloc HB.out (.cells #[.int .i64 so, .int .i64 sa, .int .i64 sd, .int .i64 sl] 42))
        have c5' := cell_later (balloc (Below.refl wr.heap.size wr) (.cells #[.int .i64 so, .int .i64 sa, .int .i64 sd, .int .i64 sl] 42)) c5
        have HF := hide (fun b hb => HR.out b _ (bseq HB1.out HBn.out) hb)
        have w1' : IntKind.i64.wrap ((i : Int) + 1) = ((i + 1 : Nat) : Int) := by rw [IntWalk.i64_in _ (by omega)]; omega
        have hbd := HG.out.bd
        clear hp hs
        by_cases e1 : so < 0
        · go_wp2
          exact HF.out _ (by simp)
        by_cases e2 : sa < last
        · go_wp2
          exact HF.out _ (by simp)
        by_cases e3 : 1000000000 < sa
        · go_wp2
          exact HF.out _ (by simp)
        by_cases e4 : i + 1 = N
        · have q1 : (((i + 1 : Nat) : Int) == (N : Int)) = true := by simp; omega
          have HD := hide (fun (hd : sd = -1) (hl : sl = -1) => HG.out.done Hs.out (by rw [HN.out]; exact e4) (by show 0 ≤ so; omega) (by show last ≤ sa; omega) (by show sa ≤ 1000000000; omega) hd hl)
          clear e4
          by_cases e5 : sd = -1
          · have q2 : (sd == -1) = true := by simp [e5]
            by_cases e6 : sl = -1
            · have q3 : (sl == -1) = true := by simp [e6]
              have HD2 := hide (HD.out e5 e6)
              clear e5 e6
              go_wp2
              exact HF.out _ (fun _ => HTk.out (HN.out ▸ HD2.out))
            · have q3 : (sl == -1) = false := by simp [e6]
              clear e5 e6
              go_wp2
              exact HF.out _ (by simp)
          · have q2 : (sd == -1) = false := by simp [e5]
            clear e5
            go_wp2
            exact HF.out _ (by simp)
        · have q1 : (((i + 1 : Nat) : Int) == (N : Int)) = false := by simp; omega
          by_cases e5 : sd < sa
          · clear e4
            go_wp2
            exact HF.out _ (by simp)
          by_cases e6 : 1000000000 < sd
          · clear e4
            go_wp2
            exact HF.out _ (by simp)
          by_cases e7 : sl < 0
          · clear e4
            go_wp2
            exact HF.out _ (by simp)
          have HG2 := hide (HG.out.push Hs.out (by show 0 ≤ so; omega) (by show last ≤ sa; omega) (by show sa ≤ 1000000000; omega) (by show sa ≤ sd; omega) (by show sd ≤ 1000000000; omega) (by show 0 ≤ sl; omega))
          have hi1 : i + 1 < N := by omega
          clear e4
          go_wp2
          go_roundw
          case rel => exact ⟨i + 1, sd, by omega, by go_num, rfl, HG2, HBn⟩
          case measure => simp [intOf]; omega
end Go.Proofs.Ytihdpkeclmpehaa

namespace Go.Proofs.Ytihdpkeclmpehaa
open Go.RowKit

/-- What a map's type must abide. -/
structure MLaw (κ : Type) [DecidableEq κ] (T kt et : TypeId) (sv : κ → Value) (z : Value) : Prop where
  und : ∀ w, (underlying T).run Try.prog w = .ok (.map kt et) w
  kd : ∃ D, (∀ w, (underlying kt).run Try.prog w = .ok D w) ∧ ∀ x y, Instr.sameNow D (sv x) (sv y) = some (decide (x = y))
  chk : ∀ b x w, (Instr.checkKey b 10000 kt (sv x)).run Try.prog w = .ok () w
  zero : ∀ w, (zeroValue et).run Try.prog w = .ok z w
  bits : ∀ x, Instr.sameBits 10000 (sv x) (sv x) = true
section
variable {κ : Type} {sv : κ → Value}
/-- Block b is a map that reads as L. -/
def MpAt (sv : κ → Value) (w : World) (b : Nat) (L : List (κ × Value)) : Prop := ∃ es clock, w.heap[b]? = some (.map es clock) ∧ es.toList.map (fun e => (e.key, e.val)) = L.map (fun e => (sv e.1, e.2))
theorem MpAt.lt {w : World} {b : Nat} {L : List (κ × Value)} (h : MpAt sv w b L) : b < w.heap.size := by
  obtain ⟨es, c, h1, _⟩ := h; exact lt_of_block h1
theorem MpAt.block {w w' : World} {b : Nat} {L : List (κ × Value)} (h : MpAt sv w b L) (hb : w'.heap[b]? = w.heap[b]?) : MpAt sv w' b L := by
  obtain ⟨es, c, h1, h2⟩ := h; exact ⟨es, c, hb.trans h1, h2⟩
theorem MpAt.next {w w' : World} {b : Nat} {L : List (κ × Value)} (h : MpAt sv w b L) (hb : Below w.heap.size w w') : MpAt sv w' b L := h.block (hb.block b h.lt)
theorem MpAt.set {w : World} {b : Nat} {L : List (κ × Value)} (h : MpAt sv w b L) {a : Addr} (ha : a.block ≠ b) (v : Value) : MpAt sv (w.setCell a v) b L := h.block (Below.heap_setCell _ _ _ _ (fun e => ha e.symm))
theorem MpAt.new (w : World) : MpAt sv (w.alloc (.map #[] 0)) w.heap.size ([] : List (κ × Value)) := ⟨#[], 0, by show (w.heap.push _)[w.heap.size]? = _; simp, rfl⟩
end
theorem beqB (x y : ByteArray) : (x == y) = true ↔ x = y := by
  obtain ⟨a⟩ := x; obtain ⟨b⟩ := y
  have e : (({ data := a } : ByteArray) == { data := b }) = (a == b) := rfl
  rw [e]
  simp
theorem bytes_beq (x y : ByteArray) : (x == y) = decide (x = y) := by
  rw [Bool.eq_iff_iff]; simp only [decide_eq_true_eq]
  exact beqB x y
section
variable {κ : Type} [DecidableEq κ] {T kt et : TypeId} {sv : κ → Value} {z : Value}
/-- The first entry of a key. -/
def findL : List (κ × Value) → κ → Nat → Option (Nat × Value)
  | [], _, _ => none
  | (k, v) :: t, x, i => if x = k then some (i, v) else findL t x (i + 1)
theorem findNow_is {D : TypeDesc} (hD : ∀ x y, Instr.sameNow D (sv x) (sv y) = some (decide (x = y))) (x : κ) : ∀ (es : List MapEntry) (L : List (κ × Value)) (i : Nat), es.map (fun e => (e.key, e.val)) = L.map (fun e => (sv e.1, e.2)) →
    Instr.findNow D (sv x) es i = some (findL L x i)
  | [], [], i, _ => rfl
  | [], _ :: _, _, h => by cases h
  | _ :: _, [], _, h => by cases h
  | e :: es, (k, v) :: L, i, h => by
    simp only [List.map_cons, List.cons.injEq, Prod.mk.injEq] at h
    obtain ⟨⟨h1, h2⟩, h3⟩ := h
    rw [Instr.findNow, h1, hD, findL]
    by_cases hx : x = k
    · simp [hx, h2]
    · simp only [hx, decide_false, if_false]
      exact findNow_is hD x es L (i + 1) h3
theorem MLaw.find (M : MLaw κ T kt et sv z) (x : κ) (w : World) (es : List MapEntry) (L : List (κ × Value)) (h : es.map (fun e => (e.key, e.val)) = L.map (fun e => (sv e.1, e.2))) :
    (Instr.findKey kt (sv x) es).run Try.prog w = .ok (findL L x 0) w := by
  obtain ⟨D, h1, h2⟩ := M.kd
  unfold Instr.findKey
  simp only [Sem.run_bind, h1, Result.andThen_ok, findNow_is h2 x es L 0 h]
  rfl
/-- What a list of entries says. -/
def find2 : List (κ × Value) → κ → Option Value
  | [], _ => none
  | (k, v) :: t, x => if x = k then some v else find2 t x
theorem findL_2 : ∀ (L : List (κ × Value)) (x : κ) (i : Nat), (findL L x i).map (·.2) = find2 L x
  | [], x, i => rfl
  | (k, v) :: t, x, i => by
    rw [findL, find2]
    split
    · rfl
    · exact findL_2 t x (i + 1)
theorem MpAt.lookup (M : MLaw κ T kt et sv z) {w : World} {b : Nat} {L : List (κ × Value)} (h : MpAt sv w b L) (x : κ) (c : Bool) : (Instr.lookup T (.map (some b)) (sv x) c).run Try.prog w =
    .ok (if c then .tuple #[(find2 L x).getD z, .bool (find2 L x).isSome] else (find2 L x).getD z) w := by
  obtain ⟨es, cl, hb, hL⟩ := h
  unfold Instr.lookup
  simp only [Sem.run_bind, M.und, Result.andThen_ok, MapKept.run_getObj_map hb, Sem.run_pure, M.chk, M.find x w es.toList L hL, ← findL_2 L x 0]
  cases findL L x 0 with
  | none => cases c <;> simp [M.zero, Result.andThen]
  | some r => cases c <;> simp
theorem findL_at : ∀ (L : List (κ × Value)) (x : κ) (i : Nat) (r : Nat × Value), findL L x i = some r → i ≤ r.1 ∧ L[r.1 - i]? = some (x, r.2)
  | [], x, i, r, h => by cases h
  | (k, v) :: t, x, i, r, h => by
    rw [findL] at h
    split at h
    · rename_i e; injection h with h; subst h; subst e; simp
    · obtain ⟨h1, h2⟩ := findL_at t x (i + 1) r h
      refine ⟨by omega, ?_⟩
      rw [show r.1 - i = (r.1 - (i + 1)) + 1 by omega, List.getElem?_cons_succ]; exact h2
def putL (L : List (κ × Value)) (x : κ) (p : Value) : List (κ × Value) := match findL L x 0 with
  | some r => L.set r.1 (x, p)
  | none => L ++ [(x, p)]
theorem putL_new {L : List (κ × Value)} {x : κ} {p : Value} (h : find2 L x = none) : putL L x p = L ++ [(x, p)] := by
  unfold putL
  cases hf : findL L x 0 with
  | none => rfl
  | some r => rw [← findL_2 L x 0, hf] at h; cases h
theorem find2_set : ∀ (L : List (κ × Value)) (x : κ) (i : Nat) (r : Nat × Value) (p : Value) (y : κ), findL L x i = some r → find2 (L.set (r.1 - i) (x, p)) y = if y = x then some p else find2 L y
  | [], x, i, r, p, y, h => by cases h
  | (k, v) :: t, x, i, r, p, y, h => by
    rw [findL] at h
    split at h
    · rename_i e; injection h with h; subst h; subst e
      simp only [Nat.sub_self, List.set_cons_zero, find2]
      by_cases hy : y = x <;> simp [hy]
    · rename_i e
      obtain ⟨h1, _⟩ := findL_at t x (i + 1) r h
      rw [show r.1 - i = (r.1 - (i + 1)) + 1 by omega, List.set_cons_succ, find2, find2_set t x (i + 1) r p y h, find2]
      by_cases hy : y = k
      · rw [if_pos hy, if_pos hy, if_neg (fun e2 : y = x => e (e2 ▸ hy))]
      · rw [if_neg hy, if_neg hy]
theorem find2_snoc : ∀ (L : List (κ × Value)) (x : κ) (p : Value) (y : κ), find2 L x = none → find2 (L ++ [(x, p)]) y = if y = x then some p else find2 L y
  | [], x, p, y, _ => by simp [find2]
  | (k, v) :: t, x, p, y, h => by
    rw [find2] at h
    split at h
    · cases h
    · rename_i e
      rw [List.cons_append, find2, find2_snoc t x p y h, find2]
      by_cases hy : y = k
      · rw [if_pos hy, if_pos hy, if_neg (fun e2 : y = x => e (e2 ▸ hy))]
      · rw [if_neg hy, if_neg hy]
theorem find2_put (L : List (κ × Value)) (x : κ) (p : Value) (y : κ) : find2 (putL L x p) y = if y = x then some p else find2 L y := by
  unfold putL
  cases h : findL L x 0 with
  | none => exact find2_snoc L x p y (by rw [← findL_2 L x 0, h]; rfl)
  | some r =>
    have := find2_set L x 0 r p y h
    rwa [Nat.sub_zero] at this
theorem MpAt.update (M : MLaw κ T kt et sv z) {w : World} {b : Nat} {L : List (κ × Value)} (h : MpAt sv w b L) (x : κ) (p : Value) : ∃ w', (Instr.mapUpdate T (.map (some b)) (sv x) p).run Try.prog w = .ok () w' ∧ MpAt sv w' b (putL L x p) ∧ w.grownBy w' (some b) ∧ w'.heap.size = w.heap.size := by
  have hlt := h.lt
  obtain ⟨es, cl, hb, hL⟩ := h
  unfold Instr.mapUpdate putL
  simp only [Sem.run_bind, M.und, Result.andThen_ok, MapKept.run_getObj_map hb, Sem.run_pure, M.chk, M.find x w es.toList L hL]
  have hlen : es.size = L.length := by have := congrArg List.length hL; simpa using this
  have hset : ∀ o : Obj, w.grownBy (ChangeMaps.setBlock w b o) (some b) := fun o => ⟨rfl, rfl, rfl, by simp [ChangeMaps.setBlock], fun k hk hne => by
    show (w.heap.setIfInBounds b o)[k]? = _
    rw [Array.getElem?_setIfInBounds, if_neg (fun e => hne (by rw [e]))]⟩
  have hsz : ∀ o : Obj, (ChangeMaps.setBlock w b o).heap.size = w.heap.size := fun o => by simp [ChangeMaps.setBlock]
  have hget : ∀ o : Obj, (ChangeMaps.setBlock w b o).heap[b]? = some o := fun o => by
    show (w.heap.setIfInBounds b o)[b]? = _
    rw [Array.getElem?_setIfInBounds, if_pos rfl, if_pos hlt]
  cases hf : findL L x 0 with
  | none =>
    refine ⟨_, MapKept.run_setObj_map _ hb, ⟨_, _, hget _, ?_⟩, hset _, hsz _⟩
    simp only [Array.toList_push, List.map_append, List.map_cons, List.map_nil, hL]
  | some r =>
    obtain ⟨h1, h2⟩ := findL_at L x 0 r hf
    rw [Nat.sub_zero] at h2
    have hr : r.1 < es.size := by rw [hlen]; exact (List.getElem?_eq_some_iff.1 h2).1
    have hkey : (es[r.1]).key = sv x := by
      have := congrArg (fun l => l[r.1]?) hL
      simp only [List.getElem?_map, h2] at this
      rw [Array.getElem?_toList, Array.getElem?_eq_getElem hr] at this
      simp at this
      exact this.1
    have hst : (Instr.keyThatStays (sv x) (sv x)).run Try.prog w = .ok (sv x) w := by
      unfold Instr.keyThatStays
      rw [if_pos (M.bits x)]
      rfl
    simp only
    rw [Array.getElem?_eq_getElem hr]
    simp only [Option.map_some, Option.getD_some, hkey, Sem.run_bind, hst, Result.andThen_ok]
    refine ⟨_, MapKept.run_setObj_map _ hb, ⟨_, _, hget _, ?_⟩, hset _, hsz _⟩
    rw [Array.toList_modify, List.map_set, ← hL]
    apply List.ext_getElem?
    intro i
    rw [List.getElem?_map, List.getElem?_modify, List.getElem?_set, List.length_map]
    by_cases hi : r.1 = i
    · subst hi
      rw [if_pos rfl, if_pos (by simpa using hr)]
      rw [Array.getElem?_toList, Array.getElem?_eq_getElem hr]
      simp
    · rw [if_neg hi, List.getElem?_map]
      simp [hi]
end
theorem mlaw79 : MLaw ByteArray 79 9 77 (fun s => .string s) (.pointer none) where
  und := fun w => by kernel_rfl
  kd := ⟨.string, fun w => by kernel_rfl, fun x y => by simp [Instr.sameNow, bytes_beq]⟩
  chk := fun b x w => by cases b <;> kernel_rfl
  zero := fun w => by kernel_rfl
  bits := fun x => by simp [Instr.sameBits, bytes_beq]
theorem mlaw60 : MLaw Int 60 3 3 (fun n => .int .i64 n) (.int .i64 0) where
  und := fun w => by kernel_rfl
  kd := ⟨.int .i64, fun w => by kernel_rfl, fun x y => by simp [Instr.sameNow]; rw [Bool.eq_iff_iff]; simp⟩
  chk := fun b x w => by cases b <;> kernel_rfl
  zero := fun w => by kernel_rfl
  bits := fun x => by simp [Instr.sameBits]
theorem mlaw107 : MLaw Int 107 3 106 (fun n => .int .i64 n) .nilFunc where
  und := fun w => by kernel_rfl
  kd := ⟨.int .i64, fun w => by kernel_rfl, fun x y => by simp [Instr.sameNow]; rw [Bool.eq_iff_iff]; simp⟩
  chk := fun b x w => by cases b <;> kernel_rfl
  zero := fun w => by kernel_rfl
  bits := fun x => by simp [Instr.sameBits]

/-- A block known whole. -/
def Blk (w : World) (g : Nat) (cs : Array Value) (t : TypeId) : Prop := w.heap[g]? = some (.cells cs t (0, 0))
section
variable {w w' : World} {g : Nat} {cs : Array Value} {t : TypeId}
theorem Blk.lt (h : Blk w g cs t) : g < w.heap.size := lt_of_block h
theorem Blk.cell (h : Blk w g cs t) {k : Nat} {v : Value} (hk : cs[k]? = some v) : w.cell? ⟨g, k, none⟩ = some v := by
  unfold Blk at h; simp [World.cell?, h, hk]
theorem Blk.free (h : Blk w g cs t) (k : Nat) : w.frozen? ⟨g, k, none⟩ = false := frozen_of_row _ _ _ _ _ h
theorem Blk.new (w : World) (cs : Array Value) (t : TypeId) : Blk (w.alloc (.cells cs t)) w.heap.size cs t := by
  show (w.heap.push _)[w.heap.size]? = _
  simp
theorem Blk.new_at {n : Nat} (hn : n = w.heap.size) : Blk (w.alloc (.cells cs t)) n cs t := by subst hn; exact Blk.new _ _ _
theorem Blk.alloc (h : Blk w g cs t) (o : Obj) : Blk (w.alloc o) g cs t := by
  have hl := h.lt
  unfold Blk at *
  rw [← h]
  show (w.heap.push o)[g]? = _
  rw [Array.getElem?_push, if_neg (by omega)]
theorem Blk.later {B : Nat} (h : Blk w g cs t) (hb : Below B w w') (hg : g < B) : Blk w' g cs t := by
  unfold Blk at *
  rw [← h]; exact hb.block g hg
theorem Blk.next (h : Blk w g cs t) (hb : Below w.heap.size w w') : Blk w' g cs t := h.later hb h.lt
theorem Blk.drewN (h : Blk w g cs t) (n : Nat) : Blk (w.drewN n) g cs t := h
theorem Blk.drew (h : Blk w g cs t) : Blk w.drew g cs t := h
theorem Blk.set (h : Blk w g cs t) (k : Nat) (v : Value) : Blk (w.setCell ⟨g, k, none⟩ v) g (cs.setIfInBounds k v) t := by
  have hl := h.lt
  have h' : w.heap[g] = .cells cs t (0, 0) := by unfold Blk at h; simpa [Array.getElem?_eq_getElem hl] using h
  show (w.heap.modify g _)[g]? = _
  rw [Array.getElem?_eq_getElem (by simpa using hl), Array.getElem_modify_self, h']
  rfl
theorem Blk.set_other (h : Blk w g cs t) {a : Addr} (ha : a.block ≠ g) (v : Value) : Blk (w.setCell a v) g cs t := by
  unfold Blk at *
  rw [Below.heap_setCell _ _ _ _ (fun e => ha e.symm)]; exact h
end
/-- Where an append's row lies: where it lay, or in a new block. -/
theorem app_where {P : Program} (w : World) (base : Nat) (t ty e : TypeId) (i : TypeInfo) (z : Value) (size bytes : Nat) (ht : P.underlying t = some (.slice e)) (hi : P.info? e = some i) (hz : i.zero = some z)
    (hsize : i.size = size) (hby : i.bytes = bytes) (hzs : z.cells.size = size) (hsz : 0 < size)
    (v : Value) (n : Nat) (xs : List Value) (hown : w.ownsRow base e size v n xs)
    (a : Addr) (m c : Nat) (news : List Value) (hl : news.length = m * size) (hnews : ∀ j u, news[j]? = some u → w.cell? (a.add j) = some u) (h1 : ∀ u ∈ news, u.oneCell' = true)
    (h63 : n + m ≤ maxLen) (hbytes : (n + m) * bytes ≤ 140737488355328) (v' : Value) (w' : World)
    (hr : (Builtin.append_ #[t, t] ty #[v, .slice (some a) m c]).run P w = .ok v' w') : v'.ownBlock = v.ownBlock ∨ ∀ k, v'.ownBlock = some k → w.heap.size ≤ k := by
  subst hsize
  subst hby
  rcases hown.2 with ⟨rfl, rfl⟩ | ⟨g, cap, cur, rfl, hbg, hg, hnc, hcm, hcs, htake⟩
  · have hx : xs = [] := List.eq_nil_of_length_eq_zero (by simpa using hown.1)
    subst hx
    obtain ⟨v2, w2, h2, h3, _, _⟩ := run_append_own (P := P) w w.heap.size t ty e i z i.size i.bytes ht hi hz rfl rfl hzs hsz (.slice none 0 0) 0 [] (World.ownsRow_nil _ _ _ _) a m c news hl hnews h1 h63 hbytes (Nat.le_refl _)
    rw [hr] at h2
    injection h2 with h2 h4
    subst h2
    exact .inr fun k hk => (h3.lt k hk).1
  · by_cases hroom : n + m ≤ cap
    · have hfit : n * i.size + news.length ≤ cur.size := by rw [hl, hcs, ← Nat.add_mul]; exact Nat.mul_le_mul_right _ hroom
      have h2 := run_append_room (P := P) w t ty e i ht hi g n cap cur hg a m c news hl hnews h1 hroom hfit
      rw [hr] at h2
      injection h2 with h2 _
      subst h2
      exact .inl rfl
    · have holds : ∀ j u, xs[j]? = some u → w.cell? ((⟨g, 0, none⟩ : Addr).add j) = some u := hown.cells (g := g) rfl
      have h2 := run_append_grow (P := P) w t ty e i z ht hi hz ⟨g, 0, none⟩ n cap xs hown.1 holds a m c news hl hnews (by omega) (by simp only [maxLen] at h63; omega) (growslice_fits (by omega) hbytes)
      rw [hr] at h2
      injection h2 with h2 _
      subst h2
      exact .inr fun k hk => by injection hk with hk; exact Nat.le_of_eq hk
theorem wpList_append_where {P : Program} {w : World} {ops : Array Oper} {rest : List Oper} {o : Oper} {a : Act} {Q : Exit → Act → World → Prop} (hgd : o.guard = none) (s x : Operand) (t : TypeId)
    (ho : o.op = .call { callee := .builtin .append, args := #[s, x], argTypes := #[t, t] })
    (base : Nat) (e : TypeId) (i : TypeInfo) (z : Value) (size bytes : Nat) (ht : P.underlying t = some (.slice e)) (hi : P.info? e = some i) (hz : i.zero = some z)
    (hsize : i.size = size) (hby : i.bytes = bytes) (hzs : z.cells.size = size) (hsz : 0 < size)
    (v : Value) (n : Nat) (xs : List Value) (hs : a.eval s = v) (hown : w.ownsRow base e size v n xs)
    (ad : Addr) (m c : Nat) (news : List Value) (hx : a.eval x = .slice (some ad) m c) (hl : news.length = m * size) (hnews : ∀ j u, news[j]? = some u → w.cell? (ad.add j) = some u) (h1 : ∀ u ∈ news, u.oneCell' = true)
    (h63 : n + m ≤ maxLen) (hbytes : (n + m) * bytes ≤ 140737488355328) (hbase : base ≤ w.heap.size)
    (h : ∀ v' w', w'.ownsRow base e size v' (n + m) (xs ++ news) → w.grownBy w' v.ownBlock → (v'.ownBlock = v.ownBlock ∨ ∀ k, v'.ownBlock = some k → w.heap.size ≤ k) → wpList P ops Q rest (a.put o.dst v') w') : wpList P ops Q (o :: rest) a w :=
  wpList_plain hgd fun K hK => by
    obtain ⟨v', w', hr, h2, h3, h4⟩ := run_append_own (P := P) w base t o.type e i z size bytes ht hi hz hsize hby hzs hsz v n xs hown ad m c news hl hnews h1 h63 hbytes hbase
    have hw := app_where w base t o.type e i z size bytes ht hi hz hsize hby hzs hsz v n xs hown ad m c news hl hnews h1 h63 hbytes v' w' hr
    unfold Oper.wp execOp
    simp only [ho, resolve, invoke, builtin, Sem.run_bind, Sem.run_pure, Result.andThen_ok, List.map_toArray, List.map_cons, List.map_nil, hs, hx, hr]
    exact hK _ _ (h v' w' h2 h3 hw)
end Go.Proofs.Ytihdpkeclmpehaa
