/- Is a list of numbers sorted? The index of a label: the search by a closure. The search for a label's index. The index of a track's label at a time. Plain: a label's place, and what is seen between two times. A track's label at a time. -/
import Derived.Test.YtkabghifdedmfaaGreatDoorB3
set_option linter.unusedVariables false
set_option linter.unusedSimpArgs false
namespace Go.Proofs.YtkabghifdedmfaaGreatDoor
open Go.RowKit

theorem isNaN_c (x : Int) (w : World) (R) (hR : R (.returned (.bool false)) w) : Calls Tryz.prog 88 #[.int .i64 x] w R := by
  have HR := hide hR
  clear hR
  have h : (x != x) = false := by simp
  go_enter Tryz.func88, Tryz.ntmps88
  go_wp2
  exact HR.out
theorem less_c (x y : Int) (v : Bool) (w : World) (R) (hv : decide (x < y) = v) (hR : R (.returned (.bool v)) w) : Calls Tryz.prog 100 #[.int .i64 x, .int .i64 y] w R := by
  have HR := hide hR
  clear hR
  go_enter Tryz.func100, Tryz.ntmps100
  go_wp2_with (go_at_call 88; refine Stop.out ?_)
  refine Stop.go (isNaN_c x _ _ ?_)
  cases v with
  | true =>
    have h : x < y := of_decide_eq_true hv
    go_wp2
    exact HR.out
  | false =>
    have h : ¬ x < y := of_decide_eq_false hv
    go_wp2
    exact HR.out
/-- From an index on, no element is less than the one before it. -/
def adjP (l : List Int) (j : Nat) : Prop := ∀ (m : Nat) (x y : Int), j ≤ m → l[m]? = some x → l[m + 1]? = some y → x ≤ y
theorem quiet_dr2 {P : Program} {f : FuncId} {args : Array Value} {w : World} {a n : Nat} {v : Value} (h : Calls P f args (w.drewN (a + n)) fun e w' => e = .returned v ∧ w' = w.drewN (a + n)) :
    Calls P f args (w.drewN (a + n)) fun e w'' => e = .returned v ∧ ∃ m, w'' = w.drewN (a + m) :=
  h.mono fun _ _ ⟨he, hm⟩ => ⟨he, n, hm⟩
set_option maxHeartbeats 1000000 in
theorem sorted_c (p : Option Addr) (c : Nat) (l : List Int) (w : World) (R) (hl : l.length ≤ 1000000) (h : IntsAt .i64 w p l) (hR : ∀ v w', Dr w w' → (v = true ↔ adjP l 0) → R (.returned (.bool v)) w') : Calls Tryz.prog 85 #[.slice p l.length c] w R := by
  have HR := hide hR; have H := hide h
  clear hR h
  go_enter Tryz.func85, Tryz.ntmps85
  go_wp2
  go_loopw [3] (fun si wr => ∃ j nd : Nat, j ≤ l.length ∧ si = .int .i64 ((j : Int) - 1) ∧ Hid (adjP l (j - 1)) ∧ wr = w.drewN nd) (fun si _ => (intOf si + 1).toNat)
  case atStart => exact ⟨l.length, 0, Nat.le_refl _, rfl, hide (fun m x y hm hx hy => by have := (List.getElem?_eq_some_iff.1 hy).1; omega), rfl⟩
  case round =>
    obtain ⟨j, nd, hj, hsi, HA, rfl⟩ := hrel
    by_cases h2 : 2 ≤ j
    · obtain ⟨i, rfl⟩ : ∃ i, j = i + 2 := ⟨j - 2, by omega⟩
      obtain rfl : u3 = .int .i64 ((i + 1 : Nat) : Int) := by rw [hsi]; congr 1; omega
      clear hsi
      obtain ⟨q, hq⟩ : ∃ q, i + 1 = q := ⟨_, rfl⟩
      obtain ⟨b, o, x, rfl, hx, cx⟩ := H.out.at_ (i := q) (by omega)
      obtain ⟨_, _, y, hp, hy, cy⟩ := H.out.at_ (i := i) (by omega)
      injection hp with hp; injection hp with e1 e2
      subst e1; subst e2
      rw [hq]
      have wz : IntKind.i64.wrap ((q : Int) - 1) = (i : Int) := by rw [IntWalk.i64_in _ (by omega)]; omega
      have hqi : (q : Int) < (l.length : Int) := by omega
      have hii : (i : Int) < (l.length : Int) := by omega
      have hq0 : (0 : Int) < (q : Int) := by omega
      have Hx := hide hx; have Hy := hide hy; have Hq := hide hq
      clear hx hy hq
      by_cases t : x < y
      · have HF := hide (HR.out false)
        have hno : ¬ adjP l 0 := fun h => by
          have := h i y x (Nat.zero_le _) Hy.out (by rw [Hq.out]; exact Hx.out)
          omega
        have Hno := hide hno
        clear hno
        go_wp2
        go_quiet ((go_at_call 100; exact quiet_dr2 (less_c x y true _ _ (by simpa using t) ⟨rfl, rfl⟩)))
        go_wp2
        exact HF.out _ (by first | exact Dr.one _ _ | exact Dr.two _ _ _) ⟨(fun h => by cases h), fun h => absurd h Hno.out⟩
      · have HA2 := hide (show adjP l (i + 1 - 1) from fun m x' y' hm hx' hy' => by
          rcases Nat.lt_or_ge i m with h' | h'
          · exact HA.out m x' y' (by omega) hx' hy'
          · obtain rfl : m = i := by omega
            have h1 := Hy.out; have h2 := Hx.out
            rw [← Hq.out] at h2
            rw [hx'] at h1; rw [hy'] at h2
            injection h1 with h1; injection h2 with h2
            omega)
        go_wp2
        go_quiet ((go_at_call 100; exact quiet_dr2 (less_c x y false _ _ (by simpa using t) ⟨rfl, rfl⟩)))
        go_wp2
        go_roundw
        case rel => exact ⟨i + 1, _, by omega, by congr 1; have := Hq.out; omega, HA2, by first | rfl | exact World.drewN_drewN ..⟩
        case measure => have := Hq.out; simp [intOf]; omega
    · have HT := hide (show adjP l 0 by
        have := HA.out
        rwa [show j - 1 = 0 by omega] at this)
      rcases (by omega : j = 0 ∨ j = 1) with rfl | rfl
      · obtain rfl : u3 = .int .i64 (-1) := by rw [hsi]; rfl
        clear hsi
        go_wp2
        exact HR.out _ _ (Dr.one _ _) ⟨fun _ => HT.out, fun _ => rfl⟩
      · obtain rfl : u3 = .int .i64 0 := by rw [hsi]; rfl
        clear hsi
        go_wp2
        exact HR.out _ _ (Dr.one _ _) ⟨fun _ => HT.out, fun _ => rfl⟩
end Go.Proofs.YtkabghifdedmfaaGreatDoor

namespace Go.Proofs.YtkabghifdedmfaaGreatDoor
open Go.RowKit

/-- The boxes of a label's search: the track and the time. -/
structure LB (t : Trk) (time : Int) (g : Nat) (w : World) : Prop where
  since : w.cell? ⟨g, 7, none⟩ = some (.slice t.np t.since.length t.nc)
  time : w.cell? ⟨g + 1, 0, none⟩ = some (.int .i64 time)
  ints : IntsAt .i64 w t.np t.since
theorem LB.next {t : Trk} {time : Int} {g : Nat} {w w' : World} (h : LB t time g w) (hb : Below w.heap.size w w') : LB t time g w' := ⟨cell_later hb h.since, cell_later hb h.time, h.ints.keep (Keeps.of_below hb)⟩
set_option maxHeartbeats 1000000 in
theorem later_c (t : Trk) (time : Int) (g i : Nat) (x : Int) (v : Bool) (w : World) (R) (h : LB t time g w) (hl : t.since.length ≤ 1000000) (hx : t.since[i]? = some x) (hv : decide (time < x) = v) (hR : ∀ w', Dr w w' → R (.returned (.bool v)) w') :
    Calls Tryz.prog 102 #[.int .i64 (i : Int), .pointer (some ⟨g, 0, none⟩), .pointer (some ⟨g + 1, 0, none⟩)] w R := by
  have hil := (List.getElem?_eq_some_iff.1 hx).1
  obtain ⟨b, o, y, hp, hy, cy⟩ := h.ints.at_ hil
  have e : y = x := by rw [hx] at hy; injection hy with hy; exact hy.symm
  subst e
  have c1 := h.since; have c2 := h.time
  rw [hp] at c1
  have hii : (i : Int) < (t.since.length : Int) := by omega
  have HR := hide hR
  obtain ⟨g2, hg2⟩ : ∃ g2, g + 1 = g2 := ⟨_, rfl⟩
  rw [hg2] at c2 ⊢
  clear hR h hx hy hp hg2
  cases v with
  | true =>
    have d : decide (time < y) = true := hv
    go_enter Tryz.func102, Tryz.ntmps102
    go_wp2
    go_quiet (fail)
    go_wp2
    exact HR.out _ (Dr.one _ _)
  | false =>
    have d : decide (time < y) = false := hv
    go_enter Tryz.func102, Tryz.ntmps102
    go_wp2
    go_quiet (fail)
    go_wp2
    exact HR.out _ (Dr.one _ _)
end Go.Proofs.YtkabghifdedmfaaGreatDoor

namespace Go.Proofs.YtkabghifdedmfaaGreatDoor
open Go.RowKit

/-- What the search hands back: the first place that is later than the time, where the times ascend. -/
structure Cut (l : List Int) (time : Int) (i j : Nat) : Prop where
  le : i ≤ j
  top : j ≤ l.length
  low : i = 0 ∨ ∃ x, l[i - 1]? = some x ∧ ¬ time < x
  high : j = l.length ∨ ∃ x, l[j]? = some x ∧ time < x
set_option maxHeartbeats 1000000 in
theorem search_c (t : Trk) (time : Int) (g : Nat) (w : World) (R) (h : LB t time g w) (hl : t.since.length ≤ 1000000)
    (hR : ∀ r w', Below w.heap.size w w' → Cut t.since time r r → R (.returned (.int .i64 (r : Int))) w') :
    Calls Tryz.prog 101 #[.int .i64 (t.since.length : Int), .func (.func 102) #[] #[.pointer (some ⟨g, 0, none⟩), .pointer (some ⟨g + 1, 0, none⟩)]] w R := by
  have HR := hide hR; have H := hide h
  clear hR h
  go_enter Tryz.func101, Tryz.ntmps101
  go_wp2
  go_loopw [5, 6] (fun s5 s6 wr => ∃ i j : Nat, s5 = .int .i64 i ∧ s6 = .int .i64 j ∧ Hid (Cut t.since time i j) ∧ Hid (Below w.heap.size w wr)) (fun s5 s6 _ => (intOf s6).toNat - (intOf s5).toNat)
  case atStart => exact ⟨0, t.since.length, rfl, rfl, hide ⟨Nat.zero_le _, Nat.le_refl _, .inl rfl, .inl rfl⟩, hide (Below.refl _ _)⟩
  case round =>
    obtain ⟨i, j, rfl, rfl, HC, HB⟩ := hrel
    by_cases hlt : i < j
    · have hjt := HC.out.top
      have em : ((i : Int) + (j : Int)) / 2 = (((i + j) / 2 : Nat) : Int) := by omega
      obtain ⟨m, hm⟩ : ∃ m, (i + j) / 2 = m := ⟨_, rfl⟩
      rw [hm] at em
      have m1 : i ≤ m := by omega
      have m2 : m < j := by omega
      obtain ⟨x, hx⟩ : ∃ x, t.since[m]? = some x := ⟨_, List.getElem?_eq_getElem (by omega)⟩
      have Hx := hide hx
      clear hx
      cases hv : decide (time < x) with
      | true =>
        have HC2 := hide (show Cut t.since time i m from ⟨m1, by omega, HC.out.low, .inr ⟨x, Hx.out, of_decide_eq_true hv⟩⟩)
        have Hv := hide hv
        clear hv
        go_wp2_with (go_at_call 102; rw [em]; refine Stop.out ?_)
        refine Stop.go (later_c t time g m x true _ _ (H.out.next HB.out) hl Hx.out Hv.out ?_)
        intro w2 hd
        have HB2 := hide (bseq HB.out hd.below)
        clear hd
        go_wp2
        go_roundw
        case rel => exact ⟨i, m, rfl, rfl, HC2, HB2⟩
        case measure => simp [intOf]; omega
      | false =>
        have HC2 := hide (show Cut t.since time (m + 1) j from ⟨m2, HC.out.top, .inr ⟨x, Hx.out, of_decide_eq_false hv⟩, HC.out.high⟩)
        have Hv := hide hv
        clear hv
        go_wp2_with (go_at_call 102; rw [em]; refine Stop.out ?_)
        refine Stop.go (later_c t time g m x false _ _ (H.out.next HB.out) hl Hx.out Hv.out ?_)
        intro w2 hd
        have HB2 := hide (bseq HB.out hd.below)
        clear hd
        go_wp2
        go_roundw
        case rel => exact ⟨m + 1, j, by go_num, rfl, HC2, HB2⟩
        case measure => simp [intOf]; omega
    · obtain rfl : i = j := by have := HC.out.le; omega
      go_wp2
      exact HR.out _ _ HB.out HC.out
end Go.Proofs.YtkabghifdedmfaaGreatDoor

namespace Go.Proofs.YtkabghifdedmfaaGreatDoor
open Go.RowKit

def Trk.val (t : Trk) : Value := .agg t.cells.toArray
set_option maxHeartbeats 1000000 in
theorem labelIndex_c (t : Trk) (time : Int) (w : World) (R) (h : TrkAt w t)
    (hR : ∀ (r : Nat) w', Below w.heap.size w w' → Cut t.since time r r → R (.returned (.int .i64 ((r : Int) - 1))) w') (hl : t.since.length ≤ 1000000) :
    Calls Tryz.prog 86 #[t.val, .int .i64 time] w R := by
  have HR := hide hR
  have HI := hide h.since
  obtain ⟨w2, hw2⟩ : ∃ w2, (w.alloc (.cells t.cells.toArray 43)).alloc (.cells #[.int .i64 time] 3) = w2 := ⟨_, rfl⟩
  have HB := hide (show Below w.heap.size w w2 from hw2 ▸ balloc (balloc (Below.refl _ _) _) _)
  have HL := hide (show LB t time w.heap.size w2 from by
    refine ⟨?_, ?_, h.since.keep (Keeps.of_below HB.out)⟩
    · rw [← hw2]
      exact cell_later (balloc (Below.refl _ _) _) (show (w.alloc (.cells t.cells.toArray 43)).cell? _ = _ from cell_new.trans rfl)
    · rw [← hw2]
      simp)
  have c1 := HL.out.since
  clear hR h
  unfold Trk.val Trk.cells
  unfold Trk.cells at hw2
  go_enter Tryz.func86, Tryz.ntmps86
  go_wp2_with (go_at_call 101; refine Stop.out ?_)
  refine Stop.go (search_c t time _ _ _ HL.out hl ?_)
  intro r w3 hb hc
  have HB3 := hide (bseq HB.out hb)
  have HC := hide hc
  clear hb hc
  have htop := HC.out.top
  have h0 : (0 : Int) ≤ (r : Int) := by omega
  go_wp2
  exact HR.out _ _ HB3.out HC.out
end Go.Proofs.YtkabghifdedmfaaGreatDoor

namespace Go.Proofs.YtkabghifdedmfaaGreatDoor

theorem AscI.le {l : List Int} (h : AscI l) {i j : Nat} {x y : Int} (hij : i ≤ j) (hx : l[i]? = some x) (hy : l[j]? = some y) : x ≤ y := by
  obtain ⟨d, rfl⟩ : ∃ d, j = i + d := ⟨j - i, by omega⟩
  clear hij
  induction d generalizing y with
  | zero => rw [Nat.add_zero, hx] at hy; injection hy with hy; omega
  | succ d ih =>
    have hlt := (List.getElem?_eq_some_iff.1 hy).1
    have hz : l[i + d]? = some l[i + d] := List.getElem?_eq_getElem (by omega)
    have h1 := ih hz
    have h2 := h _ _ _ hz (by rw [show i + d + 1 = i + (d + 1) by omega]; exact hy)
    omega
theorem takeWhile_at {α : Type} (p : α → Bool) : ∀ (l : List α), (∀ i x, i < (l.takeWhile p).length → l[i]? = some x → p x = true) ∧ (∀ x, l[(l.takeWhile p).length]? = some x → p x = false) ∧ (l.takeWhile p).length ≤ l.length
  | [] => ⟨by simp, by simp, by simp⟩
  | y :: l => by
    obtain ⟨h1, h2, h3⟩ := takeWhile_at p l
    by_cases hy : p y = true
    · rw [List.takeWhile_cons, if_pos hy]
      refine ⟨fun i x hi hx => ?_, fun x hx => ?_, by simp only [List.length_cons]; omega⟩
      · cases i with
        | zero => simp at hx; subst hx; exact hy
        | succ i => exact h1 i x (by simp only [List.length_cons] at hi; omega) (by simpa using hx)
      · exact h2 x (by simpa using hx)
    · rw [List.takeWhile_cons, if_neg hy]
      refine ⟨fun i x hi hx => by simp at hi, fun x hx => ?_, by simp⟩
      simp at hx; subst hx; simpa using hy
theorem cutN_le (l : List Int) (t : Int) : cutN l t ≤ l.length := (takeWhile_at _ l).2.2
theorem cutN_low {l : List Int} {t : Int} {i : Nat} {x : Int} (hi : i < cutN l t) (hx : l[i]? = some x) : x ≤ t := by
  have := (takeWhile_at (fun x : Int => decide (x ≤ t)) l).1 i x hi hx; simpa using this
theorem cutN_high {l : List Int} {t : Int} {x : Int} (hx : l[cutN l t]? = some x) : t < x := by
  have := (takeWhile_at (fun x : Int => decide (x ≤ t)) l).2.1 x hx; simpa using this
theorem cut_unique {l : List Int} {t : Int} {r : Nat} (h : AscI l) (hr : r ≤ l.length) (hl : r = 0 ∨ ∃ x, l[r - 1]? = some x ∧ ¬ t < x) (hh : r = l.length ∨ ∃ x, l[r]? = some x ∧ t < x) : cutN l t = r := by
  have hc := cutN_le l t
  rcases Nat.lt_trichotomy (cutN l t) r with hlt | he | hgt
  · rcases hl with h0 | ⟨x, hx, hn⟩
    · omega
    · have hz : l[cutN l t]? = some l[cutN l t] := List.getElem?_eq_getElem (by omega)
      have h1 := cutN_high hz
      have h2 := h.le (show cutN l t ≤ r - 1 by omega) hz hx
      omega
  · exact he
  · rcases hh with h0 | ⟨x, hx, hn⟩
    · omega
    · have := cutN_low hgt hx
      omega
theorem cutN_mono {l : List Int} {t t' : Int} (h : t ≤ t') : cutN l t ≤ cutN l t' := by
  have hc := cutN_le l t
  rcases Nat.lt_or_ge (cutN l t') (cutN l t) with hlt | hge
  · have hz : l[cutN l t']? = some l[cutN l t'] := List.getElem?_eq_getElem (by omega)
    have h1 := cutN_high hz
    have h2 := cutN_low hlt hz
    omega
  · exact hge
/-- A minute at which a track has a label, between two minutes. -/
theorem near_iff {t : Tk} (h : AscI t.since) (hn : t.since.length = t.label.length) {lo hi : Int} (hle : lo ≤ hi) (s : ByteArray) :
    (∃ m, lo ≤ m ∧ m ≤ hi ∧ labelP t m = s) ↔ labelP t lo = s ∨ ∃ (i : Nat) (x : Int), cutN t.since lo ≤ i ∧ t.since[i]? = some x ∧ x ≤ hi ∧ (∀ y, t.since[i + 1]? = some y → y ≠ x) ∧ t.label[i]? = some s := by
  constructor
  · rintro ⟨m, h1, h2, h3⟩
    rcases Nat.eq_or_lt_of_le (cutN_mono (l := t.since) h1) with he | hlt
    · left
      rw [← h3]; unfold labelP; rw [he]
    · right
      obtain ⟨i, hi'⟩ : ∃ i, cutN t.since m = i + 1 := ⟨cutN t.since m - 1, by omega⟩
      have hcl := cutN_le t.since m
      have hx : t.since[i]? = some t.since[i] := List.getElem?_eq_getElem (by omega)
      have hx2 := cutN_low (l := t.since) (t := m) (i := i) (by omega) hx
      have hb : t.label[i]? = some t.label[i] := List.getElem?_eq_getElem (by omega)
      refine ⟨i, _, by omega, hx, by omega, fun y hy e => ?_, ?_⟩
      · have := cutN_high (l := t.since) (t := m) (x := y) (by rw [hi']; exact hy)
        omega
      · unfold labelP at h3
        rw [hi'] at h3
        simp only [hb, Option.getD_some] at h3
        rw [hb, h3]
  · rintro (h1 | ⟨i, x, h1, h2, h3, h4, h5⟩)
    · exact ⟨lo, by omega, hle, h1⟩
    · have hil := (List.getElem?_eq_some_iff.1 h2).1
      have hlo : lo < x := by
        have hz : t.since[cutN t.since lo]? = some t.since[cutN t.since lo] := List.getElem?_eq_getElem (by omega)
        have := cutN_high hz
        have := h.le h1 hz h2
        omega
      have hc : cutN t.since x = i + 1 := by
        refine cut_unique h (by omega) (.inr ⟨x, by simpa using h2, by omega⟩) ?_
        rcases Nat.lt_or_ge (i + 1) t.since.length with hlt | hge
        · right
          have hz : t.since[i + 1]? = some t.since[i + 1] := List.getElem?_eq_getElem hlt
          have := h4 _ hz
          have := h.le (show i ≤ i + 1 by omega) h2 hz
          exact ⟨_, hz, by omega⟩
        · left; omega
      refine ⟨x, by omega, h3, ?_⟩
      unfold labelP
      rw [hc]
      simp only [h5, Option.getD_some]
theorem labelP_of {t : Tk} {time : Int} {r : Nat} (h : AscI t.since) (hr : r ≤ t.since.length) (hl : r = 0 ∨ ∃ x, t.since[r - 1]? = some x ∧ ¬ time < x) (hh : r = t.since.length ∨ ∃ x, t.since[r]? = some x ∧ time < x) :
    labelP t time = if r = 0 then ⟨#[]⟩ else (t.label[r - 1]?).getD ⟨#[]⟩ := by
  unfold labelP
  rw [cut_unique h hr hl hh]
  cases r <;> simp
end Go.Proofs.YtkabghifdedmfaaGreatDoor

namespace Go.Proofs.YtkabghifdedmfaaGreatDoor
open Go.RowKit

theorem Cut.label {t : Trk} {time : Int} {r : Nat} (h : Cut t.since time r r) (ha : AscI t.since) : labelP t.tk time = if r = 0 then ⟨#[]⟩ else (t.label[r - 1]?).getD ⟨#[]⟩ :=
  labelP_of (t := t.tk) ha h.top h.low h.high
theorem Cut.cut {t : Trk} {time : Int} {r : Nat} (h : Cut t.since time r r) (ha : AscI t.since) : cutN t.since time = r := cut_unique ha h.top h.low h.high
set_option maxHeartbeats 1000000 in
theorem labelAt_c (t : Trk) (time : Int) (w : World) (R) (h : TrkAt w t) (ha : AscI t.since) (hn : t.since.length = t.label.length) (hl : t.since.length ≤ 1000000)
    (hR : ∀ w', Below w.heap.size w w' → R (.returned (.string (labelP t.tk time))) w') : Calls Tryz.prog 52 #[t.val, .int .i64 time] w R := by
  have HR := hide hR
  have H := hide h; have HA := hide ha; have HN := hide hn
  obtain ⟨w1, hw1⟩ : ∃ w1, w.alloc (.cells t.cells.toArray 43) = w1 := ⟨_, rfl⟩
  have HB1 := hide (show Below w.heap.size w w1 from hw1 ▸ balloc (Below.refl _ _) _)
  have c8 : w1.cell? ⟨w.heap.size, 8, none⟩ = some (.slice t.lp t.label.length t.lc) := by rw [← hw1]; exact cell_new.trans rfl
  clear hR h ha hn
  have hv : Hid (Trk.val t = .agg #[.string t.label0, .int .i64 t.from0, .int .i64 t.to0, .int .i64 t.class0, .int .i64 t.accept, .slice t.sp t.stops.length t.sc, .bool t.lost, .slice t.np t.since.length t.nc, .slice t.lp t.label.length t.lc, .slice t.ep t.seals.length t.ec]) := hide rfl
  rw [hv.out]
  unfold Trk.cells at hw1
  have HW := hide hw1
  clear hw1 c8
  go_enter Tryz.func52, Tryz.ntmps52
  go_wp2_with (go_at_call 86; rw [← hv.out, HW.out]; refine Stop.out ?_)
  refine Stop.go (labelIndex_c t time _ _ (H.out.keep (Keeps.of_below HB1.out)) ?_ hl)
  intro r w2 hb hc
  have HB := hide (bseq HB1.out hb)
  have HL := hide (hc.label HA.out)
  have c8 : w1.cell? ⟨w.heap.size, 8, none⟩ = some (.slice t.lp t.label.length t.lc) := by rw [← HW.out]; exact cell_new.trans rfl
  have d8 := cell_later hb c8
  have htop := hc.top
  clear hb hc c8
  cases r with
  | zero =>
    have HR1 := hide (HR.out w2 HB.out)
    rw [HL.out, if_pos rfl] at HR1
    rw [show (((0 : Nat) : Int) - 1) = -1 by rfl]
    clear htop
    go_wp2
    exact HR1.out
  | succ i =>
    obtain ⟨b, o, s, hp, hx, hcs, hsz⟩ := (H.out.keep (Keeps.of_below HB.out)).label.at_ (i := i) (by rw [← HN.out]; exact htop)
    have HR1 := hide (HR.out w2 HB.out)
    rw [HL.out, if_neg (by omega), Nat.add_sub_cancel, hx, Option.getD_some] at HR1
    rw [show (((i + 1 : Nat) : Int) - 1) = (i : Int) by omega]
    rw [hp] at d8
    have hil : (i : Int) < (t.label.length : Int) := by have := HN.out; omega
    clear hp hx htop
    go_wp2
    exact HR1.out
end Go.Proofs.YtkabghifdedmfaaGreatDoor
