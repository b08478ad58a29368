/- Small functions of True. The reference's scanner of an office, label of a track, and comparisons. The reference's comparisons of records, and its test of tracks. The laws' test of their arguments, and their examples. -/
import Derived.Test.YtihdpkeclmpehaaA3
import Derived.Test.YtihdpkeclmpehaaA5
import Derived.Test.YtihdpkeclmpehaaA1
import Derived.Test.YtihdpkeclmpehaaA2
import Derived.Deep.RegionHeld3
set_option linter.unusedVariables false
set_option linter.unusedSimpArgs false
namespace Go.Proofs.Ytihdpkeclmpehaa
open Go.RowKit

def hasB (o lo hi office time : Int) : Bool := decide (office = o) && (decide (lo ≤ time) && decide (time ≤ hi))
theorem hasB_iff {o lo hi office time : Int} : hasB o lo hi office time = true ↔ HasP o lo hi office time := by unfold hasB HasP; simp
set_option maxHeartbeats 1000000 in
theorem has_c (o lo hi office time : Int) (w : World) (R) (hR : R (.returned (.bool (hasB o lo hi office time))) (w.alloc (.cells #[.int .i64 o, .int .i64 lo, .int .i64 hi] 73))) : Calls Try.prog 35 #[.agg #[.int .i64 o, .int .i64 lo, .int .i64 hi], .int .i64 office, .int .i64 time] w R := by
  unfold hasB at hR
  have HR := hide hR; clear hR
  by_cases h1 : office = o
  · subst h1
    by_cases h2 : lo ≤ time
    · by_cases h3 : time ≤ hi
      · go_enter Try.func35, Try.ntmps35
        go_wp2
        simpa [h2, h3] using HR.out
      · have h3' : decide (time ≤ hi) = false := by simpa using h3
        rw [h3'] at HR
        go_enter Try.func35, Try.ntmps35
        go_wp2
        simpa [h2] using HR.out
    · have h2' : decide (lo ≤ time) = false := by simpa using h2
      go_enter Try.func35, Try.ntmps35
      go_wp2
      simpa [h2'] using HR.out
  · have h1' : (office == o) = false := by simpa using h1
    have h1'' : decide (office = o) = false := by simpa using h1
    go_enter Try.func35, Try.ntmps35
    go_wp2
    simpa [h1''] using HR.out

theorem take_eq_iff {α : Type} {a b : List α} (hl : a.length = b.length) (h : a.take a.length = b.take a.length) : a = b := by
  rw [List.take_length, hl, List.take_length] at h; exact h
set_option maxHeartbeats 2000000 in
theorem strsEq_c (p q : Option Addr) (c d n m : Nat) (a b : List ByteArray) (w : World) (R) (hn : a.length = n) (hm : b.length = m) (hl : n ≤ maxLen) (h : StrsAt w p a) (k : StrsAt w q b) (hR : ∀ w', Dr w w' → R (.returned (.bool (decide (a = b)))) w') :
    Calls Try.prog 36 #[.slice p n c, .slice q m d] w R := by
  have hM : maxLen = 4611686018427387904 ∨ True := .inr trivial
  by_cases hnm : n = m
  rotate_left
  · have hf : decide (a = b) = false := by
      simp only [decide_eq_false_iff_not]; rintro rfl; exact hnm (hn.symm.trans hm)
    rw [hf] at hR
    have HR := hide (hR w (Dr.refl w))
    have hne : ((n : Int) != (m : Int)) = true := by simp; omega
    clear hR h k hnm hn hm hf
    go_enter Try.func36, Try.ntmps36
    go_wp2
    exact HR.out
  subst hnm
  have HR := hide hR; have H := hide h; have HK := hide k; have Hn := hide hn; have Hm := hide hm
  clear hR h k hn hm hM
  unfold maxLen at hl
  go_enter Try.func36, Try.ntmps36
  go_wp2
  go_loopw [13] (fun si wr => ∃ i nd : Nat, i ≤ n ∧ si = .int .i64 i ∧ Hid (a.take i = b.take i) ∧ wr = w.drewN nd) (fun si _ => n - (intOf si).toNat)
  case atStart => exact ⟨0, 0, Nat.zero_le _, rfl, hide (by simp), rfl⟩
  case round =>
    obtain ⟨i, nd, hi, rfl, HE, rfl⟩ := hrel
    by_cases hlt : i < n
    · obtain ⟨b1, o1, x, rfl, hx, cx, hxs⟩ := H.out.at_ (i := i) (by rw [Hn.out]; exact hlt)
      obtain ⟨b2, o2, y, rfl, hy, cy, hys⟩ := HK.out.at_ (i := i) (by rw [Hm.out]; exact hlt)
      have Hx := hide hx; have Hy := hide hy
      have hiI : (i : Int) < (n : Int) := by omega
      clear hx hy
      by_cases hxy : x = y
      · have heq := str_eq hxy
        have HE2 := hide (show a.take (i + 1) = b.take (i + 1) by rw [List.take_add_one, List.take_add_one, HE.out, Hx.out, Hy.out, hxy])
        clear hxy
        go_wp2
        go_quiet (fail)
        go_wp2
        go_roundw
        case rel => exact ⟨i + 1, _, by omega, by go_num, HE2, by first | rfl | exact World.drewN_drewN ..⟩
        case measure => simp [intOf]; omega
      · have heq := str_ne hxy
        have hf : decide (a = b) = false := by
          simp only [decide_eq_false_iff_not]; rintro rfl
          have h1 := Hx.out; rw [Hy.out] at h1; injection h1 with h1; exact hxy h1.symm
        have HF := hide (fun w' hd => HR.out w' hd)
        rw [hf] at HF
        clear hxy hf
        go_wp2
        go_quiet (fail)
        go_wp2
        exact HF.out _ (by first | exact Dr.one _ _ | exact Dr.two _ _ _)
    · obtain rfl : i = n := by omega
      have ht : decide (a = b) = true := by
        simp only [decide_eq_true_eq]
        refine take_eq_iff (by rw [Hn.out, Hm.out]) ?_
        rw [Hn.out]; exact HE.out
      have HF := hide (fun w' hd => HR.out w' hd)
      rw [ht] at HF
      clear ht
      go_wp2
      exact HF.out _ (Dr.one _ _)

set_option maxHeartbeats 1000000 in
theorem seen_c (office low high : Int) (bw br : Nat) (t : Trk) (label : ByteArray) (w : World) (R) (h : TrkAt w t) (hk : TkOk t.tk) (c0 : w.cell? ⟨bw, 0, none⟩ = some (.int .i64 office)) (c1 : w.cell? ⟨bw, 1, none⟩ = some (.int .i64 low)) (c2 : w.cell? ⟨bw, 2, none⟩ = some (.int .i64 high))
    (c4 : w.cell? ⟨br, 4, none⟩ = some (.string label)) (hR : ∀ b w', Below w.heap.size w w' → (b = true ↔ SeesP office low high t.tk label) → R (.returned (.bool b)) w') :
    Calls Try.prog 31 #[t.val, .pointer (some ⟨bw, 0, none⟩), .pointer (some ⟨br, 0, none⟩)] w R := by
  have HR := hide hR; have H := hide h; have Hk := hide hk
  obtain ⟨w1, hw1⟩ : ∃ w1, w.alloc (.cells t.cells.toArray 40) = w1 := ⟨_, rfl⟩
  have HB1 := hide (show Below w.heap.size w w1 from hw1 ▸ balloc (Below.refl _ _) _)
  have d0 := cell_later HB1.out c0; have d1 := cell_later HB1.out c1; have d2 := cell_later HB1.out c2; have d4 := cell_later HB1.out c4
  have hbk : Blk w1 w.heap.size t.cells.toArray 40 := hw1 ▸ Blk.new _ _ _
  obtain ⟨z0, z1, z2, z3, z4, z5, z6, z7, z8, z9⟩ := box10 hbk
  have hv := hide t.val_eq
  have HW := hw1
  unfold Trk.cells at HW
  clear hR h hk hw1 c0 c1 c2 c4 hbk
  rw [hv.out]
  go_enter Try.func31, Try.ntmps31
  go_wp2_with (go_at_call 32; rw [← hv.out]; refine Stop.out ?_)
  refine Stop.go (sees_c office low high t label _ _ (H.out.keep (Keeps.of_below HB1.out)) Hk.out ?_)
  intro b w2 hb hiff
  have HF := hide (HR.out b w2 (bseq HB1.out hb) hiff)
  clear hb hiff
  go_wp2
  exact HF.out
set_option maxHeartbeats 1000000 in
theorem idxSeen_c (office low high : Int) (bw br : Nat) (label : ByteArray) (p : Option Addr) (c n : Nat) (l : List Trk) (w : World) (R) (hn : l.length = n) (hl : n ≤ 1000) (h : TrksAt w p l) (hk : ∀ t ∈ l, TkOk t.tk) (c0 : w.cell? ⟨bw, 0, none⟩ = some (.int .i64 office)) (c1 : w.cell? ⟨bw, 1, none⟩ = some (.int .i64 low)) (c2 : w.cell? ⟨bw, 2, none⟩ = some (.int .i64 high))
    (c4 : w.cell? ⟨br, 4, none⟩ = some (.string label)) (hR : ∀ r w', Below w.heap.size w w' → (0 ≤ r ↔ ∃ t ∈ l, SeesP office low high t.tk label) → R (.returned (.int .i64 r)) w') :
    Calls Try.prog 58 #[.slice p n c, .func (.func 31) #[] #[.pointer (some ⟨bw, 0, none⟩), .pointer (some ⟨br, 0, none⟩)]] w R := by
  have HR := hide hR; have H := hide h; have Hk := hide hk; have Hn := hide hn
  have HC := hide (And.intro c0 (And.intro c1 (And.intro c2 c4)))
  clear hR h hk hn c0 c1 c2 c4
  go_enter Try.func58, Try.ntmps58
  go_wp2
  go_loopw [8] (fun si wr => ∃ k : Nat, k ≤ n ∧ si = .int .i64 k ∧ Hid (∀ t ∈ l.take k, ¬ SeesP office low high t.tk label) ∧ Hid (Below w.heap.size w wr)) (fun si _ => n - (intOf si).toNat)
  case atStart => exact ⟨0, Nat.zero_le _, rfl, hide (by simp), hide (Below.refl _ _)⟩
  case round =>
    obtain ⟨k, hk, rfl, HP, HB⟩ := hrel
    by_cases hlt : k < n
    · obtain ⟨b, o, t, rfl, hx, ht, x0, x1, x2, x3, x4, x5, x6, x7, x8, x9⟩ := (H.out.keep (Keeps.of_below HB.out)).trk (i := k) (by rw [Hn.out]; exact hlt)
      have Ht := hide ht
      have Hok := hide (Hk.out t (List.mem_of_getElem? hx))
      have Hx := hide hx
      have hv := hide t.val_eq
      clear hx ht
      go_wp2_with (go_at_call 31; rw [← hv.out]; refine Stop.out ?_)
      refine Stop.go (seen_c office low high bw br t label _ _ Ht.out Hok.out (cell_later HB.out HC.out.1) (cell_later HB.out HC.out.2.1) (cell_later HB.out HC.out.2.2.1) (cell_later HB.out HC.out.2.2.2) ?_)
      intro v w2 hb hiff
      have HB2 := hide (bseq HB.out hb)
      cases v with
      | true =>
        have HF := hide (HR.out (k : Int) w2 HB2.out ⟨fun _ => ⟨t, List.mem_of_getElem? Hx.out, hiff.1 rfl⟩, fun _ => by omega⟩)
        clear hb hiff x0 x1 x2 x3 x4 x5 x6 x7 x8 x9
        go_wp2
        exact HF.out
      | false =>
        have HP2 := hide (show ∀ t ∈ l.take (k + 1), ¬ SeesP office low high t.tk label from fun u hu => by
          rw [List.take_add_one, Hx.out] at hu
          rcases List.mem_append.1 hu with h1 | h1
          · exact HP.out u h1
          · simp at h1; rw [h1]; intro hs; have := hiff.2 hs; cases this)
        clear hb hiff x0 x1 x2 x3 x4 x5 x6 x7 x8 x9
        go_wp2
        go_roundw
        case rel => exact ⟨k + 1, by omega, by go_num, HP2, HB2⟩
        case measure => simp [intOf]; omega
    · obtain rfl : k = n := by omega
      have HF := hide (HR.out (-1) wr HB.out ⟨fun e => absurd e (by omega), fun ⟨t, ht, hs⟩ => absurd hs (HP.out t (by rw [List.take_of_length_le (by rw [Hn.out]; exact Nat.le_refl _)]; exact ht))⟩)
      go_wp2
      exact HF.out
theorem anySeen_c (office low high : Int) (bw br : Nat) (label : ByteArray) (p : Option Addr) (c n : Nat) (l : List Trk) (w : World) (R) (hn : l.length = n) (hl : n ≤ 1000) (h : TrksAt w p l) (hk : ∀ t ∈ l, TkOk t.tk) (c0 : w.cell? ⟨bw, 0, none⟩ = some (.int .i64 office)) (c1 : w.cell? ⟨bw, 1, none⟩ = some (.int .i64 low)) (c2 : w.cell? ⟨bw, 2, none⟩ = some (.int .i64 high))
    (c4 : w.cell? ⟨br, 4, none⟩ = some (.string label)) (hR : ∀ b w', Below w.heap.size w w' → (b = true ↔ ∃ t ∈ l, SeesP office low high t.tk label) → R (.returned (.bool b)) w') :
    Calls Try.prog 33 #[.slice p n c, .func (.func 31) #[] #[.pointer (some ⟨bw, 0, none⟩), .pointer (some ⟨br, 0, none⟩)]] w R := by
  have HR := hide hR; have H := hide h; have Hk := hide hk; have Hn := hide hn
  have HC := hide (And.intro c0 (And.intro c1 (And.intro c2 c4)))
  clear hR h hk hn c0 c1 c2 c4
  go_enter Try.func33, Try.ntmps33
  go_wp2_with (go_at_call 58; refine Stop.out ?_)
  refine Stop.go (idxSeen_c office low high bw br label p c n l _ _ Hn.out hl H.out Hk.out HC.out.1 HC.out.2.1 HC.out.2.2.1 HC.out.2.2.2 ?_)
  intro r w2 hb hr
  by_cases h0 : 0 ≤ r
  · have d1 : decide (0 ≤ r) = true := by simpa using h0
    have HF := hide (HR.out true w2 hb ⟨fun _ => hr.1 h0, fun _ => rfl⟩)
    clear hr hb h0
    go_wp2
    exact HF.out
  · have d1 : decide (0 ≤ r) = false := by simpa using h0
    have HF := hide (HR.out false w2 hb ⟨(fun e => by cases e), fun e => absurd (hr.2 e) h0⟩)
    clear hr hb h0
    go_wp2
    exact HF.out
end Go.Proofs.Ytihdpkeclmpehaa

namespace Go.Proofs.Ytihdpkeclmpehaa
open Go.RowKit

def ofP (l : List Scn) (office : Int) : Int := match scanP l office with
  | some i => ((i : Nat) : Int)
  | none => -1
theorem scanP_iff {l : List Scn} {o : Int} {i : Nat} : scanP l o = some i ↔ (∃ x, l[i]? = some x ∧ x.office = o) ∧ ∀ x ∈ l.take i, x.office ≠ o := by
  unfold scanP
  rw [List.findIdx?_eq_some_iff_getElem]
  constructor
  · rintro ⟨h, h1, h2⟩
    refine ⟨⟨l[i], List.getElem?_eq_getElem h, by simpa using h1⟩, fun x hx => ?_⟩
    obtain ⟨j, hj⟩ := List.getElem?_of_mem hx
    rw [List.getElem?_take] at hj
    split at hj
    · rename_i hji
      obtain ⟨h3, h4⟩ := List.getElem?_eq_some_iff.1 hj
      have := h2 j hji
      rw [h4] at this
      simpa using this
    · cases hj
  · rintro ⟨⟨x, hx, ho⟩, h2⟩
    obtain ⟨h3, h4⟩ := List.getElem?_eq_some_iff.1 hx
    refine ⟨h3, by rw [h4]; simpa using ho, fun j hj => ?_⟩
    have := h2 l[j] (List.mem_iff_getElem?.2 ⟨j, by rw [List.getElem?_take, if_pos hj, List.getElem?_eq_getElem (by omega)]⟩)
    simpa using this
theorem scanP_none {l : List Scn} {o : Int} (h : ∀ x ∈ l, x.office ≠ o) : scanP l o = none := by
  unfold scanP
  rw [List.findIdx?_eq_none_iff]
  intro x hx
  simpa using h x hx
set_option maxHeartbeats 1000000 in
theorem of_c (sp : Option Addr) (n cap : Nat) (sl : List Scn) (office : Int) (w : World) (R) (hn : n ≤ maxLen) (hl : sl.length = n) (h : ScnsAt w sp sl)
    (hR : R (.returned (.int .i64 (ofP sl office))) w) : Calls Try.prog 14 #[.slice sp n cap, .int .i64 office] w R := by
  have HR := hide hR; have H := hide h; have HL := hide hl
  clear hR h hl
  unfold maxLen at hn
  go_enter Try.func14, Try.ntmps14
  go_wp2
  go_loopw [5] (fun si wr => ∃ i : Nat, i ≤ n ∧ si = .int .i64 i ∧ Hid (∀ t ∈ sl.take i, t.office ≠ office) ∧ wr = w) (fun si _ => n - (intOf si).toNat)
  case atStart => exact ⟨0, Nat.zero_le _, rfl, hide (by simp), rfl⟩
  case round =>
    obtain ⟨i, hi, rfl, HA, rfl⟩ := hrel
    by_cases hlt : i < n
    · obtain ⟨b, o, x, rfl, hx, x0, x1, x2⟩ := H.out.scn (i := i) (by rw [HL.out]; exact hlt)
      have Hx := hide hx
      clear hx
      by_cases he : x.office = office
      · have q1 : (x.office == office) = true := by simp [he]
        have HF := HR
        rw [show ofP sl office = (i : Int) by unfold ofP; rw [scanP_iff.2 ⟨⟨x, Hx.out, he⟩, HA.out⟩]] at HF
        clear he
        go_wp2
        exact HF.out
      · have q1 : (x.office == office) = false := by simp [he]
        have HA2 := hide (take_all HA.out Hx.out he)
        clear he
        go_wp2
        go_roundw
        case rel => exact ⟨i + 1, by omega, by go_num, HA2, trivial⟩
        case measure => simp [intOf]; omega
    · obtain rfl : i = n := by omega
      have HF := HR
      rw [show ofP sl office = -1 by unfold ofP; rw [scanP_none (by have := HA.out; rwa [List.take_of_length_le (by rw [HL.out]; exact Nat.le_refl _)] at this)]] at HF
      go_wp2
      exact HF.out
def labTo (t : Trk) (c i : Nat) : ByteArray := match min i c with
  | 0 => ⟨#[]⟩
  | k + 1 => (t.label[k]?).getD ⟨#[]⟩
set_option maxHeartbeats 1000000 in
theorem label_c (t : Trk) (time : Int) (w : World) (R) (h : TrkAt w t) (hk : TkOk t.tk) (hR : ∀ w', Below w.heap.size w w' → R (.returned (.string (labelP t.tk time))) w') : Calls Try.prog 16 #[t.val, .int .i64 time] w R := by
  have HR := hide hR; have H := hide h; have HK := hide hk
  obtain ⟨S, hS⟩ : ∃ S, t.since.length = S := ⟨_, rfl⟩
  have HS := hide hS
  have HL : Hid (t.label.length = S) := hide (hk.labels.symm.trans hS)
  have hS10 : S ≤ 10 := by rw [← hS]; exact hk.few.2
  have hv : Hid (Trk.val t = .agg #[.string t.label0, .int .i64 t.from0, .int .i64 t.to0, .int .i64 t.class0, .int .i64 t.accept, .slice t.sp t.stops.length t.sc, .bool t.lost, .slice t.np S t.nc, .slice t.lp S t.lc, .slice t.ep t.seals.length t.ec]) := hide (by rw [← hS]; unfold Trk.val; rw [show t.since.length = t.label.length from hk.labels]; unfold Trk.cells; rw [show t.since.length = t.label.length from hk.labels])
  rw [hv.out]
  obtain ⟨w1, hw1⟩ : ∃ w1, w.alloc (.cells #[.string t.label0, .int .i64 t.from0, .int .i64 t.to0, .int .i64 t.class0, .int .i64 t.accept, .slice t.sp t.stops.length t.sc, .bool t.lost, .slice t.np S t.nc, .slice t.lp S t.lc, .slice t.ep t.seals.length t.ec] 40) = w1 := ⟨_, rfl⟩
  have HB1 : Hid (Below w.heap.size w w1) := hide (hw1 ▸ balloc (Below.refl _ _) _)
  have HW1 := hide hw1
  obtain ⟨c, hc⟩ : ∃ c, cutN t.since time = c := ⟨_, rfl⟩
  have HC := hide hc
  have hcS : c ≤ S := by rw [← hc, ← hS]; exact cutN_le _ _
  have HLo := hide (show ∀ (i : Nat) (x : Int), t.since[i]? = some x → (i < c ↔ x ≤ time) from fun i x hx => by
    constructor
    · intro hi; exact cutN_low (by rw [hc]; exact hi) hx
    · intro hx2
      apply Classical.byContradiction
      intro hi
      have hil := (List.getElem?_eq_some_iff.1 hx).1
      have h1 : t.since[cutN t.since time]? = some t.since[cutN t.since time] := List.getElem?_eq_getElem (by omega)
      have h2 := cutN_high h1
      have h3 := AscI.le hk.asc (i := cutN t.since time) (j := i) (by omega) h1 hx
      omega)
  clear hR h hk hw1 hS hc
  have c7 : w1.cell? ⟨w.heap.size, 7, none⟩ = some (.slice t.np S t.nc) := by rw [← HW1.out]; exact cell_new.trans rfl
  have c8 : w1.cell? ⟨w.heap.size, 8, none⟩ = some (.slice t.lp S t.lc) := by rw [← HW1.out]; exact cell_new.trans rfl
  go_enter Try.func16, Try.ntmps16
  go_wp2
  go_loopw [5, 6] (fun sl si wr => ∃ i : Nat, i ≤ S ∧ si = .int .i64 i ∧ sl = .string (labTo t c i) ∧ wr = w1) (fun _ si _ => S - (intOf si).toNat)
  case atStart => exact ⟨0, Nat.zero_le _, rfl, by unfold labTo; rw [Nat.zero_min], HW1.out⟩
  case round =>
    obtain ⟨i, hi, rfl, rfl, rfl⟩ := hrel
    by_cases hlt : i < S
    · obtain ⟨b, o, x, hp, hx, x0⟩ := (H.out.since.keep (Keeps.of_below HB1.out)).at_ (i := i) (by rw [HS.out]; exact hlt)
      have Hx := hide hx
      rw [hp] at c7
      clear hx hp
      by_cases he : x ≤ time
      · obtain ⟨b2, o2, y, hp2, hy, y0, _⟩ := (H.out.label.keep (Keeps.of_below HB1.out)).at_ (i := i) (by rw [HL.out]; exact hlt)
        have hic := (HLo.out i x Hx.out).2 he
        have HT := hide (show labTo t c (i + 1) = y by unfold labTo; rw [Nat.min_eq_left (by omega)]; show (t.label[i]?).getD _ = _; rw [hy]; rfl)
        rw [hp2] at c8
        clear hy hp2 hic
        go_wp2
        go_roundw
        case rel => exact ⟨i + 1, by omega, by go_num, by rw [HT.out], trivial⟩
        case measure => simp [intOf]; omega
      · have hic : ¬ i < c := fun e => he ((HLo.out i x Hx.out).1 e)
        have HT := hide (show labTo t c (i + 1) = labTo t c i by unfold labTo; rw [Nat.min_eq_right (by omega), Nat.min_eq_right (by omega)])
        clear hic
        go_wp2
        go_roundw
        case rel => exact ⟨i + 1, by omega, by go_num, by rw [HT.out], trivial⟩
        case measure => simp [intOf]; omega
    · obtain rfl : i = S := by omega
      have HF := hide (HR.out _ HB1.out)
      rw [show labelP t.tk time = labTo t c i by unfold labelP labTo; rw [show cutN t.tk.since time = c from HC.out, Nat.min_eq_right hcS]; rfl] at HF
      go_wp2
      exact HF.out
end Go.Proofs.Ytihdpkeclmpehaa

namespace Go.Proofs.Ytihdpkeclmpehaa
open Go.RowKit

set_option maxHeartbeats 1000000 in
theorem strs59_c (p q : Option Addr) (c d n m : Nat) (a b : List ByteArray) (w : World) (R) (hn : a.length = n) (hm : b.length = m) (hl : n ≤ maxLen) (h : StrsAt w p a) (k : StrsAt w q b) (hR : ∀ w', Dr w w' → R (.returned (.bool (decide (a = b)))) w') :
    Calls Try.prog 59 #[.slice p n c, .slice q m d] w R := by
  have hM : maxLen = 4611686018427387904 ∨ True := .inr trivial
  by_cases hnm : n = m
  rotate_left
  · have hf : decide (a = b) = false := by
      simp only [decide_eq_false_iff_not]; rintro rfl; exact hnm (hn.symm.trans hm)
    rw [hf] at hR
    have HR := hide (hR w (Dr.refl w))
    have hne : ((n : Int) != (m : Int)) = true := by simp; omega
    clear hR h k hnm hn hm hf
    go_enter Try.func59, Try.ntmps59
    go_wp2
    exact HR.out
  subst hnm
  have HR := hide hR; have H := hide h; have HK := hide k; have Hn := hide hn; have Hm := hide hm
  clear hR h k hn hm hM
  unfold maxLen at hl
  go_enter Try.func59, Try.ntmps59
  go_wp2
  go_loopw [5] (fun si wr => ∃ i nd : Nat, i ≤ n ∧ si = .int .i64 i ∧ Hid (a.take i = b.take i) ∧ wr = w.drewN nd) (fun si _ => n - (intOf si).toNat)
  case atStart => exact ⟨0, 0, Nat.zero_le _, rfl, hide (by simp), rfl⟩
  case round =>
    obtain ⟨i, nd, hi, rfl, HE, rfl⟩ := hrel
    by_cases hlt : i < n
    · obtain ⟨b1, o1, x, rfl, hx, cx, hxs⟩ := H.out.at_ (i := i) (by rw [Hn.out]; exact hlt)
      obtain ⟨b2, o2, y, rfl, hy, cy, hys⟩ := HK.out.at_ (i := i) (by rw [Hm.out]; exact hlt)
      have Hx := hide hx; have Hy := hide hy
      have hiI : (i : Int) < (n : Int) := by omega
      clear hx hy
      by_cases hxy : x = y
      · have heq := str_eq hxy
        have HE2 := hide (show a.take (i + 1) = b.take (i + 1) by rw [List.take_add_one, List.take_add_one, HE.out, Hx.out, Hy.out, hxy])
        clear hxy
        go_wp2
        go_quiet (fail)
        go_wp2
        go_roundw
        case rel => exact ⟨i + 1, _, by omega, by go_num, HE2, by first | rfl | exact World.drewN_drewN ..⟩
        case measure => simp [intOf]; omega
      · have heq := str_ne hxy
        have hf : decide (a = b) = false := by
          simp only [decide_eq_false_iff_not]; rintro rfl
          have h1 := Hx.out; rw [Hy.out] at h1; injection h1 with h1; exact hxy h1.symm
        have HF := hide (fun w' hd => HR.out w' hd)
        rw [hf] at HF
        clear hxy hf
        go_wp2
        go_quiet (fail)
        go_wp2
        exact HF.out _ (by first | exact Dr.one _ _ | exact Dr.two _ _ _)
    · obtain rfl : i = n := by omega
      have ht : decide (a = b) = true := by
        simp only [decide_eq_true_eq]
        refine take_eq_iff (by rw [Hn.out, Hm.out]) ?_
        rw [Hn.out]; exact HE.out
      have HF := hide (fun w' hd => HR.out w' hd)
      rw [ht] at HF
      clear ht
      go_wp2
      exact HF.out _ (Dr.one _ _)


def Rec.val (r : Rec) : Value := .agg r.cells.toArray
theorem Rec.val_eq (r : Rec) : r.val = .agg #[.int .i64 r.scanner, .int .i64 r.number, .int .i64 r.kind, .int .i64 r.time, .string r.label, .slice r.cp r.contents.length r.cc] := rfl
set_option maxHeartbeats 1000000 in
theorem refTrks_c (p : Option Addr) (m cap : Nat) (ts : List Trk) (w : World) (R) (hm : m ≤ maxLen) (hl : ts.length = m) (h : TrksAt w p ts) (hf : ∀ t ∈ ts, TrkFew t)
    (hR : ∀ b w', Below w.heap.size w w' → (b = true → ∀ t ∈ ts, TkOk t.tk) → R (.returned (.bool b)) w') : Calls Try.prog 24 #[.slice p m cap] w R := by
  have HR := hide hR; have H := hide h; have HL := hide hl; have HF := hide hf
  clear hR h hl hf
  unfold maxLen at hm
  go_enter Try.func24, Try.ntmps24
  go_wp2
  go_loopw [3] (fun si wr => ∃ i : Nat, i ≤ m ∧ si = .int .i64 i ∧ Hid (∀ t ∈ ts.take i, TkOk t.tk) ∧ Hid (Below w.heap.size w wr)) (fun si _ => m - (intOf si).toNat)
  case atStart => exact ⟨0, Nat.zero_le _, rfl, hide (by simp), hide (Below.refl _ _)⟩
  case round =>
    obtain ⟨i, hi, rfl, HA, HB⟩ := hrel
    by_cases hlt : i < m
    · obtain ⟨b, o, t, rfl, hx, ht, x0, x1, x2, x3, x4, x5, x6, x7, x8, x9⟩ := (H.out.keep (Keeps.of_below HB.out)).trk (i := i) (by rw [HL.out]; exact hlt)
      have Ht := hide ht
      have Hx := hide hx
      have hv := hide t.val_eq
      clear hx ht
      go_wp2_with (go_at_call 44; rw [← hv.out]; refine Stop.out ?_)
      refine Stop.go (refTrk_c t _ _ Ht.out (HF.out t (List.mem_of_getElem? Hx.out)) ?_)
      intro v w2 hb hiff
      have HB2 := hide (bseq HB.out hb)
      cases v with
      | true =>
        have HA2 := hide (take_all HA.out Hx.out (hiff rfl))
        clear hb hiff x0 x1 x2 x3 x4 x5 x6 x7 x8 x9
        go_wp2
        go_roundw
        case rel => exact ⟨i + 1, by omega, by go_num, HA2, HB2⟩
        case measure => simp [intOf]; omega
      | false =>
        clear hb hiff x0 x1 x2 x3 x4 x5 x6 x7 x8 x9
        go_wp2
        exact HR.out _ _ HB2.out (by simp)
    · obtain rfl : i = m := by omega
      have HT := hide (show ∀ t ∈ ts, TkOk t.tk by have := HA.out; rwa [List.take_of_length_le (by rw [HL.out]; exact Nat.le_refl _)] at this)
      go_wp2
      exact HR.out _ _ HB.out (fun _ => HT.out)
set_option maxHeartbeats 1000000 in
theorem equal_c (x y : Rec) (w : World) (R) (hl : x.contents.length ≤ maxLen) (h : StrsAt w x.cp x.contents) (k : StrsAt w y.cp y.contents) (hR : ∀ w', Below w.heap.size w w' → R (.returned (.bool (decide (x.rp = y.rp)))) w') : Calls Try.prog 38 #[x.val, y.val] w R := by
  have HR := hide hR; have H := hide h; have HK := hide k
  clear hR h k
  rw [x.val_eq, y.val_eq]
  obtain ⟨w1, hw1⟩ : ∃ w1, w.alloc (.cells #[.int .i64 x.scanner, .int .i64 x.number, .int .i64 x.kind, .int .i64 x.time, .string x.label, .slice x.cp x.contents.length x.cc] 31) = w1 := ⟨_, rfl⟩
  obtain ⟨w2, hw2⟩ : ∃ w2, w1.alloc (.cells #[.int .i64 y.scanner, .int .i64 y.number, .int .i64 y.kind, .int .i64 y.time, .string y.label, .slice y.cp y.contents.length y.cc] 31) = w2 := ⟨_, rfl⟩
  have HB := hide (show Below w.heap.size w w2 by rw [← hw2, ← hw1]; exact balloc (balloc (Below.refl _ _) _) _)
  have kx : Blk w2 w.heap.size #[.int .i64 x.scanner, .int .i64 x.number, .int .i64 x.kind, .int .i64 x.time, .string x.label, .slice x.cp x.contents.length x.cc] 31 := by rw [← hw2, ← hw1]; exact (Blk.new _ _ _).alloc _
  have x0 : w2.cell? ⟨w.heap.size, 0, none⟩ = some (.int .i64 x.scanner) := kx.cell (k := 0) rfl
  have x1 : w2.cell? ⟨w.heap.size, 1, none⟩ = some (.int .i64 x.number) := kx.cell (k := 1) rfl
  have x2 : w2.cell? ⟨w.heap.size, 2, none⟩ = some (.int .i64 x.kind) := kx.cell (k := 2) rfl
  have x3 : w2.cell? ⟨w.heap.size, 3, none⟩ = some (.int .i64 x.time) := kx.cell (k := 3) rfl
  have x4 : w2.cell? ⟨w.heap.size, 4, none⟩ = some (.string x.label) := kx.cell (k := 4) rfl
  have x5 : w2.cell? ⟨w.heap.size, 5, none⟩ = some (.slice x.cp x.contents.length x.cc) := kx.cell (k := 5) rfl
  have ky : Blk w2 w1.heap.size #[.int .i64 y.scanner, .int .i64 y.number, .int .i64 y.kind, .int .i64 y.time, .string y.label, .slice y.cp y.contents.length y.cc] 31 := by rw [← hw2]; exact Blk.new _ _ _
  have y0 : w2.cell? ⟨w1.heap.size, 0, none⟩ = some (.int .i64 y.scanner) := ky.cell (k := 0) rfl
  have y1 : w2.cell? ⟨w1.heap.size, 1, none⟩ = some (.int .i64 y.number) := ky.cell (k := 1) rfl
  have y2 : w2.cell? ⟨w1.heap.size, 2, none⟩ = some (.int .i64 y.kind) := ky.cell (k := 2) rfl
  have y3 : w2.cell? ⟨w1.heap.size, 3, none⟩ = some (.int .i64 y.time) := ky.cell (k := 3) rfl
  have y4 : w2.cell? ⟨w1.heap.size, 4, none⟩ = some (.string y.label) := ky.cell (k := 4) rfl
  have y5 : w2.cell? ⟨w1.heap.size, 5, none⟩ = some (.slice y.cp y.contents.length y.cc) := ky.cell (k := 5) rfl
  have Hall : ∀ b, b = decide (x.rp = y.rp) → R (.returned (.bool b)) w2 := fun b hb => by rw [hb]; exact HR.out w2 HB.out
  have HA := hide Hall
  have hneq : ∀ (P : Prop), ¬ P → (x.rp = y.rp → P) → false = decide (x.rp = y.rp) := fun P hP h => by simp only [Bool.false_eq, decide_eq_false_iff_not]; exact fun e => hP (h e)
  have HN := hide hneq
  clear kx ky Hall hneq
  by_cases h1 : x.scanner = y.scanner
  rotate_left
  · have HF := hide (HA.out _ (HN.out _ h1 (fun e => congrArg RP.scanner e)))
    have q1 : (x.scanner == y.scanner) = false := by simp [h1]
    clear h1
    go_enter Try.func38, Try.ntmps38
    go_wp2
    exact HF.out
  have q1 : (x.scanner == y.scanner) = true := by simp [h1]
  have H1 := hide h1
  clear h1
  by_cases h2 : x.number = y.number
  rotate_left
  · have HF := hide (HA.out _ (HN.out _ h2 (fun e => congrArg RP.number e)))
    have q2 : (x.number == y.number) = false := by simp [h2]
    clear h2
    go_enter Try.func38, Try.ntmps38
    go_wp2
    exact HF.out
  have q2 : (x.number == y.number) = true := by simp [h2]
  have H2 := hide h2
  clear h2
  by_cases h3 : x.kind = y.kind
  rotate_left
  · have HF := hide (HA.out _ (HN.out _ h3 (fun e => congrArg RP.kind e)))
    have q3 : (x.kind == y.kind) = false := by simp [h3]
    clear h3
    go_enter Try.func38, Try.ntmps38
    go_wp2
    exact HF.out
  have q3 : (x.kind == y.kind) = true := by simp [h3]
  have H3 := hide h3
  clear h3
  by_cases h4 : x.time = y.time
  rotate_left
  · have HF := hide (HA.out _ (HN.out _ h4 (fun e => congrArg RP.time e)))
    have q4 : (x.time == y.time) = false := by simp [h4]
    clear h4
    go_enter Try.func38, Try.ntmps38
    go_wp2
    exact HF.out
  have q4 : (x.time == y.time) = true := by simp [h4]
  have H4 := hide h4
  clear h4
  by_cases h5 : x.label = y.label
  rotate_left
  · have HF := hide (HA.out _ (HN.out _ h5 (fun e => congrArg RP.label e)))
    have q5 : (x.label.toList == y.label.toList) = false := str_ne h5
    clear h5
    go_enter Try.func38, Try.ntmps38
    go_wp2
    exact HF.out
  have q5 : (x.label.toList == y.label.toList) = true := str_eq h5
  have H5 := hide h5
  clear h5
  go_enter Try.func38, Try.ntmps38
  go_wp2_with (go_at_call 59; refine Stop.out ?_)
  refine Stop.go (strs59_c _ _ _ _ _ _ _ _ _ _ rfl rfl hl (H.out.keep (Keeps.of_below HB.out)) (HK.out.keep (Keeps.of_below HB.out)) ?_)
  intro w3 hd
  have HF := hide (HR.out w3 (bseq HB.out hd.below))
  rw [show decide (x.rp = y.rp) = decide (x.contents = y.contents) from by
    have : (x.rp = y.rp) ↔ x.contents = y.contents := by
      constructor
      · intro e; exact congrArg RP.contents e
      · intro e; unfold Rec.rp; rw [H1.out, H2.out, H3.out, H4.out, H5.out, e]
    simp only [this]] at HF
  clear hd
  go_wp2
  exact HF.out
end Go.Proofs.Ytihdpkeclmpehaa

namespace Go.Proofs.Ytihdpkeclmpehaa
open Go.RowKit

set_option maxHeartbeats 1000000 in
theorem right_c (sp : Option Addr) (n cap : Nat) (sl : List Scn) (p : Option Addr) (m cap2 : Nat) (ts : List Trk) (w : World) (R) (hn : n ≤ maxLen) (hm : m ≤ maxLen) (hsl : sl.length = n) (hS : ScnsAt w sp sl) (hts : ts.length = m) (hT : TrksAt w p ts)
    (hR : ∀ b w', Below w.heap.size w w' → (b = true → ScnsOk sl ∧ TksOk (ts.map Trk.tk)) → R (.returned (.bool b)) w') : Calls Try.prog 11 #[.slice sp n cap, .slice p m cap2] w R := by
  have HR := hide hR; have HS := hide hS; have HT := hide hT; have Hn := hide hsl; have Hm := hide hts
  clear hR hS hT hsl hts
  go_enter Try.func11, Try.ntmps11
  go_wp2_with (go_at_call 22; refine Stop.out ?_)
  refine Stop.go (few_c sp p none n cap m cap2 0 0 ts w _ hn hm (by decide) Hm.out HT.out ?_)
  intro b1 h1
  cases b1 with
  | false =>
    clear h1
    go_wp2
    exact HR.out _ _ (Below.refl _ _) (by simp)
  | true =>
    have HF := hide (h1 rfl)
    clear h1
    go_wp2_with (go_at_call 23; refine Stop.out ?_)
    refine Stop.go (refScn_c sp n cap sl w _ hn Hn.out HS.out ?_)
    intro b2 h2
    cases b2 with
    | false =>
      clear h2
      go_wp2
      exact HR.out _ _ (Below.refl _ _) (by simp)
    | true =>
      have HO := hide (h2 rfl)
      clear h2
      go_wp2_with (go_at_call 24; refine Stop.out ?_)
      refine Stop.go (refTrks_c p m cap2 ts w _ hm Hm.out HT.out HF.out.2.2.2 ?_)
      intro b3 w3 hb h3
      have HFin := hide (HR.out b3 w3 hb (fun e => ⟨HO.out, by rw [List.length_map, Hm.out]; exact HF.out.2.1, fun t ht => by
        obtain ⟨x, hx, rfl⟩ := List.mem_map.1 ht
        exact h3 e x hx⟩))
      clear hb h3
      go_wp2
      exact HFin.out
/-! The examples. -/
def exA : ByteArray := ⟨#[65]⟩
def exB : ByteArray := ⟨#[66]⟩
def exC : ByteArray := ⟨#[67, 48, 46, 49, 54, 48]⟩
def exS : List Scn := [⟨0, 0, 5⟩, ⟨1, 1, 0⟩]
def exT : Tk := ⟨[⟨0, 100, 160, 0⟩, ⟨1, 220, -1, -1⟩], [100], [exA], [exC]⟩
theorem exS_ok : ScnsOk exS := ⟨by decide, by decide⟩
theorem exT_ok : TksOk [exT] := by
  refine ⟨by decide, fun t ht => ?_⟩
  rw [List.mem_singleton.1 ht]
  refine ⟨by decide, by decide, by decide, by decide, ?_, ?_, ?_, by decide⟩
  · intro x s hx hs
    simp [exT] at hx hs; subst hx; subst hs; decide
  · intro m x y hx hy
    exact absurd (List.getElem?_eq_some_iff.1 hy).1 (by simp [exT])
  · intro i s hs
    match i, hs with
    | 0, hs => simp [exT] at hs; subst hs; exact ⟨by decide, by decide, by decide, by decide, fun _ t ht => by simp [exT] at ht; subst ht; decide⟩
    | 1, hs => simp [exT] at hs; subst hs; exact ⟨by decide, by decide, by decide, by decide, fun h => absurd h (by decide)⟩
    | i + 2, hs => simp [exT] at hs
set_option maxHeartbeats 1000000 in
theorem exS_c (w : World) (R) (hR : ∀ w' q, Below w.heap.size w w' → ScnsAt w' q exS → R (.returned (.slice q 2 2)) w') : Calls Try.prog 20 #[] w R := by
  have HR := hide hR
  clear hR
  go_enter Try.func20, Try.ntmps20
  go_wp2
  exact HR.out _ _ (balloc (Below.refl _ _) _) (EncAt.lit (enc := Scn.cells) (fun _ => rfl) exS)
theorem StrsAt.lit1 {w : World} {t : TypeId} (x : ByteArray) (hx : x.size ≤ maxLen) : StrsAt (w.alloc (.cells #[.string x] t)) (some ⟨w.heap.size, 0, none⟩) [x] :=
  ⟨EncAt.lit (enc := fun s => [Value.string s]) (fun _ => rfl) [x], fun s hs => by rw [List.mem_singleton.1 hs]; exact hx⟩
set_option maxHeartbeats 1000000 in
theorem exT_c (w : World) (R) (hR : ∀ w' q t, Below w.heap.size w w' → TrksAt w' q [t] → t.tk = exT → R (.returned (.slice q 1 1)) w') : Calls Try.prog 21 #[] w R := by
  have HR := hide hR
  clear hR
  obtain ⟨w1, hw1⟩ : ∃ w1, w.alloc (.cells (exT.stops.flatMap Stp.cells).toArray 42) = w1 := ⟨_, rfl⟩
  obtain ⟨w2, hw2⟩ : ∃ w2, w1.alloc (.cells #[.int .i64 100] 3) = w2 := ⟨_, rfl⟩
  obtain ⟨w3, hw3⟩ : ∃ w3, w2.alloc (.cells #[.string exA] 9) = w3 := ⟨_, rfl⟩
  obtain ⟨w4, hw4⟩ : ∃ w4, w3.alloc (.cells #[.string exC] 9) = w4 := ⟨_, rfl⟩
  have s1 : w1.heap.size = w.heap.size + 1 := by rw [← hw1]; simp
  have s2 : w2.heap.size = w.heap.size + 1 + 1 := by rw [← hw2, ← s1]; simp
  have s3 : w3.heap.size = w.heap.size + 1 + 1 + 1 := by rw [← hw3, ← s2]; simp
  have s4 : w4.heap.size = w.heap.size + 1 + 1 + 1 + 1 := by rw [← hw4, ← s3]; simp
  have k1 : StpsAt w1 (some ⟨w.heap.size, 0, none⟩) exT.stops := hw1 ▸ EncAt.lit (enc := Stp.cells) (fun _ => rfl) exT.stops
  have k2 : IntsAt .i64 w2 (some ⟨w.heap.size + 1, 0, none⟩) exT.since := by rw [← s1, ← hw2]; exact IntsAt.lit [100]
  have k3 : StrsAt w3 (some ⟨w.heap.size + 1 + 1, 0, none⟩) exT.label := by rw [← s2, ← hw3]; exact StrsAt.lit1 exA (by decide)
  have k4 : StrsAt w4 (some ⟨w.heap.size + 1 + 1 + 1, 0, none⟩) exT.seals := by rw [← s3, ← hw4]; exact StrsAt.lit1 exC (by decide)
  have HF : Hid (R (.returned (.slice (some ⟨w4.heap.size, 0, none⟩) 1 1)) (w4.alloc (.cells (Trk.cells ⟨⟨#[]⟩, 0, 0, 0, 0, some ⟨w.heap.size, 0, none⟩, exT.stops, 2, false, some ⟨w.heap.size + 1, 0, none⟩, exT.since, 1, some ⟨w.heap.size + 1 + 1, 0, none⟩, exT.label, 1, some ⟨w.heap.size + 1 + 1 + 1, 0, none⟩, exT.seals, 1⟩).toArray 40))) := hide (by
    have b12 : Keeps w1 w2 := by rw [← hw2]; exact Keeps.alloc _ _
    have b23 : Keeps w2 w3 := by rw [← hw3]; exact Keeps.alloc _ _
    have b34 : Keeps w3 w4 := by rw [← hw4]; exact Keeps.alloc _ _
    refine HR.out _ _ ⟨⟨#[]⟩, 0, 0, 0, 0, some ⟨w.heap.size, 0, none⟩, exT.stops, 2, false, some ⟨w.heap.size + 1, 0, none⟩, exT.since, 1, some ⟨w.heap.size + 1 + 1, 0, none⟩, exT.label, 1, some ⟨w.heap.size + 1 + 1 + 1, 0, none⟩, exT.seals, 1⟩ ?_ ⟨EncAt.lit (enc := Trk.cells) (fun _ => rfl) [_], fun t ht => ?_⟩ rfl
    · rw [← hw4, ← hw3, ← hw2, ← hw1]
      exact balloc (balloc (balloc (balloc (balloc (Below.refl _ _) _) _) _) _) _
    · rw [List.mem_singleton.1 ht]
      exact ⟨(((k1.keep b12).keep b23).keep b34).keep (Keeps.alloc _ _), ((k2.keep b23).keep b34).keep (Keeps.alloc _ _), (k3.keep b34).keep (Keeps.alloc _ _), k4.keep (Keeps.alloc _ _), (show exT.stops.length ≤ maxLen ∧ exT.since.length ≤ maxLen ∧ exT.label.length ≤ maxLen ∧ exT.seals.length ≤ maxLen by decide)⟩)
  rw [s4, ← hw4, ← hw3, ← hw2, ← hw1] at HF
  clear k1 k2 k3 k4 s1 s2 s3 s4 hw1 hw2 hw3 hw4
  go_enter Try.func21, Try.ntmps21
  go_wp2
  exact HF.out
end Go.Proofs.Ytihdpkeclmpehaa
