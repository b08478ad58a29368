/- The reference's tests of few, scanners and tracks. The reference's scanner of an office, label of a track, and comparisons. -/
import Derived.Test.YtkabghifdedmfaaGreatDoorB3
import Derived.Test.YtkabghifdedmfaaGreatDoorB9
set_option linter.unusedVariables false
set_option linter.unusedSimpArgs false
namespace Go.Proofs.YtkabghifdedmfaaGreatDoor
open Go.RowKit

def TrkFew (t : Trk) : Prop := t.stops.length ≤ 20 ∧ t.since.length ≤ 10 ∧ t.label.length ≤ 10 ∧ t.seals.length ≤ 20
theorem take_all {α : Type} {P : α → Prop} {l : List α} {i : Nat} {x : α} (h : ∀ y ∈ l.take i, P y) (hx : l[i]? = some x) (hp : P x) : ∀ y ∈ l.take (i + 1), P y := by
  intro y hy
  rw [List.take_add_one, hx] at hy
  rcases List.mem_append.1 hy with hy | hy
  · exact h y hy
  · simp at hy; subst hy; exact hp
theorem trk_at {w : World} {p : Option Addr} {l : List Trk} (h : TrksAt w p l) {i : Nat} (hi : i < l.length) : ∃ b o t, p = some ⟨b, o, none⟩ ∧ l[i]? = some t ∧ TrkAt w t ∧ 
    w.cell? ⟨b, o + i * 10 + 5, none⟩ = some (.slice t.sp t.stops.length t.sc) ∧ w.cell? ⟨b, o + i * 10 + 7, none⟩ = some (.slice t.np t.since.length t.nc) ∧ w.cell? ⟨b, o + i * 10 + 8, none⟩ = some (.slice t.lp t.label.length t.lc) ∧ w.cell? ⟨b, o + i * 10 + 9, none⟩ = some (.slice t.ep t.seals.length t.ec) := by
  obtain ⟨b, o, x, hp, hx, hc⟩ := h.1.at_ hi
  exact ⟨b, o, x, hp, hx, h.2 x (List.mem_of_getElem? hx), hc 5 _ rfl, hc 7 _ rfl, hc 8 _ rfl, hc 9 _ rfl⟩
set_option maxHeartbeats 1000000 in
theorem few_c (sp p q : Option Addr) (n cap m cap2 k cap3 : Nat) (ts : List Trk) (w : World) (R) (hn : n ≤ maxLen) (hm : m ≤ maxLen) (hk : k ≤ maxLen) (hl : ts.length = m) (h : TrksAt w p ts)
    (hR : ∀ b, (b = true → n ≤ 30 ∧ m ≤ 8 ∧ k ≤ 20 ∧ ∀ t ∈ ts, TrkFew t) → R (.returned (.bool b)) w) : Calls Tryz.prog 5 #[.slice sp n cap, .slice p m cap2, .slice q k cap3] w R := by
  have HR := hide hR; have H := hide h; have HL := hide hl
  clear hR h hl
  unfold maxLen at hn hm hk
  go_enter Tryz.func5, Tryz.ntmps5
  go_wp2
  go_loopw [7] (fun si wr => ∃ i : Nat, i ≤ m ∧ si = .int .i64 i ∧ Hid (∀ t ∈ ts.take i, TrkFew t) ∧ wr = w) (fun si _ => m - (intOf si).toNat)
  case atStart => exact ⟨0, Nat.zero_le _, rfl, hide (by simp), rfl⟩
  case round =>
    obtain ⟨i, hi, rfl, HA, rfl⟩ := hrel
    by_cases hlt : i < m
    · obtain ⟨b, o, t, rfl, hx, ht, x5, x7, x8, x9⟩ := trk_at H.out (i := i) (by rw [HL.out]; exact hlt)
      have Hx := hide hx
      clear hx ht
      obtain ⟨a1, ha1⟩ : ∃ a, t.stops.length = a := ⟨_, rfl⟩
      obtain ⟨a2, ha2⟩ : ∃ a, t.since.length = a := ⟨_, rfl⟩
      obtain ⟨a3, ha3⟩ : ∃ a, t.label.length = a := ⟨_, rfl⟩
      obtain ⟨a4, ha4⟩ : ∃ a, t.seals.length = a := ⟨_, rfl⟩
      have HF := hide (show ∀ hfew : a1 ≤ 20 ∧ a2 ≤ 10 ∧ a3 ≤ 10 ∧ a4 ≤ 20, ∀ t ∈ ts.take (i + 1), TrkFew t from fun hf => take_all HA.out Hx.out ⟨by omega, by omega, by omega, by omega⟩)
      rw [ha1] at x5; rw [ha2] at x7; rw [ha3] at x8; rw [ha4] at x9
      clear ha1 ha2 ha3 ha4
      by_cases h1 : a1 ≤ 20
      rotate_left
      · go_wp2
        exact HR.out _ (by simp)
      by_cases h2 : a2 ≤ 10
      rotate_left
      · go_wp2
        exact HR.out _ (by simp)
      by_cases h3 : a3 ≤ 10
      rotate_left
      · go_wp2
        exact HR.out _ (by simp)
      by_cases h4 : a4 ≤ 20
      rotate_left
      · go_wp2
        exact HR.out _ (by simp)
      have HF2 := hide (HF.out ⟨h1, h2, h3, h4⟩)
      go_wp2
      go_roundw
      case rel => exact ⟨i + 1, by omega, by go_num, HF2, trivial⟩
      case measure => simp [intOf]; omega
    · obtain rfl : i = m := by omega
      have HT := hide (show ∀ t ∈ ts, TrkFew t by have := HA.out; rwa [List.take_of_length_le (by rw [HL.out]; exact Nat.le_refl _)] at this)
      by_cases h1 : n ≤ 30
      rotate_left
      · go_wp2
        exact HR.out _ (by simp)
      by_cases h2 : i ≤ 8
      rotate_left
      · go_wp2
        exact HR.out _ (by simp)
      go_wp2
      exact HR.out _ (fun hb => ⟨by omega, by omega, by have := of_decide_eq_true hb; omega, HT.out⟩)
end Go.Proofs.YtkabghifdedmfaaGreatDoor

namespace Go.Proofs.YtkabghifdedmfaaGreatDoor
open Go.RowKit

def ofP (l : List Scn) (office : Int) : Int := match scanP l office with
  | some i => ((i : Nat) : Int)
  | none => -1
theorem scanP_iff {l : List Scn} {o : Int} {i : Nat} : scanP l o = some i ↔ (∃ x, l[i]? = some x ∧ x.office = o) ∧ ∀ x ∈ l.take i, x.office ≠ o := by
  unfold scanP
  rw [List.findIdx?_eq_some_iff_getElem]
  constructor
  · rintro ⟨h, h1, h2⟩
    refine ⟨⟨l[i], List.getElem?_eq_getElem h, by simpa using h1⟩, fun x hx => ?_⟩
    obtain ⟨j, hj⟩ := List.getElem?_of_mem hx
    rw [List.getElem?_take] at hj
    split at hj
    · rename_i hji
      obtain ⟨h3, h4⟩ := List.getElem?_eq_some_iff.1 hj
      have := h2 j hji
      rw [h4] at this
      simpa using this
    · cases hj
  · rintro ⟨⟨x, hx, ho⟩, h2⟩
    obtain ⟨h3, h4⟩ := List.getElem?_eq_some_iff.1 hx
    refine ⟨h3, by rw [h4]; simpa using ho, fun j hj => ?_⟩
    have := h2 l[j] (List.mem_iff_getElem?.2 ⟨j, by rw [List.getElem?_take, if_pos hj, List.getElem?_eq_getElem (by omega)]⟩)
    simpa using this
theorem scanP_none {l : List Scn} {o : Int} (h : ∀ x ∈ l, x.office ≠ o) : scanP l o = none := by
  unfold scanP
  rw [List.findIdx?_eq_none_iff]
  intro x hx
  simpa using h x hx
def labTo (t : Trk) (c i : Nat) : ByteArray := match min i c with
  | 0 => ⟨#[]⟩
  | k + 1 => (t.label[k]?).getD ⟨#[]⟩
set_option maxHeartbeats 1000000 in
theorem label_c (t : Trk) (time : Int) (w : World) (R) (h : TrkAt w t) (hk : TkOk t.tk) (hR : ∀ w', Below w.heap.size w w' → R (.returned (.string (labelP t.tk time))) w') : Calls Tryz.prog 11 #[t.val, .int .i64 time] w R := by
  have HR := hide hR; have H := hide h; have HK := hide hk
  obtain ⟨S, hS⟩ : ∃ S, t.since.length = S := ⟨_, rfl⟩
  have HS := hide hS
  have HL : Hid (t.label.length = S) := hide (hk.labels.symm.trans hS)
  have hS10 : S ≤ 10 := by rw [← hS]; exact hk.few.2
  have hv : Hid (Trk.val t = .agg #[.string t.label0, .int .i64 t.from0, .int .i64 t.to0, .int .i64 t.class0, .int .i64 t.accept, .slice t.sp t.stops.length t.sc, .bool t.lost, .slice t.np S t.nc, .slice t.lp S t.lc, .slice t.ep t.seals.length t.ec]) := hide (by rw [← hS]; unfold Trk.val; rw [show t.since.length = t.label.length from hk.labels]; unfold Trk.cells; rw [show t.since.length = t.label.length from hk.labels])
  rw [hv.out]
  obtain ⟨w1, hw1⟩ : ∃ w1, w.alloc (.cells #[.string t.label0, .int .i64 t.from0, .int .i64 t.to0, .int .i64 t.class0, .int .i64 t.accept, .slice t.sp t.stops.length t.sc, .bool t.lost, .slice t.np S t.nc, .slice t.lp S t.lc, .slice t.ep t.seals.length t.ec] 43) = w1 := ⟨_, rfl⟩
  have HB1 : Hid (Below w.heap.size w w1) := hide (hw1 ▸ balloc (Below.refl _ _) _)
  have HW1 := hide hw1
  obtain ⟨c, hc⟩ : ∃ c, cutN t.since time = c := ⟨_, rfl⟩
  have HC := hide hc
  have hcS : c ≤ S := by rw [← hc, ← hS]; exact cutN_le _ _
  have HLo := hide (show ∀ (i : Nat) (x : Int), t.since[i]? = some x → (i < c ↔ x ≤ time) from fun i x hx => by
    constructor
    · intro hi; exact cutN_low (by rw [hc]; exact hi) hx
    · intro hx2
      apply Classical.byContradiction
      intro hi
      have hil := (List.getElem?_eq_some_iff.1 hx).1
      have h1 : t.since[cutN t.since time]? = some t.since[cutN t.since time] := List.getElem?_eq_getElem (by omega)
      have h2 := cutN_high h1
      have h3 := AscI.le hk.asc (i := cutN t.since time) (j := i) (by omega) h1 hx
      omega)
  clear hR h hk hw1 hS hc
  have c7 : w1.cell? ⟨w.heap.size, 7, none⟩ = some (.slice t.np S t.nc) := by rw [← HW1.out]; exact cell_new.trans rfl
  have c8 : w1.cell? ⟨w.heap.size, 8, none⟩ = some (.slice t.lp S t.lc) := by rw [← HW1.out]; exact cell_new.trans rfl
  go_enter Tryz.func11, Tryz.ntmps11
  go_wp2
  go_loopw [5, 6] (fun sl si wr => ∃ i : Nat, i ≤ S ∧ si = .int .i64 i ∧ sl = .string (labTo t c i) ∧ wr = w1) (fun _ si _ => S - (intOf si).toNat)
  case atStart => exact ⟨0, Nat.zero_le _, rfl, by unfold labTo; rw [Nat.zero_min], HW1.out⟩
  case round =>
    obtain ⟨i, hi, rfl, rfl, rfl⟩ := hrel
    by_cases hlt : i < S
    · obtain ⟨b, o, x, hp, hx, x0⟩ := (H.out.since.keep (Keeps.of_below HB1.out)).at_ (i := i) (by rw [HS.out]; exact hlt)
      have Hx := hide hx
      rw [hp] at c7
      clear hx hp
      by_cases he : x ≤ time
      · obtain ⟨b2, o2, y, hp2, hy, y0, _⟩ := (H.out.label.keep (Keeps.of_below HB1.out)).at_ (i := i) (by rw [HL.out]; exact hlt)
        have hic := (HLo.out i x Hx.out).2 he
        have HT := hide (show labTo t c (i + 1) = y by unfold labTo; rw [Nat.min_eq_left (by omega)]; show (t.label[i]?).getD _ = _; rw [hy]; rfl)
        rw [hp2] at c8
        clear hy hp2 hic
        go_wp2
        go_roundw
        case rel => exact ⟨i + 1, by omega, by go_num, by rw [HT.out], trivial⟩
        case measure => simp [intOf]; omega
      · have hic : ¬ i < c := fun e => he ((HLo.out i x Hx.out).1 e)
        have HT := hide (show labTo t c (i + 1) = labTo t c i by unfold labTo; rw [Nat.min_eq_right (by omega), Nat.min_eq_right (by omega)])
        clear hic
        go_wp2
        go_roundw
        case rel => exact ⟨i + 1, by omega, by go_num, by rw [HT.out], trivial⟩
        case measure => simp [intOf]; omega
    · obtain rfl : i = S := by omega
      have HF := hide (HR.out _ HB1.out)
      rw [show labelP t.tk time = labTo t c i by unfold labelP labTo; rw [show cutN t.tk.since time = c from HC.out, Nat.min_eq_right hcS]; rfl] at HF
      go_wp2
      exact HF.out
end Go.Proofs.YtkabghifdedmfaaGreatDoor
