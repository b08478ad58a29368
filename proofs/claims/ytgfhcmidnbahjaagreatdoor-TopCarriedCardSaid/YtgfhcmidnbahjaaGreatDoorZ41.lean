/- Top: few, small. Top: small networks, of the law. Top: a network with one line changed. -/
import Derived.Test.YtgfhcmidnbahjaaGreatDoorZ40
set_option linter.unusedVariables false
set_option linter.unusedSimpArgs false
namespace Go.Proofs.YtgfhcmidnbahjaaGreatDoor
open Go.RowKit Go.Shelf
attribute [local go_sem] Oper.semAt_some run_store_func

set_option maxRecDepth 100000 in
set_option maxHeartbeats 2000000 in
theorem few_c (N : Net) (w : World) (R) (hN : NetAt w N) (hR : ∀ b w', Below w.heap.size w w' → R (.returned (.bool b)) w') :
    Calls Tryz.prog 107 #[.agg N.cells] w R := by
  have HR := hide hR; have HN := hide hN
  obtain ⟨w1, hw1⟩ : ∃ w1, w.alloc (.cells N.cells 29) = w1 := ⟨_, rfl⟩
  have hb1 : Below w.heap.size w w1 := hw1 ▸ balloc (Below.refl _ _) _
  have k1 : Blk w1 w.heap.size N.cells 29 := hw1 ▸ Blk.new _ _ _
  have HB := hide hb1; have HK := hide k1
  obtain ⟨y0, y1, y2, y3, y4, y5⟩ := k1.net6
  unfold Net.cells at hw1 ⊢
  clear hR hN hb1 k1
  go_enter Tryz.func107, Tryz.ntmps107
  go_wp2
  all_goals try exact HR.out _ _ HB.out
  have hl : N.cals.length ≤ 10 ∧ N.names.length ≤ 10 ∧ N.oprs.length ≤ 10 ∧ N.offs.length ≤ 16 ∧ N.lins.length ≤ 50 ∧ N.clss.length ≤ 8 := by omega
  have Hl := hide hl
  clear hw1 y0 y1 y2 y3 y4 y5
  go_loopw [3] (fun sv wq => ∃ i : Nat, i ≤ N.cals.length ∧ sv = .int .i64 (i : Int) ∧ Hid (Below w.heap.size w wq) ∧ Hid (Blk wq w.heap.size N.cells 29)) (fun sv _ => N.cals.length - (intOf sv).toNat)
  case atStart => exact ⟨0, by omega, rfl, HB, HK⟩
  case round =>
    clear HB HK
    obtain ⟨i, hi, rfl, HB, HK⟩ := hrel
    obtain ⟨y0, y1, y2, y3, y4, y5⟩ := HK.out.net6
    by_cases hlt : i < N.cals.length
    · have q1 : (0 : Int) ≤ (i : Int) := by omega
      have q2 : (i : Int) < (N.cals.length : Int) := by omega
      obtain ⟨b, bo, x, hp, hx, hcell⟩ := (HN.out.next HB.out).cals.at_ hlt
      have m0 : wr.cell? ⟨b, bo + i * 3, none⟩ = some (.int .i64 x.zone) := hcell 0 _ rfl; have m1 := hcell 1 _ rfl; have m2 := hcell 2 _ rfl
      have Hlt := hide hlt
      rw [hp] at y0
      clear hcell hp hx
      go_wp2_with (go_at_call 164; refine Stop.out ?_)
      refine Stop.go (calSmall_c x wr _ ?_)
      intro bb w2 hb
      have HB2 := hide (bseq HB.out hb); have HK2 := hide (HK.out.next hb)
      have hi60 : i ≤ 60 := by have := Hlt.out; have := Hl.out; omega
      clear hb m0 m1 m2 y0 y1 y2 y3 y4 y5
      cases bb with
      | true =>
        go_wp2
        go_roundw
        case rel => exact ⟨i + 1, Hlt.out, by go_num, HB2, HK2⟩
        case measure => have := Hlt.out; simp [intOf]; omega
      | false =>
        go_wp2
        exact HR.out _ _ HB2.out
    · have q2 : ¬ ((i : Int) < (N.cals.length : Int)) := by omega
      have HB0 := HB; have HK0 := HK
      go_wp2
      clear y0 y1 y2 y3 y4 y5 HB HK
      go_loopw [4] (fun sv wq => ∃ i : Nat, i ≤ N.offs.length ∧ sv = .int .i64 (i : Int) ∧ Hid (Below w.heap.size w wq) ∧ Hid (Blk wq w.heap.size N.cells 29)) (fun sv _ => N.offs.length - (intOf sv).toNat)
      case atStart => exact ⟨0, by omega, rfl, HB0, HK0⟩
      case round =>
        clear HB0 HK0
        obtain ⟨j, hj, rfl, HB, HK⟩ := hrel
        obtain ⟨y0, y1, y2, y3, y4, y5⟩ := HK.out.net6
        by_cases hlt : j < N.offs.length
        · have q1 : (0 : Int) ≤ (j : Int) := by omega
          have q2 : (j : Int) < (N.offs.length : Int) := by omega
          obtain ⟨b, bo, x, hp, hx, hcell⟩ := (HN.out.next HB.out).offs.at_ hlt
          have m6 := hcell 6 _ rfl
          have Hlt := hide hlt
          have hi60 : j ≤ 60 := by have := Hlt.out; have := Hl.out; omega
          rw [hp] at y3
          clear hcell hp hx
          by_cases h30 : 30 < x.codes.length
          · have r1 : (30 : Int) < (x.codes.length : Int) := by omega
            go_wp2
            exact HR.out _ _ HB.out
          · have r1 : ¬ ((30 : Int) < (x.codes.length : Int)) := by omega
            go_wp2
            go_roundw
            case rel => exact ⟨j + 1, Hlt.out, by go_num, HB, HK⟩
            case measure => have := Hlt.out; simp [intOf]; omega
        · have q2 : ¬ ((j : Int) < (N.offs.length : Int)) := by omega
          have HB1 := HB; have HK1 := HK
          go_wp2
          clear y0 y1 y2 y3 y4 y5 HB HK
          go_loopw [5] (fun sv wq => ∃ k : Int, (1 ≤ k ∧ k ≤ 6) ∧ sv = .int .i64 k ∧ Hid (Below w.heap.size w wq) ∧ Hid (Blk wq w.heap.size N.cells 29)) (fun sv _ => (6 - intOf sv).toNat)
          case atStart => exact ⟨1, by omega, rfl, HB1, HK1⟩
          case round =>
            clear HB1 HK1
            obtain ⟨k, hk, rfl, HB, HK⟩ := hrel
            by_cases hk6 : k ≤ 5
            · obtain ⟨y0, y1, y2, y3, y4, y5⟩ := HK.out.net6
              go_wp2_with (go_at_call 165; refine Stop.out ?_)
              have hcall := refNames_c N k wr
              unfold Net.cells at hcall
              refine Stop.go (hcall _ ⟨by omega, hk6⟩ (HN.out.next HB.out) Hl.out ?_)
              intro w2 p n c hrow hn50 hb
              have HB2 := hide (bseq HB.out hb); have HK2 := hide (HK.out.next hb); have Hrow := hide hrow
              clear hb hrow y0 y1 y2 y3 y4 y5 hcall
              have HBk := HB; have HKk := HK
              clear HB HK
              go_wp2
              go_loopw [7] (fun sv wq => (∃ i : Nat, i ≤ n ∧ sv = .int .i64 (i : Int)) ∧ wq = w2) (fun sv _ => n - (intOf sv).toNat)
              case atStart => exact ⟨⟨0, by omega, rfl⟩, rfl⟩
              case round =>
                obtain ⟨⟨i, hi, rfl⟩, hwq⟩ := hrel
                subst hwq
                by_cases hlt3 : i < n
                · have q1 : (0 : Int) ≤ (i : Int) := by omega
                  have q2 : (i : Int) < (n : Int) := by omega
                  obtain ⟨l, hln, hE⟩ := Hrow.out
                  obtain ⟨b, bo, s, hp, hs, hcell⟩ := hE.at_ (i := i) (by omega)
                  have m0 := hcell 0 _ rfl
                  simp only [Nat.mul_one, Nat.add_zero] at m0
                  have Hlt := hide hlt3
                  rw [hp]
                  clear hE hcell hp hs hln
                  by_cases h40 : 40 < s.size
                  · have r1 : (40 : Int) < (s.size : Int) := by omega
                    go_wp2
                    exact HR.out _ _ HB2.out
                  · have r1 : ¬ ((40 : Int) < (s.size : Int)) := by omega
                    go_wp2
                    go_roundw
                    case rel => exact ⟨⟨i + 1, Hlt.out, by go_num⟩, by first | rfl | trivial⟩
                    case measure => have := Hlt.out; simp [intOf]; omega
                · have q2 : ¬ ((i : Int) < (n : Int)) := by omega
                  have e1 : IntKind.i64.wrap (k + 1) = k + 1 := IntWalk.i64_in _ (by omega)
                  go_wp2
                  go_roundw
                  case rel => exact ⟨k + 1, by omega, by first | rfl | go_num, HB2, HK2⟩
                  case measure => simp [intOf]; omega
            · go_wp2
              exact HR.out _ _ HB.out
end Go.Proofs.YtgfhcmidnbahjaaGreatDoor

namespace Go.Proofs.YtgfhcmidnbahjaaGreatDoor
open Go.RowKit Go.Shelf
attribute [local go_sem] Oper.semAt_some run_store_func

set_option maxRecDepth 100000 in
set_option maxHeartbeats 2000000 in
theorem small_c (N : Net) (w : World) (R) (hN : NetAt w N) (hR : ∀ b w', (b = true → N.offs.length ≤ 6) → Below w.heap.size w w' → R (.returned (.bool b)) w') :
    Calls Tryz.prog 34 #[.agg N.cells, .slice none 0 0] w R := by
  have HR := hide hR; have HN := hide hN
  obtain ⟨w1, hw1⟩ : ∃ w1, w.alloc (.cells N.cells 29) = w1 := ⟨_, rfl⟩
  have hb1 : Below w.heap.size w w1 := hw1 ▸ balloc (Below.refl _ _) _
  have k1 : Blk w1 w.heap.size N.cells 29 := hw1 ▸ Blk.new _ _ _
  have HB := hide hb1; have HK := hide k1
  obtain ⟨y0, y1, y2, y3, y4, y5⟩ := k1.net6
  unfold Net.cells at hw1 ⊢
  clear hR hN hb1 k1
  go_enter Tryz.func34, Tryz.ntmps34
  go_wp2_with (go_at_call 107; refine Stop.out ?_)
  have hcall := few_c N w1
  unfold Net.cells at hcall
  clear hw1
  refine Stop.go (hcall _ (HN.out.next HB.out) ?_)
  intro b w2 hb
  have HB2 := hide (bseq HB.out hb)
  obtain ⟨y0', y1', y2', y3', y4', y5'⟩ := (HK.out.next hb).net6
  clear hb y0 y1 y2 y3 y4 y5 hcall
  cases b with
  | false =>
    go_wp2
    exact HR.out _ _ (by simp) HB2.out
  | true =>
    by_cases h6 : 6 < N.offs.length
    · have r1 : (6 : Int) < (N.offs.length : Int) := by omega
      go_wp2
      exact HR.out _ _ (by simp) HB2.out
    · have r1 : ¬ ((6 : Int) < (N.offs.length : Int)) := by omega
      have H6 := hide h6
      clear h6
      go_wp2
      go_loopw [5] (fun sv wq => sv = .int .i64 0 ∧ wq = w2) (fun sv _ => 0)
      case atStart => exact ⟨rfl, rfl⟩
      case round =>
        obtain ⟨rfl, hwq⟩ := hrel
        subst hwq
        go_wp2
        exact HR.out _ _ (fun _ => by have := H6.out; omega) HB2.out
set_option maxRecDepth 100000 in
set_option maxHeartbeats 2000000 in
theorem topSmall_c (N : Net) (fr till : Int) (w : World) (R) (hN : NetAt w N) (hR : ∀ b w', (b = true → N.offs.length ≤ 6) → Below w.heap.size w w' → R (.returned (.bool b)) w') :
    Calls Tryz.prog 8 #[.agg N.cells, .int .i64 fr, .int .i64 till] w R := by
  have HR := hide hR; have HN := hide hN
  obtain ⟨w1, hw1⟩ : ∃ w1, w.alloc (.cells N.cells 29) = w1 := ⟨_, rfl⟩
  have hb1 : Below w.heap.size w w1 := hw1 ▸ balloc (Below.refl _ _) _
  have k1 : Blk w1 w.heap.size N.cells 29 := hw1 ▸ Blk.new _ _ _
  have HB := hide hb1; have HK := hide k1
  obtain ⟨y0, y1, y2, y3, y4, y5⟩ := k1.net6
  unfold Net.cells at hw1 ⊢
  clear hR hN hb1 k1
  go_enter Tryz.func8, Tryz.ntmps8
  go_wp2_with (go_at_call 34; refine Stop.out ?_)
  have hcall := small_c N w1
  unfold Net.cells at hcall
  clear hw1
  refine Stop.go (hcall _ (HN.out.next HB.out) ?_)
  intro b w2 hb6 hb
  have HB2 := hide (bseq HB.out hb); have H6 := hide hb6
  obtain ⟨y0', y1', y2', y3', y4', y5'⟩ := (HK.out.next hb).net6
  clear hb y0 y1 y2 y3 y4 y5 hcall hb6
  cases b with
  | false =>
    go_wp2
    exact HR.out _ _ (by simp) HB2.out
  | true =>
    have HR2 : Hid (∀ b, R (.returned (.bool b)) w2) := hide (fun b => HR.out b w2 (fun _ => H6.out rfl) HB2.out)
    go_wp2
    all_goals exact HR2.out _
end Go.Proofs.YtgfhcmidnbahjaaGreatDoor

namespace Go.Proofs.YtgfhcmidnbahjaaGreatDoor
open Go.RowKit Go.Shelf
attribute [local go_sem] Oper.semAt_some run_store_func

theorem infoLine : (Tryz.prog.info? 55).map (fun i => (i.zero, i.size, i.bytes)) = some (some (.agg #[.string ⟨#[]⟩, .int .i64 0, .int .i64 0, .int .i64 0, .int .i64 0, .int .i64 0]), 6, 56) := by kernel_rfl
theorem lin_len (b : Lin) : b.cells.length = 6 := rfl
theorem lins_one (l : List Lin) : ∀ u ∈ l.flatMap Lin.cells, u.oneCell' = true := fun u hu => by
  obtain ⟨s, _, hs⟩ := List.mem_flatMap.1 hu
  simp only [Lin.cells, List.mem_cons, List.not_mem_nil, or_false] at hs
  rcases hs with rfl | rfl | rfl | rfl | rfl | rfl <;> rfl
theorem src_enc {α : Type} {k : Nat} {enc : α → List Value} (hk : ∀ x, (enc x).length = k) (hk0 : 0 < k) {w : World} {p : Option Addr} {l : List α} (h : EncAt k enc w p l) : Src w p l.length k (l.flatMap enc) := by
  refine ⟨by rw [flatMap_len hk], fun h0 => ?_⟩
  obtain ⟨b, o, hp, hc⟩ := h h0
  refine ⟨_, hp, fun j u hu => ?_⟩
  have hj : j < l.length * k := by rw [← flatMap_len hk l]; exact (List.getElem?_eq_some_iff.1 hu).1
  have hdiv : j / k < l.length := Nat.div_lt_of_lt_mul (by rw [Nat.mul_comm]; exact hj)
  have hi : l[j / k]? = some l[j / k] := List.getElem?_eq_getElem hdiv
  have h1 := flatMap_at hk l (j / k) (j % k) _ hi (Nat.mod_lt _ hk0)
  have hdm : j / k * k + j % k = j := by rw [Nat.mul_comm]; exact Nat.div_add_mod j k
  rw [hdm, hu] at h1
  have h2 := hc (j / k) _ hi (j % k) u h1.symm
  rw [Addr.add_lit, show o + j = o + j / k * k + j % k by omega]
  exact h2
theorem own_take {w : World} {base g cap n i size : Nat} {e : TypeId} {xs : List Value} (h : w.ownsRow base e size (.slice (some ⟨g, 0, none⟩) n cap) n xs) (hi : i ≤ n) : w.ownsRow base e size (.slice (some ⟨g, 0, none⟩) i cap) i (xs.take (i * size)) := by
  have hle : i * size ≤ n * size := Nat.mul_le_mul_right _ hi
  refine ⟨by rw [List.length_take, h.1]; omega, ?_⟩
  rcases h.2 with ⟨hv, _⟩ | ⟨g', cap', cur, hv, hb, hg, hnc, hcm, hcs, htake⟩
  · injection hv with h1; cases h1
  · injection hv with h1 h2 h3
    subst h3
    refine .inr ⟨g', cap, cur, by injection h1 with h1; rw [h1], hb, hg, by omega, hcm, hcs, ?_⟩
    rw [← htake, List.take_take, Nat.min_eq_left hle]
theorem lin_set (l : List Lin) (i k : Nat) (hi : i < l.length) (v : Value) (y : Lin) (hy : (l.getD i default).cells.set k v = y.cells) (hk : k < 6) : (l.flatMap Lin.cells).set (i * 6 + k) v = (l.set i y).flatMap Lin.cells := by
  induction l generalizing i with
  | nil => simp at hi
  | cons x l ih =>
    cases i with
    | zero =>
      rw [List.getD_cons_zero] at hy
      rw [List.flatMap_cons, List.set_cons_zero, List.flatMap_cons, Nat.zero_mul, Nat.zero_add, List.set_append, if_pos (by rw [lin_len]; exact hk), hy]
    | succ i =>
      rw [List.getD_cons_succ] at hy
      rw [List.flatMap_cons, List.set_cons_succ, List.flatMap_cons, List.set_append, if_neg (by rw [lin_len]; omega), lin_len, show (i + 1) * 6 + k - 6 = i * 6 + k by omega, ih i (by simpa using hi) hy]
/-- A network with other lines. -/
def withL (N : Net) (p : Option Addr) (l : List Lin) (c : Nat) : Net := { N with lp := p, lins := l, lc := c }
theorem NetAt.withL {w' : World} {N : Net} {p : Option Addr} {c : Nat} {l : List Lin} {base : Nat} (h : NetAt w' N) (ho : w'.ownsRow base 55 6 (.slice p l.length c) l.length (l.flatMap Lin.cells)) (hl : ∀ x ∈ l, LinR x) (hm : l.length ≤ maxLen) : NetAt w' (withL N p l c) :=
  ⟨h.cals, h.cal, h.names, h.oprs, h.offs, h.off, EncAt.of_own lin_len (by decide) ho, hl, h.clss, h.cls, ⟨h.len.1, h.len.2.1, hm, h.len.2.2.2⟩⟩
/-- A block of six cells is written. -/
def lay6 (B : Nat) (x0 x1 x2 x3 x4 x5 : Value) (W : World) : World :=
  (((((W.setCell ⟨B, 0, none⟩ x0).setCell ⟨B, 1, none⟩ x1).setCell ⟨B, 2, none⟩ x2).setCell ⟨B, 3, none⟩ x3).setCell ⟨B, 4, none⟩ x4).setCell ⟨B, 5, none⟩ x5
theorem lay6_blk {B : Nat} {W : World} {x0 x1 x2 x3 x4 x5 : Value} {t : TypeId} {u0 u1 u2 u3 u4 u5 : Value} (h : Blk W B #[u0, u1, u2, u3, u4, u5] t) : Blk (lay6 B x0 x1 x2 x3 x4 x5 W) B #[x0, x1, x2, x3, x4, x5] t :=
  (((((h.set 0 x0).set 1 x1).set 2 x2).set 3 x3).set 4 x4).set 5 x5
theorem lay6_below {w W : World} {B : Nat} {x0 x1 x2 x3 x4 x5 : Value} (h : Below w.heap.size w W) (hB : w.heap.size ≤ B) : Below w.heap.size w (lay6 B x0 x1 x2 x3 x4 x5 W) :=
  (((((h.setCell (p := ⟨B, 0, none⟩) hB _).setCell (p := ⟨B, 1, none⟩) hB _).setCell (p := ⟨B, 2, none⟩) hB _).setCell (p := ⟨B, 3, none⟩) hB _).setCell (p := ⟨B, 4, none⟩) hB _).setCell (p := ⟨B, 5, none⟩) hB _
theorem own_off {g B k n c : Nat} (hne : g ≠ B) : (Value.slice (some ⟨g, 0, none⟩) n c).ownBlock ≠ some (⟨B, k, none⟩ : Addr).block := fun e => by injection e with e; exact hne e
theorem lay6_own {W : World} {B base n size : Nat} {v : Value} {e : TypeId} {xs : List Value} {x0 x1 x2 x3 x4 x5 : Value} (h : W.ownsRow base e size v n xs) (hne : v.ownBlock ≠ some B) : (lay6 B x0 x1 x2 x3 x4 x5 W).ownsRow base e size v n xs := by
  exact ownsRow_setCell_other (ownsRow_setCell_other (ownsRow_setCell_other (ownsRow_setCell_other (ownsRow_setCell_other (ownsRow_setCell_other h hne _) hne _) hne _) hne _) hne _) hne _
/-- The last two steps of w21Changed: what the walk reads. -/
structure ChE (w : World) (N : Net) (p : Option Addr) (c : Nat) (l : List Lin) (base : Nat) (W : World) : Prop where
  below : Below w.heap.size w W
  box : Blk W w.heap.size N.cells 29
  res : Blk W (w.heap.size + 1) #[.slice none 0 0, .slice none 0 0, .slice none 0 0, .slice none 0 0, .slice none 0 0, .slice none 0 0] 29
  own : W.ownsRow base 55 6 (.slice p l.length c) l.length (l.flatMap Lin.cells)
  rest : ∀ x ∈ l, LinR x
  far : w.heap.size + 1 < base
  max : l.length ≤ maxLen
theorem ChE.box2 {w : World} {N : Net} {p : Option Addr} {c base : Nat} {l : List Lin} {W : World} (h : ChE w N p c l base W) : Blk (W.setCell ⟨w.heap.size, 4, none⟩ (.slice p l.length c)) w.heap.size (withL N p l c).cells 29 := h.box.set 4 _
theorem ChE.res2 {w : World} {N : Net} {p : Option Addr} {c base : Nat} {l : List Lin} {W : World} (h : ChE w N p c l base W) : Blk (W.setCell ⟨w.heap.size, 4, none⟩ (.slice p l.length c)) (w.heap.size + 1) #[.slice none 0 0, .slice none 0 0, .slice none 0 0, .slice none 0 0, .slice none 0 0, .slice none 0 0] 29 :=
  h.res.far (p := ⟨w.heap.size, 4, none⟩) (show w.heap.size + 1 ≠ w.heap.size by omega) _
theorem ChE.fin {w : World} {N : Net} {p : Option Addr} {c base : Nat} {l : List Lin} {W : World} (h : ChE w N p c l base W) (hN : NetAt w N) :
    NetAt (lay6 (w.heap.size + 1) (.slice N.cp N.cals.length N.cc) (.slice N.np N.names.length N.nc) (.slice N.op N.oprs.length N.oc) (.slice N.fp N.offs.length N.fc) (.slice p l.length c) (.slice N.kp N.clss.length N.kc) (W.setCell ⟨w.heap.size, 4, none⟩ (.slice p l.length c))) (withL N p l c) ∧
    Below w.heap.size w (lay6 (w.heap.size + 1) (.slice N.cp N.cals.length N.cc) (.slice N.np N.names.length N.nc) (.slice N.op N.oprs.length N.oc) (.slice N.fp N.offs.length N.fc) (.slice p l.length c) (.slice N.kp N.clss.length N.kc) (W.setCell ⟨w.heap.size, 4, none⟩ (.slice p l.length c))) ∧
    Blk (lay6 (w.heap.size + 1) (.slice N.cp N.cals.length N.cc) (.slice N.np N.names.length N.nc) (.slice N.op N.oprs.length N.oc) (.slice N.fp N.offs.length N.fc) (.slice p l.length c) (.slice N.kp N.clss.length N.kc) (W.setCell ⟨w.heap.size, 4, none⟩ (.slice p l.length c))) (w.heap.size + 1) (withL N p l c).cells 29 := by
  have hb := lay6_below (x0 := .slice N.cp N.cals.length N.cc) (x1 := .slice N.np N.names.length N.nc) (x2 := .slice N.op N.oprs.length N.oc) (x3 := .slice N.fp N.offs.length N.fc) (x4 := .slice p l.length c) (x5 := .slice N.kp N.clss.length N.kc) (B := w.heap.size + 1) (h.below.setCell (p := ⟨w.heap.size, 4, none⟩) (Nat.le_refl _) (.slice p l.length c)) (by omega)
  refine ⟨?_, hb, lay6_blk h.res2⟩
  refine NetAt.withL (hN.next hb) (lay6_own (ownsRow_setCell_other h.own (fun e => by have h1 : base ≤ w.heap.size := (h.own.lt _ e).1; have := h.far; omega) _) (fun e => by have := (h.own.lt _ e).1; have := h.far; omega)) h.rest h.max
end Go.Proofs.YtgfhcmidnbahjaaGreatDoor
