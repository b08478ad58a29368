import Derived.Test.YtkbdkkllfaljlaaM1
import Derived.Test.YtkbdkkllfaljlaaChecked
import Derived.OwnWalk
import Derived.Laws.CopyOwn
import Derived.Deep.RegionHeld3
set_option linter.unusedVariables false
set_option linter.unusedSimpArgs false
namespace Go.Proofs.Ytkbdkkllfaljlaa
open Go.RowKit

theorem Try.info3 : (Try.prog.info? 3).map (fun i => (i.zero, i.size, i.bytes)) = some (some (.int .i64 0), 1, 8) := by kernel_rfl
theorem least_c (x : Int) (p : Option Addr) (n cap : Nat) (l : List Int) (w : World) (R) (hn : l.length = n) (hl : n ≤ maxLen) (h : IntsAt .i64 w p l) (hR : R (.returned (.int .i64 (leastL x l))) w) :
    Calls Try.prog 27 #[.int .i64 x, .slice p n cap] w R := by
  unfold maxLen at hl
  have Hn := hide hn; have HR := hide hR
  clear hn hR
  go_enter Try.func27, Try.ntmps27
  go_wp2
  go_loop [0, 9] (fun t i => ∃ k : Nat, k ≤ n ∧ i = .int .i64 k ∧ t = .int .i64 (leastL x (l.take k))) (fun _ i => n - (intOf i).toNat)
  case atStart => exact ⟨0, Nat.zero_le _, rfl, rfl⟩
  case round =>
    obtain ⟨k, hk, rfl, rfl⟩ := hrel
    by_cases hlt : k < n
    · obtain ⟨b, o, y, rfl, hy, hc⟩ := h.at_ (i := k) (by rw [Hn.out]; exact hlt)
      have Hs := hide (show leastL x (l.take (k + 1)) = min (leastL x (l.take k)) y by rw [List.take_add_one, hy]; exact leastL_snoc _ _ _)
      clear hy h
      generalize leastL x (l.take k) = z at *
      go_wp2
      go_round
      case rel => exact ⟨k + 1, by omega, by go_num, by rw [Hs.out]⟩
      case measure => simp [intOf]; omega
    · have hkn : l.take k = l := List.take_of_length_le (by rw [Hn.out]; omega)
      have HR1 := hide HR.out
      rw [← hkn] at HR1
      clear hkn
      generalize leastL x (l.take k) = z at *
      go_wp2
      exact HR1.out

theorem IntKind_wrap_nat (n : Nat) (h : n ≤ 1000000) : IntKind.i64.wrap (n : Int) = (n : Int) := IntWalk.i64_in _ (by omega)
theorem World.frozen_alloc_own {wr : World} {base e size n cap g : Nat} {xs : List Value} (h : wr.ownsRow base e size (.slice (some ⟨g, 0, none⟩) n cap) n xs) (o : Obj) (j : Nat) : (wr.alloc o).frozen? ⟨g, j, none⟩ = false := (h.alloc o).frozenAt j
/-- The cells of an array of 201 numbers. -/
def zer201 : Array Value := Array.replicate 201 (.int .i64 0)
theorem zero56 (w : World) : Sem.run Try.prog (zeroValue 56) w = .ok (.agg zer201) w := by kernel_rfl
theorem size56 : Try.prog.cellsOf 56 = 201 := by kernel_rfl
theorem zer_list : zer201.toList = (List.replicate 201 (0 : Int)).map (Value.int .i64) := by
  rw [zer201, Array.toList_replicate, List.map_replicate]
/-- A block that is an array of 201 numbers. -/
abbrev Arr (base : Nat) (w : World) (g : Nat) (xs : List Int) : Prop := w.ownsRow base 56 1 (.slice (some ⟨g, 0, none⟩) 201 201) 201 (xs.map (Value.int .i64))
theorem Arr.new (w : World) (base : Nat) (hb : base ≤ w.heap.size) : Arr base (w.alloc (.cells zer201 56)) w.heap.size (List.replicate 201 0) := by
  refine ⟨by rw [List.length_map, List.length_replicate], .inr ⟨w.heap.size, 201, zer201, rfl, hb, ?_, Nat.le_refl _, by decide, by rw [zer201, Array.size_replicate], ?_⟩⟩
  · exact heap_alloc_new w _
  · rw [zer_list, List.take_of_length_le (by rw [List.length_map, List.length_replicate]; omega)]

theorem Arr.heap {base : Nat} {w : World} {g : Nat} {xs : List Int} (h : Arr base w g xs) : w.heap[g]? = some (.cells (xs.map (Value.int .i64)).toArray 56 (0, 0)) := by
  rcases h.2 with ⟨h1, _⟩ | ⟨g', cap, cur, h1, _, h3, _, _, h6, h7⟩
  · cases h1
  · injection h1 with h1 _ h2
    injection h1 with h1
    injection h1 with h1
    subst h1; subst h2
    rw [h3, ← h7]
    congr
    rw [List.take_of_length_le (by simp; omega)]
theorem Arr.of_heap {base : Nat} {w : World} {g : Nat} {xs : List Int} (hl : xs.length = 201) (hb : base ≤ g) (h : w.heap[g]? = some (.cells (xs.map (Value.int .i64)).toArray 56 (0, 0))) : Arr base w g xs :=
  ⟨by rw [List.length_map, hl], .inr ⟨g, 201, _, rfl, hb, h, Nat.le_refl _, by decide, by simp [hl], by
    rw [List.take_of_length_le (by simp [hl])]⟩⟩
theorem Arr.cells_at {base : Nat} {w : World} {g : Nat} {xs : List Int} (h : Arr base w g xs) : ∀ j v, (xs.map (Value.int .i64))[j]? = some v → w.cell? ((⟨g, 0, none⟩ : Addr).add j) = some v := fun j v hj => h.cells (g := g) rfl j v hj
theorem ints_oneCell (k : IntKind) (l : List Int) : ∀ u ∈ l.map (Value.int k), u.oneCell' = true := by
  intro u hu
  obtain ⟨x, _, rfl⟩ := List.mem_map.1 hu
  rfl
theorem own_other {w : World} {base e size g n cap : Nat} {xs : List Value} (h : w.ownsRow base e size (.slice (some ⟨g, 0, none⟩) n cap) n xs) (g' i : Nat) (v : Value) (hne : g ≠ g') : (w.setCell ⟨g', i, none⟩ v).ownsRow base e size (.slice (some ⟨g, 0, none⟩) n cap) n xs :=
  h.kept (grownBy_set (World.grownBy.refl w (some g')) i v) (.inr (by simpa [Value.ownBlock] using hne))
theorem store_other {w : World} {p a : Addr} {u v : Value} (h : w.cell? a = some u) (hne : p ≠ a) : (w.setCell p v).cell? a = some u := (World.cell?_setCell_other w p a v (fun e => by first | exact hne e | exact hne e.symm)).trans h
theorem below_set {w w1 : World} (h : Below w.heap.size w w1) (g i : Nat) (v : Value) (hg : w.heap.size ≤ g) : Below w.heap.size w (w1.setCell ⟨g, i, none⟩ v) := h.setCell (p := ⟨g, i, none⟩) hg v
theorem row_step {a b : List UInt8} {k m bs : Nat} {zs : List Int} {V : Int} (h : zs.length = 201 ∧ (∀ t, t ≤ m → zs.getD t 0 = (rowN a b (k + 1) t : Int)) ∧ (∀ t, m < t → t ≤ bs → zs.getD t 0 = (rowN a b k t : Int))) (hm : m + 1 < 201) (hV : V = (rowN a b (k + 1) (m + 1) : Int)) :
    (zs.set (m + 1) V).length = 201 ∧ (∀ t, t ≤ m + 1 → (zs.set (m + 1) V).getD t 0 = (rowN a b (k + 1) t : Int)) ∧ (∀ t, m + 1 < t → t ≤ bs → (zs.set (m + 1) V).getD t 0 = (rowN a b k t : Int)) := by
  refine ⟨by rw [List.length_set]; exact h.1, fun t ht => ?_, fun t h1 h2 => ?_⟩
  · rw [List.getD_eq_getElem?_getD, List.getElem?_set]
    by_cases e : m + 1 = t
    · subst e; rw [if_pos rfl, if_pos (by rw [h.1]; omega)]; exact hV
    · rw [if_neg e, ← List.getD_eq_getElem?_getD]; exact h.2.1 t (by omega)
  · rw [List.getD_eq_getElem?_getD, List.getElem?_set, if_neg (by omega), ← List.getD_eq_getElem?_getD]; exact h.2.2 t (by omega) h2
set_option maxRecDepth 100000 in
set_option maxHeartbeats 4000000 in
theorem dist_c (a b : ByteArray) (w : World) (R) (ha : a.size ≤ 200) (hb : b.size ≤ 200) (hR : ∀ w', Below w.heap.size w w' → R (.returned (.int .i64 (lev a.data.toList b.data.toList))) w') : Calls Try.prog 14 #[.string a, .string b] w R := by
  have HR := hide hR; clear hR
  have hz := zero56
  have A5 := hide (Arr.new w w.heap.size (Nat.le_refl _))
  have A6 := hide (Arr.new (w.alloc (.cells zer201 56)) w.heap.size (by simp))
  have A5' : Hid (Arr w.heap.size ((w.alloc (.cells zer201 56)).alloc (.cells zer201 56)) w.heap.size (List.replicate 201 0)) := hide (A5.out.alloc _)
  have e6 : (w.alloc (.cells zer201 56)).heap.size = w.heap.size + 1 := by simp
  rw [e6] at A6
  have HB : Hid (Below w.heap.size w ((w.alloc (.cells zer201 56)).alloc (.cells zer201 56))) := hide (balloc (balloc (Below.refl _ _) _) _)
  clear A5 e6
  go_enter Try.func14, Try.ntmps14
  go_wp2
  generalize hw2 : (w.alloc (.cells zer201 56)).alloc (.cells zer201 56) = w2 at *
  clear hw2
  have hl1 : w.heap.size < w2.heap.size := (A5'.out.lt _ rfl).2
  have hl2 : w.heap.size + 1 < w2.heap.size := (A6.out.lt _ rfl).2
  have Ha := hide (show a.data.toList.length = a.size by simp)
  have Hb := hide (show b.data.toList.length = b.size by simp)
  go_loopw [7, 22] (fun q i wr => ∃ (k : Nat) (xs : List Int), k ≤ b.size + 1 ∧ i = .int .i64 k ∧ Hid (xs.length = 201 ∧ ∀ t, t < k → xs.getD t 0 = (t : Int)) ∧ Hid (Arr w.heap.size wr w.heap.size xs) ∧ Hid (Arr w.heap.size wr (w.heap.size + 1) (List.replicate 201 0)) ∧ Hid (Below w.heap.size w wr)) (fun _ i _ => b.size + 1 - (intOf i).toNat)
  case atStart => exact ⟨0, _, Nat.zero_le _, rfl, hide ⟨List.length_replicate, fun t h => by omega⟩, A5', A6, HB⟩
  case round =>
    clear A5' A6 HB
    obtain ⟨k, xs, hk, rfl, hx, P, Q, Hbl⟩ := hrel
    by_cases hlt : k < b.size + 1
    · have hk2 : k < 201 := by omega
      have hck := owni_cell P.out (i := k) hk2
      have hfz := P.out.frozenAt k
      generalize xs.getD k 0 = z at *
      have P2 := hide (owni_set P.out k (k : Int))
      have Q2 := hide (own_other Q.out w.heap.size k (.int .i64 k) (by omega))
      have Hb2 := hide (below_set Hbl.out w.heap.size k (.int .i64 k) (Nat.le_refl _))
      have hx2 := hide (show (xs.set k (k : Int)).length = 201 ∧ ∀ t, t < k + 1 → (xs.set k (k : Int)).getD t 0 = (t : Int) from ⟨by rw [List.length_set]; exact hx.out.1, fun t ht => by
        rw [List.getD_eq_getElem?_getD, List.getElem?_set]
        by_cases e : k = t
        · subst e; rw [if_pos rfl, if_pos (by rw [hx.out.1]; omega)]; rfl
        · rw [if_neg e, ← List.getD_eq_getElem?_getD]; exact hx.out.2 t (by omega)⟩)
      clear P Q Hbl
      go_wp2
      go_roundw
      case rel => exact ⟨k + 1, _, by omega, by go_num, hx2, P2, Q2, Hb2⟩
      case measure => simp [intOf]; omega
    · have hkk : k = b.size + 1 := by omega
      have hz2 : (k : Int) = (b.size : Int) + 1 := by omega
      rw [hz2]
      have hx2 := hide (show xs.length = 201 ∧ ∀ t, t ≤ b.size → xs.getD t 0 = (rowN a.data.toList b.data.toList 0 t : Int) from ⟨hx.out.1, fun t ht => by rw [rowN_zero]; exact hx.out.2 t (by omega)⟩)
      clear hx hlt hz2
      have Hkk := hide hkk
      clear hkk hk
      have hnlt : ¬ (b.size : Int) + 1 < (b.size : Int) + 1 := by omega
      go_wp2
      go_loopw [31] (fun i wr => ∃ (k : Nat) (xs ys : List Int), k ≤ a.size ∧ i = .int .i64 k ∧ Hid (xs.length = 201 ∧ ∀ t, t ≤ b.size → xs.getD t 0 = (rowN a.data.toList b.data.toList k t : Int)) ∧ Hid (ys.length = 201) ∧ Hid (Arr w.heap.size wr w.heap.size xs) ∧ Hid (Arr w.heap.size wr (w.heap.size + 1) ys) ∧ Hid (Below w.heap.size w wr)) (fun i _ => a.size - (intOf i).toNat)
      case atStart => exact ⟨0, xs, _, Nat.zero_le _, rfl, hx2, hide List.length_replicate, P, Q, Hbl⟩
      case round =>
        clear P Q Hbl hx2 xs
        obtain ⟨k, xs, ys, hk, rfl, hx, hy, P, Q, Hbl⟩ := hrel
        by_cases hlt : k < a.size
        · go_wp2
          go_still_tail 2, (by kernel_rfl)
          change wpList _ _ _ _ _ wr.drew
          refine wpList_copy_splice rfl (.tmp 34) (.tmp 35) 57 57 rfl 3 Try.underlying57 (by kernel_rfl) _ _ 201 201 201 201 rfl rfl (w.heap.size + 1) 0 (ys.map (Value.int .i64)) 56 Q.out.heap (xs.map (Value.int .i64)) (by rw [List.length_map, hx.out.1]; rfl) (fun _ => ⟨rfl, _, rfl, P.out.cells_at⟩) (by rw [List.length_map, List.length_map, hx.out.1, hy.out]; omega) (ints_oneCell _ _) (w.heap.size + 1) wr.drew (Below.refl _ _) (Nat.le_refl _) ?_
          intro w4 hg4 hb4
          have Q4 : Hid (Arr w.heap.size w4 (w.heap.size + 1) xs) := hide (Arr.of_heap hx.out.1 (by omega) (by
            have h1 := hg4.out
            rw [show splice (ys.map (Value.int .i64)) 0 (xs.map (Value.int .i64)) = xs.map (Value.int .i64) by
              unfold splice
              rw [List.take_zero, List.drop_of_length_le (by rw [List.length_map, List.length_map, hx.out.1, hy.out]; omega)]; simp] at h1
            exact h1))
          have P4 : Hid (Arr w.heap.size w4 w.heap.size xs) := hide (Arr.of_heap hx.out.1 (Nat.le_refl _) ((hb4.block w.heap.size (by omega)).trans P.out.heap))
          have Hb4 : Hid (Below w.heap.size w w4) := hide (Hbl.out.drew.trans (hb4.mono (by omega)))
          clear hg4 hb4 P Q Hbl hy
          have hc0 := owni_cell P4.out (i := 0) (by omega)
          have hf0 := P4.out.frozenAt 0
          generalize xs.getD 0 0 = z0 at *
          have P5 := hide (owni_set P4.out 0 ((k : Int) + 1))
          have Q5 := hide (own_other Q4.out w.heap.size 0 (.int .i64 ((k : Int) + 1)) (by omega))
          have Hb5 := hide (below_set Hb4.out w.heap.size 0 (.int .i64 ((k : Int) + 1)) (Nat.le_refl _))
          have h5 := hide (show (xs.set 0 ((k : Int) + 1)).length = 201 ∧ (∀ t, t ≤ 0 → (xs.set 0 ((k : Int) + 1)).getD t 0 = (rowN a.data.toList b.data.toList (k + 1) t : Int)) ∧ (∀ t, 0 < t → t ≤ b.size → (xs.set 0 ((k : Int) + 1)).getD t 0 = (rowN a.data.toList b.data.toList k t : Int)) from
            ⟨by rw [List.length_set]; exact hx.out.1, fun t ht => by
              rw [show t = 0 by omega, rowN_left, List.getD_eq_getElem?_getD, List.getElem?_set, if_pos rfl, if_pos (by rw [hx.out.1]; omega)]; simp, fun t ht1 ht2 => by
              rw [List.getD_eq_getElem?_getD, List.getElem?_set, if_neg (by omega), ← List.getD_eq_getElem?_getD]; exact hx.out.2 t ht2⟩)
          clear P4 Q4 Hb4
          generalize xs.set 0 ((k : Int) + 1) = zs at *
          go_wp2_with fail
          go_loopw [42] (fun j wr => ∃ (m : Nat) (zs : List Int), m ≤ b.size ∧ j = .int .i64 m ∧ Hid (zs.length = 201 ∧ (∀ t, t ≤ m → zs.getD t 0 = (rowN a.data.toList b.data.toList (k + 1) t : Int)) ∧ (∀ t, m < t → t ≤ b.size → zs.getD t 0 = (rowN a.data.toList b.data.toList k t : Int))) ∧ Hid (Arr w.heap.size wr w.heap.size zs) ∧ Hid (Arr w.heap.size wr (w.heap.size + 1) xs) ∧ Hid (Below w.heap.size w wr)) (fun j _ => b.size - (intOf j).toNat)
          case atStart => exact ⟨0, zs, Nat.zero_le _, rfl, h5, P5, Q5, Hb5⟩
          case round =>
            clear P5 Q5 Hb5 h5 zs hc0 hf0
            obtain ⟨m, zs, hm, rfl, h5, P, Q, Hbl⟩ := hrel
            by_cases hlm : m < b.size
            · have hv1 := owni_cell Q.out (i := m) (by omega)
              have hv2 := owni_cell Q.out (i := m + 1) (by omega)
              have hv3 := owni_cell P.out (i := m) (by omega)
              have hv4 := owni_cell P.out (i := m + 1) (by omega)
              have hfz := fun j => P.out.frozenAt j
              rw [hx.out.2 m (by omega)] at hv1
              rw [hx.out.2 (m + 1) (by omega)] at hv2
              rw [h5.out.2.1 m (Nat.le_refl _)] at hv3
              have l1 := rowN_le a.data.toList b.data.toList k m
              have l2 := rowN_le a.data.toList b.data.toList k (m + 1)
              have l3 := rowN_le a.data.toList b.data.toList (k + 1) m
              have Hs := hide (rowN_succ a.data.toList b.data.toList k m)
              have Hx2 := hide (fun t => hx.out.2 t)
              generalize hr1 : rowN a.data.toList b.data.toList k m = r1 at *
              generalize hr2 : rowN a.data.toList b.data.toList k (m + 1) = r2 at *
              generalize hr3 : rowN a.data.toList b.data.toList (k + 1) m = r3 at *
              have Hr := hide (And.intro hr1 (And.intro hr2 hr3))
              clear hr1 hr2 hr3
              generalize zs.getD (m + 1) 0 = z4 at *
              have hea : a.data.toList.getD k 0 = a[k] := by
                rw [List.getD_eq_getElem?_getD, List.getElem?_eq_getElem (by simpa using hlt)]; rfl
              have heb : b.data.toList.getD m 0 = b[m] := by
                rw [List.getD_eq_getElem?_getD, List.getElem?_eq_getElem (by simpa using hlm)]; rfl
              rw [hea, heb] at Hs
              clear hea heb
              go_wp2
              go_quiet (fail)
              by_cases he : a[k] = b[m]
              · have hne : ((a[k].toNat : Int) != (b[m].toNat : Int)) = false := by rw [he]; simp
                have Hv := hide (show (rowN a.data.toList b.data.toList (k + 1) (m + 1) : Int) = min (min (r1 : Int) ((r2 : Int) + 1)) ((r3 : Int) + 1) by rw [Hs.out, he, beq_self_eq_true]; unfold cellV; simp only [if_true]; omega)
                clear he
                go_wp2
                have hwm := IntKind_wrap_nat (m + 1) (by omega)
                have e1 : ((m : Int) + 1).toNat = m + 1 := by omega
                have e2 : (0 : Int) ≤ (m : Int) + 1 := by omega
                have e3 : (m : Int) + 1 < 201 := by omega
                have e4 : (m : Int) < 201 := by omega
                have hw2 := IntKind_wrap_nat (r2 + 1) (by omega)
                have hw3 := IntKind_wrap_nat (r3 + 1) (by omega)
                simp only [Int.natCast_add, Int.natCast_one] at hwm hw2 hw3
                have hfz1 := hfz (m + 1)
                have q2 : wr.cell? ⟨w.heap.size + 1, m + 1, none⟩ = some (.int .i64 r2) := hv2
                have q3 : wr.cell? ⟨w.heap.size, m, none⟩ = some (.int .i64 r3) := hv3
                have q4 : wr.cell? ⟨w.heap.size, m + 1, none⟩ = some (.int .i64 z4) := hv4
                have hs5 : w.heap.size < wr.heap.size := (P.out.lt _ rfl).2
                have hs6 : w.heap.size + 1 < wr.heap.size := (Q.out.lt _ rfl).2
                have q5 : ∀ n o, ((wr.drewN n).alloc o).cell? ⟨w.heap.size, m + 1, none⟩ = some (.int .i64 z4) := fun n o => Keeps.alloc (wr.drewN n) o _ _ hv4
                have q6 : ∀ n o, ((wr.drewN n).alloc o).frozen? ⟨w.heap.size, m + 1, none⟩ = false := fun n o => World.frozen_alloc_own (wr := wr.drewN n) P.out o _
                have HP := hide (And.intro P.out (And.intro Q.out Hbl.out))
                go_region_held3 (fun w' => w'.cell? ⟨w.heap.size + 1, m + 1, none⟩ = some (.int .i64 r2) ∧ w'.cell? ⟨w.heap.size, m, none⟩ = some (.int .i64 r3))
                  (first | (go_keep; done) | exact ⟨store_other (Keeps.alloc (wr.drewN _) _ _ _ q2) (by simp), store_other (Keeps.alloc (wr.drewN _) _ _ _ q3) (by simp)⟩)
                  (first | (go_at_call 27; refine least_c (r1 : Int) _ 2 2 [(r2 : Int) + 1, (r3 : Int) + 1] _ _ rfl (by decide) (IntsAt.lit _) ?_))
                go_wp2
                go_roundw
                case rel =>
                  refine ⟨m + 1, zs.set (m + 1) (leastL (r1 : Int) [(r2 : Int) + 1, (r3 : Int) + 1]), by omega, by go_num, hide ?_, hide (owni_set (World.ownsRow.alloc (w := wr.drewN _) HP.out.1 _) (m + 1) _), hide (own_other (World.ownsRow.alloc (w := wr.drewN _) HP.out.2.1 _) _ _ _ (by omega)), hide (below_set (balloc (below_drewN HP.out.2.2 _) _) _ _ _ (Nat.le_refl _))⟩
                  exact row_step h5.out (by omega) (by rw [Hv.out]; simp [leastL])
                case measure => simp [intOf]; omega
              · have hne : ((a[k].toNat : Int) != (b[m].toNat : Int)) = true := by
                  simp only [bne_iff_ne, ne_eq]; intro h; exact he (UInt8.toNat_inj.1 (by omega))
                have Hv := hide (show (rowN a.data.toList b.data.toList (k + 1) (m + 1) : Int) = min (min ((r1 : Int) + 1) ((r2 : Int) + 1)) ((r3 : Int) + 1) by rw [Hs.out, beq_false_of_ne he]; unfold cellV; simp only [Bool.false_eq_true, if_false]; omega)
                clear he
                go_wp2
                have hwm := IntKind_wrap_nat (m + 1) (by omega)
                have e1 : ((m : Int) + 1).toNat = m + 1 := by omega
                have e2 : (0 : Int) ≤ (m : Int) + 1 := by omega
                have e3 : (m : Int) + 1 < 201 := by omega
                have e4 : (m : Int) < 201 := by omega
                have hw2 := IntKind_wrap_nat (r2 + 1) (by omega)
                have hw3 := IntKind_wrap_nat (r3 + 1) (by omega)
                simp only [Int.natCast_add, Int.natCast_one] at hwm hw2 hw3
                have hfz1 := hfz (m + 1)
                have q2 : wr.cell? ⟨w.heap.size + 1, m + 1, none⟩ = some (.int .i64 r2) := hv2
                have q3 : wr.cell? ⟨w.heap.size, m, none⟩ = some (.int .i64 r3) := hv3
                have q4 : wr.cell? ⟨w.heap.size, m + 1, none⟩ = some (.int .i64 z4) := hv4
                have hs5 : w.heap.size < wr.heap.size := (P.out.lt _ rfl).2
                have hs6 : w.heap.size + 1 < wr.heap.size := (Q.out.lt _ rfl).2
                have q5 : ∀ n o, ((wr.drewN n).alloc o).cell? ⟨w.heap.size, m + 1, none⟩ = some (.int .i64 z4) := fun n o => Keeps.alloc (wr.drewN n) o _ _ hv4
                have q6 : ∀ n o, ((wr.drewN n).alloc o).frozen? ⟨w.heap.size, m + 1, none⟩ = false := fun n o => World.frozen_alloc_own (wr := wr.drewN n) P.out o _
                have HP := hide (And.intro P.out (And.intro Q.out Hbl.out))
                go_region_held3 (fun w' => w'.cell? ⟨w.heap.size + 1, m + 1, none⟩ = some (.int .i64 r2) ∧ w'.cell? ⟨w.heap.size, m, none⟩ = some (.int .i64 r3))
                  (first | (go_keep; done) | exact ⟨store_other (Keeps.alloc (wr.drewN _) _ _ _ q2) (by simp), store_other (Keeps.alloc (wr.drewN _) _ _ _ q3) (by simp)⟩)
                  (first | (go_at_call 27; refine least_c ((r1 : Int) + 1) _ 2 2 [(r2 : Int) + 1, (r3 : Int) + 1] _ _ rfl (by decide) (IntsAt.lit _) ?_))
                go_wp2
                go_roundw
                case rel =>
                  refine ⟨m + 1, zs.set (m + 1) (leastL ((r1 : Int) + 1) [(r2 : Int) + 1, (r3 : Int) + 1]), by omega, by go_num, hide ?_, hide (owni_set (World.ownsRow.alloc (w := wr.drewN _) HP.out.1 _) (m + 1) _), hide (own_other (World.ownsRow.alloc (w := wr.drewN _) HP.out.2.1 _) _ _ _ (by omega)), hide (below_set (balloc (below_drewN HP.out.2.2 _) _) _ _ _ (Nat.le_refl _))⟩
                  exact row_step h5.out (by omega) (by rw [Hv.out]; simp [leastL])
                case measure => simp [intOf]; omega
            · have hmm : m = b.size := by omega
              subst hmm
              go_wp2
              go_roundw
              case rel => exact ⟨k + 1, zs, xs, by omega, by go_num, hide ⟨h5.out.1, h5.out.2.1⟩, hide hx.out.1, P, Q, Hbl⟩
              case measure => simp [intOf]; omega
        · have hkk : k = a.size := by omega
          have hcb := owni_cell P.out (i := b.size) (by omega)
          rw [hx.out.2 b.size (Nat.le_refl _)] at hcb
          have HR1 := hide (HR.out _ Hbl.out)
          unfold lev at HR1
          rw [Ha.out, Hb.out, ← hkk] at HR1
          clear hlt
          generalize rowN a.data.toList b.data.toList k b.size = res at *
          go_wp2
          exact HR1.out
end Go.Proofs.Ytkbdkkllfaljlaa
