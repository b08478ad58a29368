import Derived.Test.YtkbdkkllfaljlaaC8
import Derived.BigRegion
set_option linter.unusedVariables false
set_option linter.unusedSimpArgs false
namespace Go.Proofs.Ytkbdkkllfaljlaa
open Go.RowKit Go.ChangeMaps

/-! ### the reference: the distance -/
theorem Try.info57 : (Try.prog.info? 57).map (fun i => (i.zero, i.size, i.bytes)) = some (some (.slice none 0 0), 1, 24) := by kernel_rfl
def distV (a b : ByteArray) : Int := if 200 < a.size ∨ 200 < b.size then -1 else (bdist a b : Int)
theorem dist_any_c (a b : ByteArray) (w : World) (R) (hR : ∀ w', Below w.heap.size w w' → R (.returned (.int .i64 (distV a b))) w') : Calls Try.prog 14 #[.string a, .string b] w R := by
  unfold distV at hR
  by_cases h1 : (200 : Int) < (a.size : Int)
  · rw [if_pos (.inl (by omega))] at hR
    have HR := hide (hR w (Below.refl _ _)); clear hR
    go_enter Try.func14, Try.ntmps14
    go_wp2
    exact HR.out
  · by_cases h2 : (200 : Int) < (b.size : Int)
    · rw [if_pos (.inr (by omega))] at hR
      have HR := hide (hR w (Below.refl _ _)); clear hR
      go_enter Try.func14, Try.ntmps14
      go_wp2
      exact HR.out
    · rw [if_neg (by omega)] at hR
      exact bdist_c a b w R (by omega) (by omega) hR
/-- A row of the distances in a block of its own. -/
abbrev DRow (B : Nat) (w : World) (g m : Nat) (xs : List Int) : Prop := w.ownsRow B 3 1 (.slice (some ⟨g, 0, none⟩) (m + 1) (m + 1)) (m + 1) (xs.map (Value.int .i64))
def rowI (a b : List UInt8) (i m : Nat) : List Int := (List.range (m + 1)).map fun j => (rowN a b i j : Int)
/-- Rows under way: i of them, the last one known. -/
structure RSt (a b : ByteArray) (w : World) (i : Nat) (v : Value) (wr : World) : Prop where
  rows : ∃ RS : List Value, RS.length = i ∧ wr.ownsRow w.heap.size 57 1 v i RS ∧ ∀ p, p + 1 = i → ∃ g, RS[p]? = some (.slice (some ⟨g, 0, none⟩) (b.size + 1) (b.size + 1)) ∧ DRow w.heap.size wr g b.size (rowI a.data.toList b.data.toList p b.size)
  below : Below w.heap.size w wr
theorem row_more {a b : List UInt8} {i m k : Nat} {zs : List Int} {V : Int} (h : zs.length = m + 1 ∧ ∀ t, t < k → zs.getD t 0 = (rowN a b i t : Int)) (hk : k < m + 1) (hV : V = (rowN a b i k : Int)) :
    (zs.set k V).length = m + 1 ∧ ∀ t, t < k + 1 → (zs.set k V).getD t 0 = (rowN a b i t : Int) := by
  refine ⟨by rw [List.length_set]; exact h.1, fun t ht => ?_⟩
  rw [List.getD_eq_getElem?_getD, List.getElem?_set]
  by_cases e : k = t
  · subst e; rw [if_pos rfl, if_pos (by rw [h.1]; exact hk)]; exact hV
  · rw [if_neg e, ← List.getD_eq_getElem?_getD]; exact h.2 t (by omega)
theorem row_full {a b : List UInt8} {i m : Nat} {zs : List Int} (h : zs.length = m + 1 ∧ ∀ t, t < m + 1 → zs.getD t 0 = (rowN a b i t : Int)) : zs = rowI a b i m := by
  apply List.ext_getElem?
  intro t
  rcases Nat.lt_or_ge t (m + 1) with ht | ht
  · have := h.2 t ht
    rw [List.getD_eq_getElem?_getD, List.getElem?_eq_getElem (by omega)] at this
    rw [List.getElem?_eq_getElem (by omega)]
    unfold rowI
    rw [at_range _ _ _ ht]
    simpa using this
  · rw [List.getElem?_eq_none (by omega), List.getElem?_eq_none (by unfold rowI; simp; omega)]
theorem rows_set {w : World} {B B' n m G k : Nat} {v : Value} {RS : List Value} {zs : List Int} (hO : w.ownsRow B 57 1 v n RS) (hD : DRow B' w G m zs) (u : Value) : (w.setCell ⟨G, k, none⟩ u).ownsRow B 57 1 v n RS := by
  refine hO.kept (grownBy_set (World.grownBy.refl w (some G)) k u) ?_
  cases h : v.ownBlock with
  | none => exact .inl rfl
  | some j => exact .inr fun e => own_ne hO hD (by decide) h e.symm
theorem drow_grown {w w' : World} {B B' n m G : Nat} {v : Value} {RS : List Value} {zs : List Int} (hO : w.ownsRow B 57 1 v n RS) (hD : DRow B' w G m zs) (hg : w.grownBy w' v.ownBlock) : DRow B' w' G m zs := by
  refine World.ownsRow.kept hD hg (.inr fun e => ?_)
  exact own_ne hO hD (by decide) e.symm rfl
theorem rows_at {w : World} {B n cap : Nat} {q : Option Addr} {RS : List Value} {p : Nat} {u : Value} (h : w.ownsRow B 57 1 (.slice q n cap) n RS) (hp : p < n) (hu : RS[p]? = some u) : ∃ gr, q = some ⟨gr, 0, none⟩ ∧ w.cell? ⟨gr, p, none⟩ = some u := by
  obtain ⟨gr, cap', hv, _, _⟩ := own_form h (by omega)
  injection hv with h1 h2 h3
  subst h1
  exact ⟨gr, rfl, by rw [h.cellAt p (by omega), hu]⟩
set_option maxRecDepth 100000 in
set_option maxHeartbeats 2000000 in
theorem rdist_c (a b : ByteArray) (w : World) (R) (hR : ∀ w', Below w.heap.size w w' → R (.returned (.int .i64 (distV a b))) w') : Calls Try.prog 15 #[.string a, .string b] w R := by
  unfold distV at hR
  by_cases h1 : (200 : Int) < (a.size : Int)
  · rw [if_pos (.inl (by omega))] at hR
    have HR := hide (hR w (Below.refl _ _)); clear hR
    go_enter Try.func15, Try.ntmps15
    go_wp2
    exact HR.out
  · by_cases h2 : (200 : Int) < (b.size : Int)
    · rw [if_pos (.inr (by omega))] at hR
      have HR := hide (hR w (Below.refl _ _)); clear hR
      go_enter Try.func15, Try.ntmps15
      go_wp2
      exact HR.out
    · rw [if_neg (by omega)] at hR
      have HR := hide hR; clear hR
      have Ha := hide (show a.data.toList.length = a.size by simp)
      have Hb := hide (show b.data.toList.length = b.size by simp)
      obtain ⟨i0, hi, hz0, hz1, hz2⟩ := info_parts Try.info57
      go_enter Try.func15, Try.ntmps15
      go_wp2
      go_loopw [5, 6] (fun v i wr => ∃ k : Nat, k ≤ a.size + 1 ∧ i = .int .i64 k ∧ Hid (RSt a b w k v wr)) (fun _ i _ => a.size + 1 - (intOf i).toNat)
      case atStart => exact ⟨0, Nat.zero_le _, rfl, hide ⟨⟨[], rfl, World.ownsRow_nil _ _ _ _, fun p hp => by omega⟩, Below.refl _ _⟩⟩
      case round =>
        obtain ⟨i, hk, rfl, S⟩ := hrel
        by_cases hlt : i ≤ a.size
        · obtain ⟨⟨RS, hRS, hown, hlast⟩, hbel⟩ := S.out
          obtain ⟨vp, vc, rfl, hvp⟩ := own_val hown
          have Hown := hide hown; have Hlast := hide hlast; have Hbel := hide hbel; have HRS := hide hRS; have Hvp := hide hvp
          clear hown hlast hbel S hRS hvp
          obtain ⟨w1, hmk, hrow, hb1⟩ := mk57 wr (b.size + 1) (by omega)
          rw [show ((b.size + 1 : Nat) : Int) = (b.size : Int) + 1 by omega] at hmk
          have D0 := hide (show DRow w.heap.size w1 wr.heap.size b.size (List.replicate (b.size + 1) 0) from own_mono hrow Hbel.out.size)
          have O1 := hide (own_later Hown.out hb1)
          have L1 := hide (show ∀ p, p + 1 = i → ∃ g, RS[p]? = some (.slice (some ⟨g, 0, none⟩) (b.size + 1) (b.size + 1)) ∧ g ≠ wr.heap.size ∧ DRow w.heap.size w1 g b.size (rowI a.data.toList b.data.toList p b.size) from fun p hp => by
            obtain ⟨g, g1, g2⟩ := Hlast.out p hp
            exact ⟨g, g1, Nat.ne_of_lt (g2.lt g rfl).2, own_later g2 hb1⟩)
          have B1 := hide (bseq Hbel.out hb1)
          have hw65 : IntKind.i64.wrap ((b.size : Int) + 1) = (b.size : Int) + 1 := IntWalk.i64_in _ (by omega)
          clear hrow hb1 Hown Hlast Hbel
          go_wp2
          clear hmk
          generalize wr.heap.size = G at *
          go_loopw [8] (fun kv wr => ∃ (k : Nat) (zs : List Int), k ≤ b.size + 1 ∧ kv = .int .i64 k ∧ Hid (zs.length = b.size + 1 ∧ ∀ t, t < k → zs.getD t 0 = (rowN a.data.toList b.data.toList i t : Int)) ∧ Hid (DRow w.heap.size wr G b.size zs) ∧ Hid (wr.ownsRow w.heap.size 57 1 (.slice vp i vc) i RS) ∧
            Hid (∀ p, p + 1 = i → ∃ g, RS[p]? = some (.slice (some ⟨g, 0, none⟩) (b.size + 1) (b.size + 1)) ∧ g ≠ G ∧ DRow w.heap.size wr g b.size (rowI a.data.toList b.data.toList p b.size)) ∧ Hid (Below w.heap.size w wr)) (fun kv _ => b.size + 1 - (intOf kv).toNat)
          case atStart => exact ⟨0, _, Nat.zero_le _, rfl, hide ⟨by rw [List.length_replicate], fun t h => by omega⟩, D0, O1, L1, B1⟩
          case round =>
            clear D0 O1 L1 B1
            obtain ⟨k, zs, hkk, rfl, hz, D, O, L, B⟩ := hrel
            have Bz := hide (show w.heap.size ≤ G from (D.out.lt G rfl).1)
            by_cases hkl : k ≤ b.size
            · have hck := owni_cell D.out (i := k) (by omega)
              have hfz := D.out.frozenAt k
              have hwik : IntKind.i64.wrap ((i : Int) + (k : Int)) = (i : Int) + (k : Int) := IntWalk.i64_in _ (by omega)
              generalize hzk : zs.getD k 0 = zk at *
              clear hzk
              by_cases hik : i = 0 ∨ k = 0
              · have hval : (i : Int) + (k : Int) = (rowN a.data.toList b.data.toList i k : Int) := by
                  rcases hik with h0 | h0
                  · rw [h0, rowN_zero]; simp
                  · rw [h0, rowN_left]; simp
                have z2 := hide (row_more hz.out (by omega) hval)
                have D2 := hide (owni_set D.out k ((i : Int) + (k : Int)))
                have O2 := hide (rows_set (k := k) O.out D.out (.int .i64 ((i : Int) + (k : Int))))
                have L2 := hide (show ∀ p, p + 1 = i → ∃ g, RS[p]? = some (.slice (some ⟨g, 0, none⟩) (b.size + 1) (b.size + 1)) ∧ g ≠ G ∧ DRow w.heap.size (wr.setCell ⟨G, k, none⟩ (.int .i64 ((i : Int) + (k : Int)))) g b.size (rowI a.data.toList b.data.toList p b.size) from fun p hp => by
                  obtain ⟨g, g1, g2, g3⟩ := L.out p hp
                  exact ⟨g, g1, g2, own_other g3 _ _ _ g2⟩)
                have B2 := hide (B.out.setCell (p := ⟨G, k, none⟩) Bz.out (.int .i64 ((i : Int) + (k : Int))))
                clear hval D O L B hz
                by_cases hi0 : i = 0
                · have ti : ((i : Int) == 0) = true := by rw [hi0]; rfl
                  have Hi0 := hide hi0
                  clear hik hi0
                  go_wp2
                  go_roundw
                  case rel => exact ⟨k + 1, _, by omega, by go_num, z2, D2, O2, L2, B2⟩
                  case measure => simp [intOf]; omega
                · have hk0 : k = 0 := by omega
                  have ti : ((i : Int) == 0) = false := by rw [beq_eq_false_iff_ne]; omega
                  have tk : ((k : Int) == 0) = true := by rw [hk0]; rfl
                  have Hk0 := hide hk0
                  clear hik hi0 hk0
                  go_wp2
                  go_roundw
                  case rel => exact ⟨k + 1, _, by omega, by go_num, z2, D2, O2, L2, B2⟩
                  case measure => simp [intOf]; omega
              · have ti : ((i : Int) == 0) = false := by rw [beq_eq_false_iff_ne]; omega
                have tk : ((k : Int) == 0) = false := by rw [beq_eq_false_iff_ne]; omega
                obtain ⟨p, hp⟩ : ∃ p : Nat, p + 1 = i := ⟨i - 1, by omega⟩
                obtain ⟨q, hq⟩ : ∃ q : Nat, q + 1 = k := ⟨k - 1, by omega⟩
                have hwi : IntKind.i64.wrap ((i : Int) - 1) = (p : Int) := by rw [IntWalk.i64_in _ (by omega)]; omega
                have hwk : IntKind.i64.wrap ((k : Int) - 1) = (q : Int) := by rw [IntWalk.i64_in _ (by omega)]; omega
                obtain ⟨g, g1, g2, g3⟩ := L.out p hp
                obtain ⟨gr, rfl, hrc⟩ := rows_at O.out (by omega) g1
                have hv1 := owni_cell g3 (i := q) (by omega)
                have hv2 := owni_cell g3 (i := k) (by omega)
                have hv3 := owni_cell D.out (i := q) (by omega)
                unfold rowI at hv1 hv2
                rw [getD_range _ _ _ (by omega)] at hv1 hv2
                rw [hz.out.2 q (by omega)] at hv3
                have l1 := rowN_le a.data.toList b.data.toList p q
                have l2 := rowN_le a.data.toList b.data.toList p k
                have l3 := rowN_le a.data.toList b.data.toList i q
                have Hs := hide (show rowN a.data.toList b.data.toList i k = cellV (a.data.toList.getD p 0 == b.data.toList.getD q 0) (rowN a.data.toList b.data.toList p q) (rowN a.data.toList b.data.toList p k) (rowN a.data.toList b.data.toList i q) by
                  have := rowN_succ a.data.toList b.data.toList p q
                  rw [hp, hq] at this; exact this)
                have hpa : p < a.size := by omega
                have hqb : q < b.size := by omega
                have hea : a.data.toList.getD p 0 = a[p] := by
                  rw [List.getD_eq_getElem?_getD, List.getElem?_eq_getElem (by simpa using hpa)]; rfl
                have heb : b.data.toList.getD q 0 = b[q] := by
                  rw [List.getD_eq_getElem?_getD, List.getElem?_eq_getElem (by simpa using hqb)]; rfl
                rw [hea, heb] at Hs
                have Hp := hide hp; have Hq := hide hq
                have Hz := hz; have DD := D; have OO := O; have LL := L; have BB := B
                clear hea heb g1 g3 hik hp hq hz D O L B
                generalize hr1 : rowN a.data.toList b.data.toList p q = r1 at *
                generalize hr2 : rowN a.data.toList b.data.toList p k = r2 at *
                generalize hr3 : rowN a.data.toList b.data.toList i q = r3 at *
                have Hr := hide (And.intro hr1 (And.intro hr2 hr3))
                clear hr1 hr2 hr3
                have hw2 : IntKind.i64.wrap ((r2 : Int) + 1) = (r2 : Int) + 1 := IntWalk.i64_in _ (by omega)
                have hw3 : IntKind.i64.wrap ((r3 : Int) + 1) = (r3 : Int) + 1 := IntWalk.i64_in _ (by omega)
                have hw1 : IntKind.i64.wrap ((r1 : Int) + 1) = (r1 : Int) + 1 := IntWalk.i64_in _ (by omega)
                have hpi : (p : Int) < (i : Int) := by have := Hp.out; omega
                have hqi : (q : Int) < (b.size : Int) + 1 := by omega
                have hki : (k : Int) < (b.size : Int) + 1 := by omega
                by_cases he : a[p] = b[q]
                · have hne : ((a[p].toNat : Int) != (b[q].toNat : Int)) = false := by rw [he]; simp
                  go_wp2
                  go_quiet (fail)
                  go_wp2
                  have hrc' : (wr.drewN nq).cell? ⟨gr, p, none⟩ = some (.slice (some ⟨g, 0, none⟩) (b.size + 1) (b.size + 1)) := hrc
                  have hv2' : (wr.drewN nq).cell? ⟨g, k, none⟩ = some (.int .i64 (r2 : Int)) := hv2
                  have hv3' : (wr.drewN nq).cell? ⟨G, q, none⟩ = some (.int .i64 (r3 : Int)) := hv3
                  have D' : Hid (DRow w.heap.size (wr.drewN nq) G b.size zs) := hide DD.out
                  have O' : Hid ((wr.drewN nq).ownsRow w.heap.size 57 1 (.slice (some ⟨gr, 0, none⟩) i vc) i RS) := hide OO.out
                  have L' : Hid (∀ p, p + 1 = i → ∃ g, RS[p]? = some (.slice (some ⟨g, 0, none⟩) (b.size + 1) (b.size + 1)) ∧ g ≠ G ∧ DRow w.heap.size (wr.drewN nq) g b.size (rowI a.data.toList b.data.toList p b.size)) := hide LL.out
                  have B' : Hid (Below w.heap.size w (wr.drewN nq)) := hide (below_drewN' BB.out nq)
                  have hck' : (wr.drewN nq).cell? ⟨G, k, none⟩ = some (.int .i64 zk) := hck
                  have hfz' : (wr.drewN nq).frozen? ⟨G, k, none⟩ = false := hfz
                  clear hrc hv1 hv2 hv3 hck hfz DD OO LL BB
                  generalize wr.drewN nq = wq at *
                  go_still_tail 20, (by kernel_rfl)
                  change wpList _ _ _ _ _ wq.drew
                  have D1 : Hid (DRow w.heap.size wq.drew G b.size zs) := hide D'.out
                  have O1 : Hid (wq.drew.ownsRow w.heap.size 57 1 (.slice (some ⟨gr, 0, none⟩) i vc) i RS) := hide O'.out
                  have L1 : Hid (∀ p, p + 1 = i → ∃ g, RS[p]? = some (.slice (some ⟨g, 0, none⟩) (b.size + 1) (b.size + 1)) ∧ g ≠ G ∧ DRow w.heap.size wq.drew g b.size (rowI a.data.toList b.data.toList p b.size)) := hide L'.out
                  have B1 : Hid (Below w.heap.size w wq.drew) := hide B'.out.drew
                  have hcd : wq.drew.cell? ⟨G, k, none⟩ = some (.int .i64 zk) := hck'
                  have hfd : wq.drew.frozen? ⟨G, k, none⟩ = false := hfz'
                  clear hrc' hv2' hv3' hck' hfz' D' O' L' B'
                  generalize wq.drew = wd at *
                  have hval : (if (r3 : Int) + 1 < (if (r2 : Int) + 1 < (r1 : Int) then (r2 : Int) + 1 else (r1 : Int)) then (r3 : Int) + 1 else if (r2 : Int) + 1 < (r1 : Int) then (r2 : Int) + 1 else (r1 : Int)) = (rowN a.data.toList b.data.toList i k : Int) := by
                    rw [Hs.out]; unfold cellV; rw [he]; simp only [beq_self_eq_true, if_true]; repeat' split
                    all_goals omega
                  have z2 := hide (row_more Hz.out (by omega) hval)
                  have D2 := hide (owni_set D1.out k (if (r3 : Int) + 1 < (if (r2 : Int) + 1 < (r1 : Int) then (r2 : Int) + 1 else (r1 : Int)) then (r3 : Int) + 1 else if (r2 : Int) + 1 < (r1 : Int) then (r2 : Int) + 1 else (r1 : Int)))
                  have O2 := hide (rows_set (k := k) O1.out D1.out (.int .i64 (if (r3 : Int) + 1 < (if (r2 : Int) + 1 < (r1 : Int) then (r2 : Int) + 1 else (r1 : Int)) then (r3 : Int) + 1 else if (r2 : Int) + 1 < (r1 : Int) then (r2 : Int) + 1 else (r1 : Int))))
                  have L2 := hide (show ∀ p, p + 1 = i → ∃ g, RS[p]? = some (.slice (some ⟨g, 0, none⟩) (b.size + 1) (b.size + 1)) ∧ g ≠ G ∧ DRow w.heap.size (wd.setCell ⟨G, k, none⟩ (.int .i64 (if (r3 : Int) + 1 < (if (r2 : Int) + 1 < (r1 : Int) then (r2 : Int) + 1 else (r1 : Int)) then (r3 : Int) + 1 else if (r2 : Int) + 1 < (r1 : Int) then (r2 : Int) + 1 else (r1 : Int)))) g b.size (rowI a.data.toList b.data.toList p b.size) from fun p hp => by
                    obtain ⟨g, g1, g2, g3⟩ := L1.out p hp
                    exact ⟨g, g1, g2, own_other g3 _ _ _ g2⟩)
                  have B2 := hide (B1.out.setCell (p := ⟨G, k, none⟩) Bz.out (.int .i64 (if (r3 : Int) + 1 < (if (r2 : Int) + 1 < (r1 : Int) then (r2 : Int) + 1 else (r1 : Int)) then (r3 : Int) + 1 else if (r2 : Int) + 1 < (r1 : Int) then (r2 : Int) + 1 else (r1 : Int))))
                  clear hval D1 O1 L1 B1 Hz
                  go_wp2_with fail
                  go_roundw
                  case rel => exact ⟨k + 1, _, by omega, by go_num, z2, D2, O2, L2, B2⟩
                  case measure => simp [intOf]; omega
                · have hne : ((a[p].toNat : Int) != (b[q].toNat : Int)) = true := by
                    rw [bne_iff_ne]; intro e
                    exact he (UInt8.toNat_inj.1 (by omega))
                  go_wp2
                  go_quiet (fail)
                  go_wp2
                  have hrc' : (wr.drewN nq).cell? ⟨gr, p, none⟩ = some (.slice (some ⟨g, 0, none⟩) (b.size + 1) (b.size + 1)) := hrc
                  have hv2' : (wr.drewN nq).cell? ⟨g, k, none⟩ = some (.int .i64 (r2 : Int)) := hv2
                  have hv3' : (wr.drewN nq).cell? ⟨G, q, none⟩ = some (.int .i64 (r3 : Int)) := hv3
                  have D' : Hid (DRow w.heap.size (wr.drewN nq) G b.size zs) := hide DD.out
                  have O' : Hid ((wr.drewN nq).ownsRow w.heap.size 57 1 (.slice (some ⟨gr, 0, none⟩) i vc) i RS) := hide OO.out
                  have L' : Hid (∀ p, p + 1 = i → ∃ g, RS[p]? = some (.slice (some ⟨g, 0, none⟩) (b.size + 1) (b.size + 1)) ∧ g ≠ G ∧ DRow w.heap.size (wr.drewN nq) g b.size (rowI a.data.toList b.data.toList p b.size)) := hide LL.out
                  have B' : Hid (Below w.heap.size w (wr.drewN nq)) := hide (below_drewN' BB.out nq)
                  have hck' : (wr.drewN nq).cell? ⟨G, k, none⟩ = some (.int .i64 zk) := hck
                  have hfz' : (wr.drewN nq).frozen? ⟨G, k, none⟩ = false := hfz
                  clear hrc hv1 hv2 hv3 hck hfz DD OO LL BB
                  generalize wr.drewN nq = wq at *
                  go_still_tail 20, (by kernel_rfl)
                  change wpList _ _ _ _ _ wq.drew
                  have D1 : Hid (DRow w.heap.size wq.drew G b.size zs) := hide D'.out
                  have O1 : Hid (wq.drew.ownsRow w.heap.size 57 1 (.slice (some ⟨gr, 0, none⟩) i vc) i RS) := hide O'.out
                  have L1 : Hid (∀ p, p + 1 = i → ∃ g, RS[p]? = some (.slice (some ⟨g, 0, none⟩) (b.size + 1) (b.size + 1)) ∧ g ≠ G ∧ DRow w.heap.size wq.drew g b.size (rowI a.data.toList b.data.toList p b.size)) := hide L'.out
                  have B1 : Hid (Below w.heap.size w wq.drew) := hide B'.out.drew
                  have hcd : wq.drew.cell? ⟨G, k, none⟩ = some (.int .i64 zk) := hck'
                  have hfd : wq.drew.frozen? ⟨G, k, none⟩ = false := hfz'
                  clear hrc' hv2' hv3' hck' hfz' D' O' L' B'
                  generalize wq.drew = wd at *
                  have hval : (if (r3 : Int) + 1 < (if r2 < r1 then (r2 : Int) + 1 else (r1 : Int) + 1) then (r3 : Int) + 1 else if r2 < r1 then (r2 : Int) + 1 else (r1 : Int) + 1) = (rowN a.data.toList b.data.toList i k : Int) := by
                    rw [Hs.out]; unfold cellV; rw [show (a[p] == b[q]) = false by simpa using he]; simp only [Bool.false_eq_true, if_false]; repeat' split
                    all_goals omega
                  have z2 := hide (row_more Hz.out (by omega) hval)
                  have D2 := hide (owni_set D1.out k (if (r3 : Int) + 1 < (if r2 < r1 then (r2 : Int) + 1 else (r1 : Int) + 1) then (r3 : Int) + 1 else if r2 < r1 then (r2 : Int) + 1 else (r1 : Int) + 1))
                  have O2 := hide (rows_set (k := k) O1.out D1.out (.int .i64 (if (r3 : Int) + 1 < (if r2 < r1 then (r2 : Int) + 1 else (r1 : Int) + 1) then (r3 : Int) + 1 else if r2 < r1 then (r2 : Int) + 1 else (r1 : Int) + 1)))
                  have L2 := hide (show ∀ p, p + 1 = i → ∃ g, RS[p]? = some (.slice (some ⟨g, 0, none⟩) (b.size + 1) (b.size + 1)) ∧ g ≠ G ∧ DRow w.heap.size (wd.setCell ⟨G, k, none⟩ (.int .i64 (if (r3 : Int) + 1 < (if r2 < r1 then (r2 : Int) + 1 else (r1 : Int) + 1) then (r3 : Int) + 1 else if r2 < r1 then (r2 : Int) + 1 else (r1 : Int) + 1))) g b.size (rowI a.data.toList b.data.toList p b.size) from fun p hp => by
                    obtain ⟨g, g1, g2, g3⟩ := L1.out p hp
                    exact ⟨g, g1, g2, own_other g3 _ _ _ g2⟩)
                  have B2 := hide (B1.out.setCell (p := ⟨G, k, none⟩) Bz.out (.int .i64 (if (r3 : Int) + 1 < (if r2 < r1 then (r2 : Int) + 1 else (r1 : Int) + 1) then (r3 : Int) + 1 else if r2 < r1 then (r2 : Int) + 1 else (r1 : Int) + 1)))
                  clear hval D1 O1 L1 B1 Hz
                  go_wp2_with fail
                  go_roundw
                  case rel => exact ⟨k + 1, _, by omega, by go_num, z2, D2, O2, L2, B2⟩
                  case measure => simp [intOf]; omega
            · have hkk2 : k = b.size + 1 := by omega
              subst hkk2
              have hzr := row_full hz.out
              rw [hzr] at D
              have B2 := hide B.out
              obtain ⟨vq, hvq⟩ : ∃ v, v = Value.slice vp i vc := ⟨_, rfl⟩
              clear hz hzr
              go_wp2_with (at_builtin; refine Stop.out ?_)
              refine Stop.go ?_
              refine wpList_append_own _ rfl (.tmp 86) (.tmp 88) 59 rfl w.heap.size 57 i0 (.slice none 0 0) 1 24 Try.underlying59 hi hz0 hz1 hz2 rfl (by decide) (.slice vp i vc) i RS rfl (O.out.alloc _) ⟨wr.heap.size, 0, none⟩ 1 1 [.slice (some ⟨G, 0, none⟩) (b.size + 1) (b.size + 1)] rfl rfl (by intro j u hj; rcases j with _ | j <;> simp at hj; subst hj; simp [Addr.add]) (by intro u hu; obtain rfl := List.mem_singleton.1 hu; rfl) (by unfold maxLen; omega) (by omega) (by simp; have := B.out.size; omega) ?_
              intro v' w7 hown' hgrow _
              have D7 := hide (drow_grown (O.out.alloc (.cells #[.slice (some ⟨G, 0, none⟩) (b.size + 1) (b.size + 1)] 57)) (World.ownsRow.alloc D.out _) hgrow)
              have B7 := hide ((balloc B.out (.cells #[.slice (some ⟨G, 0, none⟩) (b.size + 1) (b.size + 1)] 57)).grown hgrow (by simp; have := B.out.size; omega) (fun j hj => (O.out.lt j hj).1))
              have S7 := hide (show RSt a b w (i + 1) v' w7 from ⟨⟨RS ++ [.slice (some ⟨G, 0, none⟩) (b.size + 1) (b.size + 1)], by rw [List.length_append, HRS.out]; rfl, hown', fun p hp => by
                have hpi : p = i := by omega
                subst hpi
                exact ⟨G, by rw [List.getElem?_append_right (by rw [HRS.out]; exact Nat.le_refl _), HRS.out, Nat.sub_self]; rfl, D7.out⟩⟩, B7.out⟩)
              clear hown' hgrow D O L B B2 D7 B7 hvq
              go_wp2_with fail
              go_roundw
              case rel => exact ⟨i + 1, by omega, by go_num, S7⟩
              case measure => simp [intOf]; omega
        · have hia : i = a.size + 1 := by omega
          subst hia
          obtain ⟨⟨RS, hRS, hown, hlast⟩, hbel⟩ := S.out
          obtain ⟨g, g1, g2⟩ := hlast a.size rfl
          obtain ⟨vp, vc, rfl, _⟩ := own_val hown
          obtain ⟨gr, rfl, hrc⟩ := rows_at hown (by omega) g1
          have hv := owni_cell g2 (i := b.size) (by omega)
          unfold rowI at hv
          rw [getD_range _ _ _ (by omega)] at hv
          have hfin := hide (HR.out wr hbel)
          have Hbd := hide (show bdist a b = rowN a.data.toList b.data.toList a.size b.size by unfold bdist lev; rw [Ha.out, Hb.out])
          rw [← Hbd.out] at hv
          clear hown hlast hbel g1 g2 S hRS
          go_wp2
          exact hfin.out
end Go.Proofs.Ytkbdkkllfaljlaa
