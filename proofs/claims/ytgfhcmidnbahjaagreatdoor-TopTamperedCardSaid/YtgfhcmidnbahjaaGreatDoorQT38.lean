/- TopTampered: plain facts: the plan's own certificate is accepted; the fixed example. The reference's comparisons: certificates, rows, plans, tables. -/
import Derived.Test.YtgfhcmidnbahjaaGreatDoorQT37
import Derived.Test.YtgfhcmidnbahjaaGreatDoorQT29
import Derived.Test.YtgfhcmidnbahjaaGreatDoorQT32
import Derived.Test.YtgfhcmidnbahjaaGreatDoorQT22
set_option linter.unusedVariables false
set_option linter.unusedSimpArgs false
namespace Go.Proofs.YtgfhcmidnbahjaaGreatDoor
open Go.RowKit
theorem nextF_rg {N : Net} {fr till : Int} (hs : Snd N) (o d : Nat) : -1 ≤ nextF' N fr till o d ∧ nextF' N fr till o d ≤ 65518 := by
  unfold nextF' nextM
  split
  · decide
  · by_cases h : bestF N (costsF N fr till) (boundF N fr till) o d = -1
    · rw [h]; decide
    · obtain ⟨i, hi, hl, _⟩ := best_facts h
      have := hs.nlin
      rw [hi]; omega
theorem daysP_rg {N : Net} {fr till : Int} (k o d : Nat) : -1 ≤ daysP N fr till k o d ∧ daysP N fr till k o d ≤ 65518 := by
  have := mostF_bd (N := N) (next := nextF' N fr till) (k := k) (o := o) (d := d) (fr := fr) (till := till)
  unfold daysP; omega
theorem comp_parts {N : Net} {fr till : Int} (h : compErr N fr till = 0) : daysOk fr till = true ∧ soundB N = true ∧ (certF N fr till).length ≤ 40000 := by
  unfold compErr at h
  split at h
  · cases h
  · rename_i h1
    split at h
    · cases h
    · split at h
      · cases h
      · simp at h1
        exact ⟨h1.1, h1.2, by omega⟩
theorem cert_all {N : Net} {fr till : Int} (h : compErr N fr till = 0) : ∀ x ∈ certF N fr till, Small x := by
  obtain ⟨h1, h2, h3⟩ := comp_parts h
  have hs := snd_of h2
  exact cert_small hs ⟨next_formed, next_falls hs⟩ h1
theorem cnum_of {l : List Int} (h : ∀ x ∈ l, Small x) : l.all cnumB = true := by
  rw [List.all_eq_true]
  intro x hx
  have := h x hx
  unfold Small at this
  unfold cnumB
  simp [this.1, this.2]
theorem sealed_of {l : List Int} (h : ∀ x ∈ l, Small x) (s : Int) : sealedB l s = decide (s = sealF l) := by
  unfold sealedB; rw [cnum_of h]; rfl
theorem ckp_own {N : Net} {fr till : Int} (h : compErr N fr till = 0) (h9 : till ≤ fr + 58) :
    CkP N (certF N fr till) (nextF' N fr till) (daysP N fr till) fr till (proofL N (nextF' N fr till) (daysP N fr till) fr till) ∧
      checkI N (nextF' N fr till) (daysP N fr till) fr till (proofL N (nextF' N fr till) (daysP N fr till) fr till) = some [] := by
  obtain ⟨h1, h2, h3⟩ := comp_parts h
  have hs := snd_of h2
  have hd := h1
  unfold daysOk at hd
  simp only [Bool.and_eq_true, decide_eq_true_eq] at hd
  obtain ⟨⟨⟨d1, d2⟩, d3⟩, d4⟩ := hd
  have hck := check_own (N := N) (φ := boundF N fr till) (fr := fr) (till := till) hs ⟨next_formed, next_falls hs⟩ d2 h9
  refine ⟨⟨hs, next_formed, rfl, d1, d2, by omega, d3, nextF_rg hs, daysP_rg, fun x hx => ?_, h3, fun hn => ?_⟩, hck⟩
  · have := cert_all h x (by unfold certF numsF; exact List.mem_append.2 (.inr hx))
    exact this
  · rw [hck] at hn; cases hn
theorem cert_pos {N : Net} {fr till : Int} : 4 ≤ (certF N fr till).length := by
  unfold certF numsF headL
  simp only [List.length_append, List.length_cons, List.length_nil]
  omega
theorem small_nat {l : List Int} (h : ∀ x ∈ l, Small x) : ∃ xs : List Nat, l = xs.map (fun (n : Nat) => (n : Int)) ∧ ∀ x ∈ xs, x ≤ 65519 := by
  refine ⟨l.map Int.toNat, ?_, fun x hx => ?_⟩
  · rw [List.map_map]
    conv => lhs; rw [← List.map_id l]
    refine List.map_congr_left fun x hx => ?_
    have := (h x hx).1
    simp; omega
  · obtain ⟨y, hy, rfl⟩ := List.mem_map.1 hx
    have := h y hy
    unfold Small at this; omega
section
variable {wk ca na op of li cl : Nat}
theorem certL9b : (certF (net9 wk ca na op of li cl) 0 2).length ≤ 1000 := by
  have h : Nat.ble (certF (net9 wk ca na op of li cl) 0 2).length 1000 = true := by kernel_rfl
  exact Nat.le_of_ble_eq_true h
theorem sort9b : sortB (net9 wk ca na op of li cl) (nextF' (net9 wk ca na op of li cl) 0 2) = true := by kernel_rfl
theorem comp9b : compErr (net9 wk ca na op of li cl) 0 2 = 0 := by
  unfold compErr
  rw [sound9, sort9b]
  have h := certL9b (wk := wk) (ca := ca) (na := na) (op := op) (of := of) (li := li) (cl := cl)
  rw [if_neg (by decide), if_neg (by decide), if_neg (by omega)]
theorem cert9b : certF (net9 wk ca na op of li cl) 0 2 = [0, 2, 2, 1, 0, 1, 2, 0, 2, 2, 2, 2, 3, 4, 3, 4] := by kernel_rfl
theorem bad9b : checkI (net9 wk ca na op of li cl) (nextF' (net9 wk ca na op of li cl) 0 2) (daysP (net9 wk ca na op of li cl) 0 2) 0 2 [3, 4, 3, 11] = none := by kernel_rfl
theorem head9b : headL 2 1 (nextF' (net9 wk ca na op of li cl) 0 2) (daysP (net9 wk ca na op of li cl) 0 2) 0 2 = [0, 2, 2, 1, 0, 1, 2, 0, 2, 2, 2, 2] := by kernel_rfl
theorem work9 {x : Int} : nextF { zone := 0, wp := some ⟨wk, 0, none⟩, week := [true, true, true, true, true, false, false], wc := 7, hp := none, hol := [], hc := 0 } x ≠ none := by
  intro h
  unfold nextF at h
  rw [List.head?_eq_none_iff] at h
  have hw : ∀ (y : Int) (r : Nat), y % 7 = (r : Int) → r ≤ 4 → workB { zone := 0, wp := some ⟨wk, 0, none⟩, week := [true, true, true, true, true, false, false], wc := 7, hp := none, hol := [], hc := 0 } y = true := fun y r e hr => by
    unfold workB
    rw [e, Int.toNat_natCast]
    rcases (show r = 0 ∨ r = 1 ∨ r = 2 ∨ r = 3 ∨ r = 4 by omega) with rfl | rfl | rfl | rfl | rfl <;> rfl
  have hm : ∀ y, x ≤ y → y < x + 60 → workB { zone := 0, wp := some ⟨wk, 0, none⟩, week := [true, true, true, true, true, false, false], wc := 7, hp := none, hol := [], hc := 0 } y = true → False := fun y h1 h2 h3 => by
    have : y ∈ daysF { zone := 0, wp := some ⟨wk, 0, none⟩, week := [true, true, true, true, true, false, false], wc := 7, hp := none, hol := [], hc := 0 } x 60 := daysF_iff.2 ⟨h1, h2, h3⟩
    rw [h] at this; cases this
  have h0 := Int.emod_nonneg x (show (7 : Int) ≠ 0 by decide)
  have h7 := Int.emod_lt_of_pos x (show (0 : Int) < 7 by decide)
  by_cases h4 : x % 7 ≤ 4
  · exact hm x (by omega) (by omega) (hw x (x % 7).toNat (by omega) (by omega))
  · exact hm (x + 2) (by omega) (by omega) (hw (x + 2) ((x + 2) % 7).toNat (by omega) (by omega))
theorem al9 : ∀ (d k : Nat) (t : Int), d < 2 → k < 1 → deliveredI (calOf (net9 wk ca na op of li cl) d) (clsOf (net9 wk ca na op of li cl) k).deliver t ≠ none := by
  intro d k t hd hk
  rcases (show d = 0 ∨ d = 1 by omega) with rfl | rfl <;> exact work9
end
structure Ex9 (N : Net) (X : List Int) (rest rest' : List Int) : Prop where
  comp : compErr N 0 2 = 0
  eq : certF N 0 2 = X
  len : X.length = 16
  last : X[15]? = some 4
  small : ∀ x ∈ X, Small x
  ok : CkP N X (nextF' N 0 2) (daysP N 0 2) 0 2 rest
  yes : checkI N (nextF' N 0 2) (daysP N 0 2) 0 2 rest = some []
  bad : CkP N (X.set 15 11) (nextF' N 0 2) (daysP N 0 2) 0 2 rest'
  no : checkI N (nextF' N 0 2) (daysP N 0 2) 0 2 rest' ≠ some []
theorem ex9 (wk ca na op of li cl : Nat) : ∃ X rest rest', Ex9 (net9 wk ca na op of li cl) X rest rest' := by
  have hc := comp9b (wk := wk) (ca := ca) (na := na) (op := op) (of := of) (li := li) (cl := cl)
  obtain ⟨h1, h2⟩ := ckp_own hc (by decide)
  have he := cert9b (wk := wk) (ca := ca) (na := na) (op := op) (of := of) (li := li) (cl := cl)
  refine ⟨_, _, [3, 4, 3, 11], hc, rfl, by rw [he]; rfl, by rw [he]; rfl, cert_all hc, h1, h2, ⟨h1.snd, h1.formed, ?_, h1.h0, h1.h1, h1.h2, h1.h3, h1.rn, h1.rc, ?_, ?_, fun _ => al9⟩, ?_⟩
  · rw [he, show (net9 wk ca na op of li cl).offs.length = 2 from rfl, show (net9 wk ca na op of li cl).clss.length = 1 from rfl, head9b]; rfl
  · intro x hx
    simp only [List.mem_cons, List.not_mem_nil, or_false] at hx
    omega
  · rw [he]; decide
  · rw [bad9b]; exact fun e => by cases e
end Go.Proofs.YtgfhcmidnbahjaaGreatDoor
namespace Go.Proofs.YtgfhcmidnbahjaaGreatDoor
open Go.RowKit Go.Shelf
attribute [local go_sem] Oper.semAt_some run_store_func
theorem take_eq_step {xs ys : List Int} {k : Nat} {x : Int} (h : xs.take k = ys.take k) (hx : xs[k]? = some x) (hy : ys[k]? = some x) : xs.take (k + 1) = ys.take (k + 1) := by
  rw [List.take_add_one, List.take_add_one, h, hx, hy]
set_option maxRecDepth 100000 in
set_option maxHeartbeats 4000000 in
theorem same_c (xs ys : List Int) (p q : Option Addr) (cp cq : Nat) (s t : Int) (w : World) (R : Ending → World → Prop) (hx : IntsAt .i64 w p xs) (hy : IntsAt .i64 w q ys) (hlx : xs.length ≤ 1000000) (hly : ys.length ≤ 1000000)
    (hR : ∀ w', Below w.heap.size w w' → R (.returned (.bool (decide (s = t ∧ xs = ys)))) w') :
    Calls Tryz.prog 28 #[.agg #[.slice p xs.length cp, .int .i64 s], .agg #[.slice q ys.length cq, .int .i64 t]] w R := by
  have HR := hide hR
  obtain ⟨w1, hw1⟩ : ∃ w1, (w.alloc (.cells #[.slice p xs.length cp, .int .i64 s] 42)).alloc (.cells #[.slice q ys.length cq, .int .i64 t] 42) = w1 := ⟨_, rfl⟩
  have hb1 : Below w.heap.size w w1 := hw1 ▸ balloc (balloc (Below.refl _ _) _) _
  have k0 : Blk w1 w.heap.size #[.slice p xs.length cp, .int .i64 s] 42 := by rw [← hw1]; exact Blk.alloc (Blk.new _ _ _) _
  have k1 : Blk w1 (w.heap.size + 1) #[.slice q ys.length cq, .int .i64 t] 42 := by rw [← hw1]; exact Blk.new_at (by simp)
  have HB1 := hide hb1; have K0 := hide k0; have K1 := hide k1; have HX := hide (hx.keep (Keeps.of_below hb1)); have HY := hide (hy.keep (Keeps.of_below hb1))
  have x0 := k0.cell (k := 0) rfl; have x1 := k0.cell (k := 1) rfl; have y0 := k1.cell (k := 0) rfl; have y1 := k1.cell (k := 1) rfl
  clear hR hx hy hb1 k0 k1
  by_cases hst : s = t
  rotate_left
  · have HF := hide (HR.out w1 HB1.out)
    rw [show decide (s = t ∧ xs = ys) = false by simp [hst]] at HF
    go_enter Tryz.func28, Tryz.ntmps28
    go_wp2
    exact HF.out
  subst hst
  have HR2 : Hid (∀ (b : Bool), decide (xs = ys) = b → ∀ w', Below w.heap.size w w' → R (.returned (.bool b)) w') := hide (fun b hb w' h => by
    have := HR.out w' h
    rwa [show decide (s = s ∧ xs = ys) = b by rw [← hb]; simp] at this)
  clear HR
  by_cases hln : xs.length = ys.length
  rotate_left
  · have HF := hide (HR2.out false (by simp; rintro rfl; exact hln rfl) w1 HB1.out)
    have hlI : ¬ (xs.length : Int) = (ys.length : Int) := by omega
    go_enter Tryz.func28, Tryz.ntmps28
    go_wp2
    exact HF.out
  obtain ⟨n, hn⟩ : ∃ n, xs.length = n := ⟨_, rfl⟩
  have hn2 : ys.length = n := by omega
  have Hn := hide hn; have Hn2 := hide hn2
  rw [hn] at x0 K0 hlx ⊢; rw [hn2] at y0 K1 hly ⊢
  rw [hn] at hw1; rw [hn2] at hw1
  clear hn hn2 hln
  go_enter Tryz.func28, Tryz.ntmps28
  go_wp2
  clear hw1 x0 x1 y0 y1
  go_loopw [5] (fun sk wr => ∃ k : Nat, k ≤ n ∧ sk = .int .i64 k ∧ Hid (xs.take k = ys.take k) ∧ Hid (Below w1.heap.size w1 wr)) (fun sk _ => n - (intOf sk).toNat)
  case atStart => exact ⟨0, Nat.zero_le _, rfl, hide rfl, hide (Below.refl _ _)⟩
  case round =>
    obtain ⟨k, hk, rfl, HT, HB⟩ := hrel
    have x0 := (K0.out.next HB.out).cell (k := 0) rfl; have y0 := (K1.out.next HB.out).cell (k := 0) rfl
    by_cases hlt : k < n
    · obtain ⟨b, o, x, hp, hxx, c0⟩ := (HX.out.keep (Keeps.of_below HB.out)).at_ (i := k) (by rw [Hn.out]; exact hlt)
      obtain ⟨b', o', y, hq, hyy, c1⟩ := (HY.out.keep (Keeps.of_below HB.out)).at_ (i := k) (by rw [Hn2.out]; exact hlt)
      have Hxx := hide hxx; have Hyy := hide hyy
      rw [hp] at x0; rw [hq] at y0
      have q1 : (0 : Int) ≤ (k : Int) := by omega
      have q2 : (k : Int) < (n : Int) := by omega
      clear hxx hyy hp hq
      go_wp2
      go_quiet (fail)
      have hbq : Below w1.heap.size w1 (wr.drewN nq) := below_drewN' HB.out _
      have HBq := hide hbq
      clear hbq c0 c1 x0 y0
      generalize wr.drewN nq = wd at *
      by_cases hxy : x = y
      · subst hxy
        have HT2 := hide (take_eq_step HT.out Hxx.out Hyy.out)
        have t1 : (x != x) = false := by simp
        go_wp2
        go_roundw
        case rel => exact ⟨k + 1, by omega, by go_num, HT2, HBq⟩
        case measure => simp [intOf]; omega
      · have hne : ¬ xs = ys := by
          rintro rfl
          have := Hxx.out.symm.trans Hyy.out
          injection this with this
          exact hxy this
        have HF := hide (HR2.out false (by simp [hne]) wd (bseq HB1.out HBq.out))
        have t1 : (x != y) = true := by simpa using hxy
        clear hne
        go_wp2
        exact HF.out
    · have q1 : ¬ (k : Int) < (n : Int) := by omega
      have he : xs = ys := by
        have h := HT.out
        rwa [List.take_of_length_le (by rw [Hn.out]; omega), List.take_of_length_le (by rw [Hn2.out]; omega)] at h
      have HF := hide (HR2.out true (by simp [he]) wr (bseq HB1.out HB.out))
      clear he
      go_wp2
      exact HF.out
theorem drewS {w wr : World} (h : ∃ m, wr = w.drewN m) (nq : Nat) : ∃ m, wr.drewN nq = w.drewN m := by
  obtain ⟨m, rfl⟩ := h
  exact ⟨m + nq, by simp [World.drewN, Nat.add_assoc]⟩
theorem drewB {w wr : World} (h : ∃ m, wr = w.drewN m) : Below w.heap.size w wr := by obtain ⟨m, rfl⟩ := h; exact below_drewN' (Below.refl _ _) m
set_option maxRecDepth 100000 in
set_option maxHeartbeats 4000000 in
theorem sameRows_c (n : Nat) (M : Mat) (p q : Option Addr) (cp cq : Nat) (w : World) (R : Ending → World → Prop) (hp : MatAt w p n M) (hq : MatAt w q n M) (hn : n ≤ 1000000) (hR : ∀ m, R (.returned (.bool true)) (w.drewN m)) :
    Calls Tryz.prog 105 #[.slice p n cp, .slice q n cq] w R := by
  have HR := hide hR; have HP := hide hp; have HQ := hide hq
  clear hR hp hq
  go_enter Tryz.func105, Tryz.ntmps105
  go_wp2
  go_loopw [5] (fun sk wr => ∃ k : Nat, k ≤ n ∧ sk = .int .i64 k ∧ Hid (∃ m, wr = w.drewN m)) (fun sk _ => n - (intOf sk).toNat)
  case atStart => exact ⟨0, Nat.zero_le _, rfl, hide ⟨0, rfl⟩⟩
  case round =>
    obtain ⟨k, hk, rfl, HB⟩ := hrel
    by_cases hlt : k < n
    · obtain ⟨b, o, r, ro, rc, hpp, c0, hc⟩ := HP.out k hlt
      obtain ⟨b', o', r', ro', rc', hqq, c0', hc'⟩ := HQ.out k hlt
      have HC := hide hc; have HC' := hide hc'; have C0 := hide c0; have C0' := hide c0'
      have d0 := cell_later (drewB HB.out) c0; have d0' := cell_later (drewB HB.out) c0'
      have HPe := hide hpp; have HQe := hide hqq
      have q1 : (0 : Int) ≤ (k : Int) := by omega
      have q2 : (k : Int) < (n : Int) := by omega
      subst hpp; subst hqq
      clear hc hc' c0 c0'
      go_wp2
      go_quiet (fail)
      have HBq := hide (drewS HB.out nq)
      clear d0 d0' HB
      generalize wr.drewN nq = wd at *
      go_wp2
      go_loopw [6] (fun sj wr2 => ∃ j : Nat, j ≤ n ∧ sj = .int .i64 j ∧ Hid (∃ m, wr2 = w.drewN m)) (fun sj _ => n - (intOf sj).toNat)
      case atStart => exact ⟨0, Nat.zero_le _, rfl, HBq⟩
      case round =>
        clear HBq
        obtain ⟨j, hj, rfl, HB⟩ := hrel
        have d0 := cell_later (drewB HB.out) C0.out; have d0' := cell_later (drewB HB.out) C0'.out
        by_cases hlj : j < n
        · have e0 := cell_later (drewB HB.out) (HC.out j hlj); have e0' := cell_later (drewB HB.out) (HC'.out j hlj)
          have q3 : (0 : Int) ≤ (j : Int) := by omega
          have q4 : (j : Int) < (n : Int) := by omega
          have t1 : (M k j != M k j) = false := by simp
          go_wp2
          go_quiet (fail)
          have HBq := hide (drewS HB.out nq)
          clear d0 d0' e0 e0' HB
          generalize wr.drewN nq = wd2 at *
          go_wp2
          go_roundw
          case rel => exact ⟨j + 1, by omega, by go_num, HBq⟩
          case measure => simp [intOf]; omega
        · have q3 : ¬ (j : Int) < (n : Int) := by omega
          go_wp2
          go_roundw
          case rel => exact ⟨k + 1, by omega, by go_num, HB⟩
          case measure => simp [intOf]; omega
    · have q1 : ¬ (k : Int) < (n : Int) := by omega
      have HF : Hid (R (.returned (.bool true)) wr) := hide (by obtain ⟨m, e⟩ := HB.out; rw [e]; exact HR.out m)
      go_wp2
      exact HF.out
set_option maxRecDepth 100000 in
set_option maxHeartbeats 4000000 in
theorem sameTable_c (nk n : Nat) (C : Cube) (p q : Option Addr) (cp cq : Nat) (w : World) (R : Ending → World → Prop) (hp : CubeAt w p nk n C) (hq : CubeAt w q nk n C) (hn : n ≤ 1000000) (hnk : nk ≤ 1000000) (hR : ∀ m, R (.returned (.bool true)) (w.drewN m)) :
    Calls Tryz.prog 31 #[.slice p nk cp, .slice q nk cq] w R := by
  have HR := hide hR; have HP := hide hp; have HQ := hide hq
  clear hR hp hq
  go_enter Tryz.func31, Tryz.ntmps31
  go_wp2
  go_loopw [5] (fun sk wr => ∃ k : Nat, k ≤ nk ∧ sk = .int .i64 k ∧ Hid (∃ m, wr = w.drewN m)) (fun sk _ => nk - (intOf sk).toNat)
  case atStart => exact ⟨0, Nat.zero_le _, rfl, hide ⟨0, rfl⟩⟩
  case round =>
    obtain ⟨k, hk, rfl, HB⟩ := hrel
    by_cases hlt : k < nk
    · obtain ⟨b, o, r, rc, hpp, c0, hc⟩ := HP.out k hlt
      obtain ⟨b', o', r', rc', hqq, c0', hc'⟩ := HQ.out k hlt
      have HC := hide (hc.next (drewB HB.out)); have HC' := hide (hc'.next (drewB HB.out))
      have d0 := cell_later (drewB HB.out) c0; have d0' := cell_later (drewB HB.out) c0'
      have q1 : (0 : Int) ≤ (k : Int) := by omega
      have q2 : (k : Int) < (nk : Int) := by omega
      subst hpp; subst hqq
      clear hc hc' c0 c0'
      go_wp2
      go_quiet (exact sameRows_c n (C k) r r' rc rc' _ _ (HC.out.next (below_drewN' (Below.refl _ _) _)) (HC'.out.next (below_drewN' (Below.refl _ _) _)) hn (fun m => by first | exact ⟨rfl, m, rfl⟩ | exact ⟨rfl, drewS ⟨_, rfl⟩ m⟩))
      have HBq := hide (drewS HB.out nq)
      clear d0 d0' HB
      generalize wr.drewN nq = wd at *
      go_wp2
      go_roundw
      case rel => exact ⟨k + 1, by omega, by go_num, HBq⟩
      case measure => simp [intOf]; omega
    · have q1 : ¬ (k : Int) < (nk : Int) := by omega
      have HF : Hid (R (.returned (.bool true)) wr) := hide (by obtain ⟨m, e⟩ := HB.out; rw [e]; exact HR.out m)
      go_wp2
      exact HF.out
set_option maxRecDepth 100000 in
set_option maxHeartbeats 4000000 in
theorem samePlan_c (n nk : Nat) (M : Mat) (C : Cube) (fr till : Int) (p q r s : Option Addr) (cp cq cr cs : Nat) (w : World) (R : Ending → World → Prop) (hp : MatAt w p n M) (hq : MatAt w q n M) (hr : CubeAt w r nk n C) (hs : CubeAt w s nk n C) (hn : n ≤ 1000000) (hnk : nk ≤ 1000000)
    (hR : ∀ w', Below w.heap.size w w' → R (.returned (.bool true)) w') :
    Calls Tryz.prog 30 #[.agg #[.int .i64 fr, .int .i64 till, .slice p n cp, .slice r nk cr], .agg #[.int .i64 fr, .int .i64 till, .slice q n cq, .slice s nk cs]] w R := by
  have HR := hide hR
  obtain ⟨w1, hw1⟩ : ∃ w1, (w.alloc (.cells #[.int .i64 fr, .int .i64 till, .slice p n cp, .slice r nk cr] 39)).alloc (.cells #[.int .i64 fr, .int .i64 till, .slice q n cq, .slice s nk cs] 39) = w1 := ⟨_, rfl⟩
  have hb1 : Below w.heap.size w w1 := hw1 ▸ balloc (balloc (Below.refl _ _) _) _
  have k0 : Blk w1 w.heap.size #[.int .i64 fr, .int .i64 till, .slice p n cp, .slice r nk cr] 39 := by rw [← hw1]; exact Blk.alloc (Blk.new _ _ _) _
  have k1 : Blk w1 (w.heap.size + 1) #[.int .i64 fr, .int .i64 till, .slice q n cq, .slice s nk cs] 39 := by rw [← hw1]; exact Blk.new_at (by simp)
  have HB1 := hide hb1
  have HP := hide (hp.next hb1); have HQ := hide (hq.next hb1); have HRr := hide (hr.next hb1); have HSs := hide (hs.next hb1)
  have x0 := k0.cell (k := 0) rfl; have x1 := k0.cell (k := 1) rfl; have x2 := k0.cell (k := 2) rfl; have x3 := k0.cell (k := 3) rfl
  have y0 := k1.cell (k := 0) rfl; have y1 := k1.cell (k := 1) rfl; have y2 := k1.cell (k := 2) rfl; have y3 := k1.cell (k := 3) rfl
  have K0 := hide k0; have K1 := hide k1
  clear hR hp hq hr hs hb1 k0 k1
  go_enter Tryz.func30, Tryz.ntmps30
  go_wp2_with (first | (go_at_call 105; refine Stop.out ?_) | (go_at_call 31; refine Stop.out ?_))
  clear hw1
  refine Stop.go (sameRows_c n M p q cp cq w1 _ HP.out HQ.out hn fun m => ?_)
  have hbm : Below w1.heap.size w1 (w1.drewN m) := below_drewN' (Below.refl _ _) m
  have HB2 := hide (bseq HB1.out hbm)
  have HR2 := hide (HRr.out.next hbm); have HS2 := hide (HSs.out.next hbm)
  have z3 := (K0.out.next hbm).cell (k := 3) rfl; have u3 := (K1.out.next hbm).cell (k := 3) rfl
  clear hbm x0 x1 x2 x3 y0 y1 y2 y3
  generalize w1.drewN m = w2 at *
  go_wp2_with (first | (go_at_call 105; refine Stop.out ?_) | (go_at_call 31; refine Stop.out ?_))
  refine Stop.go (sameTable_c nk n C r s cr cs w2 _ HR2.out HS2.out hn hnk fun m => ?_)
  have HF := hide (HR.out (w2.drewN m) (bseq HB2.out (below_drewN' (Below.refl _ _) m)))
  go_wp2
  exact HF.out
end Go.Proofs.YtgfhcmidnbahjaaGreatDoor
