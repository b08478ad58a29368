/- The fixed check, walked. Top: a plan leads; the same stops. Top: small networks. -/
import Derived.Test.YtgfhcmidnbahjaaGreatDoorZ39
set_option linter.unusedVariables false
set_option linter.unusedSimpArgs false
namespace Go.Proofs.YtgfhcmidnbahjaaGreatDoor
open Go.RowKit Go.Shelf
attribute [local go_sem] Oper.semAt_some run_store_func

theorem PlanAt.cap {W : World} {N M : Net} {fr till : Int} {P Q : Pln} {b b' : Nat} {p p' : Option Addr} {c c' : Nat} (hk : KwAt W) (hn : NetAt W N) (hm : NetAt W M) (hs : soundB N = true) (ht : soundB M = true) (h : PlanAt b N fr till P p c W) (k : PlanAt b' M fr till Q p' c' W) (hfp : M.fp = N.fp) (ho : M.offs = N.offs) :
    CaP W N M P Q (nextF' N fr till) (nextF' M fr till) := ⟨hk, hn, hm, hs, ht, h.next, k.next, next_formed, next_formed, h.nn, k.nn, hfp, ho⟩
set_option maxRecDepth 100000 in
set_option maxHeartbeats 2000000 in
theorem planned_c (w : World) (R) (hk : KwAt w) (hR : ∀ w', Below w.heap.size w w' → R (.returned (.bool true)) w') : Calls Tryz.prog 6 #[] w R := by
  have HR := hide hR; have HK := hide hk
  clear hR hk
  go_enter Tryz.func6, Tryz.ntmps6
  go_wp2_with (go_at_call 32; refine Stop.out ?_)
  refine Stop.go (net9_c w _ ?_)
  intro w1 wk ca na op of li cl hb1 hN1
  have hS := sound9 (wk := wk) (ca := ca) (na := na) (op := op) (of := of) (li := li) (cl := cl)
  have hC := comp9 (wk := wk) (ca := ca) (na := na) (op := op) (of := of) (li := li) (cl := cl)
  have hA := carry9 (wk := wk) (ca := ca) (na := na) (op := op) (of := of) (li := li) (cl := cl)
  have hL := lead9 (wk := wk) (ca := ca) (na := na) (op := op) (of := of) (li := li) (cl := cl)
  have hn2 : (net9 wk ca na op of li cl).offs.length = 2 := rfl
  generalize net9 wk ca na op of li cl = N at *
  obtain ⟨w2, hw2⟩ : ∃ w2, w1.alloc (.cells N.cells 29) = w2 := ⟨_, rfl⟩
  have hb2 : Below w.heap.size w w2 := hw2 ▸ balloc hb1 _
  have k2 : Blk w2 w1.heap.size N.cells 29 := hw2 ▸ Blk.new _ _ _
  have HB2 := hide hb2; have HK2 := hide k2; have HN2 := hide (hN1.next (hw2 ▸ balloc (Below.refl _ _) _))
  have HS := hide hS; have HC := hide hC; have HA := hide hA; have HL := hide hL; have Hn2 := hide hn2
  unfold Net.cells at hw2 ⊢
  obtain ⟨y0, y1, y2, y3, y4, y5⟩ := k2.net6
  clear hb1 hN1 hS hC hA hL hb2 k2 hn2
  go_wp2_with (go_at_call 9; refine Stop.out ?_)
  clear hw2
  refine Stop.go (compile_c N 0 5 w2 _ (HK.out.next HB2.out) HN2.out ?_ (fun w' h _ => absurd HC.out h))
  intro w3 P p cap _ hb hPl
  have hg1 : w1.heap.size < w2.heap.size := HK2.out.lt
  have HB3 := hide (bseq HB2.out hb); have HK3 := hide (HK2.out.next hb); have HN3 := hide (HN2.out.next hb); have HPl := hide hPl
  clear hb hPl y0 y1 y2 y3 y4 y5 HB2 HK2 HN2
  generalize w2.heap.size = g2 at *
  generalize w1.heap.size = g1 at *
  generalize (certF N 0 5).length = cn at *
  generalize sealF (certF N 0 5) = cs at *
  unfold Pln.cells
  go_wp2_with (go_at_call 20; refine Stop.out ?_)
  obtain ⟨w4, hw4⟩ : ∃ w4, ((w3.alloc (.cells P.cells.toArray 39)).alloc (.cells #[.slice p cn cap, .int .i64 cs] 42)).alloc (.cells (bx9.flatMap Bx.cells).toArray 69) = w4 := ⟨_, rfl⟩
  have hb4 : Below w3.heap.size w3 w4 := hw4 ▸ balloc (balloc (balloc (Below.refl _ _) _) _) _
  have kP : Blk w4 w3.heap.size P.cells.toArray 39 := by rw [← hw4]; exact Blk.alloc (Blk.alloc (Blk.new _ _ _) _) _
  have kB : Blk w4 (w3.heap.size + 1 + 1) (bx9.flatMap Bx.cells).toArray 69 := by rw [← hw4]; exact Blk.new_at (by simp)
  have HBx := hide (EncAt.of_blk (enc := Bx.cells) (k := 5) (fun _ => rfl) kB rfl)
  have HB4 := hide (bseq HB3.out hb4); have HK4 := hide (HK3.out.next hb4); have HN4 := hide (HN3.out.next hb4); have HP4 := hide kP
  have HM4 := hide (HPl.out.next.next hb4)
  have Hnn := hide HPl.out.nn
  have hw4' := hw4
  simp only [Pln.cells, bx9, List.flatMap_cons, List.flatMap_nil, Bx.cells, List.append_nil, List.cons_append, List.nil_append, str1] at hw4'
  rw [hw4']
  clear hw4 hw4' hb4 kP kB HPl HB3 HK3 HN3
  generalize w3.heap.size = g3 at *
  refine Stop.go (nPut_c bx9 0 1 (some ⟨g3 + 1 + 1, 0, none⟩) 2 w4 _ HBx.out putP9 ?_)
  intro w5 g5 cap5 hb hown
  rw [show bx9.length = 2 from rfl]
  have HB5 := hide (bseq HB4.out hb); have HK5 := hide (HK4.out.next hb); have HN5 := hide (HN4.out.next hb); have HP5 := hide (HP4.out.next hb); have HM5 := hide (HM4.out.next hb)
  have HE5 : Hid (EncAt 5 Bx.cells w5 (some ⟨g5, 0, none⟩) (putF bx9 0 1)) := hide (EncAt.of_own bx_len (by decide) hown)
  have hcap : CaP w5 N N P P (nextF' N 0 5) (nextF' N 0 5) := ⟨HK.out.next HB5.out, HN5.out, HN5.out, HS.out, HS.out, HM5.out, HM5.out, next_formed, next_formed, Hnn.out, Hnn.out, rfl, rfl⟩
  have HCp := hide hcap
  clear hb hown hcap HBx HB4 HK4 HN4 HP4 HM4
  obtain ⟨y0, y1, y2, y3, y4, y5⟩ := HK5.out.net6
  have p0 := HP5.out.cell (k := 0) (v := .int .i64 P.fr) rfl; have p1 := HP5.out.cell (k := 1) (v := .int .i64 P.till) rfl; have p2 := HP5.out.cell (k := 2) (v := .slice P.np P.nn P.nc) rfl; have p3 := HP5.out.cell (k := 3) (v := .slice P.dp P.dn P.dc) rfl
  have Ho0 : Hid ((0 : Nat) < N.offs.length) := hide (by have := Hn2.out; omega)
  have Ho1 : Hid ((1 : Nat) < N.offs.length) := hide (by have := Hn2.out; omega)
  go_wp2_with (go_at_call 12; refine Stop.out ?_)
  have ha := tCarry_c N N P P (nextF' N 0 5) (nextF' N 0 5) ⟨#[]⟩ 0 1 0 100 500 w5
  unfold Net.cells Pln.cells postC at ha
  rw [show ((0 : Nat) : Int) = 0 from rfl, show ((1 : Nat) : Int) = 1 from rfl] at ha
  refine Stop.go (ha _ HCp.out Ho0.out Ho1.out (by decide) (by decide) (by decide) (by decide) ?_ (fun e w' h _ => by rw [HA.out] at h; cases h))
  intro l w6 g6 cap6 hl hb hown
  rw [HA.out] at hl; injection hl with hl; subst hl
  have HB6 := hide (bseq HB5.out hb); have HCp6 := hide (HCp.out.next hb); have HK6 := hide (HK5.out.next hb); have HP6 := hide (HP5.out.next hb)
  have HE6 := hide (HE5.out.keep (Keeps.of_below hb))
  have HW : Hid (EncAt 4 Stp.cells w6 (some ⟨g6, 0, none⟩) [⟨0, 100, 480, 0⟩, ⟨1, 600, -1, -1⟩]) := hide (EncAt.of_own stp_len (by decide) hown)
  clear hb hown ha y0 y1 y2 y3 y4 y5 p0 p1 p2 p3 HE5 HB5 HK5 HN5 HP5 HM5 HCp
  have hlen2 : ([⟨0, 100, 480, 0⟩, ⟨1, 600, -1, -1⟩] : List Stp).length = 2 := rfl
  rw [hlen2]
  clear hlen2
  go_wp2_with (go_at_call 33; refine Stop.out ?_)
  have hr := root_c (putF bx9 0 1) (some ⟨g5, 0, none⟩) cap5 0 w6
  rw [show ((0 : Nat) : Int) = 0 from rfl, show (putF bx9 0 1).length = 2 from rfl] at hr
  refine Stop.go (hr _ HE6.out (bxsP9 1 (.inr rfl)) (by decide) ?_)
  rw [root9]
  intro w7 hb
  have HB7 := hide (bseq HB6.out hb); have HCp7 := hide (HCp6.out.next hb); have HK7 := hide (HK6.out.next hb); have HP7 := hide (HP6.out.next hb)
  obtain ⟨b0, o0, s0, hp0, hs0, hc0⟩ := (HW.out.keep (Keeps.of_below hb)).at_ (i := 0) (by decide)
  injection hp0 with hp0; injection hp0 with e1 e2; subst e1; subst e2
  injection hs0 with hs0; subst hs0
  obtain ⟨b1, o1, s1, hp1, hs1, hc1⟩ := (HW.out.keep (Keeps.of_below hb)).at_ (i := 1) (by decide)
  injection hp1 with hp1; injection hp1 with e1 e2; subst e1; subst e2
  injection hs1 with hs1; subst hs1
  have d0 : w7.cell? ⟨g6, 2, none⟩ = some (.int .i64 480) := hc0 2 _ rfl
  have d1 : w7.cell? ⟨g6, 4, none⟩ = some (.int .i64 1) := hc1 0 _ rfl
  obtain ⟨y0, y1, y2, y3, y4, y5⟩ := HK7.out.net6
  have p0 := HP7.out.cell (k := 0) (v := .int .i64 P.fr) rfl; have p1 := HP7.out.cell (k := 1) (v := .int .i64 P.till) rfl; have p2 := HP7.out.cell (k := 2) (v := .slice P.np P.nn P.nc) rfl; have p3 := HP7.out.cell (k := 3) (v := .slice P.dp P.dn P.dc) rfl
  clear hb hc0 hc1 hr HE6 HB6 HCp6 HK6 HP6
  go_wp2_with (go_at_call 11; refine Stop.out ?_)
  have hs := safe_c N N P P (nextF' N 0 5) (nextF' N 0 5) 500 w7
  unfold Net.cells Pln.cells at hs
  refine Stop.go (hs _ HCp7.out (by decide) (by decide) (leads_all (snd_of HS.out) (by have := Hn2.out; omega) (by rw [Hn2.out]; exact HL.out)) ?_)
  intro w8 hb
  have HF := hide (HR.out w8 (bseq HB7.out hb))
  clear hb hs y0 y1 y2 y3 y4 y5 p0 p1 p2 p3 d0 d1
  go_wp2
  exact HF.out
end Go.Proofs.YtgfhcmidnbahjaaGreatDoor

namespace Go.Proofs.YtgfhcmidnbahjaaGreatDoor
open Go.RowKit Go.Shelf
attribute [local go_sem] Oper.semAt_some run_store_func

set_option maxRecDepth 100000 in
set_option maxHeartbeats 1000000 in
theorem topLeads_c (P : Pln) (nx : Mat) (n : Nat) (w : World) (R) (hn : P.nn = n) (h20 : n ≤ 1000) (hM : MatAt w P.np n nx)
    (hyes : ∀ w', (∀ a b, a < n → b < n → a ≠ b → nx a b ≠ -1) → Below w.heap.size w w' → R (.returned (.bool true)) w') (hno : ∀ w', Below w.heap.size w w' → R (.returned (.bool false)) w') :
    Calls Tryz.prog 10 #[.agg P.cells.toArray] w R := by
  have HY := hide hyes; have HN := hide hno
  obtain ⟨w1, hw1⟩ : ∃ w1, w.alloc (.cells P.cells.toArray 39) = w1 := ⟨_, rfl⟩
  have hb1 : Below w.heap.size w w1 := hw1 ▸ balloc (Below.refl _ _) _
  have k1 : Blk w1 w.heap.size P.cells.toArray 39 := hw1 ▸ Blk.new _ _ _
  have HM := hide (hM.next hb1); have HB := hide hb1
  have p2 := k1.cell (k := 2) (v := .slice P.np P.nn P.nc) rfl
  rw [hn] at p2
  subst hn
  unfold Pln.cells at hw1 ⊢
  clear hyes hno hM hb1 k1
  go_enter Tryz.func10, Tryz.ntmps10
  go_wp2
  clear hw1
  go_loopw [3] (fun sv wq => (∃ i : Nat, i ≤ P.nn ∧ sv = .int .i64 (i : Int) ∧ Hid (∀ a b, a < i → b < P.nn → a ≠ b → nx a b ≠ -1)) ∧ wq = w1) (fun sv _ => P.nn - (intOf sv).toNat)
  case atStart => exact ⟨⟨0, by omega, rfl, hide (fun a b h => absurd h (by omega))⟩, rfl⟩
  case round =>
    obtain ⟨⟨o, ho, rfl, HO⟩, rfl⟩ := hrel
    by_cases hlt : o < P.nn
    · have q1 : (0 : Int) ≤ (o : Int) := by omega
      have q2 : (o : Int) < (P.nn : Int) := by omega
      obtain ⟨b, bo, b', bo', c', hp, hr, hcell⟩ := HM.out o hlt
      have Hp := hide hp
      have Hc := hide hcell
      have Hlt := hide hlt
      rw [hp] at p2
      clear hp hcell
      go_wp2
      go_loopw [4] (fun sv wq => (∃ i : Nat, i ≤ P.nn ∧ sv = .int .i64 (i : Int) ∧ Hid (∀ b, b < i → o ≠ b → nx o b ≠ -1)) ∧ wq = wr) (fun sv _ => P.nn - (intOf sv).toNat)
      case atStart => exact ⟨⟨0, by omega, rfl, hide (fun b h => absurd h (by omega))⟩, by first | rfl | trivial⟩
      case round =>
        obtain ⟨⟨d, hd, rfl, HD⟩, hwq⟩ := hrel
        subst hwq
        by_cases hlt2 : d < P.nn
        · have q3 : (0 : Int) ≤ (d : Int) := by omega
          have q4 : (d : Int) < (P.nn : Int) := by omega
          have m7 := Hc.out d hlt2
          have Hlt2 := hide hlt2
          by_cases hod : o = d
          · subst hod
            go_wp2
            go_roundw
            case rel => exact ⟨⟨o + 1, Hlt2.out, by go_num, hide (fun b h hne => by
              by_cases e : b = o
              · exact absurd e.symm hne
              · exact HD.out b (by omega) hne)⟩, by first | rfl | trivial⟩
            case measure => have := Hlt2.out; simp [intOf]; omega
          · have r1 : ((d : Int) != (o : Int)) = true := by simp; omega
            by_cases hneg : nx o d < 0
            · go_wp2
              exact HN.out _ HB.out
            · have HD2 : Hid (∀ b, b < d + 1 → o ≠ b → nx o b ≠ -1) := hide (fun b h hne => by
                by_cases e : b = d
                · subst e; omega
                · exact HD.out b (by omega) hne)
              go_wp2
              go_roundw
              case rel => exact ⟨⟨d + 1, Hlt2.out, by go_num, HD2⟩, by first | rfl | trivial⟩
              case measure => have := Hlt2.out; simp [intOf]; omega
        · have q4 : ¬ (d : Int) < (P.nn : Int) := by omega
          have HO2 : Hid (∀ a b, a < o + 1 → b < P.nn → a ≠ b → nx a b ≠ -1) := hide (fun a b h1 h2 hne => by
            by_cases e : a = o
            · subst e; exact HD.out b (by omega) hne
            · exact HO.out a b (by omega) h2 hne)
          go_wp2
          go_roundw
          case rel => exact ⟨⟨o + 1, Hlt.out, by go_num, HO2⟩, by first | rfl | trivial⟩
          case measure => have := Hlt.out; simp [intOf]; omega
    · have q2 : ¬ (o : Int) < (P.nn : Int) := by omega
      obtain rfl : o = P.nn := by omega
      go_wp2
      exact HY.out _ HO.out HB.out
set_option maxRecDepth 100000 in
set_option maxHeartbeats 1000000 in
theorem sameStops_c (l : List Stp) (p q : Option Addr) (c c2 : Nat) (w : World) (R) (hl : l.length ≤ 1000) (h1 : EncAt 4 Stp.cells w p l) (h2 : EncAt 4 Stp.cells w q l) (hR : ∀ w', Below w.heap.size w w' → R (.returned (.bool true)) w') :
    Calls Tryz.prog 14 #[.slice p l.length c, .slice q l.length c2] w R := by
  have HR := hide hR; have H1 := hide h1; have H2 := hide h2
  clear hR h1 h2
  go_enter Tryz.func14, Tryz.ntmps14
  go_wp2
  go_loopw [5] (fun sv wq => ∃ i : Nat, i ≤ l.length ∧ sv = .int .i64 (i : Int) ∧ Hid (Below w.heap.size w wq)) (fun sv _ => l.length - (intOf sv).toNat)
  case atStart => exact ⟨0, by omega, rfl, hide (Below.refl _ _)⟩
  case round =>
    obtain ⟨i, hi, rfl, HB⟩ := hrel
    by_cases hlt : i < l.length
    · have q1 : (0 : Int) ≤ (i : Int) := by omega
      have q2 : (i : Int) < (l.length : Int) := by omega
      obtain ⟨b, bo, x, hp, hx, hcell⟩ := (H1.out.keep (Keeps.of_below HB.out)).at_ hlt
      have m0 : wr.cell? ⟨b, bo + i * 4, none⟩ = some (.int .i64 x.office) := hcell 0 _ rfl; have m1 := hcell 1 _ rfl; have m2 := hcell 2 _ rfl; have m3 := hcell 3 _ rfl
      obtain ⟨b', bo', x', hp', hx', hcell'⟩ := (H2.out.keep (Keeps.of_below HB.out)).at_ hlt
      rw [hx] at hx'; injection hx' with hx'; subst hx'
      have n0 : wr.cell? ⟨b', bo' + i * 4, none⟩ = some (.int .i64 x.office) := hcell' 0 _ rfl; have n1 := hcell' 1 _ rfl; have n2 := hcell' 2 _ rfl; have n3 := hcell' 3 _ rfl
      have Hlt := hide hlt
      rw [hp, hp']
      clear hcell hcell' hx
      go_wp2
      go_quiet (fail)
      go_wp2
      go_roundw
      case rel => exact ⟨i + 1, Hlt.out, by go_num, hide (below_drewN' HB.out nq)⟩
      case measure => have := Hlt.out; simp [intOf]; omega
    · have q2 : ¬ ((i : Int) < (l.length : Int)) := by omega
      go_wp2
      exact HR.out _ HB.out
end Go.Proofs.YtgfhcmidnbahjaaGreatDoor

namespace Go.Proofs.YtgfhcmidnbahjaaGreatDoor
open Go.RowKit Go.Shelf
attribute [local go_sem] Oper.semAt_some run_store_func

set_option maxHeartbeats 1000000 in
theorem calSmall_c (c : Cal) (w : World) (R) (hR : ∀ b w', Below w.heap.size w w' → R (.returned (.bool b)) w') : Calls Tryz.prog 164 #[.agg c.cells.toArray] w R := by
  have HR := hide hR
  have hb1 : ∀ o, Below w.heap.size w (w.alloc o) := fun o => balloc (Below.refl _ _) _
  have HB := hide hb1
  unfold Cal.cells
  clear hR hb1
  go_enter Tryz.func164, Tryz.ntmps164
  go_wp2
  all_goals exact HR.out _ _ (HB.out _)
theorem infoStr : (Tryz.prog.info? 9).map (fun i => (i.zero, i.size, i.bytes)) = some (some (.string ⟨#[]⟩), 1, 16) := by kernel_rfl
/-- A row of strings under way. -/
structure NaI (w : World) (N : Net) (g : Nat) (v : Value) (n : Nat) (W : World) : Prop where
  below : Below w.heap.size w W
  box : Blk W g N.cells 29
  own : ∃ l : List ByteArray, W.ownsRow (w.heap.size + 1) 9 1 v n (l.map Value.string)
theorem NaI.next {w W W' : World} {N : Net} {g : Nat} {v : Value} {n : Nat} (h : NaI w N g v n W) (hb : Below W.heap.size W W') : NaI w N g v n W' :=
  ⟨bseq h.below hb, h.box.next hb, by obtain ⟨l, hl⟩ := h.own; exact ⟨l, own_below hl hb⟩⟩
theorem NaI.app {w W W' : World} {N : Net} {v v' : Value} {n : Nat} {l : List ByteArray} {s : ByteArray} (h : NaI w N w.heap.size v n W) (ho : W.ownsRow (w.heap.size + 1) 9 1 v n (l.map Value.string)) (hown : W'.ownsRow (w.heap.size + 1) 9 1 v' (n + 1) (l.map Value.string ++ [.string s])) (hg : W.grownBy W' v.ownBlock) : NaI w N w.heap.size v' (n + 1) W' :=
  ⟨h.below.grown hg h.below.size (fun k hk => by have := (own_lt ho hk).1; omega), h.box.grown hg (fun e => by have := (own_lt ho e.symm).1; omega), l ++ [s], by rw [List.map_append]; exact hown⟩
theorem map_flat : ∀ l : List ByteArray, l.map Value.string = l.flatMap (fun s => [Value.string s])
  | [] => rfl
  | x :: l => by rw [List.map_cons, List.flatMap_cons, map_flat l]; rfl
theorem str_row {w : World} {base n : Nat} {v : Value} {l : List ByteArray} (h : w.ownsRow base 9 1 v n (l.map Value.string)) : ∃ p m c, v = .slice p m c ∧ (∃ l : List ByteArray, l.length = m ∧ EncAt 1 (fun s => [Value.string s]) w p l) ∧ m = n := by
  have hn : l.length = n := by have := h.1; simpa using this
  have hfl := map_flat l
  rcases Nat.eq_zero_or_pos n with h0 | h0
  · subst h0
    have hl : l = [] := List.eq_nil_of_length_eq_zero hn
    subst hl
    rcases h.2 with ⟨hv, _⟩ | ⟨g, cap, cur, hv, _⟩
    · exact ⟨none, 0, 0, hv, ⟨[], rfl, EncAt.nil⟩, rfl⟩
    · exact ⟨_, 0, cap, hv, ⟨[], rfl, EncAt.nil⟩, rfl⟩
  · obtain ⟨g, cap, hv, _⟩ := own_form h h0
    subst hv
    rw [hfl] at h
    exact ⟨_, n, cap, rfl, ⟨l, hn, EncAt.of_own (fun _ => rfl) (by decide) h⟩, rfl⟩
set_option maxRecDepth 100000 in
set_option maxHeartbeats 1000000 in
theorem refNames_c (N : Net) (k : Int) (w : World) (R) (hk : 1 ≤ k ∧ k ≤ 5) (hN : NetAt w N) (hl : N.cals.length ≤ 10 ∧ N.names.length ≤ 10 ∧ N.oprs.length ≤ 10 ∧ N.offs.length ≤ 16 ∧ N.lins.length ≤ 50 ∧ N.clss.length ≤ 8)
    (hR : ∀ w' p n c, (∃ l : List ByteArray, l.length = n ∧ EncAt 1 (fun s => [Value.string s]) w' p l) → n ≤ 50 → Below w.heap.size w w' → R (.returned (.slice p n c)) w') :
    Calls Tryz.prog 165 #[.agg N.cells, .int .i64 k] w R := by
  have HR := hide hR; have HN := hide hN; have Hl := hide hl
  obtain ⟨w1, hw1⟩ : ∃ w1, w.alloc (.cells N.cells 29) = w1 := ⟨_, rfl⟩
  have hb1 : Below w.heap.size w w1 := hw1 ▸ balloc (Below.refl _ _) _
  have k1 : Blk w1 w.heap.size N.cells 29 := hw1 ▸ Blk.new _ _ _
  have HI := hide (show NaI w N w.heap.size (.slice none 0 0) 0 w1 from ⟨hb1, k1, [], World.ownsRow_nil _ _ _ _⟩)
  obtain ⟨y0, y1, y2, y3, y4, y5⟩ := k1.net6
  unfold Net.cells at hw1 ⊢
  clear hR hN hl hb1 k1
  rcases (show k = 1 ∨ k = 2 ∨ k = 3 ∨ k = 4 ∨ k = 5 by omega) with rfl | rfl | rfl | rfl | rfl
  · go_enter Tryz.func165, Tryz.ntmps165
    go_wp2
    clear hw1 y0 y1 y2 y3 y4 y5
    go_loopw [5, 6] (fun rv sv wq => ∃ (i : Nat), i ≤ N.cals.length ∧ sv = .int .i64 (i : Int) ∧ Hid (NaI w N w.heap.size rv i wq)) (fun _ sv _ => N.cals.length - (intOf sv).toNat)
    case atStart => exact ⟨0, by omega, rfl, HI⟩
    case round =>
      clear HI
      obtain ⟨i, hi, rfl, HI⟩ := hrel
      obtain ⟨y0, y1, y2, y3, y4, y5⟩ := HI.out.box.net6
      by_cases hlt : i < N.cals.length
      · have q1 : (0 : Int) ≤ (i : Int) := by omega
        have q2 : (i : Int) < (N.cals.length : Int) := by omega
        by_cases hlt2 : i < N.names.length
        · have q3 : (i : Int) < (N.names.length : Int) := by omega
          obtain ⟨b, bo, s, hp, hs, m0, _⟩ := (HN.out.names.keep (Keeps.of_below HI.out.below)).at_ hlt2
          rw [hp] at y1
          clear hp hs
          obtain ⟨i0, hi0, hz0, hz1, hz2⟩ := info_parts infoStr
          obtain ⟨w2, hw2⟩ : ∃ w2, wr.alloc (.cells #[.string s] 9) = w2 := ⟨_, rfl⟩
          have HI2 := hide (HI.out.next (hw2 ▸ balloc (Below.refl _ _) _))
          have hsrc : Src w2 (some ⟨wr.heap.size, 0, none⟩) 1 1 [.string s] := hw2 ▸ Src.lit rfl 1 rfl
          have HSr := hide hsrc
          have Hlt := hide hlt
          clear hsrc
          go_wp2_with (at_builtin; refine Stop.out ?_)
          try rw [hw2]
          clear hw2
          obtain ⟨l, hown⟩ := HI2.out.own
          have HO := hide hown
          refine Stop.go ?_
          refine wpList_app _ rfl (.tmp 26) (.tmp 32) 23 rfl (w.heap.size + 1) 9 i0 _ 1 16 Tryz.underlying23 hi0 hz0 hz1 hz2 rfl (by omega) _ i _ rfl HO.out (some ⟨wr.heap.size, 0, none⟩) 1 1 [.string s] rfl HSr.out (by simp [Value.oneCell']) (by have := Hlt.out; have := Hl.out; unfold maxLen; omega) (by have := Hlt.out; have := Hl.out; omega) (by have := HI2.out.box.lt; omega) ?_
          intro v3 w3 hown3 hg3
          have HI3 : Hid (NaI w N w.heap.size v3 (i + 1) w3) := hide (HI2.out.app HO.out hown3 hg3)
          have hi60 : i ≤ 60 := by have := Hlt.out; have := Hl.out; omega
          clear hown hown3 hg3 hi0 hz0 hz1 hz2
          go_wp2_with fail
          go_roundw
          case rel => exact ⟨i + 1, Hlt.out, by go_num, HI3⟩
          case measure => have := Hlt.out; simp [intOf]; omega
        · have q3 : ¬ ((i : Int) < (N.names.length : Int)) := by omega
          obtain ⟨i0, hi0, hz0, hz1, hz2⟩ := info_parts infoStr
          obtain ⟨w2, hw2⟩ : ∃ w2, wr.alloc (.cells #[.string ⟨#[]⟩] 9) = w2 := ⟨_, rfl⟩
          have HI2 := hide (HI.out.next (hw2 ▸ balloc (Below.refl _ _) _))
          have hsrc : Src w2 (some ⟨wr.heap.size, 0, none⟩) 1 1 [.string ⟨#[]⟩] := hw2 ▸ Src.lit rfl 1 rfl
          have HSr := hide hsrc
          have Hlt := hide hlt
          clear hsrc
          go_wp2_with (at_builtin; refine Stop.out ?_)
          try rw [hw2]
          clear hw2
          obtain ⟨l, hown⟩ := HI2.out.own
          have HO := hide hown
          refine Stop.go ?_
          refine wpList_app _ rfl (.tmp 34) (.tmp 35) 23 rfl (w.heap.size + 1) 9 i0 _ 1 16 Tryz.underlying23 hi0 hz0 hz1 hz2 rfl (by omega) _ i _ rfl HO.out (some ⟨wr.heap.size, 0, none⟩) 1 1 [.string ⟨#[]⟩] rfl HSr.out (by simp [Value.oneCell']) (by have := Hlt.out; have := Hl.out; unfold maxLen; omega) (by have := Hlt.out; have := Hl.out; omega) (by have := HI2.out.box.lt; omega) ?_
          intro v3 w3 hown3 hg3
          have HI3 : Hid (NaI w N w.heap.size v3 (i + 1) w3) := hide (HI2.out.app HO.out hown3 hg3)
          have hi60 : i ≤ 60 := by have := Hlt.out; have := Hl.out; omega
          clear hown hown3 hg3 hi0 hz0 hz1 hz2
          go_wp2_with fail
          go_roundw
          case rel => exact ⟨i + 1, Hlt.out, by go_num, HI3⟩
          case measure => have := Hlt.out; simp [intOf]; omega
      · have q2 : ¬ ((i : Int) < (N.cals.length : Int)) := by omega
        obtain ⟨l, hown⟩ := HI.out.own
        obtain ⟨p, n, c, hv, hr, hn⟩ := str_row hown
        subst hv; subst hn
        have HF := hide (HR.out wr p n c hr (by have := Hl.out; omega) HI.out.below)
        clear hown hr
        go_wp2
        exact HF.out
  · go_enter Tryz.func165, Tryz.ntmps165
    go_wp2
    clear hw1 y0 y1 y2 y3 y4 y5
    go_loopw [5, 7] (fun rv sv wq => ∃ (i : Nat), i ≤ N.oprs.length ∧ sv = .int .i64 (i : Int) ∧ Hid (NaI w N w.heap.size rv i wq)) (fun _ sv _ => N.oprs.length - (intOf sv).toNat)
    case atStart => exact ⟨0, by omega, rfl, HI⟩
    case round =>
      clear HI
      obtain ⟨i, hi, rfl, HI⟩ := hrel
      obtain ⟨y0, y1, y2, y3, y4, y5⟩ := HI.out.box.net6
      by_cases hlt : i < N.oprs.length
      · have q1 : (0 : Int) ≤ (i : Int) := by omega
        have q2 : (i : Int) < (N.oprs.length : Int) := by omega
        have h9 := HN.out.oprs.keep (Keeps.of_below HI.out.below)
        obtain ⟨b, bo, s, hp, hs, m0, _⟩ := h9.at_ hlt
        rw [hp] at y2
        clear h9 hp hs
        obtain ⟨i0, hi0, hz0, hz1, hz2⟩ := info_parts infoStr
        obtain ⟨w2, hw2⟩ : ∃ w2, wr.alloc (.cells #[.string s] 9) = w2 := ⟨_, rfl⟩
        have HI2 := hide (HI.out.next (hw2 ▸ balloc (Below.refl _ _) _))
        have hsrc : Src w2 (some ⟨wr.heap.size, 0, none⟩) 1 1 [.string s] := hw2 ▸ Src.lit rfl 1 rfl
        have HSr := hide hsrc
        have Hlt := hide hlt
        clear hsrc
        go_wp2_with (at_builtin; refine Stop.out ?_)
        try rw [hw2]
        clear hw2
        obtain ⟨l, hown⟩ := HI2.out.own
        have HO := hide hown
        refine Stop.go ?_
        refine wpList_app _ rfl (.tmp 46) (.tmp 53) 23 rfl (w.heap.size + 1) 9 i0 _ 1 16 Tryz.underlying23 hi0 hz0 hz1 hz2 rfl (by omega) _ i _ rfl HO.out (some ⟨wr.heap.size, 0, none⟩) 1 1 [.string s] rfl HSr.out (by simp [Value.oneCell']) (by have := Hlt.out; have := Hl.out; unfold maxLen; omega) (by have := Hlt.out; have := Hl.out; omega) (by have := HI2.out.box.lt; omega) ?_
        intro v3 w3 hown3 hg3
        have HI3 : Hid (NaI w N w.heap.size v3 (i + 1) w3) := hide (HI2.out.app HO.out hown3 hg3)
        have hi60 : i ≤ 60 := by have := Hlt.out; have := Hl.out; omega
        clear hown hown3 hg3 hi0 hz0 hz1 hz2
        go_wp2_with fail
        go_roundw
        case rel => exact ⟨i + 1, Hlt.out, by go_num, HI3⟩
        case measure => have := Hlt.out; simp [intOf]; omega
      · have q2 : ¬ ((i : Int) < (N.oprs.length : Int)) := by omega
        obtain ⟨l, hown⟩ := HI.out.own
        obtain ⟨p, n, c, hv, hr, hn⟩ := str_row hown
        subst hv; subst hn
        have HF := hide (HR.out wr p n c hr (by have := Hl.out; omega) HI.out.below)
        clear hown hr
        go_wp2
        exact HF.out
  · go_enter Tryz.func165, Tryz.ntmps165
    go_wp2
    clear hw1 y0 y1 y2 y3 y4 y5
    go_loopw [5, 8] (fun rv sv wq => ∃ (i : Nat), i ≤ N.offs.length ∧ sv = .int .i64 (i : Int) ∧ Hid (NaI w N w.heap.size rv i wq)) (fun _ sv _ => N.offs.length - (intOf sv).toNat)
    case atStart => exact ⟨0, by omega, rfl, HI⟩
    case round =>
      clear HI
      obtain ⟨i, hi, rfl, HI⟩ := hrel
      obtain ⟨y0, y1, y2, y3, y4, y5⟩ := HI.out.box.net6
      by_cases hlt : i < N.offs.length
      · have q1 : (0 : Int) ≤ (i : Int) := by omega
        have q2 : (i : Int) < (N.offs.length : Int) := by omega
        have h9 := HN.out.offs.keep (Keeps.of_below HI.out.below)
        obtain ⟨b, bo, x, hp, hs, hcell⟩ := h9.at_ hlt
        obtain ⟨s, hse⟩ : ∃ s, x.name = s := ⟨_, rfl⟩
        have m0 : wr.cell? ⟨b, bo + i * 7, none⟩ = some (.string s) := by rw [← hse]; exact hcell 0 _ rfl
        clear hcell hse
        rw [hp] at y3
        clear h9 hp hs
        obtain ⟨i0, hi0, hz0, hz1, hz2⟩ := info_parts infoStr
        obtain ⟨w2, hw2⟩ : ∃ w2, wr.alloc (.cells #[.string s] 9) = w2 := ⟨_, rfl⟩
        have HI2 := hide (HI.out.next (hw2 ▸ balloc (Below.refl _ _) _))
        have hsrc : Src w2 (some ⟨wr.heap.size, 0, none⟩) 1 1 [.string s] := hw2 ▸ Src.lit rfl 1 rfl
        have HSr := hide hsrc
        have Hlt := hide hlt
        clear hsrc
        go_wp2_with (at_builtin; refine Stop.out ?_)
        try rw [hw2]
        clear hw2
        obtain ⟨l, hown⟩ := HI2.out.own
        have HO := hide hown
        refine Stop.go ?_
        refine wpList_app _ rfl (.tmp 64) (.tmp 71) 23 rfl (w.heap.size + 1) 9 i0 _ 1 16 Tryz.underlying23 hi0 hz0 hz1 hz2 rfl (by omega) _ i _ rfl HO.out (some ⟨wr.heap.size, 0, none⟩) 1 1 [.string s] rfl HSr.out (by simp [Value.oneCell']) (by have := Hlt.out; have := Hl.out; unfold maxLen; omega) (by have := Hlt.out; have := Hl.out; omega) (by have := HI2.out.box.lt; omega) ?_
        intro v3 w3 hown3 hg3
        have HI3 : Hid (NaI w N w.heap.size v3 (i + 1) w3) := hide (HI2.out.app HO.out hown3 hg3)
        have hi60 : i ≤ 60 := by have := Hlt.out; have := Hl.out; omega
        clear hown hown3 hg3 hi0 hz0 hz1 hz2
        go_wp2_with fail
        go_roundw
        case rel => exact ⟨i + 1, Hlt.out, by go_num, HI3⟩
        case measure => have := Hlt.out; simp [intOf]; omega
      · have q2 : ¬ ((i : Int) < (N.offs.length : Int)) := by omega
        obtain ⟨l, hown⟩ := HI.out.own
        obtain ⟨p, n, c, hv, hr, hn⟩ := str_row hown
        subst hv; subst hn
        have HF := hide (HR.out wr p n c hr (by have := Hl.out; omega) HI.out.below)
        clear hown hr
        go_wp2
        exact HF.out
  · go_enter Tryz.func165, Tryz.ntmps165
    go_wp2
    clear hw1 y0 y1 y2 y3 y4 y5
    go_loopw [5, 9] (fun rv sv wq => ∃ (i : Nat), i ≤ N.lins.length ∧ sv = .int .i64 (i : Int) ∧ Hid (NaI w N w.heap.size rv i wq)) (fun _ sv _ => N.lins.length - (intOf sv).toNat)
    case atStart => exact ⟨0, by omega, rfl, HI⟩
    case round =>
      clear HI
      obtain ⟨i, hi, rfl, HI⟩ := hrel
      obtain ⟨y0, y1, y2, y3, y4, y5⟩ := HI.out.box.net6
      by_cases hlt : i < N.lins.length
      · have q1 : (0 : Int) ≤ (i : Int) := by omega
        have q2 : (i : Int) < (N.lins.length : Int) := by omega
        have h9 := HN.out.lins.keep (Keeps.of_below HI.out.below)
        obtain ⟨b, bo, x, hp, hs, hcell⟩ := h9.at_ hlt
        obtain ⟨s, hse⟩ : ∃ s, x.name = s := ⟨_, rfl⟩
        have m0 : wr.cell? ⟨b, bo + i * 6, none⟩ = some (.string s) := by rw [← hse]; exact hcell 0 _ rfl
        clear hcell hse
        rw [hp] at y4
        clear h9 hp hs
        obtain ⟨i0, hi0, hz0, hz1, hz2⟩ := info_parts infoStr
        obtain ⟨w2, hw2⟩ : ∃ w2, wr.alloc (.cells #[.string s] 9) = w2 := ⟨_, rfl⟩
        have HI2 := hide (HI.out.next (hw2 ▸ balloc (Below.refl _ _) _))
        have hsrc : Src w2 (some ⟨wr.heap.size, 0, none⟩) 1 1 [.string s] := hw2 ▸ Src.lit rfl 1 rfl
        have HSr := hide hsrc
        have Hlt := hide hlt
        clear hsrc
        go_wp2_with (at_builtin; refine Stop.out ?_)
        try rw [hw2]
        clear hw2
        obtain ⟨l, hown⟩ := HI2.out.own
        have HO := hide hown
        refine Stop.go ?_
        refine wpList_app _ rfl (.tmp 82) (.tmp 89) 23 rfl (w.heap.size + 1) 9 i0 _ 1 16 Tryz.underlying23 hi0 hz0 hz1 hz2 rfl (by omega) _ i _ rfl HO.out (some ⟨wr.heap.size, 0, none⟩) 1 1 [.string s] rfl HSr.out (by simp [Value.oneCell']) (by have := Hlt.out; have := Hl.out; unfold maxLen; omega) (by have := Hlt.out; have := Hl.out; omega) (by have := HI2.out.box.lt; omega) ?_
        intro v3 w3 hown3 hg3
        have HI3 : Hid (NaI w N w.heap.size v3 (i + 1) w3) := hide (HI2.out.app HO.out hown3 hg3)
        have hi60 : i ≤ 60 := by have := Hlt.out; have := Hl.out; omega
        clear hown hown3 hg3 hi0 hz0 hz1 hz2
        go_wp2_with fail
        go_roundw
        case rel => exact ⟨i + 1, Hlt.out, by go_num, HI3⟩
        case measure => have := Hlt.out; simp [intOf]; omega
      · have q2 : ¬ ((i : Int) < (N.lins.length : Int)) := by omega
        obtain ⟨l, hown⟩ := HI.out.own
        obtain ⟨p, n, c, hv, hr, hn⟩ := str_row hown
        subst hv; subst hn
        have HF := hide (HR.out wr p n c hr (by have := Hl.out; omega) HI.out.below)
        clear hown hr
        go_wp2
        exact HF.out
  · go_enter Tryz.func165, Tryz.ntmps165
    go_wp2
    clear hw1 y0 y1 y2 y3 y4 y5
    go_loopw [5, 10] (fun rv sv wq => ∃ (i : Nat), i ≤ N.clss.length ∧ sv = .int .i64 (i : Int) ∧ Hid (NaI w N w.heap.size rv i wq)) (fun _ sv _ => N.clss.length - (intOf sv).toNat)
    case atStart => exact ⟨0, by omega, rfl, HI⟩
    case round =>
      clear HI
      obtain ⟨i, hi, rfl, HI⟩ := hrel
      obtain ⟨y0, y1, y2, y3, y4, y5⟩ := HI.out.box.net6
      by_cases hlt : i < N.clss.length
      · have q1 : (0 : Int) ≤ (i : Int) := by omega
        have q2 : (i : Int) < (N.clss.length : Int) := by omega
        have h9 := HN.out.clss.keep (Keeps.of_below HI.out.below)
        obtain ⟨b, bo, x, hp, hs, hcell⟩ := h9.at_ hlt
        obtain ⟨s, hse⟩ : ∃ s, x.name = s := ⟨_, rfl⟩
        have m0 : wr.cell? ⟨b, bo + i * 3, none⟩ = some (.string s) := by rw [← hse]; exact hcell 0 _ rfl
        clear hcell hse
        rw [hp] at y5
        clear h9 hp hs
        obtain ⟨i0, hi0, hz0, hz1, hz2⟩ := info_parts infoStr
        obtain ⟨w2, hw2⟩ : ∃ w2, wr.alloc (.cells #[.string s] 9) = w2 := ⟨_, rfl⟩
        have HI2 := hide (HI.out.next (hw2 ▸ balloc (Below.refl _ _) _))
        have hsrc : Src w2 (some ⟨wr.heap.size, 0, none⟩) 1 1 [.string s] := hw2 ▸ Src.lit rfl 1 rfl
        have HSr := hide hsrc
        have Hlt := hide hlt
        clear hsrc
        go_wp2_with (at_builtin; refine Stop.out ?_)
        try rw [hw2]
        clear hw2
        obtain ⟨l, hown⟩ := HI2.out.own
        have HO := hide hown
        refine Stop.go ?_
        refine wpList_app _ rfl (.tmp 100) (.tmp 107) 23 rfl (w.heap.size + 1) 9 i0 _ 1 16 Tryz.underlying23 hi0 hz0 hz1 hz2 rfl (by omega) _ i _ rfl HO.out (some ⟨wr.heap.size, 0, none⟩) 1 1 [.string s] rfl HSr.out (by simp [Value.oneCell']) (by have := Hlt.out; have := Hl.out; unfold maxLen; omega) (by have := Hlt.out; have := Hl.out; omega) (by have := HI2.out.box.lt; omega) ?_
        intro v3 w3 hown3 hg3
        have HI3 : Hid (NaI w N w.heap.size v3 (i + 1) w3) := hide (HI2.out.app HO.out hown3 hg3)
        have hi60 : i ≤ 60 := by have := Hlt.out; have := Hl.out; omega
        clear hown hown3 hg3 hi0 hz0 hz1 hz2
        go_wp2_with fail
        go_roundw
        case rel => exact ⟨i + 1, Hlt.out, by go_num, HI3⟩
        case measure => have := Hlt.out; simp [intOf]; omega
      · have q2 : ¬ ((i : Int) < (N.clss.length : Int)) := by omega
        obtain ⟨l, hown⟩ := HI.out.own
        obtain ⟨p, n, c, hv, hr, hn⟩ := str_row hown
        subst hv; subst hn
        have HF := hide (HR.out wr p n c hr (by have := Hl.out; omega) HI.out.below)
        clear hown hr
        go_wp2
        exact HF.out
end Go.Proofs.YtgfhcmidnbahjaaGreatDoor
