import Derived.Test.YtajnoocjjkjfmaaM2
import Derived.Test.YtajnoocjjkjfmaaW1
import Derived.Shelf.Abstract
import Derived.OwnWalkIn
import Derived.TacticsInMore
import Derived.LoopNIn
import Derived.LoopIn
import Derived.Sort.QuietIn
set_option linter.unusedVariables false
set_option linter.unusedSimpArgs false
namespace Go.Proofs.Ytajnoocjjkjfmaa
open Go.RowKit Go.Shelf
attribute [local go_sem] Oper.semAt_some

theorem own_heap {w w' : World} {base e size g n cap : Nat} {xs : List Value} (h : w.ownsRow base e size (.slice (some ⟨g, 0, none⟩) n cap) n xs) (hg : w'.heap[g]? = w.heap[g]?) : w'.ownsRow base e size (.slice (some ⟨g, 0, none⟩) n cap) n xs := by
  refine ⟨h.1, ?_⟩
  rcases h.2 with ⟨hv, _⟩ | ⟨g', cap', cur, hv, hb, hh, rest⟩
  · cases hv
  · cases hv
    exact .inr ⟨g, cap, cur, rfl, hb, hg.trans hh, rest⟩
theorem cell_heap {w w' : World} {g : Nat} {i : Nat} {v : Value} (h : w.cell? ⟨g, i, none⟩ = some v) (hg : w'.heap[g]? = w.heap[g]?) : w'.cell? ⟨g, i, none⟩ = some v := by
  unfold World.cell? at *
  simp only at *
  rw [hg]; exact h

theorem cell_set_other {w : World} {B1 B2 gd : Nat} {v1 v2 : Value} (c1 : w.cell? ⟨B1, 0, none⟩ = some v1) (c2 : w.cell? ⟨B2, 0, none⟩ = some v2) (i j : Nat) (x y am : Int) (h1 : B1 ≠ gd) (h2 : B2 ≠ gd) :
    ((w.setCell ⟨gd, i, none⟩ (.int .i64 (x + am))).setCell ⟨gd, j, none⟩ (.int .i64 (y - am))).cell? ⟨B1, 0, none⟩ = some v1 ∧ ((w.setCell ⟨gd, i, none⟩ (.int .i64 (x + am))).setCell ⟨gd, j, none⟩ (.int .i64 (y - am))).cell? ⟨B2, 0, none⟩ = some v2 := by
  have hg : w.grownBy ((w.setCell ⟨gd, i, none⟩ (.int .i64 (x + am))).setCell ⟨gd, j, none⟩ (.int .i64 (y - am))) (some gd) := grownBy_set (grownBy_set (World.grownBy.refl w (some gd)) i _) j _
  exact ⟨hg.cell c1 (by simp; exact h1), hg.cell c2 (by simp; exact h2)⟩

open Classical in
/-- How many cells of a block hold a number other than 0. -/
noncomputable def nzW (g n : Nat) (w : World) : Nat := if h : ∃ d : List Int, d.length = n ∧ ∀ i, i < n → w.cell? ⟨g, i, none⟩ = some (.int .i64 (d.getD i 0)) then nz (Classical.choose h) else 0
theorem nzW_eq {g n : Nat} {w : World} {d : List Int} (hl : d.length = n) (h : ∀ i, i < n → w.cell? ⟨g, i, none⟩ = some (.int .i64 (d.getD i 0))) : nzW g n w = nz d := by
  have hex : ∃ d : List Int, d.length = n ∧ ∀ i, i < n → w.cell? ⟨g, i, none⟩ = some (.int .i64 (d.getD i 0)) := ⟨d, hl, h⟩
  unfold nzW
  rw [dif_pos hex]
  obtain ⟨e1, e2⟩ := Classical.choose_spec hex
  have : Classical.choose hex = d := by
    apply List.ext_getElem?
    intro i
    rcases Nat.lt_or_ge i n with hi | hi
    · have h1 := (e2 i hi).symm.trans (h i hi)
      injection h1 with h1
      injection h1 with _ h1
      rw [List.getElem?_eq_getElem (by omega), List.getElem?_eq_getElem (by omega)]
      rw [List.getD_eq_getElem?_getD, List.getD_eq_getElem?_getD, List.getElem?_eq_getElem (by omega), List.getElem?_eq_getElem (by omega)] at h1
      simpa using h1
    · rw [List.getElem?_eq_none (by omega), List.getElem?_eq_none (by omega)]
  rw [this]

def encE (e : Ent) : Array Value := #[entAgg e]

set_option maxRecDepth 100000 in
set_option maxHeartbeats 2000000 in
theorem settle_in (dp : Nat) (hd : 1 ≤ dp) (l B1 B2 gd n cap base : Nat) (ref : ByteArray) (d : List Int) (hn : d.length = n) (hn1 : n ≤ 100) (hbd : ∀ t, -2000000000 ≤ d.getD t 0 ∧ d.getD t 0 ≤ 2000000000) (hne1 : B1 ≠ gd) (hne2 : B2 ≠ gd) (J Jx : List Ent → World → Prop)
    (hJ : ∀ s A B, J s A → A.grownBy B (some gd) → J s B)
    (hY : ∀ pre x W, J pre W → pre.length < 200 → YieldAt Fence.wide (dp - 1) Try.prog l (encE x) W fun e W' =>
      (e = .returned (.bool true) ∧ J (pre ++ [x]) W' ∧ KpK (fun k => k = gd ∨ k = B1 ∨ k = B2) W W') ∨ (e = .returned (.bool false) ∧ Jx (pre ++ [x]) W'))
    (W : World) (hown : W.ownsRow base 3 1 (.slice (some ⟨gd, 0, none⟩) n cap) n (d.map (Value.int .i64))) (c1 : W.cell? ⟨B1, 0, none⟩ = some (.slice (some ⟨gd, 0, none⟩) n cap)) (c2 : W.cell? ⟨B2, 0, none⟩ = some (.string ref)) (h0 : J [] W) :
    CallsIn Fence.wide dp Try.prog 36 #[.func (.yield l) #[] #[], .pointer (some ⟨B1, 0, none⟩), .pointer (some ⟨B2, 0, none⟩)] W fun e W' => (∃ v, e = .returned v) ∧
      ((∃ ys, ys = settleL ref d ∧ J ys W') ∨ (∃ pre, (∃ k, pre = (settleL ref d).take k) ∧ Jx pre W')) := by
  have HY := hide hY; have HJ := hide hJ
  have Hown := hide hown
  have Hlen : Hid ((settleL ref d).length ≤ 100) := by
    have : ∀ k d, (settle ref k d).length ≤ k := by
      intro k
      induction k with
      | zero => intro d; simp [settle]
      | succ k ih => intro d; simp only [settle]; split; simp; simp; exact ih _
    have h1 := this (nz d) d
    have h2 := nz_le d
    unfold settleL
    exact hide (by omega)
  clear hY hJ hown
  refine callsIn_of_wp Try.func36 rfl trivial ?_ rfl
  simp only [Try.ntmps36, List.size_toArray, List.length_cons, List.length_nil, Nat.reduceAdd, Nat.reduceSub, Array.replicate_succ, Array.replicate_zero, List.push_toArray, List.append_toArray, List.nil_append, List.cons_append]
  gi_wp2
  gi_loopw [4, 5] (fun si sj wr => ∃ (i j : Nat) (pre : List Ent) (cur : List Int), si = .int .i64 i ∧ sj = .int .i64 j ∧ i ≤ n ∧ j ≤ n ∧
      Hid (cur.length = n ∧ i ≤ negI cur ∧ j ≤ posI cur ∧ settleL ref d = pre ++ settleL ref cur ∧ ∀ t, -2000000000 ≤ cur.getD t 0 ∧ cur.getD t 0 ≤ 2000000000) ∧
      Hid (wr.ownsRow base 3 1 (.slice (some ⟨gd, 0, none⟩) n cap) n (cur.map (Value.int .i64))) ∧ wr.cell? ⟨B1, 0, none⟩ = some (.slice (some ⟨gd, 0, none⟩) n cap) ∧ wr.cell? ⟨B2, 0, none⟩ = some (.string ref) ∧ Hid (J pre wr))
    (fun _ _ wr => nzW gd n wr)
  case atStart => exact ⟨0, 0, [], d, rfl, rfl, Nat.zero_le _, Nat.zero_le _, hide ⟨hn, Nat.zero_le _, Nat.zero_le _, rfl, hbd⟩, Hown, c1, c2, hide h0⟩
  case round =>
    clear c1 c2 h0 Hown
    obtain ⟨i, j, pre, cur, rfl, rfl, hin, hjn, hp, HO, c1, c2, HJs⟩ := hrel
    gi_wp2
    gi_loop [4] (fun si => ∃ i : Nat, si = .int .i64 i ∧ i ≤ negI cur) (fun si => n - (intOf si).toNat)
    case atStart => exact ⟨i, rfl, hp.out.2.1⟩
    case round =>
      obtain ⟨i2, rfl, hi2⟩ := hrel
      have hcl := hp.out.1
      have hnl := negI_le cur
      have hpl := posI_le cur
      by_cases hA : i2 < negI cur
      · have hx := negI_before cur hA
        have hc := owni_cell HO.out (i := i2) (by omega)
        generalize cur.getD i2 0 = x at *
        have hi3 : i2 < n := by omega
        clear hcl hnl hpl
        gi_wp2
        go_round
        case rel => exact ⟨i2 + 1, by go_num, by omega⟩
        case measure => simp [intOf]; omega
      · have hi3 : i2 = negI cur := by omega
        have Hi3 := hide hi3
        have hex : (i2 = n ∧ Hid (halt cur = true)) ∨ (i2 < n ∧ ∃ x, x < 0 ∧ Hid (cur.getD i2 0 = x) ∧ wr.cell? ⟨gd, i2, none⟩ = some (.int .i64 x)) := by
          rcases Nat.lt_or_ge i2 n with h | h
          · exact .inr ⟨h, _, by rw [hi3]; exact negI_at cur (by omega), hide rfl, owni_cell HO.out h⟩
          · exact .inl ⟨by omega, hide (by unfold halt; rw [decide_eq_true (show negI cur = cur.length by omega)]; rfl)⟩
        clear hA hi2 hi3
        have Hcl := hide hcl
        rcases hex with ⟨hin2, hh⟩ | ⟨hin2, x, hx, hxe, hcx⟩
        · have hnlt : ¬ (i2 : Int) < (n : Int) := by omega
          have hieq : ((i2 : Int) == (n : Int)) = true := by simp; omega
          have Hin2 := hide hin2
          clear hcl hnl hpl hin2
          gi_wp2
          gi_loop [5] (fun sj => ∃ j : Nat, sj = .int .i64 j ∧ j ≤ posI cur) (fun sj => n - (intOf sj).toNat)
          case atStart => exact ⟨j, rfl, hp.out.2.2.1⟩
          case round =>
            obtain ⟨j2, rfl, hj2⟩ := hrel
            have hpl := posI_le cur
            have hcl := Hcl.out
            by_cases hA : j2 < posI cur
            · have hy := posI_before cur hA
              have hc := owni_cell HO.out (i := j2) (by omega)
              generalize cur.getD j2 0 = y at *
              have hj3 : j2 < n := by omega
              clear hcl hpl
              gi_wp2
              go_round
              case rel => exact ⟨j2 + 1, by go_num, by omega⟩
              case measure => simp [intOf]; omega
            · have Hset := hide (show settleL ref d = pre by rw [hp.out.2.2.2.1, settleL_halt hh.out, List.append_nil])
              rcases Nat.lt_or_ge j2 n with h | h
              · have hy := posI_at cur (by omega)
                have hj3 : posI cur = j2 := by omega
                rw [hj3] at hy
                have hc := owni_cell HO.out (i := j2) h
                generalize cur.getD j2 0 = y at *
                clear hcl hpl hj3 hA
                gi_wp2
                refine bodyPost_ret (results_none rfl _ _ _) rfl ?_
                exact ⟨⟨_, rfl⟩, .inl (by rw [Hset.out]; exact HJs.out)⟩
              · have hj4 : ¬ (j2 : Int) < (n : Int) := by omega
                clear hcl hpl hA h
                gi_wp2
                refine bodyPost_ret (results_none rfl _ _ _) rfl ?_
                exact ⟨⟨_, rfl⟩, .inl (by rw [Hset.out]; exact HJs.out)⟩
        · have hxb := hp.out.2.2.2.2 i2
          rw [hxe.out] at hxb
          have hcl2 := hcl
          have hineq : ((i2 : Int) == (n : Int)) = false := by simp; omega
          clear hcl hnl hpl
          gi_wp2
          gi_loop [5] (fun sj => ∃ j : Nat, sj = .int .i64 j ∧ j ≤ posI cur) (fun sj => n - (intOf sj).toNat)
          case atStart => exact ⟨j, rfl, hp.out.2.2.1⟩
          case round =>
            obtain ⟨j2, rfl, hj2⟩ := hrel
            have hpl := posI_le cur
            have hcl := Hcl.out
            by_cases hA : j2 < posI cur
            · have hy := posI_before cur hA
              have hc := owni_cell HO.out (i := j2) (by omega)
              generalize cur.getD j2 0 = y at *
              have hj3 : j2 < n := by omega
              clear hcl hpl
              gi_wp2
              go_round
              case rel => exact ⟨j2 + 1, by go_num, by omega⟩
              case measure => simp [intOf]; omega
            · rcases Nat.lt_or_ge j2 n with h | h
              · have hj3 : posI cur = j2 := by omega
                have Hj3 := hide hj3
                have hh : halt cur = false := by
                  unfold halt
                  rw [decide_eq_false (show ¬ negI cur = cur.length by have := Hi3.out; omega), decide_eq_false (show ¬ posI cur = cur.length by omega)]; rfl
                have hy := posI_at cur (by omega)
                rw [hj3] at hy
                have hcy := owni_cell HO.out (i := j2) h
                have hyb := hp.out.2.2.2.2 j2
                generalize hye : cur.getD j2 0 = y at *
                have Hye := hide hye
                have hij : i2 ≠ j2 := by
                  have := (halt_false hh).2.2.1
                  have := Hi3.out
                  omega
                have Hh := hide hh
                have hjneq : ((j2 : Int) == (n : Int)) = false := by simp; omega
                have hij1 : ¬ i2 = j2 := hij
                have hij2 : ¬ j2 = i2 := fun h => hij h.symm
                have hfz1 := HO.out.frozenAt i2
                have hfz2 := HO.out.frozenAt j2
                obtain ⟨am, ham⟩ : ∃ am, am = min (-x) y := ⟨_, rfl⟩
                have hamb : 0 < am ∧ am ≤ -x ∧ am ≤ y := by omega
                have Ham := hide ham
                clear hcl hpl hj3 hA hye hij hcl2 hh ham
                gi_wp2
                gi_quiet (fail)
                rw [← Ham.out]
                have HO2 := hide (show (wr.drewN nq).ownsRow base 3 1 (.slice (some ⟨gd, 0, none⟩) n cap) n (cur.map (Value.int .i64)) from HO.out)
                have HJ2 := hide (HJ.out pre wr (wr.drewN nq) HJs.out ⟨rfl, rfl, rfl, Nat.le_refl _, fun _ _ _ => rfl⟩)
                have hcx' : (wr.drewN nq).cell? ⟨gd, i2, none⟩ = some (.int .i64 x) := hcx
                have hcy' : (wr.drewN nq).cell? ⟨gd, j2, none⟩ = some (.int .i64 y) := hcy
                have c1' : (wr.drewN nq).cell? ⟨B1, 0, none⟩ = some (.slice (some ⟨gd, 0, none⟩) n cap) := c1
                have c2' : (wr.drewN nq).cell? ⟨B2, 0, none⟩ = some (.string ref) := c2
                have hnzw := hide (nzW_eq (g := gd) (n := n) (w := wr) hp.out.1 (fun t ht => owni_cell HO.out ht))
                have hfz1' : (wr.drewN nq).frozen? ⟨gd, i2, none⟩ = false := hfz1
                have hfz2' : (wr.drewN nq).frozen? ⟨gd, j2, none⟩ = false := hfz2
                clear hcx hcy c1 c2 hfz1 hfz2 HO HJs
                generalize wr.drewN nq = wq at *
                have e1 : Hid (amt cur = am) := hide (by unfold amt; rw [← Hi3.out, Hj3.out, hxe.out, Hye.out]; exact Ham.out.symm)
                have e2 : Hid (nextE ref cur = ⟨(i2 : Int), (j2 : Int), am, ref⟩) := hide (by unfold nextE; rw [e1.out, ← Hi3.out, Hj3.out])
                have e3 : Hid (nxt cur = (cur.set i2 (x + am)).set j2 (y - am)) := hide (by unfold nxt; rw [e1.out, ← Hi3.out, Hj3.out, hxe.out, Hye.out])
                have HJ3 : Hid (J pre ((wq.setCell ⟨gd, i2, none⟩ (.int .i64 (x + am))).setCell ⟨gd, j2, none⟩ (.int .i64 (y - am)))) := hide (HJ.out pre wq _ HJ2.out (grownBy_set (grownBy_set (World.grownBy.refl wq (some gd)) i2 _) j2 _))
                have HO3 : Hid (((wq.setCell ⟨gd, i2, none⟩ (.int .i64 (x + am))).setCell ⟨gd, j2, none⟩ (.int .i64 (y - am))).ownsRow base 3 1 (.slice (some ⟨gd, 0, none⟩) n cap) n ((nxt cur).map (Value.int .i64))) := hide (by
                  rw [e3.out]; exact owni_set (owni_set HO2.out i2 (x + am)) j2 (y - am))
                have hset : settleL ref d = pre ++ nextE ref cur :: settleL ref (nxt cur) := by rw [hp.out.2.2.2.1, settleL_step Hh.out]
                have hplen : pre.length < 200 := by
                  have h1 := Hlen.out
                  rw [hset, List.length_append, List.length_cons] at h1
                  omega
                obtain ⟨fn, tmps, assign, body, hy', hR⟩ := HY.out pre ⟨(i2 : Int), (j2 : Int), am, ref⟩ _ HJ3.out hplen
                dsimp only [encE, entAgg] at hy'
                have Hset := hide hset
                clear hset
                gi_wp2
                refine hR.mono ?_
                rintro e W3 (⟨rfl, hJ3, hk3⟩ | ⟨rfl, hJx3⟩)
                · have d1 := cell_heap (cell_set_other c1' c2' i2 j2 x y am hne1 hne2).1 (hk3 B1 (.inr (.inl rfl)))
                  have d2 := cell_heap (cell_set_other c1' c2' i2 j2 x y am hne1 hne2).2 (hk3 B2 (.inr (.inr rfl)))
                  have HO4 := hide (own_heap HO3.out (hk3 gd (.inl rfl)))
                  have HJ4 := hide hJ3
                  clear hJ3 hk3 hR hy' c1' c2' hcx' hcy' hfz1' hfz2'
                  gi_wp2
                  go_roundw
                  case rel =>
                    have hs := Hset.out
                    rw [e2.out] at hs
                    exact ⟨i2, j2, pre ++ [⟨(i2 : Int), (j2 : Int), am, ref⟩], nxt cur, rfl, rfl, by omega, by omega,
                      hide ⟨by rw [nxt_len]; exact hp.out.1, by rw [Hi3.out]; exact nxt_neg Hh.out, by rw [← Hj3.out]; exact nxt_pos Hh.out, by rw [hs]; simp, bd_nxt Hh.out hp.out.2.2.2.2⟩, HO4, d1, d2, HJ4⟩
                  case measure =>
                    have m1 := nzW_eq (g := gd) (n := n) (w := W3) (d := nxt cur) (by rw [nxt_len]; exact hp.out.1) (fun t ht => owni_cell HO4.out ht)
                    rw [m1, hnzw.out]
                    exact nxt_nz Hh.out
                · gi_wp2
                  refine bodyPost_ret (results_none rfl _ _ _) rfl ?_
                  refine ⟨⟨_, rfl⟩, .inr ⟨pre ++ [⟨(i2 : Int), (j2 : Int), am, ref⟩], ⟨pre.length + 1, ?_⟩, hJx3⟩⟩
                  have hs := Hset.out
                  rw [e2.out] at hs
                  rw [hs, List.take_append]
                  simp
                  exact (List.take_of_length_le (by omega)).symm
              · have hj4 : ¬ (j2 : Int) < (n : Int) := by omega
                have hj5 : ((j2 : Int) == (n : Int)) = true := by simp; omega
                have Hset := hide (show settleL ref d = pre by
                  rw [hp.out.2.2.2.1, settleL_halt (by unfold halt; rw [decide_eq_true (show posI cur = cur.length by omega)]; simp), List.append_nil])
                clear hcl hpl hA h hcl2
                gi_wp2
                refine bodyPost_ret (results_none rfl _ _ _) rfl ?_
                exact ⟨⟨_, rfl⟩, .inl (by rw [Hset.out]; exact HJs.out)⟩
theorem settle_seq (dp : Nat) (hd : 1 ≤ dp) (B1 B2 gd n cap base : Nat) (ref : ByteArray) (d : List Int) (hn : d.length = n) (hn1 : n ≤ 100) (hbd : ∀ t, -2000000000 ≤ d.getD t 0 ∧ d.getD t 0 ≤ 2000000000) (hne1 : B1 ≠ gd) (hne2 : B2 ≠ gd)
    (w : World) (hown : w.ownsRow base 3 1 (.slice (some ⟨gd, 0, none⟩) n cap) n (d.map (Value.int .i64))) (c1 : w.cell? ⟨B1, 0, none⟩ = some (.slice (some ⟨gd, 0, none⟩) n cap)) (c2 : w.cell? ⟨B2, 0, none⟩ = some (.string ref)) :
    SeqT Fence.wide dp Try.prog 36 #[.pointer (some ⟨B1, 0, none⟩), .pointer (some ⟨B2, 0, none⟩)] encE gd (fun k => k = gd ∨ k = B1 ∨ k = B2) (fun ys => ys = settleL ref d) (fun pre => ∃ k, pre = (settleL ref d).take k) 200 w :=
  fun l J Jx W hW hJ hJx hY h0 => by
    have hl1 := block_lt c1
    have hl2 := block_lt c2
    exact settle_in dp hd l B1 B2 gd n cap base ref d hn hn1 hbd hne1 hne2 J Jx hJ hY W (own_heap hown (hW.block gd (hown.lt gd rfl).2)) (cell_heap c1 (hW.block B1 hl1)) (cell_heap c2 (hW.block B2 hl2)) h0
end Go.Proofs.Ytajnoocjjkjfmaa
