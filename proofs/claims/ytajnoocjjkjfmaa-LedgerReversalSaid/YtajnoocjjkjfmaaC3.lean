import Derived.Test.YtajnoocjjkjfmaaM1
import Derived.OwnWalk
set_option linter.unusedVariables false
set_option linter.unusedSimpArgs false
namespace Go.Proofs.Ytajnoocjjkjfmaa
open Go.RowKit Go.Sort

theorem all_in {l : List Int} {lo hi : Int} (h : l.all (fun s => inB s lo hi) = true) : ∀ x ∈ l, lo ≤ x ∧ x ≤ hi := fun x hx => inB_true (List.all_eq_true.1 h x hx)
theorem sum_in {l : List Int} {hi : Int} (h : ∀ x ∈ l, 0 ≤ x ∧ x ≤ hi) : 0 ≤ l.sum ∧ l.sum ≤ hi * (l.length : Int) := by
  induction l with
  | nil => simp
  | cons x l ih =>
    have h1 := h x (by simp)
    have h2 := ih (fun y hy => h y (by simp [hy]))
    rw [List.sum_cons, List.length_cons, Int.natCast_add, Int.mul_add]
    simp
    omega
theorem grownBy_some {w w' : World} (h : w.grownBy w' none) (r : Option Nat) : w.grownBy w' r := ⟨h.os, h.tape, h.output, h.size, fun k hk _ => h.block k hk (by simp)⟩
theorem zeros_int (n : Nat) (f : Nat → Int) : (madeCells (Value.int .i64 0).cells (n * 1)).toList = ((List.range n).map fun i => if i < 0 then f i else 0).map (Value.int .i64) := by
  apply List.ext_getElem?
  intro i
  simp only [madeCells, Value.cells, Array.toList_map, Array.toList_range, List.getElem?_map, Nat.mul_one]
  rcases Nat.lt_or_ge i n with h | h
  · rw [List.getElem?_range h]; simp [Nat.mod_one]
  · rw [List.getElem?_eq_none (by simpa using h)]; rfl
theorem zeros_rem (n : Nat) (f : Nat → Rem) : (madeCells (Value.agg #[.int .i64 0, .int .i64 0]).cells (n * 2)).toList = ((List.range n).map fun i => if i < 0 then f i else (0, 0)).flatMap remCells := by
  have e : ((List.range n).map fun i => if i < 0 then f i else (0, 0)) = (List.range n).map fun _ => ((0, 0) : Rem) := by
    apply List.map_congr_left; intro i _; rw [if_neg (by omega)]
  rw [e]
  apply List.ext_getElem?
  intro i
  simp only [madeCells, Value.cells, Array.toList_map, Array.toList_range, List.getElem?_map]
  rcases Nat.lt_or_ge i (n * 2) with h | h
  · have h1 : ((List.range n).map fun _ => ((0, 0) : Rem))[i / 2]? = some (0, 0) := by rw [List.getElem?_map, List.getElem?_range (by omega)]; rfl
    have := flat_at (enc := remCells) (k := 2) (fun _ => rfl) _ (i / 2) (i % 2) (0, 0) h1 (Nat.mod_lt _ (by omega))
    rw [show i / 2 * 2 + i % 2 = i by omega] at this
    rw [List.getElem?_range h, this]
    rcases Nat.mod_two_eq_zero_or_one i with h2 | h2
    · simp [h2, remCells, Rem.c0]
    · simp [h2, remCells, Rem.c1]
  · rw [List.getElem?_eq_none (by simpa using h), List.getElem?_eq_none (by rw [flat_len (k := 2) (fun _ => rfl)]; simpa using h)]; rfl

theorem own_other {w : World} {base e size g n cap : Nat} {xs : List Value} (h : w.ownsRow base e size (.slice (some ⟨g, 0, none⟩) n cap) n xs) (g' i : Nat) (v : Value) (hne : g ≠ g') : (w.setCell ⟨g', i, none⟩ v).ownsRow base e size (.slice (some ⟨g, 0, none⟩) n cap) n xs :=
  h.kept (grownBy_set (World.grownBy.refl w (some g')) i v) (.inr (by simp [Value.ownBlock]; exact hne))
theorem below_set {w w1 : World} (h : Below w.heap.size w w1) (g i : Nat) (v : Value) (hg : w.heap.size ≤ g) : Below w.heap.size w (w1.setCell ⟨g, i, none⟩ v) := h.setCell (p := ⟨g, i, none⟩) hg v
def partsK (a : Int) (l : List Int) (k : Nat) : List Int := (List.range l.length).map fun i => if i < k then flo a l i else 0
def remsK (a : Int) (l : List Int) (k : Nat) : List Rem := (List.range l.length).map fun i => if i < k then (i, rmd a l i) else (0, 0)
theorem partsK_set (a : Int) (l : List Int) (k : Nat) : (partsK a l k).set k (flo a l k) = partsK a l (k + 1) := by
  unfold partsK
  refine set_range _ _ _ _ _ fun i hi => ?_
  by_cases h : k = i
  · subst h; simp
  · by_cases h2 : i < k
    · rw [if_pos (by omega), if_neg h, if_pos h2]
    · rw [if_neg (by omega), if_neg h, if_neg h2]
theorem remsK_set (a : Int) (l : List Int) (k : Nat) : (remsK a l k).set k (k, rmd a l k) = remsK a l (k + 1) := by
  unfold remsK
  apply List.ext_getElem?
  intro i
  rw [List.getElem?_set]
  rcases Nat.lt_or_ge i l.length with hi | hi
  · simp only [List.getElem?_map, List.getElem?_range hi, List.length_map, List.length_range, Option.map_some]
    by_cases h : k = i
    · subst h; simp [hi]
    · rw [if_neg h]
      by_cases h2 : i < k
      · rw [if_pos h2, if_pos (by omega)]
      · rw [if_neg h2, if_neg (by omega)]
  · have e1 : ∀ f : Nat → Rem, ((List.range l.length).map f)[i]? = none := fun f => List.getElem?_eq_none (by simpa using hi)
    rw [e1, e1]
    split
    · rename_i h; subst h; rw [if_neg (by simp; omega)]
    · rfl
theorem partsK_all (a : Int) (l : List Int) : partsK a l l.length = (List.range l.length).map (part a l 0) := by
  unfold partsK
  apply List.map_congr_left
  intro i hi
  unfold part
  rw [if_pos (by simpa using hi), if_neg (by omega)]; omega
theorem remsK_all (a : Int) (l : List Int) : remsK a l l.length = rems a l := by
  unfold remsK rems
  apply List.map_congr_left
  intro i hi
  rw [if_pos (by simpa using hi)]

set_option maxHeartbeats 2000000 in
set_option maxRecDepth 100000 in
theorem split_c (a : Int) (p : Option Addr) (n cap : Nat) (l : List Int) (w : World) (R) (hn : l.length = n) (hl : n ≤ maxLen) (h : IntsAt .i64 w p l)
    (hR : ∀ v w', Below w.heap.size w w' → w'.ownsRow w.heap.size 3 1 v (splitL a l).length ((splitL a l).map (Value.int .i64)) → R (.returned (.tuple #[v, .int .i64 (splitE a l)])) w') :
    Calls Try.prog 15 #[.int .i64 a, .slice p n cap] w R := by
  unfold maxLen at hl
  have Hn := hide hn; have H := hide h; have HR := hide hR
  clear hn h hR
  have Hbad := hide (fun (hb : splitOk a l = false) w' (B : Below w.heap.size w w') => (show R (.returned (.tuple #[.slice none 0 0, .int .i64 1])) w' by
    have := HR.out (.slice none 0 0) w' B (by unfold splitL; rw [hb]; exact World.ownsRow_nil ..)
    unfold splitE at this; rw [hb] at this; exact this))
  cases ha : inB a 0 1000000000 with
  | false =>
    have Ha := hide ha
    have hb := hide (Hbad.out (by unfold splitOk; rw [ha]; rfl) w (Below.refl _ _))
    clear ha
    go_enter Try.func15, Try.ntmps15
    go_wp2_with (go_at_call 24; refine within_c _ _ _ _ _ ?_; rw [Ha.out])
    exact hb.out
  | true =>
    have Ha := hide ha
    by_cases hn1 : n ≤ 100
    · have hab := inB_true ha
      clear ha
      go_enter Try.func15, Try.ntmps15
      go_wp2_with (go_at_call 24; refine within_c _ _ _ _ _ ?_; rw [Ha.out])
      go_loop [6, 27] (fun t i => ∃ k : Nat, k ≤ n ∧ i = .int .i64 k ∧ t = .int .i64 (l.take k).sum ∧ Hid ((l.take k).all (fun s => inB s 0 1000000) = true)) (fun _ i => n - (intOf i).toNat)
      case atStart => exact ⟨0, Nat.zero_le _, rfl, rfl, hide (by simp)⟩
      case round =>
        obtain ⟨k, hk, rfl, rfl, hal⟩ := hrel
        have hb := sum_in (all_in hal.out)
        have hlk : (l.take k).length ≤ k := List.length_take_le _ _
        generalize hsk : (l.take k).sum = sk at *
        have Hsk := hide hsk; clear hsk
        by_cases hlt : k < n
        · obtain ⟨b, o, x, rfl, hx, hc⟩ := H.out.at_ (i := k) (by rw [Hn.out]; exact hlt)
          have Hx := hide hx
          cases hxi : inB x 0 1000000 with
          | false =>
            have Hxi := hide hxi
            have hbb := hide (Hbad.out (by
              have : l.all (fun s => inB s 0 1000000) = false := all_false_of _ _ _ _ hx hxi
              unfold splitOk; rw [this]; simp) w (Below.refl _ _))
            clear hx hxi
            go_wp2_with (go_at_call 24; refine within_c _ _ _ _ _ ?_; rw [Hxi.out])
            exact hbb.out
          | true =>
            have Hxi := hide hxi
            have hxb := inB_true hxi
            clear hx hxi
            go_wp2_with (go_at_call 24; refine within_c _ _ _ _ _ ?_; rw [Hxi.out])
            go_round
            case rel => exact ⟨k + 1, by omega, by go_num, by rw [List.take_add_one, List.sum_append_int, Hx.out, Hsk.out]; simp, hide (by rw [all_take_succ _ _ _ _ Hx.out, hal.out, Hxi.out]; rfl)⟩
            case measure => simp [intOf]; omega
        · have hkn : l.take k = l := List.take_of_length_le (by rw [Hn.out]; omega)
          rw [hkn] at hal
          have HS := hide (show l.sum = sk by rw [← hkn]; exact Hsk.out)
          clear hkn Hsk
          by_cases h0 : sk = 0
          · have hbb := hide (Hbad.out (by unfold splitOk; rw [show decide (l.sum ≠ 0) = false by simp [HS.out, h0]]; simp) w (Below.refl _ _))
            subst h0
            go_wp2
            exact hbb.out
          · have hok : splitOk a l = true := by unfold splitOk; rw [Ha.out, hal.out, Hn.out, HS.out]; simp [h0, hn1]
            have hs0 : 0 < sk := by omega
            have hnp : 1 ≤ n := by
              rcases Nat.eq_zero_or_pos n with h | h
              · have : l = [] := List.eq_nil_of_length_eq_zero (by rw [Hn.out]; exact h)
                rw [this] at HS; have := HS.out; simp at this; omega
              · exact h
            have HRok := hide (fun v w' (B : Below w.heap.size w w') (O : w'.ownsRow w.heap.size 3 1 v n (((List.range l.length).map (part a l (lft a l))).map (Value.int .i64))) => (show R (.returned (.tuple #[v, .int .i64 0])) w' by
              have e1 : splitL a l = (List.range l.length).map (part a l (lft a l)) := if_pos hok
              have e2 : ((List.range l.length).map (part a l (lft a l))).length = n := by simp [Hn.out]
              have := HR.out v w' B (by rw [e1, e2]; exact O)
              unfold splitE at this; rw [hok] at this; exact this))
            have hall := hide (all_in hal.out)
            obtain ⟨j0, hj0, hjz0, hjz1, hjz2⟩ := info_parts Try.info3
            obtain ⟨i0, hi0, hz0, hz1, hz2⟩ := info_parts Try.info49
            have hsk0 : (sk == 0) = false := by simp; omega
            have hok2 := hok
            clear hok h0
            go_wp2_with (at_make; refine Stop.out ?_)
            refine Stop.go ?_
            refine wpList_make_full _ rfl (.tmp 41) (.tmp 41) 23 rfl w.heap.size 3 j0 (.int .i64 0) 1 Try.underlying23 hj0 hjz0 hjz1 .i64 .i64 n n n rfl rfl rfl rfl (by rw [hjz2]; omega) (by unfold maxLen; omega) (Nat.le_refl _) ?_
            intro w1 o1 g1
            have B1 := hide (show Below w.heap.size w w1 from (Below.refl _ _).grown g1 (Nat.le_refl _) (fun k e => by cases e))
            have O1 := hide o1
            have hgp := hide (o1.lt w.heap.size rfl)
            clear o1 g1
            go_wp2_with (at_make; refine Stop.out ?_)
            refine Stop.go ?_
            refine wpList_make_full _ rfl (.tmp 44) (.tmp 44) 47 rfl w.heap.size 49 i0 (.agg #[.int .i64 0, .int .i64 0]) 2 Try.underlying47 hi0 hz0 hz1 .i64 .i64 n n n rfl rfl rfl rfl (by rw [hz2]; omega) (by unfold maxLen; omega) B1.out.size ?_
            intro w2 o2 g2
            obtain ⟨gp, hgpe⟩ : ∃ gp, gp = w.heap.size := ⟨_, rfl⟩
            obtain ⟨gr, hgre⟩ : ∃ gr, gr = w1.heap.size := ⟨_, rfl⟩
            rw [← hgre] at o2 ⊢
            have hgg : gp < gr := by have := hgp.out.2; omega
            have hgr2 := o2.lt gr rfl
            have B2 := hide (show Below w.heap.size w w2 from B1.out.grown g2 B1.out.size (fun k e => by cases e))
            have O1' := hide (show w2.ownsRow w.heap.size 3 1 (.slice (some ⟨gp, 0, none⟩) n n) n ((partsK a l 0).map (Value.int .i64)) by
              have h1 := O1.out
              rw [zeros_int n (flo a l)] at h1
              rw [hgpe]; unfold partsK; rw [Hn.out]
              exact h1.kept (grownBy_some g2 none) (.inr (by simp [Value.ownBlock])))
            have O2' := hide (show w2.ownsRow w.heap.size 49 2 (.slice (some ⟨gr, 0, none⟩) n n) n ((remsK a l 0).flatMap remCells) by
              rw [zeros_rem n (fun i => (i, rmd a l i))] at o2
              unfold remsK; rw [Hn.out]; exact o2)
            have Hgp := hide hgpe
            clear o2 g2 O1 hgre hgpe hgp
            have Hok2 := hide hok2
            go_wp2_with fail
            rw [← Hgp.out]
            go_loopw [11, 49] (fun t i wr => ∃ k : Nat, k ≤ n ∧ i = .int .i64 k ∧ t = .int .i64 (a - ((List.range k).map (flo a l)).sum) ∧
                Hid (wr.ownsRow w.heap.size 3 1 (.slice (some ⟨gp, 0, none⟩) n n) n ((partsK a l k).map (Value.int .i64))) ∧ Hid (wr.ownsRow w.heap.size 49 2 (.slice (some ⟨gr, 0, none⟩) n n) n ((remsK a l k).flatMap remCells)) ∧ Hid (Below w.heap.size w wr)) (fun _ i _ => n - (intOf i).toNat)
            case atStart => exact ⟨0, Nat.zero_le _, rfl, by simp, O1', O2', B2⟩
            case round =>
              clear O1' O2' B2
              obtain ⟨k, hk, rfl, rfl, P1, P2, Hb⟩ := hrel
              have hflo : ∀ i, i < n → 0 ≤ flo a l i ∧ flo a l i ≤ 1000000000000000 := fun i hi => by
                obtain ⟨b, o, x, _, hx, _⟩ := H.out.at_ (i := i) (by rw [Hn.out]; exact hi)
                have hxb := hall.out x (List.mem_of_getElem? hx)
                unfold flo
                rw [getD_of hx, HS.out]
                have h1 : 0 ≤ a * x := Int.mul_nonneg hab.1 hxb.1
                have h2 : a * x ≤ 1000000000 * 1000000 := Int.mul_le_mul hab.2 hxb.2 hxb.1 (by omega)
                have h3 := Int.ediv_nonneg h1 (show 0 ≤ sk by omega)
                have h4 := Int.ediv_le_self sk h1
                omega
              have hsum : 0 ≤ ((List.range k).map (flo a l)).sum ∧ ((List.range k).map (flo a l)).sum ≤ 1000000000000000 * (k : Int) := by
                have h1 := sum_map_le (fun _ => 0) (flo a l) (List.range k) (fun i hi => (hflo i (by have h9 : i < k := (by simpa using hi); omega)).1)
                have h2 := sum_map_le (flo a l) (fun _ => 1000000000000000) (List.range k) (fun i hi => (hflo i (by have h9 : i < k := (by simpa using hi); omega)).2)
                rw [sum_const] at h1 h2
                simp at h1 h2
                omega
              have Hflo := hide hflo
              clear hflo
              generalize hSk : ((List.range k).map (flo a l)).sum = S at *
              have HSk := hide hSk; clear hSk
              by_cases hlt : k < n
              · obtain ⟨b, o, x, rfl, hx, hc⟩ := (H.out.keep (Keeps.of_below Hb.out)).at_ (i := k) (by rw [Hn.out]; exact hlt)
                have hbl : b < gp := by
                  obtain ⟨b', o', x', hq', _, hc⟩ := H.out.at_ (i := k) (by rw [Hn.out]; exact hlt)
                  cases hq'
                  have := block_lt hc
                  have := Hgp.out
                  simp at *
                  omega
                have hxb := hall.out x (List.mem_of_getElem? hx)
                have h1 : 0 ≤ a * x := Int.mul_nonneg hab.1 hxb.1
                have h2 : a * x ≤ 1000000000 * 1000000 := Int.mul_le_mul hab.2 hxb.2 hxb.1 (by omega)
                have Hf := hide (show flo a l k = a * x / sk by unfold flo; rw [getD_of hx, HS.out])
                have Hm := hide (show rmd a l k = a * x % sk by unfold rmd; rw [getD_of hx, HS.out])
                have hfb := Hflo.out k hlt
                rw [Hf.out] at hfb
                obtain ⟨y, hy, hcy⟩ := owni_at P1.out (i := k) hlt
                have hkr : (remsK a l k)[k]? = some (0, 0) := by unfold remsK; rw [List.getElem?_map, List.getElem?_range (by rw [Hn.out]; exact hlt)]; simp
                have e2 := flat_at (enc := remCells) (k := 2) (fun _ => rfl) _ k 0 _ hkr (by omega)
                have e3 := flat_at (enc := remCells) (k := 2) (fun _ => rfl) _ k 1 _ hkr (by omega)
                have hc2 := P2.out.cells (g := gr) rfl (k * 2) _ e2
                have hc3 := P2.out.cells (g := gr) rfl (k * 2 + 1) _ e3
                rw [Addr.add_lit] at hc2 hc3
                simp only [Nat.zero_add] at hc2 hc3
                have hz1' := P1.out.frozenAt k
                have hz2' := P2.out.frozenAt (k * 2)
                have hz3' := P2.out.frozenAt (k * 2 + 1)
                have Hx := hide hx
                have n1 : ¬ gp = gr := by omega
                have n2 : ¬ gr = gp := by omega
                have n3 : ¬ b = gp := by omega
                have n4 : ¬ b = gr := by omega
                have hfb0 := hfb.1
                have hfb1 := hfb.2
                clear hy e2 e3 hkr hx hfb
                go_wp2_with fail
                go_roundw
                case rel =>
                  refine ⟨k + 1, by omega, by go_num, ?_, hide ?_, hide ?_, hide ?_⟩
                  · rw [List.range_succ, List.map_append, List.sum_append_int, HSk.out]
                    simp only [List.map_cons, List.map_nil, List.sum_cons, List.sum_nil]
                    rw [Hf.out]
                    apply congrArg (Value.int .i64); omega
                  · have := owni_set P1.out k (flo a l k)
                    rw [partsK_set, Hf.out] at this
                    exact own_other (own_other this gr _ _ (by omega)) gr _ _ (by omega)
                  · have h9 := own_other P2.out gp k (.int .i64 (flo a l k)) (by omega)
                    rw [Hf.out] at h9
                    have h10 := own_setW (remCells (k, rmd a l k)) _ (k * 2) _ h9
                    rw [flat_set (enc := remCells) (k := 2) (fun _ => rfl) (remsK a l k) k (k, rmd a l k) (by unfold remsK; simp [Hn.out]; exact hlt), remsK_set] at h10
                    unfold remCells Rem.c0 Rem.c1 at h10
                    rw [Hm.out] at h10
                    exact h10
                  · have := Hgp.out
                    exact below_set (below_set (below_set Hb.out gp _ _ (by omega)) gr _ _ (by omega)) gr _ _ (by omega)
                case measure => simp [intOf]; omega
              · have hkn2 : k = n := by omega
                subst hkn2
                have hlb := lft_bd (a := a) (l := l) (by rw [HS.out]; omega)
                have hleft : a - S = lft a l := by unfold lft; rw [Hn.out, HSk.out]
                obtain ⟨L, hL⟩ : ∃ L : Nat, lft a l = L := ⟨(lft a l).toNat, by omega⟩
                have hLn : L ≤ k := by have := Hn.out; omega
                rw [hleft, hL]
                have P1' := hide (show wr.ownsRow w.heap.size 3 1 (.slice (some ⟨gp, 0, none⟩) k k) k (((List.range l.length).map (part a l 0)).map (Value.int .i64)) by rw [← partsK_all, Hn.out]; exact P1.out)
                have P2' := hide (show wr.ownsRow w.heap.size 49 2 (.slice (some ⟨gr, 0, none⟩) k k) k ((rems a l).flatMap remCells) by rw [← remsK_all, Hn.out]; exact P2.out)
                have HL := hide hL
                clear P1 P2 hL hleft hlb
                go_wp2_with (go_at_call 26; refine Stop.out ?_)
                refine Stop.go (sorted_c gr k k w.heap.size (rems a l) _ _ (by rw [rems_len]; exact Hn.out) ⟨hnp, by omega⟩ P2'.out (rems_pair a l) ?_)
                intro g3 cap3 w3 M pM sM b3 hg3 oM
                have hcap : k ≤ cap3 := by
                  rcases oM.2 with ⟨h, _⟩ | ⟨g, cap, cur, hv, _, _, hnc, _⟩
                  · cases h
                  · cases hv; exact hnc
                have hMl : M.length = k := by rw [pM.length_eq, rems_len]; exact Hn.out
                have HM := hide (And.intro pM (And.intro sM hMl))
                have OM := hide oM
                have hgp2 := (P1'.out.lt gp rfl).2
                have P3 := hide (show w3.ownsRow w.heap.size 3 1 (.slice (some ⟨gp, 0, none⟩) k k) k (((List.range l.length).map (part a l 0)).map (Value.int .i64)) from (by
                  obtain ⟨h1, h2⟩ := P1'.out
                  refine ⟨h1, ?_⟩
                  rcases h2 with h' | ⟨g, cap, cur, hv, hg, hh, rest⟩
                  · exact .inl h'
                  · exact .inr ⟨g, cap, cur, hv, hg, (b3.block g (Array.getElem?_eq_some_iff.1 hh).1).trans hh, rest⟩))
                have B3 := hide (bseq Hb.out b3)
                have hg3' : gp < g3 := by omega
                have hsl := fun (W : World) => run_slice_to (P := Try.prog) W 47 49 Try.underlying47 i0 hi0 (some ⟨g3, 0, none⟩) k cap3 L (by omega)
                clear pM sM oM b3 P1' P2' hMl Hb
                go_wp2_with fail
                clear hsl
                go_loopw [85] (fun i wr => ∃ t : Nat, t ≤ L ∧ i = .int .i64 t ∧ Hid (wr.ownsRow w.heap.size 3 1 (.slice (some ⟨gp, 0, none⟩) k k) k (((List.range l.length).map (part a l t)).map (Value.int .i64))) ∧ Hid (w3.grownBy wr (some gp))) (fun i _ => L - (intOf i).toNat)
                case atStart => exact ⟨0, Nat.zero_le _, rfl, P3, hide (World.grownBy.refl _ _)⟩
                case round =>
                  clear P3
                  obtain ⟨t, ht, rfl, P, G⟩ := hrel
                  by_cases hlt2 : t < L
                  · obtain ⟨y, hy⟩ : ∃ y, M[t]? = some y := ⟨_, List.getElem?_eq_getElem (show t < M.length by rw [HM.out.2.2]; omega)⟩
                    obtain ⟨hi1, hi2, hi3⟩ := part_set HM.out.1 HM.out.2.1 hy
                    have e2 := flat_at (enc := remCells) (k := 2) (fun _ => rfl) _ t 0 _ hy (by omega)
                    have e3 := flat_at (enc := remCells) (k := 2) (fun _ => rfl) _ t 1 _ hy (by omega)
                    have hc2 := OM.out.cells (g := g3) rfl (t * 2) _ e2
                    have hc3 := OM.out.cells (g := g3) rfl (t * 2 + 1) _ e3
                    rw [Addr.add_lit] at hc2 hc3
                    simp only [Nat.zero_add] at hc2 hc3
                    have hc2' : wr.cell? ⟨g3, t * 2, none⟩ = some (.int .i64 (y.1 : Int)) := G.out.cell hc2 (by simp; omega)
                    have hc3' : wr.cell? ⟨g3, t * 2 + 1, none⟩ = some (.int .i64 y.2) := G.out.cell hc3 (by simp; omega)
                    rw [Hn.out] at hi1
                    have hcp := owni_cell P.out (i := y.1) hi1
                    rw [getD_range _ _ _ (by rw [Hn.out]; exact hi1), hi2] at hcp
                    have hzf := P.out.frozenAt y.1
                    have hfb := Hflo.out y.1 hi1
                    have Hi3 := hide hi3
                    have hgw : gp < wr.heap.size := (P.out.lt gp rfl).2
                    have n1 : ¬ gp = wr.heap.size := by omega
                    have n2 : ¬ wr.heap.size = gp := by omega
                    have Py := hide (show Hid True from trivial)
                    clear hc2 hc3 e2 e3 hy hi2 hi3
                    obtain ⟨yi, yr⟩ := y
                    simp only at *
                    generalize hfl : flo a l yi = fl at *
                    have Hfl := hide hfl; clear hfl
                    go_wp2_with fail
                    go_roundw
                    case rel =>
                      refine ⟨t + 1, by omega, by go_num, hide ?_, hide ?_⟩
                      · have h9 := owni_set P.out yi (fl + 1)
                        have h10 := Hi3.out
                        rw [h10] at h9
                        rw [show ((t + 1 : Nat) : Int) = (t : Int) + 1 from rfl]
                        exact h9.alloc _
                      · exact (grownBy_set G.out yi _).trans (World.grownBy_alloc _ _ _)
                    case measure => simp [intOf]; try omega
                  · have htL : t = L := by omega
                    subst htL
                    have Pf := hide (show wr.ownsRow w.heap.size 3 1 (.slice (some ⟨gp, 0, none⟩) k k) k (((List.range l.length).map (part a l (lft a l))).map (Value.int .i64)) by rw [HL.out]; exact P.out)
                    have Bf := hide (B3.out.grown G.out B3.out.size (fun j e => by injection e with e; have := Hgp.out; omega))
                    go_wp2_with fail
                    exact HRok.out _ _ Bf.out Pf.out
    · have hbb := hide (Hbad.out (by unfold splitOk; rw [show decide (l.length ≤ 100) = false by simp [Hn.out]; omega]; simp) w (Below.refl _ _))
      have hn2 : 100 < n := by omega
      clear ha hn1
      go_enter Try.func15, Try.ntmps15
      go_wp2_with (go_at_call 24; refine within_c _ _ _ _ _ ?_; rw [Ha.out])
      exact hbb.out
end Go.Proofs.Ytajnoocjjkjfmaa
