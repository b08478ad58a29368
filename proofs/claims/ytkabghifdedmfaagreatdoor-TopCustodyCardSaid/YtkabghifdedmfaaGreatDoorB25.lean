/- Digests: the climb from a leaf. -/
import Derived.Test.YtkabghifdedmfaaGreatDoorB24
set_option linter.unusedVariables false
set_option linter.unusedSimpArgs false
namespace Go.Proofs.YtkabghifdedmfaaGreatDoor
open Go.RowKit

/-- The lists that were put together so far. -/
def LI (w0 : World) (b9 k : Nat) (W : World) : Prop := ∃ v xs, Blk W b9 #[v] 62 ∧ W.ownsRow (b9 + 1) 24 1 v k xs ∧ Below w0.heap.size w0 W ∧ w0.heap.size ≤ b9
theorem LI.next {w0 W W' : World} {b9 k : Nat} (h : LI w0 b9 k W) (hb : Below W.heap.size W W') : LI w0 b9 k W' := by
  obtain ⟨v, xs, h1, h2, h3, h4⟩ := h
  exact ⟨v, xs, h1.next hb, own_below h2 hb, bseq h3 hb, h4⟩
theorem LI.below {w0 W : World} {b9 k : Nat} (h : LI w0 b9 k W) : Below w0.heap.size w0 W := by obtain ⟨_, _, _, _, h3, _⟩ := h; exact h3
theorem Tryz.info24 : (Tryz.prog.info? 24).map (fun i => (i.zero, i.size, i.bytes)) = some (some (.slice none 0 0), 1, 24) := by kernel_rfl
set_option maxRecDepth 100000 in
set_option maxHeartbeats 2000000 in
theorem compute_c (g n c b9 k : Nat) (cs : Array Value) (l : List Int) (w0 w : World) (R) (hl : l.length = n) (hn : n ≤ 100000) (hk : k ≤ 1000) (h : IntsAt .i64 w (some ⟨g, 0, none⟩) l) (hB : Blk w g cs 3) (hI : LI w0 b9 k w)
    (hR : ∀ w', LI w0 b9 (k + 1) w' → R (.returned (.int .i64 (sumP l))) w') : Calls Tryz.prog 93 #[.slice (some ⟨g, 0, none⟩) n c, .pointer (some ⟨b9, 0, none⟩)] w R := by
  have HR := hide hR; have H := hide h; have HB := hide hB; have HL := hide hl
  obtain ⟨v, xs, h1, h2, h3, h4⟩ := hI
  have Hb9 := hide h1; have HO := hide h2; have HW := hide h3
  have c9 := h1.cell (k := 0) rfl
  clear hR h hB hl h1 h2 h3
  obtain ⟨i24, hi0, hz0, hz1, hz2⟩ := info_parts Tryz.info24
  have HT := hide (And.intro hi0 (And.intro hz0 (And.intro hz1 hz2)))
  clear hi0 hz0 hz1 hz2
  have hbal := balloc (Below.refl w.heap.size w) (.cells #[.slice (some ⟨g, 0, none⟩) n c] 24)
  go_enter Tryz.func93, Tryz.ntmps93
  go_wp2_with (at_builtin; refine Stop.out ?_)
  refine Stop.go ?_
  obtain ⟨hi0, hz0, hz1, hz2⟩ := HT.out
  refine wpList_append_where rfl (.tmp 4) (.tmp 6) 62 rfl (b9 + 1) 24 i24 _ 1 24 Tryz.underlying62 hi0 hz0 hz1 hz2 rfl (by omega) v k xs rfl (own_below HO.out hbal) ⟨w.heap.size, 0, none⟩ 1 1 [.slice (some ⟨g, 0, none⟩) n c] rfl rfl (fun j u hu => by rw [Addr.add_lit, Nat.zero_add]; exact (Blk.new w #[.slice (some ⟨g, 0, none⟩) n c] 24).cell (k := j) (by simpa using hu)) (by simp [Value.oneCell']) (by unfold maxLen; omega) (by omega) (by have := Hb9.out.lt; simp; omega) ?_
  clear hi0 hz0 hz1 hz2
  intro v9 w9 hown hgr hwh
  obtain ⟨g9, cap9, rfl, hg1, hg2⟩ := own_form hown (by omega)
  have hne : v.ownBlock ≠ some b9 := fun e => by have := (own_lt HO.out e).1; omega
  have hb9 : Blk w9 b9 #[v] 62 := (hgr.block b9 (Hb9.out.next hbal).lt (fun e => hne e.symm)).trans (Hb9.out.next hbal)
  have d9 := hb9.cell (k := 0) rfl
  have f9 := hb9.free 0
  have hgb : g ≠ b9 := HB.out.ne Hb9.out (by decide)
  have hgv : v.ownBlock ≠ some g := fun e => by obtain ⟨cs2, hc2⟩ := own_cs HO.out e; exact HB.out.ne hc2 (by decide) rfl
  have HI2 := hide (show IntsAt .i64 (w9.setCell ⟨b9, 0, none⟩ (.slice (some ⟨g9, 0, none⟩) (k + 1) cap9)) (some ⟨g, 0, none⟩) l from fun h0 => by
    obtain ⟨b, o, hp, hc⟩ := H.out h0
    injection hp with hp; injection hp with e1 e2; subst e1; subst e2
    refine ⟨_, _, rfl, fun i x hx => ?_⟩
    rw [World.cell?_of_block ((Below.heap_setCell w9 ⟨b9, 0, none⟩ (.slice (some ⟨g9, 0, none⟩) (k + 1) cap9) _ hgb).trans ((hgr.block _ (HB.out.next hbal).lt (fun e => hgv e.symm)).trans (hbal.block _ HB.out.lt)))]
    exact hc i x hx)
  have HLI := hide (show LI w0 b9 (k + 1) (w9.setCell ⟨b9, 0, none⟩ (.slice (some ⟨g9, 0, none⟩) (k + 1) cap9)) from ⟨_, _, hb9.set 0 _, own_same hown (fun k' hk' => by have := (own_lt hown hk').1; exact Below.heap_setCell _ _ _ _ (by show k' ≠ b9; omega)), ((bseq HW.out hbal).grown hgr (bseq HW.out hbal).size (fun k' hk' => by have := (own_lt HO.out hk').1; omega)).setCell (p := ⟨b9, 0, none⟩) h4 _, h4⟩)
  clear hown hgr hwh hb9 hbal c9
  go_wp2_with (go_at_call 62; refine Stop.out ?_)
  refine Stop.go (sum_c (some ⟨g, 0, none⟩) n c l _ _ HL.out (by unfold maxLen; omega) HI2.out ?_)
  have HF := hide (HR.out _ HLI.out)
  go_wp2
  exact HF.out
theorem outside_c (x : Int) (w : World) (R) (hx : -1 ≤ x ∧ x < 2147483647) (hR : R (.returned (.bool false)) w) : Calls Tryz.prog 91 #[.int .i64 x] w R := by
  have HR := hide hR
  have t1 : ¬ x < -1 := by omega
  have t2 : ¬ 2147483647 ≤ x := by omega
  clear hR
  go_enter Tryz.func91, Tryz.ntmps91
  go_wp2
  exact HR.out
set_option maxRecDepth 100000 in
theorem index107_c (p : Option Addr) (n c : Nat) (l : List Int) (w : World) (R) (hl : l.length = n) (hn : n ≤ maxLen) (h : IntsAt .i64 w p l) (hx : ∀ x ∈ l, -1 ≤ x ∧ x < 2147483647) (hR : R (.returned (.int .i64 (-1))) w) : Calls Tryz.prog 107 #[.slice p n c, .func (.func 91) #[] #[]] w R := by
  have HR := hide hR; have H := hide h; have HL := hide hl; have HX := hide hx
  clear hR h hl hx
  unfold maxLen at hn
  go_enter Tryz.func107, Tryz.ntmps107
  go_wp2
  go_loopw [8] (fun si wr => ∃ i : Nat, i ≤ n ∧ si = .int .i64 i ∧ wr = w) (fun si _ => n - (intOf si).toNat)
  case atStart => exact ⟨0, Nat.zero_le _, rfl, rfl⟩
  case round =>
    obtain ⟨i, hi, rfl, rfl⟩ := hrel
    by_cases hlt : i < n
    · obtain ⟨b, o, x, rfl, hx, x0⟩ := H.out.at_ (i := i) (by rw [HL.out]; exact hlt)
      have hxr := HX.out x (List.mem_of_getElem? hx)
      clear hx
      go_wp2_with (go_at_call 91; refine Stop.out ?_)
      refine Stop.go (outside_c x _ _ hxr ?_)
      go_wp2
      go_roundw
      case rel => exact ⟨i + 1, by omega, by go_num, trivial⟩
      case measure => simp [intOf]; omega
    · obtain rfl : i = n := by omega
      have HF := HR.out
      go_wp2
      exact HF
theorem contains92_c (p : Option Addr) (n c : Nat) (l : List Int) (w : World) (R) (hl : l.length = n) (hn : n ≤ maxLen) (h : IntsAt .i64 w p l) (hx : ∀ x ∈ l, -1 ≤ x ∧ x < 2147483647) (hR : R (.returned (.bool false)) w) : Calls Tryz.prog 92 #[.slice p n c, .func (.func 91) #[] #[]] w R := by
  have HR := hide hR
  clear hR
  go_enter Tryz.func92, Tryz.ntmps92
  go_wp2_with (go_at_call 107; refine Stop.out ?_)
  refine Stop.go (index107_c p n c l w _ hl hn h hx ?_)
  go_wp2
  exact HR.out
theorem wrap_small {e : Nat} (h : e ≤ 100000) : wrap64 (e : Int) = (e : Int) := IntWalk.wrap64_in _ (by omega)
theorem climb_take {l : List Int} {j : Nat} {b : Int} (h : l[j]? = some b) (d : Int) (i : Nat) : climbP (l.take (j + 1)) d i = (if b = -1 then climbP (l.take j) d i else if i / 2 ^ j % 2 = 1 then sumP [1, b, climbP (l.take j) d i] else sumP [1, climbP (l.take j) d i, b]) := by
  induction l generalizing j d i with
  | nil => simp at h
  | cons x l ih =>
    cases j with
    | zero =>
      simp at h; subst h
      rw [List.take_succ_cons, List.take_zero, List.take_zero, climbP, climbP, climbP]
      simp
    | succ j =>
      rw [List.take_succ_cons, climbP, List.take_succ_cons, climbP, ih (by simpa using h)]
      have : i / 2 / 2 ^ j = i / 2 ^ (j + 1) := by rw [Nat.div_div_eq_div_mul, Nat.pow_succ, Nat.mul_comm]
      rw [this]
set_option maxRecDepth 100000 in
set_option maxHeartbeats 4000000 in
theorem climb_c (s : ByteArray) (i : Nat) (p : Option Addr) (n c : Nat) (l : List Int) (w : World) (R) (hs : s.size ≤ 100000) (hi : i ≤ 100000) (hl : l.length = n) (hn : n ≤ 20) (h : IntsAt .i64 w p l) (hx : ∀ x ∈ l, -1 ≤ x ∧ x < 2147483647)
    (hR : ∀ w' q k c', Below w.heap.size w w' → 1 ≤ k → k ≤ 1000 → R (.returned (.tuple #[.int .i64 (climbP l (leafP s) i), .slice q k c'])) w') : Calls Tryz.prog 64 #[.string s, .int .i64 i, .slice p n c] w R := by
  have HR := hide hR; have H := hide h; have HL := hide hl; have HX := hide hx
  have t1 : ¬ (i : Int) < 0 := by omega
  have t2 : ¬ (20 : Int) < (n : Int) := by omega
  clear hR h hl hx
  go_enter Tryz.func64, Tryz.ntmps64
  go_wp2_with (go_at_call 92; refine Stop.out ?_)
  refine Stop.go (contains92_c p n c l w _ HL.out (by unfold maxLen; omega) H.out HX.out ?_)
  obtain ⟨w1, hw1⟩ : ∃ w1, w.alloc (.cells #[.slice none 0 0] 62) = w1 := ⟨_, rfl⟩
  have hb1 : Below w.heap.size w w1 := hw1 ▸ balloc (Below.refl _ _) _
  have hI1 : LI w w.heap.size 0 w1 := ⟨_, [], hw1 ▸ Blk.new _ _ _, World.ownsRow_nil _ _ _ _, hb1, Nat.le_refl _⟩
  have HI1 := hide hI1
  clear hb1 hI1
  go_wp2_with (go_at_call 90; refine Stop.out ?_)
  refine Stop.go (numbers_c s _ _ hs ?_)
  rintro w2 g hb2 hi2 ⟨cs, hB2⟩
  have HI2 := hide (HI1.out.next hb2)
  have Hi2 := hide hi2; have HB2 := hide hB2
  clear hb2 hi2 hB2 hw1
  go_wp2_with (go_at_call 93; refine Stop.out ?_)
  refine Stop.go (compute_c g s.size s.size w.heap.size 0 cs (bytesP s) w w2 _ (bytes_len s) hs (by omega) Hi2.out HB2.out HI2.out ?_)
  intro w3 hI3
  have hbl := balloc (Below.refl w3.heap.size w3) (.cells #[.int .i64 0, .int .i64 (labelD s)] 3)
  have HI3 := hide (hI3.next hbl)
  clear hI3 hbl
  go_wp2_with (go_at_call 93; refine Stop.out ?_)
  refine Stop.go (compute_c w3.heap.size 2 2 w.heap.size 1 _ [0, labelD s] w _ _ rfl (by decide) (by decide) (IntsAt.lit [0, labelD s]) (Blk.new _ _ _) HI3.out ?_)
  intro w4 hI4
  have HI4 := hide hI4
  clear hI4
  go_wp2
  go_loopw [1, 11, 36] (fun sx sd sj wr => ∃ (j k : Nat) (d : Int), j ≤ n ∧ k ≤ 2 + j ∧ 1 ≤ k ∧ sx = .int .i64 ((i / 2 ^ j : Nat) : Int) ∧ sd = .int .i64 d ∧ sj = .int .i64 j ∧ Hid (climbP (l.take j) (leafP s) i = d) ∧ Hid (LI w w.heap.size k wr)) (fun _ _ sj _ => n - (intOf sj).toNat)
  case atStart => exact ⟨0, 2, leafP s, Nat.zero_le _, by omega, by omega, by simp, rfl, rfl, hide rfl, HI4⟩
  case round =>
    clear HI4
    obtain ⟨j, k, d, hj, hk, hk1, rfl, rfl, rfl, HD, HI⟩ := hrel
    by_cases hlt : j < n
    · obtain ⟨b, o, x, rfl, hx, x0⟩ := (H.out.keep (Keeps.of_below HI.out.below)).at_ (i := j) (by rw [HL.out]; exact hlt)
      have hc := climb_take hx (leafP s) i
      rw [HD.out] at hc
      obtain ⟨e, he⟩ : ∃ e, i / 2 ^ j = e := ⟨_, rfl⟩
      have hel : e ≤ 100000 := by rw [← he]; exact Nat.le_trans (Nat.div_le_self _ _) hi
      have he2 : i / 2 ^ (j + 1) = e / 2 := by rw [Nat.pow_succ, ← Nat.div_div_eq_div_mul, he]
      rw [he] at hc ⊢
      have e1 : (e : Int).tdiv 2 = ((e / 2 : Nat) : Int) := by rw [Int.tdiv_eq_ediv_of_nonneg (by omega)]; omega
      have e2 : wrap64 ((e / 2 : Nat) : Int) = ((e / 2 : Nat) : Int) := IntWalk.wrap64_in _ (by omega)
      obtain ⟨e3, he3⟩ : ∃ e3, e / 2 = e3 := ⟨_, rfl⟩
      rw [he3] at e1 e2 he2
      have He2 := hide he2; have He3 := hide (show e3 ≤ 100000 from he3 ▸ Nat.le_trans (Nat.div_le_self e 2) hel)
      by_cases hm : x = -1
      · subst hm
        rw [if_pos rfl] at hc
        have HC := hide hc
        have q1 : ((-1 : Int) == -1) = true := by decide
        clear hx hc he he2 he3
        go_wp2
        go_roundw
        case rel => exact ⟨j + 1, k, d, by omega, by omega, hk1, by rw [He2.out]; exact congrArg (Value.int .i64) (wrap_small He3.out), rfl, by go_num, HC, HI⟩
        case measure => simp [intOf]; omega
      · rw [if_neg hm] at hc
        have q1 : (x == -1) = false := by simpa using hm
        by_cases ho : e % 2 = 1
        · rw [if_pos ho] at hc
          have HC := hide hc
          have e4 : (e : Int).tmod 2 = 1 := by rw [Int.tmod_eq_emod_of_nonneg (by omega)]; omega
          have hbl := balloc (Below.refl wr.heap.size wr) (.cells #[.int .i64 1, .int .i64 x, .int .i64 d] 3)
          have HI5 := hide (HI.out.next hbl)
          clear hx hc he he2 he3 hbl
          go_wp2_with (go_at_call 93; refine Stop.out ?_)
          refine Stop.go (compute_c wr.heap.size 3 3 w.heap.size k _ [1, x, d] w _ _ rfl (by decide) (by omega) (IntsAt.lit [1, x, d]) (Blk.new _ _ _) HI5.out ?_)
          intro w5 hI5
          have HI6 := hide hI5
          clear hI5 x0
          go_wp2
          go_roundw
          case rel => exact ⟨j + 1, k + 1, sumP [1, x, d], by omega, by omega, by omega, by rw [He2.out]; exact congrArg (Value.int .i64) (wrap_small He3.out), rfl, by go_num, HC, HI6⟩
          case measure => simp [intOf]; omega
        · rw [if_neg ho] at hc
          have HC := hide hc
          have e4 : (e : Int).tmod 2 = 0 := by rw [Int.tmod_eq_emod_of_nonneg (by omega)]; omega
          have hbl := balloc (Below.refl wr.heap.size wr) (.cells #[.int .i64 1, .int .i64 d, .int .i64 x] 3)
          have HI5 := hide (HI.out.next hbl)
          clear hx hc he he2 he3 hbl
          go_wp2_with (go_at_call 93; refine Stop.out ?_)
          refine Stop.go (compute_c wr.heap.size 3 3 w.heap.size k _ [1, d, x] w _ _ rfl (by decide) (by omega) (IntsAt.lit [1, d, x]) (Blk.new _ _ _) HI5.out ?_)
          intro w5 hI5
          have HI6 := hide hI5
          clear hI5 x0
          go_wp2
          go_roundw
          case rel => exact ⟨j + 1, k + 1, sumP [1, d, x], by omega, by omega, by omega, by rw [He2.out]; exact congrArg (Value.int .i64) (wrap_small He3.out), rfl, by go_num, HC, HI6⟩
          case measure => simp [intOf]; omega
    · obtain rfl : j = n := by omega
      rw [List.take_of_length_le (by rw [HL.out]; exact Nat.le_refl _)] at HD
      obtain ⟨v, xs, h1, h2, h3, h4⟩ := HI.out
      obtain ⟨g9, cap9, rfl, hg1, hg2⟩ := own_form h2 (by omega)
      have d9 := h1.cell (k := 0) rfl
      have HF := hide (fun q => HR.out (wr.drewN q) (some ⟨g9, 0, none⟩) k cap9 (below_drewN' h3 q) hk1 (by omega))
      rw [HD.out] at HF
      clear h1 h2 h3 HI
      go_wp2
      go_quiet (fail)
      go_wp2
      exact HF.out _
end Go.Proofs.YtkabghifdedmfaaGreatDoor
