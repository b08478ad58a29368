import Derived.Test.YtjaecoebleijmaaC5
set_option linter.unusedVariables false
set_option linter.unusedSimpArgs false
namespace Go.Proofs.Ytjaecoebleijmaa
open Go.RowKit

theorem refChosen_bad (n step first : Int) (hv : validB n step first = false) (w : World) (R) (hR : R (.returned (.tuple #[.slice none 0 0, .int .i64 1])) w) :
    Calls Try.prog 11 #[.int .i64 n, .int .i64 step, .int .i64 first] w R := by
  have Hv := hide hv
  clear hv
  go_enter Try.func11, Try.ntmps11
  go_wp2_with (go_at_call 23; refine valid_c _ _ _ _ _ ?_; rw [Hv.out])
  exact hR

theorem sq_take_snoc (n step first : Int) (k : Nat) (hk : k < cnt n step first) : (sq n step first).take (k + 1) = (sq n step first).take k ++ [first + (k : Int) * step] := by
  rw [List.take_add_one]
  have : (sq n step first)[k]? = some (first + (k : Int) * step) := by
    unfold sq; rw [List.getElem?_map, List.getElem?_range hk]; rfl
  rw [this]; rfl

set_option maxHeartbeats 400000 in
theorem refChosen_c (n step first : Int) (hv : validB n step first = true) (w : World) (R)
    (hR : ∀ v w', w'.ownsRow w.heap.size 3 1 v (sq n step first).length ((sq n step first).map (Value.int .i64)) → Below w.heap.size w w' → R (.returned (.tuple #[v, .int .i64 0])) w') :
    Calls Try.prog 11 #[.int .i64 n, .int .i64 step, .int .i64 first] w R := by
  obtain ⟨v1, v2, v3, v4, v5, v6⟩ := valid_true hv
  have hcl : cnt n step first ≤ 2000000 := by unfold cnt; have := Int.ediv_le_self (a := n - first + step - 1) step (by omega); omega
  have Hv := hide hv; have HR := hide hR
  clear hv hR
  obtain ⟨i0, hi0, hz0, hz1, hz2⟩ := info_parts Try.info3'
  go_enter Try.func11, Try.ntmps11
  go_wp2_with (go_at_call 23; refine valid_c _ _ _ _ _ ?_; rw [Hv.out])
  go_loopw [8, 9] (fun v i wr => ∃ (k : Nat) (j : Int), Hid (k ≤ cnt n step first) ∧ Hid (j = first + (k : Int) * step) ∧ 0 ≤ j ∧ j < n + step ∧ i = .int .i64 j ∧ Hid (wr.ownsRow w.heap.size 3 1 v ((sq n step first).take k).length (((sq n step first).take k).map (Value.int .i64))) ∧ Hid (Below w.heap.size w wr)) (fun _ i _ => (n + step - intOf i).toNat)
  case atStart => exact ⟨0, first, Nat.zero_le _, by simp [Hid], by omega, by omega, rfl, hide (World.ownsRow_nil ..), hide (Below.refl _ _)⟩
  case round =>
    obtain ⟨k, i, hk, hi, hi0', hi1', rfl, Ho, Hb⟩ := hrel
    have hcn := hide (cnt_iff (n := n) (step := step) (first := first) (by omega) (by omega) k)
    have hsl := hide (sq_len n step first)
    by_cases hlt : i < n
    · have hkc : k < cnt n step first := hcn.out.2 (by have := hi.out; omega)
      have Hnext := hide (show (sq n step first).take (k + 1) = (sq n step first).take k ++ [i] by rw [sq_take_snoc _ _ _ _ hkc, ← hi.out])
      have hstep := hide (show i + step = first + ((k + 1 : Nat) : Int) * step by rw [hi.out, Int.natCast_add, Int.add_mul]; simp; omega)
      have hkc' : Hid (k + 1 ≤ cnt n step first) := hkc
      have hlk : ((sq n step first).take k).length ≤ k := List.length_take_le _ _
      have hkb : k ≤ 2000000 := by omega
      clear hkc
      generalize hpl : (sq n step first).take k = pl at *
      have Hpl := hide hpl; clear hpl
      go_wp2_with (at_builtin; refine Stop.out ?_)
      refine Stop.go ?_
      refine wpList_app _ rfl (.tmp 22) (.tmp 24) 22 rfl w.heap.size 3 i0 _ 1 8 Try.underlying22 hi0 hz0 hz1 hz2 rfl (by omega) _ pl.length (pl.map (Value.int .i64)) rfl (Ho.out.alloc _) (some ⟨wr.heap.size, 0, none⟩) 1 1 [.int .i64 i] rfl ⟨rfl, fun _ => ⟨_, rfl, fun j u hu => ?_⟩⟩ (ints_oneCell .i64 [i]) (by unfold maxLen; omega) (by omega) (by simp; have := Hb.out.size; omega) ?_
      · match j, hu with
        | 0, hu => cases hu; exact cell_new
      intro v1 w1 hown1 hg1
      have Hb1 := hide (show Below w.heap.size w w1 from Hb.out.grown (World.grownBy.trans (World.grownBy_alloc _ _ _) hg1) Hb.out.size (fun k hk => (Ho.out.lt k hk).1))
      have Hown1 := hide hown1
      clear hown1 hg1
      go_wp2_with fail
      go_roundw
      case rel => exact ⟨k + 1, _, hkc', hstep, by omega, by omega, rfl, hide (by rw [Hnext.out]; simpa using Hown1.out), Hb1⟩
      case measure => simp [intOf]; omega
    · have hkc : ¬ k < cnt n step first := fun h => by have := hcn.out.1 h; have := hi.out; omega
      have hall : Hid ((sq n step first).take k = sq n step first) := List.take_of_length_le (by rw [hsl.out]; omega)
      rw [hall.out] at Ho
      clear hkc
      go_wp2_with fail
      exact HR.out _ _ Ho.out Hb.out

/-- What Estimate answers. -/
def estOk (n step first most : Int) (l : List Int) : Bool := validB n step first && decide (0 ≤ most) && decide (most ≤ 1000000) && decide (l.length = cnt n step first) && !l.any (wrongB most)
def est (n step first : Int) (l : List Int) : Int := 1000 * l.sum * n / (cnt n step first : Int)
def estErr (n step first most : Int) (l : List Int) : Int := max (est n step first l - 1000 * l.sum) (1000 * (l.sum + (n - (cnt n step first : Int)) * most) - est n step first l)
def estR (n step first most : Int) (l : List Int) : Value := if estOk n step first most l = true then .tuple #[.int .i64 (est n step first l), .int .i64 (estErr n step first most l), .int .i64 0] else .tuple #[.int .i64 0, .int .i64 0, .int .i64 1]

theorem wrong_bd {m : Int} {l : List Int} (h : l.any (wrongB m) = false) : Bd m l := fun x hx => by
  have h1 : wrongB m x = false := by
    rw [List.any_eq_false] at h
    have := h x hx
    simpa using this
  unfold wrongB at h1
  simp at h1
  omega

theorem cnt_pos {n step first : Int} (h : validB n step first = true) : 1 ≤ cnt n step first := by
  obtain ⟨v1, v2, v3, v4, v5, v6⟩ := valid_true h
  exact (cnt_iff (by omega) (by omega) 0).2 (by simp; omega)
theorem cnt_le {n step first : Int} (h : validB n step first = true) : (cnt n step first : Int) ≤ n := by
  obtain ⟨v1, v2, v3, v4, v5, v6⟩ := valid_true h
  have h1 : ¬ n.toNat < cnt n step first := fun h => by
    have := (cnt_iff (by omega) (by omega) n.toNat).1 h
    have h2 : n * 1 ≤ n * step := Int.mul_le_mul_of_nonneg_left v3 (by omega)
    rw [show ((n.toNat : Nat) : Int) = n by omega] at this
    omega
  omega

theorem estOk_false {n step first most : Int} {l : List Int} (h : estOk n step first most l = false) : validB n step first = false ∨ (validB n step first = true ∧ (most < 0 ∨ (0 ≤ most ∧ 1000000 < most) ∨
   (0 ≤ most ∧ most ≤ 1000000 ∧ (l.length ≠ cnt n step first ∨ (l.length = cnt n step first ∧ l.any (wrongB most) = true))))) := by
  unfold estOk at h
  cases hv : validB n step first with
  | false => exact .inl rfl
  | true =>
    refine .inr ⟨rfl, ?_⟩
    rw [hv] at h
    simp only [Bool.true_and, Bool.and_eq_false_iff, decide_eq_false_iff_not, Bool.not_eq_false'] at h
    by_cases a : 0 ≤ most
    · by_cases b : most ≤ 1000000
      · by_cases c : l.length = cnt n step first
        · rcases h with ((h | h) | h) | h
          · omega
          · omega
          · exact absurd c h
          · exact .inr (.inr ⟨a, b, .inr ⟨c, h⟩⟩)
        · exact .inr (.inr ⟨a, b, .inl c⟩)
      · exact .inr (.inl ⟨a, by omega⟩)
    · exact .inl (by omega)
theorem estOk_true {n step first most : Int} {l : List Int} (h : estOk n step first most l = true) : validB n step first = true ∧ 0 ≤ most ∧ most ≤ 1000000 ∧ l.length = cnt n step first ∧ l.any (wrongB most) = false := by
  unfold estOk at h
  simp only [Bool.and_eq_true, decide_eq_true_eq, Bool.not_eq_true'] at h
  obtain ⟨⟨⟨⟨h1, h2⟩, h3⟩, h4⟩, h5⟩ := h
  exact ⟨h1, h2, h3, h4, h5⟩
theorem estR_true {n step first most : Int} {l : List Int} (h : estOk n step first most l = true) : estR n step first most l = .tuple #[.int .i64 (est n step first l), .int .i64 (estErr n step first most l), .int .i64 0] := if_pos h
theorem estR_false {n step first most : Int} {l : List Int} (h : estOk n step first most l = false) : estR n step first most l = .tuple #[.int .i64 0, .int .i64 0, .int .i64 1] := if_neg (by simp [h])

theorem est_bd {n step first most : Int} {l : List Int} (hn : n ≤ 3000) (h : estOk n step first most l = true) : 0 ≤ l.sum ∧ l.sum ≤ 3000000000 ∧ 0 ≤ est n step first l ∧ est n step first l ≤ 9000000000000000 ∧ 0 ≤ (n - (cnt n step first : Int)) * most ∧ (n - (cnt n step first : Int)) * most ≤ 3000000000 := by
  obtain ⟨hv, h1, h2, h3, h4⟩ := estOk_true h
  have hb := sum_bd h1 (wrong_bd h4)
  obtain ⟨v1, v2, v3, v4, v5, v6⟩ := valid_true hv
  have c0 := cnt_pos hv
  have c1 := cnt_le hv
  have a1 : most * (l.length : Int) ≤ 1000000 * 3000 := Int.mul_le_mul h2 (by omega) (by omega) (by omega)
  have a2 : 0 ≤ 1000 * l.sum * n := Int.mul_nonneg (by omega) (by omega)
  have a3 : 1000 * l.sum * n ≤ 3000000000000 * 3000 := Int.mul_le_mul (by omega) hn (by omega) (by omega)
  have a4 : 0 ≤ est n step first l := Int.ediv_nonneg a2 (by omega)
  have a5 : est n step first l ≤ 1000 * l.sum * n := Int.ediv_le_self _ a2
  have a6 : 0 ≤ (n - (cnt n step first : Int)) * most := Int.mul_nonneg (by omega) h1
  have a7 : (n - (cnt n step first : Int)) * most ≤ 3000 * 1000000 := Int.mul_le_mul (by omega) h2 h1 (by omega)
  omega

set_option maxHeartbeats 1000000 in
theorem estimate_c (n step first most : Int) (p : Option Addr) (m cap : Nat) (l : List Int) (w : World) (R) (hn : validB n step first = true → n ≤ 3000) (hm : l.length = m) (hl : m ≤ maxLen) (h : IntsAt .i64 w p l)
    (hR : ∀ w', Below w.heap.size w w' → R (.returned (estR n step first most l)) w') : Calls Try.prog 12 #[.int .i64 n, .int .i64 step, .int .i64 first, .int .i64 most, .slice p m cap] w R := by
  have Hm := hide hm; have H := hide h; have Hn := hide hn
  clear hm h hn
  cases hok : estOk n step first most l with
  | false =>
    rw [estR_false hok] at hR
    have HR := hide hR
    rcases estOk_false hok with hv | ⟨hv, h1 | ⟨h0, h1⟩ | ⟨h0, h1, h2⟩⟩
    · have Hv := hide hv; clear hR hok hv
      go_enter Try.func12, Try.ntmps12
      go_wp2_with (go_at_call 20; refine wellFormed_c _ _ _ _ _ ?_; rw [Hv.out])
      go_ret3
      exact HR.out _ (balloc (Below.refl _ _) _)
    · have Hv := hide hv; clear hR hok hv
      go_enter Try.func12, Try.ntmps12
      go_wp2_with (go_at_call 20; refine wellFormed_c _ _ _ _ _ ?_; rw [Hv.out])
      go_ret3
      exact HR.out _ (balloc (Below.refl _ _) _)
    · have Hv := hide hv; clear hR hok hv
      go_enter Try.func12, Try.ntmps12
      go_wp2_with (go_at_call 20; refine wellFormed_c _ _ _ _ _ ?_; rw [Hv.out])
      go_ret3
      exact HR.out _ (balloc (Below.refl _ _) _)
    · have Hv := hide hv; have H2 := hide h2; clear hR hok hv h2
      go_enter Try.func12, Try.ntmps12
      go_wp2_with (go_at_call 20; refine wellFormed_c _ _ _ _ _ ?_; rw [Hv.out])
      go_wp2_with (go_at_call 22; refine Stop.out ?_)
      refine Stop.go (numbers_c _ _ _ _ _ ?_)
      obtain ⟨e0, e1, e2⟩ := boxes3 (w.alloc (.cells #[.int .i64 most] 3)) n step first
      have em := hide ((((Boxed.new w 3 (.int .i64 most)).alloc (.cells #[.int .i64 n] 3)).alloc (.cells #[.int .i64 step] 3)).alloc (.cells #[.int .i64 first] 3)).cell
      have Hb0 := hide (balloc (balloc (balloc (balloc (Below.refl w.heap.size w) (.cells #[.int .i64 most] 3)) (.cells #[.int .i64 n] 3)) (.cells #[.int .i64 step] 3)) (.cells #[.int .i64 first] 3))
      simp only [World.size_alloc] at e0 e1 e2 ⊢
      go_wp2_with (go_at_call 24; refine Stop.out ?_)
      refine Stop.go (count_c _ _ _ n step first Hv.out _ ?_ ?_ ?_ e2 e0 e1 _ ?_)
      · simp
      · simp; try omega
      · simp
      intro w1 hb1
      have Hb1 := hide (bseq Hb0.out hb1)
      have Em := hide (Keeps.of_below hb1 _ _ em.out)
      clear hb1 e0 e1 e2
      have Hlm := hide Hm.out
      rw [Hm.out] at H2
      have hcl : cnt n step first ≤ 2000000 := by have := cnt_le Hv.out; obtain ⟨v1, v2, v3, v4, v5, v6⟩ := valid_true Hv.out; omega
      generalize cnt n step first = c at *
      rcases H2.out with h2 | ⟨rfl, h3⟩
      · have hmc : ((m : Int) != (c : Int)) = true := by simp; omega
        clear h2
        go_wp2_with fail
        go_ret3
        exact HR.out _ Hb1.out
      · have H3 := hide h3; clear h3
        go_wp2_with (go_at_call 26; refine Stop.out ?_)
        refine Stop.go (containsFunc_c p m cap l 25 _ (wrongB most) _ _ Hm.out hl (H.out.keep (Keeps.of_below Hb1.out)) (pred_wrong most _ _ Em.out) ?_)
        intro w2 hd
        have Hb2 := hide (Hb1.out.trans hd.below)
        rw [H3.out]
        go_wp2_with fail
        go_ret3
        exact HR.out _ Hb2.out
  | true =>
    have Hbd := hide (est_bd (Hn.out (estOk_true hok).1) hok)
    obtain ⟨hv, h0, h1, h2, h3⟩ := estOk_true hok
    rw [estR_true hok] at hR
    have HR := hide hR
    have Hv := hide hv; have H2 := hide h2; have H3 := hide h3; clear hR hok hv h2 h3
    go_enter Try.func12, Try.ntmps12
    go_wp2_with (go_at_call 20; refine wellFormed_c _ _ _ _ _ ?_; rw [Hv.out])
    go_wp2_with (go_at_call 22; refine Stop.out ?_)
    refine Stop.go (numbers_c _ _ _ _ _ ?_)
    obtain ⟨e0, e1, e2⟩ := boxes3 (w.alloc (.cells #[.int .i64 most] 3)) n step first
    have em := hide ((((Boxed.new w 3 (.int .i64 most)).alloc (.cells #[.int .i64 n] 3)).alloc (.cells #[.int .i64 step] 3)).alloc (.cells #[.int .i64 first] 3)).cell
    have Hb0 := hide (balloc (balloc (balloc (balloc (Below.refl w.heap.size w) (.cells #[.int .i64 most] 3)) (.cells #[.int .i64 n] 3)) (.cells #[.int .i64 step] 3)) (.cells #[.int .i64 first] 3))
    simp only [World.size_alloc] at e0 e1 e2 ⊢
    go_wp2_with (go_at_call 24; refine Stop.out ?_)
    refine Stop.go (count_c _ _ _ n step first Hv.out _ ?_ ?_ ?_ e2 e0 e1 _ ?_)
    · simp
    · simp; try omega
    · simp
    intro w1 hb1
    have Hb1 := hide (bseq Hb0.out hb1)
    have Em := hide (Keeps.of_below hb1 _ _ em.out)
    clear hb1 e0 e1 e2

    have hcn := hide (cnt_le Hv.out)
    have hc0 := hide (cnt_pos Hv.out)
    obtain ⟨v1, v2, v3, v4, v5, v6⟩ := valid_true Hv.out
    have hn3 := Hn.out Hv.out
    have Hsb := hide (wrong_bd H3.out)
    unfold estErr est at HR
    unfold est at Hbd
    rw [Hm.out] at H2
    obtain ⟨b1, b2, b3, b4, b5, b6⟩ := Hbd.out
    have c1 := hcn.out
    have c0 := hc0.out
    have h2 := H2.out
    clear Hbd hcn hc0 H2
    generalize cnt n step first = c at *
    subst h2
    go_wp2_with (go_at_call 26; refine Stop.out ?_)
    refine Stop.go (containsFunc_c p m cap l 25 _ (wrongB most) _ _ Hm.out hl (H.out.keep (Keeps.of_below Hb1.out)) (pred_wrong most _ _ Em.out) ?_)
    intro w2 hd
    have Hb2 := hide (Hb1.out.trans hd.below)
    have em2 := hd.keeps _ _ Em.out
    rw [H3.out]
    clear hd
    go_wp2_with (go_at_call 27; refine Stop.out ?_)
    refine Stop.go (sum_c p m cap l _ _ Hm.out (by omega) (H.out.keep (Keeps.of_below Hb2.out)) (fun x hx => by have := Hsb.out x hx; omega) ?_)
    generalize l.sum = s at *
    go_wp2_with (go_at_call 28; refine Stop.out ?_)
    refine Stop.go (scaled_c (1000 * s) n m _ (by omega) (by omega) (by omega) _ ?_)
    intro w3 hd
    have Hb3 := hide (Hb2.out.trans hd.below)
    have em3 := hd.keeps _ _ em2
    clear hd em2
    generalize 1000 * s * n / (m : Int) = e at *
    generalize hD : (n - (m : Int)) * most = D at *
    have hw1 : IntKind.i64.wrap ((n - (m : Int)) * most) = D := by rw [hD]; exact IntWalk.i64_in _ (by omega)
    have HD := hide hD; clear hD
    go_wp2_with fail
    go_quiet (fail)
    go_wp2_with fail
    go_ret3
    rw [HD.out] at *
    exact HR.out _ (Hb3.out.trans (Dr.one _ _).below)
end Go.Proofs.Ytjaecoebleijmaa
