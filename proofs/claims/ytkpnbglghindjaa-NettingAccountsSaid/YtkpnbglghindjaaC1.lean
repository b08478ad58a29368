import Derived.Test.YtkpnbglghindjaaChecked
import Derived.Test.YtkpnbglghindjaaBase
import Derived.Test.YtkpnbglghindjaaM1
set_option linter.unusedVariables false
set_option linter.unusedSimpArgs false
namespace Go.Proofs.Ytkpnbglghindjaa
open Go.RowKit Math

def cmpI (a b : Int) : Int := if a < b then -1 else if b < a then 1 else 0
theorem cmpI_lt {a b : Int} (h : a < b) : cmpI a b = -1 := if_pos h
theorem cmpI_gt {a b : Int} (h : b < a) : cmpI a b = 1 := by unfold cmpI; rw [if_neg (by omega), if_pos h]
theorem cmpI_eq (a : Int) : cmpI a a = 0 := by unfold cmpI; rw [if_neg (by omega), if_neg (by omega)]

theorem isNaN_c (x : Int) (w : World) (R) (hR : R (.returned (.bool false)) w) : Calls Try.prog 32 #[.int .i64 x] w R := by
  go_enter Try.func32, Try.ntmps32
  go_wp2
  simpa using hR

theorem compare_c (a b : Int) (w : World) (R) (hR : R (.returned (.int .i64 (cmpI a b))) w) : Calls Try.prog 25 #[.int .i64 a, .int .i64 b] w R := by
  rcases Int.lt_trichotomy a b with h | h | h
  · rw [cmpI_lt h] at hR
    go_enter Try.func25, Try.ntmps25
    go_wp2_with (go_at_call 32; refine isNaN_c _ _ _ ?_)
    exact hR
  · subst h
    rw [cmpI_eq] at hR
    go_enter Try.func25, Try.ntmps25
    go_wp2_with (go_at_call 32; refine isNaN_c _ _ _ ?_)
    exact hR
  · rw [cmpI_gt h] at hR
    go_enter Try.func25, Try.ntmps25
    go_wp2_with (go_at_call 32; refine isNaN_c _ _ _ ?_)
    exact hR

theorem back_c (a b : Int) (w : World) (R) (hR : R (.returned (.int .i64 (cmpI b a))) w) : Calls Try.prog 26 #[.int .i64 a, .int .i64 b] w R := by
  go_enter Try.func26, Try.ntmps26
  go_wp2_with (go_at_call 25; refine compare_c _ _ _ _ ?_)
  exact hR

theorem wrong_c (x m : Int) (b : Nat) (w : World) (R) (hm : 0 ≤ m) (hM : m ≤ 1000000000000) (hc : w.cell? ⟨b, 0, none⟩ = some (.int .i64 m))
    (hR : R (.returned (.bool (decide (x < -m) || decide (m < x)))) w) :
    Calls Try.prog 31 #[.int .i64 x, .pointer (some ⟨b, 0, none⟩)] w R := by
  by_cases h : x < -m
  · rw [decide_eq_true h, Bool.true_or] at hR
    go_enter Try.func31, Try.ntmps31
    go_wp2
    exact hR
  · rw [decide_eq_false h, Bool.false_or] at hR
    go_enter Try.func31, Try.ntmps31
    go_wp2
    exact hR

def okAmt (x : Int) : Bool := decide (-1000000000000 ≤ x) && decide (x ≤ 1000000000000)

theorem amount_c (x : Int) (w : World) (R) (hR : R (.returned (.bool (okAmt x))) w) : Calls Try.prog 29 #[.int .i64 x] w R := by
  unfold okAmt at hR
  by_cases h : -1000000000000 ≤ x
  · rw [decide_eq_true h, Bool.true_and] at hR
    go_enter Try.func29, Try.ntmps29
    go_wp2
    exact hR
  · rw [decide_eq_false h, Bool.false_and] at hR
    go_enter Try.func29, Try.ntmps29
    go_wp2
    exact hR

theorem all_take_succ {α : Type} (f : α → Bool) (l : List α) (k : Nat) (x : α) (hx : l[k]? = some x) : (l.take (k + 1)).all f = ((l.take k).all f && f x) := by
  rw [List.take_add_one, hx]; simp
theorem all_false_of {α : Type} (f : α → Bool) (l : List α) (k : Nat) (x : α) (hx : l[k]? = some x) (hf : f x = false) : l.all f = false := by
  rw [List.all_eq_false]; exact ⟨x, List.mem_of_getElem? hx, by simp [hf]⟩

set_option maxHeartbeats 400000 in
theorem amounts_c (p : Option Addr) (n cap : Nat) (l : List Int) (w : World) (R) (hn : l.length = n) (hl : n ≤ maxLen) (h : IntsAt .i64 w p l)
    (hR : R (.returned (.bool (l.all okAmt))) w) : Calls Try.prog 28 #[.slice p n cap] w R := by
  unfold maxLen at hl
  have Hn := hide hn; clear hn
  go_enter Try.func28, Try.ntmps28
  go_wp2
  go_loop [3] (fun i => ∃ k : Nat, k ≤ n ∧ i = .int .i64 k ∧ Hid ((l.take k).all okAmt = true)) (fun i => n - (intOf i).toNat)
  case atStart => exact ⟨0, Nat.zero_le _, rfl, hide (by simp)⟩
  case round =>
    obtain ⟨k, hk, rfl, ha⟩ := hrel
    by_cases hlt : k < n
    · obtain ⟨b, o, x, rfl, hx, hc⟩ := h.at_ (i := k) (by rw [Hn.out]; exact hlt)
      have Hx := hide hx; clear hx h
      cases hf : okAmt x
      · have Hf := hide hf; clear hf
        go_wp2_with (go_at_call 29; refine amount_c _ _ _ ?_; rw [Hf.out])
        rw [all_false_of _ _ _ _ Hx.out Hf.out] at hR
        exact hR
      · have Hf := hide hf; clear hf
        go_wp2_with (go_at_call 29; refine amount_c _ _ _ ?_; rw [Hf.out])
        go_round
        case rel => exact ⟨k + 1, by omega, by go_num, hide (by rw [all_take_succ _ _ _ _ Hx.out, ha.out, Hf.out]; rfl)⟩
        case measure => simp [intOf]; omega
    · have hkn : l.take k = l := List.take_of_length_le (by rw [Hn.out]; omega)
      rw [hkn] at ha
      rw [ha.out] at hR
      clear hkn
      go_wp2
      exact hR

theorem eq_of_take_all {α : Type} (l m : List α) (n : Nat) (hl : l.length = n) (hm : m.length = n) (h : l.take n = m.take n) : l = m := by
  rw [List.take_of_length_le (by omega), List.take_of_length_le (by omega)] at h; exact h
theorem take_eq_succ {α : Type} (l m : List α) (k : Nat) (x : α) (hx : l[k]? = some x) (hy : m[k]? = some x) (h : l.take k = m.take k) : l.take (k + 1) = m.take (k + 1) := by
  rw [List.take_add_one, List.take_add_one, hx, hy, h]
theorem ne_of_at {α : Type} (l m : List α) (k : Nat) (x y : α) (hx : l[k]? = some x) (hy : m[k]? = some y) (h : x ≠ y) : l ≠ m := by
  rintro rfl; rw [hx] at hy; injection hy; exact h ‹_›

set_option maxHeartbeats 400000 in
theorem ints_c (p q : Option Addr) (n m cap cap' : Nat) (l l' : List Int) (w : World) (R) (hn : l.length = n) (hm : l'.length = m) (hl : n ≤ maxLen) (hl' : m ≤ maxLen) (h : IntsAt .i64 w p l) (h' : IntsAt .i64 w q l')
    (hR : ∀ w', Dr w w' → R (.returned (.bool (decide (l = l')))) w') : Calls Try.prog 14 #[.slice p n cap, .slice q m cap'] w R := by
  unfold maxLen at hl hl'
  by_cases hnm : n = m
  · subst hnm
    have Hn := hide hn; clear hn
    have Hm := hide hm; clear hm
    have HR := hide hR; clear hR
    go_enter Try.func14, Try.ntmps14
    go_wp2
    go_loopw [5] (fun i wr => ∃ k d : Nat, k ≤ n ∧ i = .int .i64 k ∧ Hid (l.take k = l'.take k) ∧ wr = w.drewN d) (fun i _ => n - (intOf i).toNat)
    case atStart => exact ⟨0, 0, Nat.zero_le _, rfl, hide (by simp), rfl⟩
    case round =>
      obtain ⟨k, d, hk, rfl, ha, rfl⟩ := hrel
      by_cases hlt : k < n
      · obtain ⟨b, o, x, rfl, hx, hc⟩ := h.at_ (i := k) (by rw [Hn.out]; exact hlt)
        obtain ⟨b', o', y, rfl, hy, hc'⟩ := h'.at_ (i := k) (by rw [Hm.out]; exact hlt)
        have Hx := hide hx; clear hx h
        have Hy := hide hy; clear hy h'
        go_wp2
        go_quiet (fail)
        by_cases hxy : x = y
        · subst hxy
          go_wp2
          go_roundw
          case rel => exact ⟨k + 1, _, by omega, by go_num, hide (take_eq_succ _ _ _ _ Hx.out Hy.out ha.out), rfl⟩
          case measure => simp [intOf]; omega
        · go_wp2
          have := HR.out
          rw [decide_eq_false (ne_of_at _ _ _ _ _ Hx.out Hy.out hxy)] at this
          exact this _ (by first | exact Dr.one _ _ | exact Dr.two _ _ _)
      · have he : l = l' := eq_of_take_all _ _ n Hn.out Hm.out (by rw [show n = k by omega]; exact ha.out)
        have He := hide he; clear he
        go_wp2
        have := HR.out
        rw [decide_eq_true He.out] at this
        exact this _ (by first | exact Dr.one _ _ | exact Dr.two _ _ _)
  · have hne : ¬ l = l' := by rintro rfl; omega
    rw [decide_eq_false hne] at hR
    have HR := hide hR; clear hR hne hn hm
    go_enter Try.func14, Try.ntmps14
    go_wp2
    exact HR.out _ (Dr.refl _)


def TrsAt (w : World) (p : Option Addr) (l : List Tr) : Prop :=
  0 < l.length → ∃ b o, p = some ⟨b, o, none⟩ ∧ ∀ i (x : Tr), l[i]? = some x → w.cell? ⟨b, o + i * 3, none⟩ = some (.int .i64 x.fr) ∧ w.cell? ⟨b, o + i * 3 + 1, none⟩ = some (.int .i64 x.to_) ∧ w.cell? ⟨b, o + i * 3 + 2, none⟩ = some (.int .i64 x.am)

theorem TrsAt.keep {w w' : World} {p : Option Addr} {l : List Tr} (hk : Keeps w w') (h : TrsAt w p l) : TrsAt w' p l := fun hl => by
  obtain ⟨b, o, hp, hc⟩ := h hl
  exact ⟨b, o, hp, fun i x hx => ⟨hk _ _ (hc i x hx).1, hk _ _ (hc i x hx).2.1, hk _ _ (hc i x hx).2.2⟩⟩

theorem TrsAt.at_ {w : World} {p : Option Addr} {l : List Tr} (h : TrsAt w p l) {i : Nat} (hi : i < l.length) :
    ∃ b o x, p = some ⟨b, o, none⟩ ∧ l[i]? = some x ∧ w.cell? ⟨b, o + i * 3, none⟩ = some (.int .i64 x.fr) ∧ w.cell? ⟨b, o + i * 3 + 1, none⟩ = some (.int .i64 x.to_) ∧ w.cell? ⟨b, o + i * 3 + 2, none⟩ = some (.int .i64 x.am) := by
  obtain ⟨b, o, hp, hc⟩ := h (by omega)
  exact ⟨b, o, l[i], hp, List.getElem?_eq_getElem hi, hc i _ (List.getElem?_eq_getElem hi)⟩

theorem run_neq_tr (x y : Tr) (w : World) : (binOp .neq 36 (.agg #[.int .i64 x.fr, .int .i64 x.to_, .int .i64 x.am]) (.agg #[.int .i64 y.fr, .int .i64 y.to_, .int .i64 y.am])).run Try.prog w = .ok (.bool (decide (x ≠ y))) w := by
  obtain ⟨x1, x2, x3⟩ := x
  obtain ⟨y1, y2, y3⟩ := y
  by_cases h1 : x1 = y1 <;> by_cases h2 : x2 = y2 <;> by_cases h3 : x3 = y3 <;> simp [go_sem, h1, h2, h3]

set_option maxHeartbeats 400000 in
theorem same_c (p q : Option Addr) (n m cap cap' : Nat) (l l' : List Tr) (w : World) (R) (hn : l.length = n) (hm : l'.length = m) (hl : n ≤ maxLen) (hl' : m ≤ maxLen) (h : TrsAt w p l) (h' : TrsAt w q l')
    (hR : ∀ w', Dr w w' → R (.returned (.bool (decide (l = l')))) w') : Calls Try.prog 13 #[.slice p n cap, .slice q m cap'] w R := by
  unfold maxLen at hl hl'
  by_cases hnm : n = m
  · subst hnm
    have Hn := hide hn; clear hn
    have Hm := hide hm; clear hm
    have HR := hide hR; clear hR
    go_enter Try.func13, Try.ntmps13
    go_wp2
    go_loopw [5] (fun i wr => ∃ k d : Nat, k ≤ n ∧ i = .int .i64 k ∧ Hid (l.take k = l'.take k) ∧ wr = w.drewN d) (fun i _ => n - (intOf i).toNat)
    case atStart => exact ⟨0, 0, Nat.zero_le _, rfl, hide (by simp), rfl⟩
    case round =>
      obtain ⟨k, d, hk, rfl, ha, rfl⟩ := hrel
      by_cases hlt : k < n
      · obtain ⟨b, o, x, rfl, hx, hc1, hc2, hc3⟩ := h.at_ (i := k) (by rw [Hn.out]; exact hlt)
        obtain ⟨b', o', y, rfl, hy, hd1, hd2, hd3⟩ := h'.at_ (i := k) (by rw [Hm.out]; exact hlt)
        have Hx := hide hx; clear hx h
        have Hy := hide hy; clear hy h'
        have hq := run_neq_tr x y
        by_cases hxy : x = y
        · subst hxy
          simp only [ne_eq, not_true_eq_false, decide_false] at hq
          go_wp2
          go_quiet (fail)
          go_wp2
          go_roundw
          case rel => exact ⟨k + 1, _, by omega, by go_num, hide (take_eq_succ _ _ _ _ Hx.out Hy.out ha.out), rfl⟩
          case measure => simp [intOf]; omega
        · rw [decide_eq_true hxy] at hq
          go_wp2
          go_quiet (fail)
          go_wp2
          have := HR.out
          rw [decide_eq_false (ne_of_at _ _ _ _ _ Hx.out Hy.out hxy)] at this
          exact this _ (by first | exact Dr.one _ _ | exact Dr.two _ _ _)
      · have he : l = l' := eq_of_take_all _ _ n Hn.out Hm.out (by rw [show n = k by omega]; exact ha.out)
        have He := hide he; clear he
        go_wp2
        have := HR.out
        rw [decide_eq_true He.out] at this
        exact this _ (by first | exact Dr.one _ _ | exact Dr.two _ _ _)
  · have hne : ¬ l = l' := by rintro rfl; omega
    rw [decide_eq_false hne] at hR
    have HR := hide hR; clear hR hne hn hm
    go_enter Try.func13, Try.ntmps13
    go_wp2
    exact HR.out _ (Dr.refl _)


theorem wrongNumber_c (m : Int) (w : World) (R) (hR : R (.returned (.func (.func 31) #[] #[.pointer (some ⟨w.heap.size, 0, none⟩)])) (w.alloc (.cells #[.int .i64 m] 3))) : Calls Try.prog 22 #[.int .i64 m] w R := by
  go_enter Try.func22, Try.ntmps22
  go_wp2
  exact hR

/-- A function value that answers a Bool of an int and only draws. -/
def Pred (g : Nat) (caps : Array Value) (f : Int → Bool) (w : World) : Prop :=
  (∀ args w', (callFunc g args).run Try.prog w' = .ok (.enter g args) w') ∧ ∀ x w' R, Dr w w' → (∀ w'', Dr w' w'' → R (.returned (.bool (f x))) w'') → Calls Try.prog g (#[.int .i64 x] ++ caps) w' R

set_option maxHeartbeats 400000 in
theorem indexFunc_c (p : Option Addr) (n cap : Nat) (l : List Int) (g : Nat) (caps : Array Value) (f : Int → Bool) (w : World) (R) (hn : l.length = n) (hl : n ≤ maxLen) (h : IntsAt .i64 w p l)
    (hf : Pred g caps f w) (hR : ∀ (r : Int) w', Dr w w' → (0 ≤ r ↔ l.any f = true) → -1 ≤ r → r ≤ n → R (.returned (.int .i64 r)) w') : Calls Try.prog 30 #[.slice p n cap, .func (.func g) #[] caps] w R := by
  unfold maxLen at hl
  have Hn := hide hn; clear hn
  have HR := hide hR; clear hR
  have Hf := hide hf; clear hf
  go_enter Try.func30, Try.ntmps30
  go_wp2
  go_loopw [8] (fun i wr => ∃ k d : Nat, k ≤ n ∧ i = .int .i64 k ∧ Hid ((l.take k).any f = false) ∧ wr = w.drewN d) (fun i _ => n - (intOf i).toNat)
  case atStart => exact ⟨0, 0, Nat.zero_le _, rfl, hide (by simp), rfl⟩
  case round =>
    obtain ⟨k, d, hk, rfl, ha, rfl⟩ := hrel
    by_cases hlt : k < n
    · obtain ⟨b, o, x, rfl, hx, hc⟩ := h.at_ (i := k) (by rw [Hn.out]; exact hlt)
      have Hx := hide hx; clear hx h
      have he := Hf.out.1
      go_wp2_with fail
      clear he
      refine Hf.out.2 x _ _ (Dr.one _ _) fun w'' hw'' => ?_
      obtain ⟨e, rfl⟩ := hw''
      cases hfx : f x
      · have HF := hide hfx; clear hfx
        go_wp2_with fail
        go_roundw
        case rel => exact ⟨k + 1, _, by omega, by go_num, hide (by rw [List.take_add_one, Hx.out]; simp only [Option.toList, List.any_append, ha.out, List.any_cons, List.any_nil, HF.out, Bool.or_false]), rfl⟩
        case measure => simp [intOf]; omega
      · have HF := hide hfx; clear hfx
        go_wp2_with fail
        exact HR.out _ _ (by first | exact Dr.one _ _ | exact Dr.two _ _ _) ⟨fun _ => List.any_eq_true.2 ⟨x, List.mem_of_getElem? Hx.out, HF.out⟩, fun _ => by omega⟩ (by omega) (by omega)
    · have hkn : l.take k = l := List.take_of_length_le (by rw [Hn.out]; omega)
      rw [hkn] at ha
      clear hkn
      go_wp2_with fail
      refine HR.out (-1) _ (by first | exact Dr.one _ _ | exact Dr.two _ _ _) ⟨fun h => by omega, fun h => ?_⟩ (by omega) (by omega)
      rw [ha.out] at h; cases h

theorem containsFunc_c (p : Option Addr) (n cap : Nat) (l : List Int) (g : Nat) (caps : Array Value) (f : Int → Bool) (w : World) (R) (hn : l.length = n) (hl : n ≤ maxLen) (h : IntsAt .i64 w p l)
    (hf : Pred g caps f w) (hR : ∀ w', Dr w w' → R (.returned (.bool (l.any f))) w') : Calls Try.prog 21 #[.slice p n cap, .func (.func g) #[] caps] w R := by
  have Hf := hide hf; clear hf
  have HR := hide hR; clear hR
  have Hn := hide hn; clear hn
  go_enter Try.func21, Try.ntmps21
  go_wp2_with fail
  refine indexFunc_c p n cap l g caps f w _ Hn.out hl h Hf.out fun r w' hw' hr h1 h2 => ?_
  obtain ⟨d, rfl⟩ := hw'
  unfold maxLen at hl
  have Hr := hide hr; clear hr h
  by_cases h0 : 0 ≤ r
  · have := HR.out _ (Dr.one w d)
    rw [Hr.out.1 h0] at this
    go_wp2_with fail
    exact this
  · have := HR.out _ (Dr.one w d)
    rw [show l.any f = false by rw [Bool.eq_false_iff]; exact fun h => h0 (Hr.out.2 h), ← decide_eq_false h0] at this
    go_wp2_with fail
    exact this

theorem pred_wrong (m : Int) (b : Nat) (w : World) (hm : 0 ≤ m) (hM : m ≤ 1000000000000) (hc : w.cell? ⟨b, 0, none⟩ = some (.int .i64 m)) : Pred 31 #[.pointer (some ⟨b, 0, none⟩)] (wrongB m) w := by
  refine ⟨fun args w' => by simp [go_sem], fun x w' R hd hR => ?_⟩
  obtain ⟨d, rfl⟩ := hd
  exact wrong_c x m b _ _ hm hM hc (hR _ (Dr.refl _))

end Go.Proofs.Ytkpnbglghindjaa
