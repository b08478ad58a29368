import Derived.Test.YtjaecoebleijmaaC1
import Derived.IntWalk
set_option linter.unusedVariables false
set_option linter.unusedSimpArgs false
namespace Go.Proofs.Ytjaecoebleijmaa
open Go.RowKit

/-- Numbers from 0 to M. -/
def Bd (M : Int) (l : List Int) : Prop := ∀ x ∈ l, 0 ≤ x ∧ x ≤ M
theorem sum_bd {M : Int} (hM : 0 ≤ M) {l : List Int} (h : Bd M l) : 0 ≤ l.sum ∧ l.sum ≤ M * (l.length : Int) := by
  induction l with
  | nil => simp
  | cons x l ih =>
    have h1 := h x (by simp)
    have h2 := ih (fun y hy => h y (by simp [hy]))
    rw [List.sum_cons, List.length_cons, Int.natCast_add, Int.mul_add]
    simp
    omega
theorem sum_take_bd {l : List Int} (h : Bd 1000000 l) (k : Nat) : 0 ≤ (l.take k).sum ∧ (l.take k).sum ≤ 1000000 * (k : Int) := by
  have := sum_bd (by omega) (l := l.take k) (fun x hx => h x (List.mem_of_mem_take hx))
  have hk : (l.take k).length ≤ k := List.length_take_le _ _
  omega
theorem ints_oneCell (k : IntKind) (l : List Int) : ∀ u ∈ l.map (Value.int k), u.oneCell' = true := by
  intro u hu
  obtain ⟨x, _, rfl⟩ := List.mem_map.1 hu
  rfl

theorem total_c (p : Option Addr) (n cap : Nat) (l : List Int) (w : World) (R) (hn : l.length = n) (hl : n ≤ 3000) (h : IntsAt .i64 w p l) (hbd : Bd 1000000 l)
    (hR : R (.returned (.int .i64 l.sum)) w) : Calls Try.prog 19 #[.slice p n cap] w R := by
  have Hn := hide hn; have Hbd := hide hbd; have HR := hide hR
  clear hn hbd hR
  go_enter Try.func19, Try.ntmps19
  go_wp2
  go_loop [3, 4] (fun t i => ∃ k : Nat, k ≤ n ∧ i = .int .i64 k ∧ t = .int .i64 (l.take k).sum) (fun _ i => n - (intOf i).toNat)
  case atStart => exact ⟨0, Nat.zero_le _, rfl, rfl⟩
  case round =>
    obtain ⟨k, hk, rfl, rfl⟩ := hrel
    have hb := sum_take_bd Hbd.out k
    generalize hsk : (l.take k).sum = sk at *
    have Hsk := hide hsk; clear hsk
    by_cases hlt : k < n
    · obtain ⟨b, o, x, rfl, hx, hc⟩ := h.at_ (i := k) (by rw [Hn.out]; exact hlt)
      have hxb := Hbd.out x (List.mem_of_getElem? hx)
      have Hx := hide hx; clear hx h
      go_wp2
      go_round
      case rel => exact ⟨k + 1, by omega, by go_num, by rw [List.take_add_one, List.sum_append_int, Hx.out, Hsk.out]; simp⟩
      case measure => simp [intOf]; omega
    · have hkn : l.take k = l := List.take_of_length_le (by rw [Hn.out]; omega)
      have HS := hide (show l.sum = sk by rw [← hkn]; exact Hsk.out)
      have HR1 := hide HR.out
      rw [HS.out] at HR1
      clear hkn Hsk
      go_wp2
      exact HR1.out

theorem sum_c (p : Option Addr) (n cap : Nat) (l : List Int) (w : World) (R) (hn : l.length = n) (hl : n ≤ 3000) (h : IntsAt .i64 w p l) (hbd : Bd 1000000 l)
    (hR : R (.returned (.int .i64 l.sum)) w) : Calls Try.prog 27 #[.slice p n cap] w R := by
  have Hn := hide hn; have Hbd := hide hbd; have HR := hide hR
  clear hn hbd hR
  go_enter Try.func27, Try.ntmps27
  go_wp2
  go_loop [3, 8] (fun t i => ∃ k : Nat, k ≤ n ∧ i = .int .i64 k ∧ t = .int .i64 (l.take k).sum) (fun _ i => n - (intOf i).toNat)
  case atStart => exact ⟨0, Nat.zero_le _, rfl, rfl⟩
  case round =>
    obtain ⟨k, hk, rfl, rfl⟩ := hrel
    have hb := sum_take_bd Hbd.out k
    generalize hsk : (l.take k).sum = sk at *
    have Hsk := hide hsk; clear hsk
    by_cases hlt : k < n
    · obtain ⟨b, o, x, rfl, hx, hc⟩ := h.at_ (i := k) (by rw [Hn.out]; exact hlt)
      have hxb := Hbd.out x (List.mem_of_getElem? hx)
      have Hx := hide hx; clear hx h
      go_wp2
      go_round
      case rel => exact ⟨k + 1, by omega, by go_num, by rw [List.take_add_one, List.sum_append_int, Hx.out, Hsk.out]; simp⟩
      case measure => simp [intOf]; omega
    · have hkn : l.take k = l := List.take_of_length_le (by rw [Hn.out]; omega)
      have HS := hide (show l.sum = sk by rw [← hkn]; exact Hsk.out)
      have HR1 := hide HR.out
      rw [HS.out] at HR1
      clear hkn Hsk
      go_wp2
      exact HR1.out

set_option maxHeartbeats 400000 in
theorem ints_c (p q : Option Addr) (n m cap cap' : Nat) (l l' : List Int) (w : World) (R) (hn : l.length = n) (hm : l'.length = m) (hl : n ≤ maxLen) (hl' : m ≤ maxLen) (h : IntsAt .i64 w p l) (h' : IntsAt .i64 w q l')
    (hR : ∀ w', Dr w w' → R (.returned (.bool (decide (l = l')))) w') : Calls Try.prog 14 #[.slice p n cap, .slice q m cap'] w R := by
  unfold maxLen at hl hl'
  by_cases hnm : n = m
  · subst hnm
    have Hn := hide hn; clear hn
    have Hm := hide hm; clear hm
    have HR := hide hR; clear hR
    go_enter Try.func14, Try.ntmps14
    go_wp2
    go_loopw [5] (fun i wr => ∃ k d : Nat, k ≤ n ∧ i = .int .i64 k ∧ Hid (l.take k = l'.take k) ∧ wr = w.drewN d) (fun i _ => n - (intOf i).toNat)
    case atStart => exact ⟨0, 0, Nat.zero_le _, rfl, hide (by simp), rfl⟩
    case round =>
      obtain ⟨k, d, hk, rfl, ha, rfl⟩ := hrel
      by_cases hlt : k < n
      · obtain ⟨b, o, x, rfl, hx, hc⟩ := h.at_ (i := k) (by rw [Hn.out]; exact hlt)
        obtain ⟨b', o', y, rfl, hy, hc'⟩ := h'.at_ (i := k) (by rw [Hm.out]; exact hlt)
        have Hx := hide hx; clear hx h
        have Hy := hide hy; clear hy h'
        go_wp2
        go_quiet (fail)
        by_cases hxy : x = y
        · subst hxy
          go_wp2
          go_roundw
          case rel => exact ⟨k + 1, _, by omega, by go_num, hide (take_eq_succ _ _ _ _ Hx.out Hy.out ha.out), rfl⟩
          case measure => simp [intOf]; omega
        · go_wp2
          have := HR.out
          rw [decide_eq_false (ne_of_at _ _ _ _ _ Hx.out Hy.out hxy)] at this
          exact this _ (by first | exact Dr.one _ _ | exact Dr.two _ _ _)
      · have he : l = l' := eq_of_take_all _ _ n Hn.out Hm.out (by rw [show n = k by omega]; exact ha.out)
        have He := hide he; clear he
        go_wp2
        have := HR.out
        rw [decide_eq_true He.out] at this
        exact this _ (by first | exact Dr.one _ _ | exact Dr.two _ _ _)
  · have hne : ¬ l = l' := by rintro rfl; omega
    rw [decide_eq_false hne] at hR
    have HR := hide hR; clear hR hne hn hm
    go_enter Try.func14, Try.ntmps14
    go_wp2
    exact HR.out _ (Dr.refl _)

def wrongB (m x : Int) : Bool := decide (x < 0) || decide (m < x)
theorem wrong_c (x m : Int) (b : Nat) (w : World) (R) (hc : w.cell? ⟨b, 0, none⟩ = some (.int .i64 m))
    (hR : R (.returned (.bool (wrongB m x))) w) : Calls Try.prog 25 #[.int .i64 x, .pointer (some ⟨b, 0, none⟩)] w R := by
  unfold wrongB at hR
  by_cases h : x < 0
  · rw [decide_eq_true h, Bool.true_or] at hR
    go_enter Try.func25, Try.ntmps25
    go_wp2
    exact hR
  · rw [decide_eq_false h, Bool.false_or] at hR
    go_enter Try.func25, Try.ntmps25
    go_wp2
    exact hR

/-- A function value that answers a Bool of an int and only draws. -/
def Pred (g : Nat) (caps : Array Value) (f : Int → Bool) (w : World) : Prop :=
  (∀ args w', (callFunc g args).run Try.prog w' = .ok (.enter g args) w') ∧ ∀ x w' R, Dr w w' → (∀ w'', Dr w' w'' → R (.returned (.bool (f x))) w'') → Calls Try.prog g (#[.int .i64 x] ++ caps) w' R

set_option maxHeartbeats 400000 in
theorem indexFunc_c (p : Option Addr) (n cap : Nat) (l : List Int) (g : Nat) (caps : Array Value) (f : Int → Bool) (w : World) (R) (hn : l.length = n) (hl : n ≤ maxLen) (h : IntsAt .i64 w p l)
    (hf : Pred g caps f w) (hR : ∀ (r : Int) w', Dr w w' → (0 ≤ r ↔ l.any f = true) → -1 ≤ r → r ≤ n → R (.returned (.int .i64 r)) w') : Calls Try.prog 31 #[.slice p n cap, .func (.func g) #[] caps] w R := by
  unfold maxLen at hl
  have Hn := hide hn; clear hn
  have HR := hide hR; clear hR
  have Hf := hide hf; clear hf
  go_enter Try.func31, Try.ntmps31
  go_wp2
  go_loopw [8] (fun i wr => ∃ k d : Nat, k ≤ n ∧ i = .int .i64 k ∧ Hid ((l.take k).any f = false) ∧ wr = w.drewN d) (fun i _ => n - (intOf i).toNat)
  case atStart => exact ⟨0, 0, Nat.zero_le _, rfl, hide (by simp), rfl⟩
  case round =>
    obtain ⟨k, d, hk, rfl, ha, rfl⟩ := hrel
    by_cases hlt : k < n
    · obtain ⟨b, o, x, rfl, hx, hc⟩ := h.at_ (i := k) (by rw [Hn.out]; exact hlt)
      have Hx := hide hx; clear hx h
      have he := Hf.out.1
      go_wp2_with fail
      clear he
      refine Hf.out.2 x _ _ (Dr.one _ _) fun w'' hw'' => ?_
      obtain ⟨e, rfl⟩ := hw''
      cases hfx : f x
      · have HF := hide hfx; clear hfx
        go_wp2_with fail
        go_roundw
        case rel => exact ⟨k + 1, _, by omega, by go_num, hide (by rw [List.take_add_one, Hx.out]; simp only [Option.toList, List.any_append, ha.out, List.any_cons, List.any_nil, HF.out, Bool.or_false]), rfl⟩
        case measure => simp [intOf]; omega
      · have HF := hide hfx; clear hfx
        go_wp2_with fail
        exact HR.out _ _ (by first | exact Dr.one _ _ | exact Dr.two _ _ _) ⟨fun _ => List.any_eq_true.2 ⟨x, List.mem_of_getElem? Hx.out, HF.out⟩, fun _ => by omega⟩ (by omega) (by omega)
    · have hkn : l.take k = l := List.take_of_length_le (by rw [Hn.out]; omega)
      rw [hkn] at ha
      clear hkn
      go_wp2_with fail
      refine HR.out (-1) _ (by first | exact Dr.one _ _ | exact Dr.two _ _ _) ⟨fun h => by omega, fun h => ?_⟩ (by omega) (by omega)
      rw [ha.out] at h; cases h

theorem containsFunc_c (p : Option Addr) (n cap : Nat) (l : List Int) (g : Nat) (caps : Array Value) (f : Int → Bool) (w : World) (R) (hn : l.length = n) (hl : n ≤ maxLen) (h : IntsAt .i64 w p l)
    (hf : Pred g caps f w) (hR : ∀ w', Dr w w' → R (.returned (.bool (l.any f))) w') : Calls Try.prog 26 #[.slice p n cap, .func (.func g) #[] caps] w R := by
  have Hf := hide hf; clear hf
  have HR := hide hR; clear hR
  have Hn := hide hn; clear hn
  go_enter Try.func26, Try.ntmps26
  go_wp2_with fail
  refine indexFunc_c p n cap l g caps f w _ Hn.out hl h Hf.out fun r w' hw' hr h1 h2 => ?_
  obtain ⟨d, rfl⟩ := hw'
  unfold maxLen at hl
  have Hr := hide hr; clear hr h
  by_cases h0 : 0 ≤ r
  · have := HR.out _ (Dr.one w d)
    rw [Hr.out.1 h0] at this
    go_wp2_with fail
    exact this
  · have := HR.out _ (Dr.one w d)
    rw [show l.any f = false by rw [Bool.eq_false_iff]; exact fun h => h0 (Hr.out.2 h), ← decide_eq_false h0] at this
    go_wp2_with fail
    exact this

theorem pred_wrong (m : Int) (b : Nat) (w : World) (hc : w.cell? ⟨b, 0, none⟩ = some (.int .i64 m)) : Pred 25 #[.pointer (some ⟨b, 0, none⟩)] (wrongB m) w := by
  refine ⟨fun args w' => by simp [go_sem], fun x w' R hd hR => ?_⟩
  obtain ⟨d, rfl⟩ := hd
  exact wrong_c x m b _ _ hc (hR _ (Dr.refl _))

theorem fine_c (n step first : Int) (w : World) (R) (hR : R (.returned (.bool (decide (n ≤ 500) && validB n step first))) w) : Calls Try.prog 15 #[.int .i64 n, .int .i64 step, .int .i64 first] w R := by
  by_cases h : n ≤ 500
  · rw [decide_eq_true h, Bool.true_and] at hR
    go_enter Try.func15, Try.ntmps15
    go_wp2_with (go_at_call 23; refine valid_c _ _ _ _ _ ?_)
    exact hR
  · rw [decide_eq_false h, Bool.false_and] at hR
    go_enter Try.func15, Try.ntmps15
    go_wp2
    exact hR
theorem Try.info3' : (Try.prog.info? 3).map (fun i => (i.zero, i.size, i.bytes)) = some (some (.int .i64 0), 1, 8) := by kernel_rfl
end Go.Proofs.Ytjaecoebleijmaa
