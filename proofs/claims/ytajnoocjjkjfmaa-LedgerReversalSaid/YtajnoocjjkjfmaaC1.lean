import Derived.Test.YtajnoocjjkjfmaaChecked
import Derived.Test.YtajnoocjjkjfmaaSrt
import Derived.IntWalk
set_option linter.unusedVariables false
set_option linter.unusedSimpArgs false
namespace Go.Proofs.Ytajnoocjjkjfmaa
open Go.RowKit Go.Sort

def inB (x lo hi : Int) : Bool := decide (lo ≤ x) && decide (x ≤ hi)
theorem inB_true {x lo hi : Int} (h : inB x lo hi = true) : lo ≤ x ∧ x ≤ hi := by unfold inB at h; simpa using h
theorem inB_false {x lo hi : Int} (h : inB x lo hi = false) : x < lo ∨ hi < x := by unfold inB at h; simp at h; omega
theorem inB_mk {x lo hi : Int} (h : lo ≤ x ∧ x ≤ hi) : inB x lo hi = true := by unfold inB; simpa using h
theorem within_c (x lo hi : Int) (w : World) (R) (hR : R (.returned (.bool (inB x lo hi))) w) : Calls Try.prog 24 #[.int .i64 x, .int .i64 lo, .int .i64 hi] w R := by
  unfold inB at hR
  by_cases h : lo ≤ x
  · rw [decide_eq_true h, Bool.true_and] at hR
    go_enter Try.func24, Try.ntmps24
    go_wp2
    exact hR
  · rw [decide_eq_false h, Bool.false_and] at hR
    go_enter Try.func24, Try.ntmps24
    go_wp2
    exact hR
theorem between_c (x lo hi : Int) (w : World) (R) (hR : R (.returned (.bool (inB x lo hi))) w) : Calls Try.prog 25 #[.int .i64 x, .int .i64 lo, .int .i64 hi] w R := by
  unfold inB at hR
  by_cases h : lo ≤ x
  · rw [decide_eq_true h, Bool.true_and] at hR
    go_enter Try.func25, Try.ntmps25
    go_wp2
    exact hR
  · rw [decide_eq_false h, Bool.false_and] at hR
    go_enter Try.func25, Try.ntmps25
    go_wp2
    exact hR
theorem most_c (w : World) (R) (hR : R (.returned (.int .i64 1000000000)) w) : Calls Try.prog 29 #[] w R := by
  go_enter Try.func29, Try.ntmps29
  go_wp2
  exact hR

def cmpI (a b : Int) : Int := if a < b then -1 else if b < a then 1 else 0
theorem cmpI_lt {a b : Int} (h : a < b) : cmpI a b = -1 := if_pos h
theorem cmpI_gt {a b : Int} (h : b < a) : cmpI a b = 1 := by unfold cmpI; rw [if_neg (by omega), if_pos h]
theorem cmpI_eq (a : Int) : cmpI a a = 0 := by unfold cmpI; rw [if_neg (by omega), if_neg (by omega)]
theorem isNaN_c (x : Int) (w : World) (R) (hR : R (.returned (.bool false)) w) : Calls Try.prog 35 #[.int .i64 x] w R := by
  go_enter Try.func35, Try.ntmps35
  go_wp2
  simpa using hR
theorem compare_c (a b : Int) (w : World) (R) (hR : R (.returned (.int .i64 (cmpI a b))) w) : Calls Try.prog 28 #[.int .i64 a, .int .i64 b] w R := by
  rcases Int.lt_trichotomy a b with h | h | h
  · rw [cmpI_lt h] at hR
    go_enter Try.func28, Try.ntmps28
    go_wp2_with (go_at_call 35; refine isNaN_c _ _ _ ?_)
    exact hR
  · subst h
    rw [cmpI_eq] at hR
    go_enter Try.func28, Try.ntmps28
    go_wp2_with (go_at_call 35; refine isNaN_c _ _ _ ?_)
    exact hR
  · rw [cmpI_gt h] at hR
    go_enter Try.func28, Try.ntmps28
    go_wp2_with (go_at_call 35; refine isNaN_c _ _ _ ?_)
    exact hR
theorem back_c (i x j y : Int) (w : World) (R) (hR : R (.returned (.int .i64 (cmpI y x))) ((w.alloc (.cells #[.int .i64 i, .int .i64 x] 49)).alloc (.cells #[.int .i64 j, .int .i64 y] 49))) :
    Calls Try.prog 27 #[.agg #[.int .i64 i, .int .i64 x], .agg #[.int .i64 j, .int .i64 y]] w R := by
  go_enter Try.func27, Try.ntmps27
  go_wp2_with (go_at_call 28; refine compare_c _ _ _ _ ?_)
  exact hR

/-- Numbers whose sizes are at most M. -/
def Bd (M : Int) (l : List Int) : Prop := ∀ x ∈ l, -M ≤ x ∧ x ≤ M
theorem sum_bd {M : Int} {l : List Int} (h : Bd M l) : -(M * (l.length : Int)) ≤ l.sum ∧ l.sum ≤ M * (l.length : Int) := by
  induction l with
  | nil => simp
  | cons x l ih =>
    have h1 := h x (by simp)
    have h2 := ih (fun y hy => h y (by simp [hy]))
    rw [List.sum_cons, List.length_cons, Int.natCast_add, Int.mul_add]
    simp
    omega
theorem ints_oneCell (k : IntKind) (l : List Int) : ∀ u ∈ l.map (Value.int k), u.oneCell' = true := by
  intro u hu
  obtain ⟨x, _, rfl⟩ := List.mem_map.1 hu
  rfl
theorem sum_c (p : Option Addr) (n cap : Nat) (l : List Int) (w : World) (R) (hn : l.length = n) (hl : n ≤ 2000) (h : IntsAt .i64 w p l) (hbd : Bd 1000000000000000 l)
    (hR : R (.returned (.int .i64 l.sum)) w) : Calls Try.prog 23 #[.slice p n cap] w R := by
  have Hn := hide hn; have Hbd := hide hbd; have HR := hide hR
  clear hn hbd hR
  go_enter Try.func23, Try.ntmps23
  go_wp2
  go_loop [3, 4] (fun t i => ∃ k : Nat, k ≤ n ∧ i = .int .i64 k ∧ t = .int .i64 (l.take k).sum) (fun _ i => n - (intOf i).toNat)
  case atStart => exact ⟨0, Nat.zero_le _, rfl, rfl⟩
  case round =>
    obtain ⟨k, hk, rfl, rfl⟩ := hrel
    have hb := sum_bd (M := 1000000000000000) (l := l.take k) (fun x hx => Hbd.out x (List.mem_of_mem_take hx))
    have hlk : (l.take k).length ≤ k := List.length_take_le _ _
    generalize hsk : (l.take k).sum = sk at *
    have Hsk := hide hsk; clear hsk
    by_cases hlt : k < n
    · obtain ⟨b, o, x, rfl, hx, hc⟩ := h.at_ (i := k) (by rw [Hn.out]; exact hlt)
      have hxb := Hbd.out x (List.mem_of_getElem? hx)
      have Hx := hide hx; clear hx h
      go_wp2
      go_round
      case rel => exact ⟨k + 1, by omega, by go_num, by rw [List.take_add_one, List.sum_append_int, Hx.out, Hsk.out]; simp⟩
      case measure => simp [intOf]; omega
    · have hkn : l.take k = l := List.take_of_length_le (by rw [Hn.out]; omega)
      have HS := hide (show l.sum = sk by rw [← hkn]; exact Hsk.out)
      have HR1 := hide HR.out
      rw [HS.out] at HR1
      clear hkn Hsk
      go_wp2
      exact HR1.out

set_option maxHeartbeats 400000 in
theorem ints_c (p q : Option Addr) (n m cap cap' : Nat) (l l' : List Int) (w : World) (R) (hn : l.length = n) (hm : l'.length = m) (hl : n ≤ maxLen) (hl' : m ≤ maxLen) (h : IntsAt .i64 w p l) (h' : IntsAt .i64 w q l')
    (hR : ∀ w', Dr w w' → R (.returned (.bool (decide (l = l')))) w') : Calls Try.prog 21 #[.slice p n cap, .slice q m cap'] w R := by
  unfold maxLen at hl hl'
  by_cases hnm : n = m
  · subst hnm
    have Hn := hide hn; clear hn
    have Hm := hide hm; clear hm
    have HR := hide hR; clear hR
    go_enter Try.func21, Try.ntmps21
    go_wp2
    go_loopw [5] (fun i wr => ∃ k d : Nat, k ≤ n ∧ i = .int .i64 k ∧ Hid (l.take k = l'.take k) ∧ wr = w.drewN d) (fun i _ => n - (intOf i).toNat)
    case atStart => exact ⟨0, 0, Nat.zero_le _, rfl, hide (by simp), rfl⟩
    case round =>
      obtain ⟨k, d, hk, rfl, ha, rfl⟩ := hrel
      by_cases hlt : k < n
      · obtain ⟨b, o, x, rfl, hx, hc⟩ := h.at_ (i := k) (by rw [Hn.out]; exact hlt)
        obtain ⟨b', o', y, rfl, hy, hc'⟩ := h'.at_ (i := k) (by rw [Hm.out]; exact hlt)
        have Hx := hide hx; clear hx h
        have Hy := hide hy; clear hy h'
        go_wp2
        go_quiet (fail)
        by_cases hxy : x = y
        · subst hxy
          go_wp2
          go_roundw
          case rel => exact ⟨k + 1, _, by omega, by go_num, hide (take_eq_succ _ _ _ _ Hx.out Hy.out ha.out), rfl⟩
          case measure => simp [intOf]; omega
        · go_wp2
          have := HR.out
          rw [decide_eq_false (ne_of_at _ _ _ _ _ Hx.out Hy.out hxy)] at this
          exact this _ (by first | exact Dr.one _ _ | exact Dr.two _ _ _)
      · have he : l = l' := eq_of_take_all _ _ n Hn.out Hm.out (by rw [show n = k by omega]; exact ha.out)
        have He := hide he; clear he
        go_wp2
        have := HR.out
        rw [decide_eq_true He.out] at this
        exact this _ (by first | exact Dr.one _ _ | exact Dr.two _ _ _)
  · have hne : ¬ l = l' := by rintro rfl; omega
    rw [decide_eq_false hne] at hR
    have HR := hide hR; clear hR hne hn hm
    go_enter Try.func21, Try.ntmps21
    go_wp2
    exact HR.out _ (Dr.refl _)
theorem Try.info3 : (Try.prog.info? 3).map (fun i => (i.zero, i.size, i.bytes)) = some (some (.int .i64 0), 1, 8) := by kernel_rfl
theorem Try.info49 : (Try.prog.info? 49).map (fun i => (i.zero, i.size, i.bytes)) = some (some (.agg #[.int .i64 0, .int .i64 0]), 2, 16) := by kernel_rfl
theorem Try.info34 : (Try.prog.info? 34).map (fun i => (i.zero, i.size, i.bytes)) = some (some (.agg #[.int .i64 0, .int .i64 0, .int .i64 0, .string ⟨#[]⟩]), 4, 40) := by kernel_rfl
end Go.Proofs.Ytajnoocjjkjfmaa
