import Derived.Test.YtkbdkkllfaljlaaC7
set_option linter.unusedVariables false
set_option linter.unusedSimpArgs false
namespace Go.Proofs.Ytkbdkkllfaljlaa
open Go.RowKit Go.Sort

/-- Candidates that lie in memory. -/
def CndsAt (w : World) (p : Option Addr) (l : List Cnd) : Prop :=
  0 < l.length → ∃ b o, p = some ⟨b, o, none⟩ ∧ ∀ i x, l[i]? = some x → w.cell? ⟨b, o + i * 3, none⟩ = some (.int .i64 (x.i : Int)) ∧ w.cell? ⟨b, o + i * 3 + 1, none⟩ = some (.int .i64 x.num) ∧ w.cell? ⟨b, o + i * 3 + 2, none⟩ = some (.int .i64 x.cost)
theorem CndsAt.keep {w w' : World} {p : Option Addr} {l : List Cnd} (hk : Keeps w w') (h : CndsAt w p l) : CndsAt w' p l := fun hl => by
  obtain ⟨b, o, hp, hc⟩ := h hl
  exact ⟨b, o, hp, fun i x hx => ⟨hk _ _ (hc i x hx).1, hk _ _ (hc i x hx).2.1, hk _ _ (hc i x hx).2.2⟩⟩
theorem CndsAt.at_ {w : World} {p : Option Addr} {l : List Cnd} (h : CndsAt w p l) {i : Nat} (hi : i < l.length) :
    ∃ b o x, p = some ⟨b, o, none⟩ ∧ l[i]? = some x ∧ w.cell? ⟨b, o + i * 3, none⟩ = some (.int .i64 (x.i : Int)) ∧ w.cell? ⟨b, o + i * 3 + 1, none⟩ = some (.int .i64 x.num) ∧ w.cell? ⟨b, o + i * 3 + 2, none⟩ = some (.int .i64 x.cost) := by
  obtain ⟨b, o, hp, hc⟩ := h (by omega)
  have hx : l[i]? = some l[i] := List.getElem?_eq_getElem hi
  exact ⟨b, o, l[i], hp, hx, hc i _ hx⟩
theorem CndsAt.nil {w : World} {p : Option Addr} : CndsAt w p [] := fun h => absurd h (by simp)
theorem CndsAt.of_flat {w : World} {g : Nat} {l : List Cnd} (h : ∀ j u, (l.flatMap Cnd.cells)[j]? = some u → w.cell? ⟨g, j, none⟩ = some u) : CndsAt w (some ⟨g, 0, none⟩) l := fun _ =>
  ⟨g, 0, rfl, fun i x hx => by
    have a := fun c hc => flat_at (enc := Cnd.cells) (k := 3) (fun _ => rfl) l i c x hx hc
    refine ⟨?_, ?_, ?_⟩
    · have := h _ _ (a 0 (by omega)); simpa [Cnd.c0] using this
    · have := h _ _ (a 1 (by omega)); simpa [Cnd.c1] using this
    · have := h _ _ (a 2 (by omega)); simpa [Cnd.c2] using this⟩
theorem CndsAt.lit {w : World} {t : TypeId} (l : List Cnd) : CndsAt (w.alloc (.cells (l.flatMap Cnd.cells).toArray t)) (some ⟨w.heap.size, 0, none⟩) l :=
  CndsAt.of_flat fun j u hu => by rw [cell_new]; simpa using hu
theorem CndsAt.of_own {w : World} {base : Nat} {p : Option Addr} {n cap : Nat} {l : List Cnd} (h : w.ownsRow base 47 3 (.slice p n cap) n (l.flatMap Cnd.cells)) : CndsAt w p l := fun hl => by
  have hn : l.length = n := by
    have h1 := h.1
    rw [flat_len (k := 3) (fun _ => rfl)] at h1
    omega
  rcases h.2 with ⟨hv, h0⟩ | ⟨g, cap', cur, hv, _, hh, _⟩
  · omega
  · injection hv with h1 h2 h3
    subst h1
    refine CndsAt.of_flat (fun j u hu => ?_) hl
    have := h.cells (g := g) rfl j u hu
    rw [Addr.add_lit] at this
    simpa using this

instance : DecidableEq Cnd := fun x y => match x, y with
  | ⟨a, b, c⟩, ⟨a', b', c'⟩ => if h : a = a' ∧ b = b' ∧ c = c' then isTrue (by obtain ⟨rfl, rfl, rfl⟩ := h; rfl) else isFalse (by intro h'; injection h' with h1 h2 h3; exact h ⟨h1, h2, h3⟩)
theorem run_neq_cnd (x y : Cnd) (w : World) : (binOp .neq 47 (.agg #[.int .i64 (x.i : Int), .int .i64 x.num, .int .i64 x.cost]) (.agg #[.int .i64 (y.i : Int), .int .i64 y.num, .int .i64 y.cost])).run Try.prog w = .ok (.bool (decide (x ≠ y))) w := by
  obtain ⟨x1, x2, x3⟩ := x
  obtain ⟨y1, y2, y3⟩ := y
  have e : ((x1 : Int) = (y1 : Int)) ↔ x1 = y1 := by omega
  by_cases h1 : x1 = y1 <;> by_cases h2 : x2 = y2 <;> by_cases h3 : x3 = y3 <;> simp [go_sem, e, h1, h2, h3]
set_option maxHeartbeats 400000 in
theorem same_c (p q : Option Addr) (n m cap cap' : Nat) (l l' : List Cnd) (w : World) (R) (hn : l.length = n) (hm : l'.length = m) (hl : n ≤ 1000000) (hl' : m ≤ 1000000) (h : CndsAt w p l) (h' : CndsAt w q l')
    (hR : ∀ w', Dr w w' → R (.returned (.bool (decide (l = l')))) w') : Calls Try.prog 18 #[.slice p n cap, .slice q m cap'] w R := by
  by_cases hnm : n = m
  · subst hnm
    have Hn := hide hn; clear hn
    have Hm := hide hm; clear hm
    have HR := hide hR; clear hR
    go_enter Try.func18, Try.ntmps18
    go_wp2
    go_loopw [5] (fun i wr => ∃ k d : Nat, k ≤ n ∧ i = .int .i64 k ∧ Hid (l.take k = l'.take k) ∧ wr = w.drewN d) (fun i _ => n - (intOf i).toNat)
    case atStart => exact ⟨0, 0, Nat.zero_le _, rfl, hide (by simp), rfl⟩
    case round =>
      obtain ⟨k, d, hk, rfl, ha, rfl⟩ := hrel
      by_cases hlt : k < n
      · obtain ⟨b, o, x, rfl, hx, hc1, hc2, hc3⟩ := h.at_ (i := k) (by rw [Hn.out]; exact hlt)
        obtain ⟨b', o', y, rfl, hy, hd1, hd2, hd3⟩ := h'.at_ (i := k) (by rw [Hm.out]; exact hlt)
        have Hx := hide hx; clear hx h
        have Hy := hide hy; clear hy h'
        have hq := run_neq_cnd x y
        by_cases hxy : x = y
        · subst hxy
          simp only [ne_eq, not_true_eq_false, decide_false] at hq
          go_wp2
          go_quiet (fail)
          go_wp2
          go_roundw
          case rel => exact ⟨k + 1, _, by omega, by go_num, hide (take_eq_succ _ _ _ _ Hx.out Hy.out ha.out), rfl⟩
          case measure => simp [intOf]; omega
        · rw [decide_eq_true hxy] at hq
          go_wp2
          go_quiet (fail)
          go_wp2
          have := HR.out
          rw [decide_eq_false (ne_of_at _ _ _ _ _ Hx.out Hy.out hxy)] at this
          exact this _ (by first | exact Dr.one _ _ | exact Dr.two _ _ _)
      · have he : l = l' := eq_of_take_all _ _ n Hn.out Hm.out (by rw [show n = k by omega]; exact ha.out)
        have He := hide he; clear he
        go_wp2
        have := HR.out
        rw [decide_eq_true He.out] at this
        exact this _ (by first | exact Dr.one _ _ | exact Dr.two _ _ _)
  · have hne : ¬ l = l' := by rintro rfl; omega
    rw [decide_eq_false hne] at hR
    have HR := hide hR; clear hR hne hn hm
    go_enter Try.func18, Try.ntmps18
    go_wp2
    exact HR.out _ (Dr.refl _)

def okT (t : ByteArray) : Bool := decide (t.size ≤ 60)
def okS (s : Sv) : Bool := okT s.name && okT s.code && okT s.town && decide (s.al.length ≤ 6) && s.al.all okT
def fewS (l : List Sv) : Bool := decide (l.length ≤ 12) && l.all okS
def shortA (a : Av) : Bool := okT a.person && okT a.street && okT a.code && okT a.town
theorem okS_iff (s : Sv) : okS s = true ↔ s.name.size ≤ 60 ∧ s.code.size ≤ 60 ∧ s.town.size ≤ 60 ∧ s.al.length ≤ 6 ∧ ∀ t ∈ s.al, t.size ≤ 60 := by
  unfold okS okT
  simp only [Bool.and_eq_true, decide_eq_true_eq, List.all_eq_true]
  constructor
  · rintro ⟨⟨⟨⟨h1, h2⟩, h3⟩, h4⟩, h5⟩; exact ⟨h1, h2, h3, h4, h5⟩
  · rintro ⟨h1, h2, h3, h4, h5⟩; exact ⟨⟨⟨⟨h1, h2⟩, h3⟩, h4⟩, h5⟩
theorem few_false {l : List Sv} {k : Nat} {x : Sv} (hx : l[k]? = some x) (h : ¬ (x.name.size ≤ 60 ∧ x.code.size ≤ 60 ∧ x.town.size ≤ 60 ∧ x.al.length ≤ 6 ∧ ∀ t ∈ x.al, t.size ≤ 60)) : fewS l = false := by
  unfold fewS
  rw [all_false_of _ _ _ _ hx (by rw [← Bool.not_eq_true]; exact fun h' => h ((okS_iff x).1 h'))]; simp

set_option maxHeartbeats 1000000 in
theorem few_c (p : Option Addr) (n cap : Nat) (l : List Sv) (w : World) (R) (hn : l.length = n) (hl : n ≤ maxLen) (h : StsAt w p l)
    (hR : R (.returned (.bool (fewS l))) w) : Calls Try.prog 12 #[.slice p n cap] w R := by
  unfold maxLen at hl
  have Hn := hide hn; have HR := hide hR
  clear hn hR
  by_cases h12 : n ≤ 12
  · have h12' : ¬ (12 : Int) < (n : Int) := by omega
    go_enter Try.func12, Try.ntmps12
    go_wp2
    go_loop [3] (fun i => ∃ k : Nat, k ≤ n ∧ i = .int .i64 k ∧ Hid ((l.take k).all okS = true)) (fun i => n - (intOf i).toNat)
    case atStart => exact ⟨0, Nat.zero_le _, rfl, hide (by simp)⟩
    case round =>
      obtain ⟨k, hk, rfl, ha⟩ := hrel
      by_cases hlt : k < n
      · obtain ⟨x, hx⟩ : ∃ x, l[k]? = some x := ⟨l[k]'(by rw [Hn.out]; exact hlt), List.getElem?_eq_getElem (by rw [Hn.out]; exact hlt)⟩
        obtain ⟨b, o, rfl, q0, q1, q2, q3, q4, q5, q6, q7, hal⟩ := h.at_ hx
        have HF := fun hbad => hide (few_false hx hbad)
        have Hx := hide hx
        have Hh := hide h
        clear hx h
        by_cases h1 : x.name.size ≤ 60
        · have h1' : ¬ (60 : Int) < (x.name.size : Int) := by omega
          by_cases h2 : x.code.size ≤ 60
          · have h2' : ¬ (60 : Int) < (x.code.size : Int) := by omega
            by_cases h3 : x.town.size ≤ 60
            · have h3' : ¬ (60 : Int) < (x.town.size : Int) := by omega
              by_cases h4 : x.al.length ≤ 6
              · have h4' : ¬ (6 : Int) < (x.al.length : Int) := by omega
                go_wp2
                go_loop [4] (fun i => ∃ j : Nat, j ≤ x.al.length ∧ i = .int .i64 j ∧ Hid ((x.al.take j).all okT = true)) (fun i => x.al.length - (intOf i).toNat)
                case atStart => exact ⟨0, Nat.zero_le _, rfl, hide (by simp)⟩
                case round =>
                  obtain ⟨j, hj, rfl, hb⟩ := hrel
                  by_cases hlj : j < x.al.length
                  · obtain ⟨b', o', y, hap, hy, hc⟩ := hal.at_ hlj
                    have Hy := hide hy
                    clear hy
                    rw [hap] at q3
                    by_cases hs : y.size ≤ 60
                    · have hs' : ¬ (60 : Int) < (y.size : Int) := by omega
                      have hb2 := hide (show (x.al.take (j + 1)).all okT = true by rw [all_take_succ _ _ _ _ Hy.out, hb.out]; simpa [okT] using hs)
                      go_wp2
                      go_round
                      case rel => exact ⟨j + 1, by omega, by go_num, hb2⟩
                      case measure => simp [intOf]; omega
                    · have hs' : (60 : Int) < (y.size : Int) := by omega
                      have HF1 := HF (fun ⟨_, _, _, _, h5⟩ => hs (h5 y (List.mem_of_getElem? Hy.out)))
                      have HR1 := hide HR.out
                      rw [HF1.out] at HR1
                      go_wp2
                      exact HR1.out
                  · have hb2 := hide (show (l.take (k + 1)).all okS = true by
                      rw [all_take_succ _ _ _ _ Hx.out, ha.out, Bool.true_and]
                      rw [okS_iff]
                      refine ⟨h1, h2, h3, h4, fun t ht => ?_⟩
                      have := hb.out
                      rw [List.take_of_length_le (by omega)] at this
                      simpa [okT] using List.all_eq_true.1 this t ht)
                    go_wp2
                    go_round
                    case rel => exact ⟨k + 1, by omega, by go_num, hb2⟩
                    case measure => simp [intOf]; omega
              · have h4' : (6 : Int) < (x.al.length : Int) := by omega
                have HF1 := HF (fun hb => h4 hb.2.2.2.1)
                have HR1 := hide HR.out
                rw [HF1.out] at HR1
                go_wp2
                exact HR1.out
            · have h3' : (60 : Int) < (x.town.size : Int) := by omega
              have HF1 := HF (fun hb => h3 hb.2.2.1)
              have HR1 := hide HR.out
              rw [HF1.out] at HR1
              go_wp2
              exact HR1.out
          · have h2' : (60 : Int) < (x.code.size : Int) := by omega
            have HF1 := HF (fun hb => h2 hb.2.1)
            have HR1 := hide HR.out
            rw [HF1.out] at HR1
            go_wp2
            exact HR1.out
        · have h1' : (60 : Int) < (x.name.size : Int) := by omega
          have HF1 := HF (fun hb => h1 hb.1)
          have HR1 := hide HR.out
          rw [HF1.out] at HR1
          go_wp2
          exact HR1.out
      · have HF := hide (show fewS l = true by
          unfold fewS
          have := ha.out
          rw [List.take_of_length_le (by rw [Hn.out]; omega)] at this
          rw [this, Hn.out, decide_eq_true h12]; rfl)
        have HR1 := hide HR.out
        rw [HF.out] at HR1
        go_wp2
        exact HR1.out
  · have h12' : (12 : Int) < (n : Int) := by omega
    have HF := hide (show fewS l = false by unfold fewS; rw [Hn.out, decide_eq_false h12]; rfl)
    have HR1 := hide HR.out
    rw [HF.out] at HR1
    go_enter Try.func12, Try.ntmps12
    go_wp2
    exact HR1.out

theorem okT_dec (t : ByteArray) : okT t = decide ((t.size : Int) ≤ 60) := by unfold okT; rw [decide_eq_decide]; omega
theorem short_c (a : Av) (w : World) (R) (hR : ∀ w', Below w.heap.size w w' → R (.returned (.bool (shortA a))) w') : Calls Try.prog 13 #[.agg a.cells.toArray] w R := by
  have HR := hide (hR _ (balloc (Below.refl w.heap.size w) (.cells a.cells.toArray 24))); clear hR
  unfold Av.cells at *
  have HR1 := HR.out
  unfold shortA at HR1
  rw [okT_dec, okT_dec, okT_dec, okT_dec] at HR1
  by_cases h1 : (a.person.size : Int) ≤ 60 <;> by_cases h2 : (a.street.size : Int) ≤ 60 <;> by_cases h3 : (a.code.size : Int) ≤ 60 <;> by_cases h4 : (a.town.size : Int) ≤ 60
  all_goals
    simp only [h1, h2, h3, h4, decide_true, decide_false, Bool.and_true, Bool.and_false, Bool.true_and, Bool.false_and] at HR1
    have HR2 := hide HR1
    clear HR1 HR
    go_enter Try.func13, Try.ntmps13
    go_wp2
    exact HR2.out
end Go.Proofs.Ytkbdkkllfaljlaa
