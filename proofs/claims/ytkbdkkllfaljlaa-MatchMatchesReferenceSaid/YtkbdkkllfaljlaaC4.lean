import Derived.Test.YtkbdkkllfaljlaaC3
set_option linter.unusedVariables false
set_option linter.unusedSimpArgs false
namespace Go.Proofs.Ytkbdkkllfaljlaa
open Go.RowKit Go.ChangeMaps

/-- Strings that lie in memory. -/
def StrsAt (w : World) (p : Option Addr) (l : List ByteArray) : Prop :=
  0 < l.length → ∃ b o, p = some ⟨b, o, none⟩ ∧ ∀ i x, l[i]? = some x → w.cell? ⟨b, o + i, none⟩ = some (.string x)
theorem StrsAt.keep {w w' : World} {p : Option Addr} {l : List ByteArray} (hk : Keeps w w') (h : StrsAt w p l) : StrsAt w' p l := fun hl => by
  obtain ⟨b, o, hp, hc⟩ := h hl
  exact ⟨b, o, hp, fun i x hx => hk _ _ (hc i x hx)⟩
theorem StrsAt.at_ {w : World} {p : Option Addr} {l : List ByteArray} (h : StrsAt w p l) {i : Nat} (hi : i < l.length) :
    ∃ b o x, p = some ⟨b, o, none⟩ ∧ l[i]? = some x ∧ w.cell? ⟨b, o + i, none⟩ = some (.string x) := by
  obtain ⟨b, o, hp, hc⟩ := h (by omega)
  exact ⟨b, o, l[i], hp, List.getElem?_eq_getElem hi, hc i _ (List.getElem?_eq_getElem hi)⟩
theorem StrsAt.nil {w : World} {p : Option Addr} : StrsAt w p [] := fun h => absurd h (by simp)
theorem StrsAt.lit {w : World} {t : TypeId} (l : List ByteArray) : StrsAt (w.alloc (.cells (l.map Value.string).toArray t)) (some ⟨w.heap.size, 0, none⟩) l := fun _ =>
  ⟨_, 0, rfl, fun i x hx => by rw [cell_new, Nat.zero_add, List.getElem?_toArray, List.getElem?_map, hx]; rfl⟩

def longB (t : ByteArray) : Bool := decide (200 < t.size)
theorem long1_c (t : ByteArray) (w : World) (R) (hR : R (.returned (.bool (longB t))) w) : Calls Try.prog 50 #[.string t] w R := by
  have HR := hide hR; clear hR
  go_enter Try.func50, Try.ntmps50
  go_wp2
  have h := HR.out
  unfold longB at h
  have e : decide ((200 : Int) < t.size) = decide (200 < t.size) := by rw [decide_eq_decide]; omega
  simpa [e] using h
/-- Where the first text that is too long stands. -/
def longIdx (l : List ByteArray) : Int := match l.findIdx? longB with | some i => i | none => -1
theorem index_c (p : Option Addr) (n cap : Nat) (l : List ByteArray) (w : World) (R) (hn : l.length = n) (hl : n ≤ maxLen) (h : StrsAt w p l) (hR : R (.returned (.int .i64 (longIdx l))) w) :
    Calls Try.prog 55 #[.slice p n cap, .func (.func 50) #[] #[]] w R := by
  unfold maxLen at hl
  have Hn := hide hn; have HR := hide hR
  clear hn hR
  go_enter Try.func55, Try.ntmps55
  go_wp2
  go_loop [8] (fun i => ∃ k : Nat, k ≤ n ∧ i = .int .i64 k ∧ Hid ((l.take k).any longB = false)) (fun i => n - (intOf i).toNat)
  case atStart => exact ⟨0, Nat.zero_le _, rfl, hide (by simp)⟩
  case round =>
    obtain ⟨k, hk, rfl, hany⟩ := hrel
    by_cases hlt : k < n
    · obtain ⟨b, o, y, rfl, hy, hc⟩ := h.at_ (i := k) (by rw [Hn.out]; exact hlt)
      have Hy := hide hy
      clear hy h
      cases hlg : longB y with
      | true =>
        have HR1 := hide (show R (.returned (.int .i64 (k : Int))) w by
          have h1 := HR.out
          have h2 : l.findIdx? longB = some k := by
            rw [List.findIdx?_eq_some_iff_getElem]
            refine ⟨(List.getElem?_eq_some_iff.1 Hy.out).1, by rw [(List.getElem?_eq_some_iff.1 Hy.out).2]; exact hlg, fun j hj => ?_⟩
            have h3 := hany.out
            rw [List.any_eq_false] at h3
            have hjl : j < l.length := by have := (List.getElem?_eq_some_iff.1 Hy.out).1; omega
            exact h3 _ (List.mem_take_iff_getElem.2 ⟨j, by omega, rfl⟩)
          unfold longIdx at h1
          rw [h2] at h1; exact h1)
        go_wp2_with (go_at_call 50; refine long1_c _ _ _ ?_; rw [hlg])
        exact HR1.out
      | false =>
        have hany2 := hide (show (l.take (k + 1)).any longB = false by
          rw [List.take_add_one, Hy.out, List.any_append, hany.out]; simp [hlg])
        go_wp2_with (go_at_call 50; refine long1_c _ _ _ ?_; rw [hlg])
        go_round
        case rel => exact ⟨k + 1, by omega, by go_num, hany2⟩
        case measure => simp [intOf]; omega
    · have hkn : l.take k = l := List.take_of_length_le (by rw [Hn.out]; omega)
      have HR1 := hide (show R (.returned (.int .i64 (-1))) w by
        have h1 := HR.out
        have h2 : l.findIdx? longB = none := by
          rw [List.findIdx?_eq_none_iff]
          have h3 := hany.out
          rw [hkn, List.any_eq_false] at h3
          intro x hx; simpa using h3 x hx
        unfold longIdx at h1
        rw [h2] at h1; exact h1)
      clear hkn hany
      go_wp2
      exact HR1.out
theorem longIdx_any (l : List ByteArray) : decide ((0 : Int) ≤ longIdx l) = l.any longB := by
  unfold longIdx
  cases h : l.findIdx? longB with
  | none =>
    rw [List.findIdx?_eq_none_iff] at h
    have : l.any longB = false := by rw [List.any_eq_false]; intro x hx; simp [h x hx]
    rw [this]; decide
  | some i =>
    rw [List.findIdx?_eq_some_iff_getElem] at h
    obtain ⟨h1, h2, _⟩ := h
    have : l.any longB = true := List.any_eq_true.2 ⟨_, List.getElem_mem h1, h2⟩
    rw [this]; simp
theorem contains_c (p : Option Addr) (n cap : Nat) (l : List ByteArray) (w : World) (R) (hn : l.length = n) (hl : n ≤ maxLen) (h : StrsAt w p l) (hR : R (.returned (.bool (l.any longB))) w) :
    Calls Try.prog 49 #[.slice p n cap, .func (.func 50) #[] #[]] w R := by
  have HR := hide hR; clear hR
  have e := longIdx_any l
  go_enter Try.func49, Try.ntmps49
  go_wp2_with (go_at_call 55; refine index_c _ _ _ _ _ _ hn hl h ?_)
  first
    | exact HR.out
    | (have h1 := HR.out; rw [← e] at h1; exact h1)
theorem tooLong_c (p : Option Addr) (n cap : Nat) (l : List ByteArray) (w : World) (R) (hn : l.length = n) (hl : n ≤ maxLen) (h : StrsAt w p l) (hR : R (.returned (.bool (l.any longB))) w) :
    Calls Try.prog 43 #[.slice p n cap] w R := by
  have HR := hide hR; clear hR
  go_enter Try.func43, Try.ntmps43
  go_wp2_with (go_at_call 49; refine contains_c _ _ _ _ _ _ hn hl h ?_)
  exact HR.out
end Go.Proofs.Ytkbdkkllfaljlaa
