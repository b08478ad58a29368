import Derived.Test.YtkpnbglghindjaaC1
set_option linter.unusedVariables false
set_option linter.unusedSimpArgs false
namespace Go.Proofs.Ytkpnbglghindjaa
open Go.RowKit Math

/-- A function value that compares two ints. -/
def CmpF (g : Nat) (caps : Array Value) (f : Int → Int → Int) (w : World) : Prop :=
  (∀ args w', (callFunc g args).run Try.prog w' = .ok (.enter g args) w') ∧ ∀ x y n, Calls Try.prog g (#[.int .i64 x, .int .i64 y] ++ caps) (w.drewN n) fun e w'' => e = .returned (.int .i64 (f x y)) ∧ ∃ m, w'' = w.drewN m

theorem cmpF_compare (w : World) : CmpF 25 #[] cmpI w := ⟨fun args w' => by simp [go_sem], fun x y n => compare_c x y _ _ ⟨rfl, n, rfl⟩⟩
theorem cmpF_back (w : World) : CmpF 26 #[] (fun a b => cmpI b a) w := ⟨fun args w' => by simp [go_sem], fun x y n => back_c x y _ _ ⟨rfl, n, rfl⟩⟩

theorem getD_of {l : List Int} {k : Nat} {x : Int} (h : l[k]? = some x) : l.getD k 0 = x := by rw [List.getD_eq_getElem?_getD, h]; rfl

set_option maxHeartbeats 400000 in
theorem first_c (p : Option Addr) (n cap : Nat) (l : List Int) (g : Nat) (caps : Array Value) (f : Int → Int → Int) (w : World) (R) (hn : l.length = n) (hl : n ≤ maxLen) (h : IntsAt .i64 w p l)
    (hf : ∀ w', Dr w w' → CmpF g caps f w') (hR : ∀ w', Dr w w' → R (.returned (.int .i64 (best (fun a b => decide (f a b < 0)) l n))) w') : Calls Try.prog 24 #[.slice p n cap, .func (.func g) #[] caps] w R := by
  unfold maxLen at hl
  have Hn := hide hn; clear hn
  have HR := hide hR; clear hR
  have Hf := hide hf; clear hf
  go_enter Try.func24, Try.ntmps24
  go_wp2
  go_loopw [5, 9] (fun b i wr => ∃ k d c : Nat, k ≤ n ∧ i = .int .i64 k ∧ b = .int .i64 c ∧ c ≤ k ∧ Hid (best (fun a b => decide (f a b < 0)) l k = c) ∧ wr = w.drewN d) (fun _ i _ => n - (intOf i).toNat)
  case atStart => exact ⟨0, 0, 0, Nat.zero_le _, rfl, rfl, Nat.le_refl _, hide rfl, rfl⟩
  case round =>
    obtain ⟨k, d, c, hk, rfl, rfl, hck, ha, rfl⟩ := hrel
    by_cases hlt : k < n
    · have hcn : c < n := by omega
      obtain ⟨b, o, x, rfl, hx, hc⟩ := h.at_ (i := k) (by rw [Hn.out]; exact hlt)
      obtain ⟨b', o', y, hbo, hy, hc'⟩ := h.at_ (i := c) (by rw [Hn.out]; exact hcn)
      injection hbo with hbo
      injection hbo with h1 h2
      subst h1; subst h2
      have Hx := hide (getD_of hx); clear hx h
      have Hy := hide (getD_of hy); clear hy
      have Hc := hide (Hf.out _ (Dr.one w d))
      have he := Hc.out.1
      have Hw := hide (Dr.one w d)
      replace hc : (w.drewN d).cell? _ = _ := hc
      replace hc' : (w.drewN d).cell? _ = _ := hc'
      generalize w.drewN d = w1 at *
      by_cases hxy : f x y < 0
      · have Hxy := hide hxy
        go_wp2_with fail
        go_quiet (exact Hc.out.2 _ _ _)
        clear he
        go_wp2_with fail
        go_roundw
        case rel =>
          obtain ⟨d', rfl⟩ := Hw.out
          refine ⟨k + 1, _, k, by omega, by go_num, rfl, by omega, hide ?_, World.drewN_drewN ..⟩
          unfold best
          rw [ha.out, Hx.out, Hy.out, decide_eq_true Hxy.out, if_pos rfl]
        case measure => simp [intOf]; omega
      · have Hxy := hide hxy
        go_wp2_with fail
        go_quiet (exact Hc.out.2 _ _ _)
        clear he
        go_wp2_with fail
        go_roundw
        case rel =>
          obtain ⟨d', rfl⟩ := Hw.out
          refine ⟨k + 1, _, c, by omega, by go_num, rfl, by omega, hide ?_, World.drewN_drewN ..⟩
          unfold best
          rw [ha.out, Hx.out, Hy.out, decide_eq_false (show ¬ f x y < 0 by have := Hxy.out; omega), if_neg (by simp)]
        case measure => simp [intOf]; omega
    · have hkn : n = k := by omega
      have HR1 := hide (HR.out (w.drewN d) (Dr.one _ _))
      rw [hkn, ha.out] at HR1
      clear hkn
      go_wp2_with fail
      exact HR1.out

end Go.Proofs.Ytkpnbglghindjaa
