import Derived.Test.YtkbdkkllfaljlaaC5
import Derived.Test.YtkbdkkllfaljlaaS7
set_option linter.unusedVariables false
set_option linter.unusedSimpArgs false
namespace Go.Proofs.Ytkbdkkllfaljlaa
open Go.RowKit Go.Sort

/-- A candidate: the street's number, the house's, the cost. -/
structure Cnd where
  i : Nat
  num : Int
  cost : Int
def Cnd.c0 (x : Cnd) : Value := .int .i64 (x.i : Int)
def Cnd.c1 (x : Cnd) : Value := .int .i64 x.num
def Cnd.c2 (x : Cnd) : Value := .int .i64 x.cost
def Cnd.cells (x : Cnd) : List Value := [x.c0, x.c1, x.c2]
def Cnd.key (x : Cnd) : Int := x.cost
def Cnd.tag (x : Cnd) : Nat := x.i
def cmpI (x y : Int) : Int := if x < y then -1 else if y < x then 1 else 0
theorem nan_c (x : Int) (w : World) (R) (hR : R (.returned (.bool false)) w) : Calls Try.prog 45 #[.int .i64 x] w R :=
  (Try.cmp_isNaN_int2 x w).mono (by rintro e w' ⟨rfl, rfl⟩; exact hR)
theorem compare_c (x y : Int) (w : World) (R) (hR : R (.returned (.int .i64 (cmpI x y))) w) : Calls Try.prog 38 #[.int .i64 x, .int .i64 y] w R := by
  have HR := hide hR; clear hR
  unfold cmpI at HR
  by_cases h1 : x < y
  · rw [if_pos h1] at HR
    go_enter Try.func38, Try.ntmps38
    go_wp2_with (go_at_call 45; refine nan_c _ _ _ ?_)
    exact HR.out
  · rw [if_neg h1] at HR
    by_cases h2 : y < x
    · rw [if_pos h2] at HR
      go_enter Try.func38, Try.ntmps38
      go_wp2_with (go_at_call 45; refine nan_c _ _ _ ?_)
      exact HR.out
    · rw [if_neg h2] at HR
      go_enter Try.func38, Try.ntmps38
      go_wp2_with (go_at_call 45; refine nan_c _ _ _ ?_)
      exact HR.out
theorem less_c (a b x c d y : Int) (w : World) (R) (hR : R (.returned (.int .i64 (cmpI x y))) ((w.alloc (.cells #[.int .i64 a, .int .i64 b, .int .i64 x] 47)).alloc (.cells #[.int .i64 c, .int .i64 d, .int .i64 y] 47))) :
    Calls Try.prog 37 #[.agg #[.int .i64 a, .int .i64 b, .int .i64 x], .agg #[.int .i64 c, .int .i64 d, .int .i64 y]] w R := by
  go_enter Try.func37, Try.ntmps37
  go_wp2_with (go_at_call 38; refine compare_c _ _ _ _ ?_)
  exact hR
theorem cnd_cmp (w0 : World) (g : Nat) : CmpC 37 #[] Cnd.c0 Cnd.c1 Cnd.c2 (fun x y => cmpI x.cost y.cost) w0 g :=
  ⟨fun args w => by simp [go_sem], fun W _ x y => by
    refine less_c x.i x.num x.cost y.i y.num y.cost W _ ⟨rfl, 0, #[.cells #[.int .i64 x.i, .int .i64 x.num, .int .i64 x.cost] 47, .cells #[.int .i64 y.i, .int .i64 y.num, .int .i64 y.cost] 47], ?_⟩
    rw [alloc_eq_grow, alloc_eq_grow, grow_grow]
    rfl⟩
theorem cnd_key (x y : Cnd) : cmpI x.cost y.cost < 0 ↔ x.key < y.key := by
  unfold cmpI Cnd.key
  split
  · omega
  · split <;> omega
theorem sortStable_c (g n cap base : Nat) (l : List Cnd) (w : World) (R) (hl : l.length = n) (hn : n ≤ 1000000) (hg : g < w.heap.size) (h : w.ownsRow base 47 3 (.slice (some ⟨g, 0, none⟩) n cap) n (l.flatMap Cnd.cells)) (hT : l.Pairwise (fun x y => x.i < y.i))
    (hR : ∀ w' M, M.Perm l → Srt Cnd.key Cnd.tag M → w'.ownsRow base 47 3 (.slice (some ⟨g, 0, none⟩) n cap) n (M.flatMap Cnd.cells) → w.grownBy w' (some g) → R (.returned (.tuple #[])) w') :
    Calls Try.prog 36 #[.slice (some ⟨g, 0, none⟩) n cap, .func (.func 37) #[] #[]] w R := by
  have HR := hide hR; have Hl := hide hl; have H := hide h; have HT := hide hT
  clear hR hl h hT
  go_enter Try.func36, Try.ntmps36
  go_wp2_with (go_at_call 44; refine Stop.out ?_)
  refine Stop.go (stable_c (key := Cnd.key) (tag := Cnd.tag) (c0 := Cnd.c0) (c1 := Cnd.c1) (c2 := Cnd.c2) (fun _ => rfl) (fun _ => rfl) (fun _ => rfl) 37 #[] (fun x y => cmpI x.cost y.cost) cnd_key g n cap base l w w _ hn (cnd_cmp w g) ⟨H.out, World.grownBy.refl _ _, Hl.out, hg⟩ HT.out ?_)
  intro w' M pM sM S'
  have HM := hide (And.intro pM sM)
  have HS := hide S'
  clear pM sM S'
  go_wp2_with fail
  go_end0
  exact HR.out w' M HM.out.1 HM.out.2 HS.out.own HS.out.grown
end Go.Proofs.Ytkbdkkllfaljlaa
