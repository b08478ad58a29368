import Derived.Test.YtajnoocjjkjfmaaC1
import Derived.Test.YtajnoocjjkjfmaaS7
set_option linter.unusedVariables false
set_option linter.unusedSimpArgs false
namespace Go.Proofs.Ytajnoocjjkjfmaa
open Go.RowKit Go.Sort

/-- What is left of a share's part: the share's place, and the remainder. -/
abbrev Rem := Nat × Int
def Rem.c0 (x : Rem) : Value := .int .i64 (x.1 : Int)
def Rem.c1 (x : Rem) : Value := .int .i64 x.2
def remCells (x : Rem) : List Value := [Rem.c0 x, Rem.c1 x]
def remKey (x : Rem) : Int := -x.2
def remTag (x : Rem) : Nat := x.1

theorem rem_cmp (w0 : World) (g : Nat) : CmpC 27 #[] Rem.c0 Rem.c1 (fun x y => cmpI y.2 x.2) w0 g :=
  ⟨fun args w => by simp [go_sem], fun W _ x y => by
    refine back_c x.1 x.2 y.1 y.2 W _ ⟨rfl, 0, #[.cells #[.int .i64 x.1, .int .i64 x.2] 49, .cells #[.int .i64 y.1, .int .i64 y.2] 49], ?_⟩
    rw [alloc_eq_grow, alloc_eq_grow, grow_grow]
    rfl⟩
theorem rem_key (x y : Rem) : cmpI y.2 x.2 < 0 ↔ remKey x < remKey y := by
  unfold cmpI remKey
  split
  · omega
  · split <;> omega

theorem rem_src {w : World} {base g cap n : Nat} {l : List Rem} (h : w.ownsRow base 49 2 (.slice (some ⟨g, 0, none⟩) n cap) n (l.flatMap remCells)) (hl : l.length = n) : Src w (some ⟨g, 0, none⟩) n 2 (l.flatMap remCells) := by
  refine ⟨by rw [flat_len (k := 2) (fun _ => rfl), hl], fun _ => ⟨_, rfl, fun j u hu => ?_⟩⟩
  exact h.cells (g := g) rfl j u hu
theorem rem_oneCell (l : List Rem) : ∀ u ∈ l.flatMap remCells, u.oneCell' = true := by
  intro u hu
  obtain ⟨x, _, hu⟩ := List.mem_flatMap.1 hu
  simp only [remCells, List.mem_cons, List.not_mem_nil, or_false] at hu
  rcases hu with rfl | rfl <;> rfl

set_option maxHeartbeats 400000 in
theorem clone_c (g n cap base : Nat) (l : List Rem) (w : World) (R) (hl : l.length = n) (hn : 1 ≤ n ∧ n ≤ 1000000) (h : w.ownsRow base 49 2 (.slice (some ⟨g, 0, none⟩) n cap) n (l.flatMap remCells))
    (hR : ∀ g' cap' w', Below w.heap.size w w' → w.heap.size ≤ g' → g' < w'.heap.size → w'.ownsRow w.heap.size 49 2 (.slice (some ⟨g', 0, none⟩) n cap') n (l.flatMap remCells) → R (.returned (.slice (some ⟨g', 0, none⟩) n cap')) w') :
    Calls Try.prog 33 #[.slice (some ⟨g, 0, none⟩) n cap] w R := by
  obtain ⟨hn0, hn1⟩ := hn
  obtain ⟨i0, hi0, hz0, hz1, hz2⟩ := info_parts Try.info49
  have q := fun (w : World) a n c n' c' => Lib.run_eql_slice_nil (P := Try.prog) w 47 49 a n c n' c' Try.underlying47
  have HR := hide hR; have Hl := hide hl; have H := hide h
  clear hR hl h
  go_enter Try.func33, Try.ntmps33
  go_wp2_with (at_builtin; refine Stop.out ?_)
  refine Stop.go ?_
  refine wpList_app _ rfl (.tmp 5) (.tmp 6) 47 rfl w.heap.size 49 i0 _ 2 16 Try.underlying47 hi0 hz0 hz1 hz2 rfl (by omega) _ 0 [] rfl (World.ownsRow_lit _ #[] 0 (Nat.le_refl _) (by decide) rfl) (some ⟨g, 0, none⟩) n cap (l.flatMap remCells) rfl ((rem_src H.out Hl.out).keep (Keeps.alloc _ _)) (rem_oneCell _) (by unfold maxLen; omega) (by omega) (by simp) ?_
  intro v1 w1 hown1 hg1
  have hg2 : (w.alloc (.cells #[] 49)).grownBy w1 (some w.heap.size) := hg1
  have hb := hide (((Below.refl w.heap.size w).alloc (Nat.le_refl _) (.cells #[] 49)).grown hg2 (by simp) (fun k hk => by injection hk with hk; omega))
  rw [Nat.zero_add, List.nil_append] at hown1
  obtain ⟨g', cap', rfl, h2, h3⟩ := own_form hown1 (by omega)
  have Hown := hide hown1
  clear hown1 hg1 hg2
  go_wp2_with fail
  exact HR.out g' cap' w1 hb.out h2 h3 Hown.out

theorem sortStable_c (g n cap base : Nat) (l : List Rem) (w : World) (R) (hl : l.length = n) (hn : n ≤ 1000000) (hg : g < w.heap.size) (h : w.ownsRow base 49 2 (.slice (some ⟨g, 0, none⟩) n cap) n (l.flatMap remCells)) (hT : l.Pairwise (fun x y => x.1 < y.1))
    (hR : ∀ w' M, M.Perm l → Srt remKey remTag M → w'.ownsRow base 49 2 (.slice (some ⟨g, 0, none⟩) n cap) n (M.flatMap remCells) → w.grownBy w' (some g) → R (.returned (.tuple #[])) w') :
    Calls Try.prog 34 #[.slice (some ⟨g, 0, none⟩) n cap, .func (.func 27) #[] #[]] w R := by
  have HR := hide hR; have Hl := hide hl; have H := hide h; have HT := hide hT
  clear hR hl h hT
  go_enter Try.func34, Try.ntmps34
  go_wp2_with (go_at_call 37; refine Stop.out ?_)
  refine Stop.go (stable_c (key := remKey) (tag := remTag) (c0 := Rem.c0) (c1 := Rem.c1) (fun _ => rfl) (fun _ => rfl) 27 #[] (fun x y => cmpI y.2 x.2) rem_key g n cap base l w w _ hn (rem_cmp w g) ⟨H.out, World.grownBy.refl _ _, Hl.out, hg⟩ HT.out ?_)
  intro w' M pM sM S'
  have HM := hide (And.intro pM sM)
  have HS := hide S'
  clear pM sM S'
  go_wp2_with fail
  go_end0
  exact HR.out w' M HM.out.1 HM.out.2 HS.out.own HS.out.grown

theorem sorted_c (g n cap base : Nat) (l : List Rem) (w : World) (R) (hl : l.length = n) (hn : 1 ≤ n ∧ n ≤ 1000000) (h : w.ownsRow base 49 2 (.slice (some ⟨g, 0, none⟩) n cap) n (l.flatMap remCells)) (hT : l.Pairwise (fun x y => x.1 < y.1))
    (hR : ∀ g' cap' w' M, M.Perm l → Srt remKey remTag M → Below w.heap.size w w' → w.heap.size ≤ g' → w'.ownsRow w.heap.size 49 2 (.slice (some ⟨g', 0, none⟩) n cap') n (M.flatMap remCells) → R (.returned (.slice (some ⟨g', 0, none⟩) n cap')) w') :
    Calls Try.prog 26 #[.slice (some ⟨g, 0, none⟩) n cap, .func (.func 27) #[] #[]] w R := by
  have HR := hide hR; have Hl := hide hl; have H := hide h; have HT := hide hT
  clear hR hl h hT
  go_enter Try.func26, Try.ntmps26
  go_wp2_with (go_at_call 33; refine Stop.out ?_)
  refine Stop.go (clone_c g n cap base l w _ Hl.out hn H.out ?_)
  intro g' cap' w1 b1 h2 h3 o1
  have B1 := hide b1; have O1 := hide o1
  clear b1 o1
  go_wp2_with (go_at_call 34; refine Stop.out ?_)
  refine Stop.go (sortStable_c g' n cap' w.heap.size l w1 _ Hl.out hn.2 h3 O1.out HT.out ?_)
  intro w2 M pM sM oM gM
  have HM := hide (And.intro pM sM); have OM := hide oM
  have B2 := hide (B1.out.grown gM B1.out.size (fun k hk => by injection hk with hk; omega))
  clear pM sM oM gM
  go_wp2_with fail
  exact HR.out g' cap' w2 M HM.out.1 HM.out.2 B2.out h2 OM.out
end Go.Proofs.Ytajnoocjjkjfmaa
