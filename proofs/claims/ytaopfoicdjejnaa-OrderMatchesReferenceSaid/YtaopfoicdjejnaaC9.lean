/- The units in the order of the ends of their windows. -/
import Derived.Test.YtaopfoicdjejnaaC2
import Derived.Test.YtaopfoicdjejnaaS7
set_option linter.unusedVariables false
set_option linter.unusedSimpArgs false
namespace Go.Proofs.Ytaopfoicdjejnaa
open Go.RowKit Go.Sort

/-- New blocks and draws alone. -/
def Gr (w w' : World) : Prop := ∃ q os, w' = grow (w.drewN q) os
theorem Gr.refl (w : World) : Gr w w := ⟨0, #[], by rw [grow_empty]; rfl⟩
theorem Gr.alloc {w w' : World} (h : Gr w w') (o : Obj) : Gr w (w'.alloc o) := by
  obtain ⟨q, os, rfl⟩ := h
  exact ⟨q, os ++ #[o], by rw [alloc_eq_grow, grow_grow]⟩
theorem Gr.trans {a b c : World} (h : Gr a b) (k : Gr b c) : Gr a c := by
  obtain ⟨q, os, rfl⟩ := h
  obtain ⟨q', os', rfl⟩ := k
  refine ⟨q + q', os ++ os', ?_⟩
  rw [← World.drewN_drewN, ← grow_grow]
  rfl
theorem Gr.drewN {w w' : World} (h : Gr w w') (n : Nat) : Gr w (w'.drewN n) := h.trans ⟨n, #[], by rw [grow_empty]⟩
theorem Gr.below {w w' : World} (h : Gr w w') : Below w.heap.size w w' := by
  obtain ⟨q, os, rfl⟩ := h
  exact ⟨rfl, rfl, rfl, by rw [size_grow]; exact Nat.le_add_right _ _, fun k hk => heap_grow_old (w.drewN q) os hk⟩

set_option maxHeartbeats 400000 in
theorem clamp_g (e : Evt) (w : World) (R) (hR : ∀ w', Gr w w' → R (.returned (.tuple #[.int .i64 (clampLo e.ev), .int .i64 (clampHi e.ev)])) w') :
    Calls Try.prog 73 #[.agg #[.int .i64 e.office, .int .i64 e.low, .int .i64 e.high, .slice e.np e.nn e.nc]] w R := by
  unfold clampLo clampHi Evt.ev at hR
  have HR := hide hR; clear hR
  go_enter Try.func73, Try.ntmps73
  go_wp2
  go_quiet (fail)
  go_wp2
  exact HR.out _ (((Gr.refl _).alloc _).drewN _)
theorem windowOne_g (i : Nat) (e : Evt) (w : World) (R) (hR : ∀ w', Gr w w' → R (.returned (.tuple #[.int .i64 (clampLo e.ev), .int .i64 (clampHi e.ev)])) w') : Calls Try.prog 76 #[agOne i e] w R := by
  have HR := hide hR; clear hR
  unfold agOne
  go_enter Try.func76, Try.ntmps76
  go_wp2_with (go_at_call 73; refine Stop.out ?_)
  refine Stop.go (clamp_g e _ _ ?_)
  intro w1 hb
  have B := hide (((Gr.refl _).alloc _).trans hb); clear hb
  go_wp2
  exact HR.out _ B.out
set_option maxHeartbeats 1000000 in
theorem windowLeg_g (g : Lgr) (a b : Evt) (hg : 0 ≤ g.gap) (hg2 : g.gap ≤ 1000000) (w : World) (R)
    (hR : ∀ w', Gr w w' → R (.returned (.tuple #[.int .i64 (max (clampLo a.ev) (clampLo b.ev - g.gap)), .int .i64 (min (clampHi a.ev) (clampHi b.ev - g.gap))])) w') : Calls Try.prog 71 #[agLeg g a b] w R := by
  have HR := hide hR; clear hR
  unfold agLeg
  go_enter Try.func71, Try.ntmps71
  go_wp2_with (go_at_call 73; refine Stop.out ?_)
  refine Stop.go (clamp_g a _ _ ?_)
  intro w1 hgr
  have hb := hgr.below
  have hc : ∀ c v, (#[Value.int .i64 g.src, .int .i64 g.dst, .int .i64 g.gap, .int .i64 a.office, .int .i64 a.low, .int .i64 a.high, .slice a.np a.nn a.nc, .int .i64 b.office, .int .i64 b.low, .int .i64 b.high, .slice b.np b.nn b.nc] : Array Value)[c]? = some v → w1.cell? ⟨w.heap.size, c, none⟩ = some v := fun c v hv =>
    cell_later hb (by rw [cell_new]; exact hv)
  have c2 := hc 2 _ rfl
  have c7 := hc 7 _ rfl
  have c8 := hc 8 _ rfl
  have c9 := hc 9 _ rfl
  have c10 := hc 10 _ rfl
  have B := hide (((Gr.refl _).alloc _).trans hgr)
  clear hb hc hgr
  go_wp2_with (go_at_call 73; refine Stop.out ?_)
  refine Stop.go (clamp_g b _ _ ?_)
  intro w2 hb
  have c2' := cell_later hb.below c2
  replace B := hide (B.out.trans hb); clear hb c2 c7 c8 c9 c10
  have l1 := clampLo_bd a.ev
  have l2 := clampLo_bd b.ev
  have l3 := clampHi_bd a.ev
  have l4 := clampHi_bd b.ev
  generalize clampLo a.ev = x1 at *
  generalize clampLo b.ev = x2 at *
  generalize clampHi a.ev = x3 at *
  generalize clampHi b.ev = x4 at *
  have z1 : IntKind.i64.wrap (x2 - g.gap) = x2 - g.gap := IntWalk.i64_in _ (by omega)
  have z2 : IntKind.i64.wrap (x4 - g.gap) = x4 - g.gap := IntWalk.i64_in _ (by omega)
  go_wp2
  go_quiet (fail)
  go_wp2
  exact HR.out _ (B.out.drewN _)
def cmpI (x y : Int) : Int := if x < y then -1 else if y < x then 1 else 0
theorem nan_c (x : Int) (w : World) (R) (hR : R (.returned (.bool false)) w) : Calls Try.prog 48 #[.int .i64 x] w R := by
  have HR := hide hR; clear hR
  go_enter Try.func48, Try.ntmps48
  go_wp2
  simpa using HR.out
theorem compare_c (x y : Int) (w : World) (R) (hR : R (.returned (.int .i64 (cmpI x y))) w) : Calls Try.prog 41 #[.int .i64 x, .int .i64 y] w R := by
  have HR := hide hR; clear hR
  unfold cmpI at HR
  by_cases h1 : x < y
  · rw [if_pos h1] at HR
    go_enter Try.func41, Try.ntmps41
    go_wp2_with (go_at_call 48; refine nan_c _ _ _ ?_)
    exact HR.out
  · rw [if_neg h1] at HR
    by_cases h2 : y < x
    · rw [if_pos h2] at HR
      go_enter Try.func41, Try.ntmps41
      go_wp2_with (go_at_call 48; refine nan_c _ _ _ ?_)
      exact HR.out
    · rw [if_neg h2] at HR
      go_enter Try.func41, Try.ntmps41
      go_wp2_with (go_at_call 48; refine nan_c _ _ _ ?_)
      exact HR.out
set_option maxHeartbeats 1000000 in
theorem less_c (x y : Uv) (hx : x.Ok) (hy : y.Ok) (w : World) (R) (hR : ∀ w', Gr w w' → R (.returned (.int .i64 (cmpI x.un.high y.un.high))) w') : Calls Try.prog 40 #[x.val, y.val] w R := by
  have HR := hide hR; clear hR
  rcases x with ⟨i, e⟩ | ⟨g, a, b⟩ <;> rcases y with ⟨i', e'⟩ | ⟨g', a', b'⟩
  all_goals
    have Hx := hide hx
    have Hy := hide hy
    clear hx hy
    simp only [Uv.val, Uv.un, Uv.Ok] at HR Hx Hy ⊢
    have f1 := m1_window; have f2 := m2_window
    go_enter Try.func40, Try.ntmps40
    go_wp2_with (first | (go_at_call 76; refine Stop.out ?_) | (go_at_call 71; refine Stop.out ?_))
    first
      | refine Stop.go (windowOne_g _ _ _ _ ?_)
      | refine Stop.go (windowLeg_g _ _ _ Hx.out.2.2.1 Hx.out.2.2.2 _ _ ?_)
    intro w1 hb
    have B := hide hb; clear hb
    go_wp2_with (first | (go_at_call 76; refine Stop.out ?_) | (go_at_call 71; refine Stop.out ?_))
    first
      | refine Stop.go (windowOne_g _ _ _ _ ?_)
      | refine Stop.go (windowLeg_g _ _ _ Hy.out.2.2.1 Hy.out.2.2.2 _ _ ?_)
    intro w2 hb
    replace B := hide (B.out.trans hb); clear hb
    go_wp2_with (go_at_call 41; refine Stop.out ?_)
    refine Stop.go (compare_c _ _ _ _ ?_)
    go_wp2
    exact HR.out _ B.out
/-- The unit with an index. -/
def uvF (us : List Uv) (i : Nat) : Uv := (us[i]?).getD (.one 0 ⟨0, 0, 0, none, 0, 0⟩)
theorem uvF_at {us : List Uv} {i : Nat} {u : Uv} (h : us[i]? = some u) : uvF us i = u := by unfold uvF; rw [h]; rfl
theorem uvF_ok {us : List Uv} (h : ∀ u ∈ us, u.Ok) (i : Nat) : (uvF us i).Ok := by
  unfold uvF
  cases hu : us[i]? with
  | none => exact Int.le_refl 0
  | some u => exact h u (List.mem_of_getElem? hu)
def keyF (us : List Uv) (i : Nat) : Int := (uvF us i).un.high
theorem cmpI_lt (x y : Int) : cmpI x y < 0 ↔ x < y := by
  unfold cmpI
  split
  · omega
  · split <;> omega
theorem uv_cmp {us : List Uv} (h : ∀ u ∈ us, u.Ok) (w0 : World) (g : Nat) : CmpC 40 #[] (fun i => (uvF us i).val) (fun i j => cmpI (keyF us i) (keyF us j)) w0 g :=
  ⟨fun args w => by simp [go_sem], fun W _ x y => less_c _ _ (uvF_ok h x) (uvF_ok h y) W _ fun w' hg => ⟨rfl, hg⟩⟩
theorem val_ifc (u : Uv) : Ifc u.val := by cases u <;> exact ⟨_, _, rfl⟩
theorem range_map (us : List Uv) : (List.range us.length).map (uvF us) = us := by
  apply List.ext_getElem?
  intro i
  rw [List.getElem?_map]
  rcases Nat.lt_or_ge i us.length with h | h
  · rw [List.getElem?_range h, List.getElem?_eq_getElem h]
    simp [uvF, h]
  · rw [List.getElem?_eq_none (by simpa using h), List.getElem?_eq_none h]; rfl
set_option maxHeartbeats 1000000 in
theorem sortUnits_c (g n cap base : Nat) (us : List Uv) (w : World) (R) (hus : ∀ u ∈ us, u.Ok) (hl : us.length = n) (hn : n ≤ 1000000) (hg : g < w.heap.size) (h : w.ownsRow base 57 1 (.slice (some ⟨g, 0, none⟩) n cap) n (us.map Uv.val))
    (hR : ∀ w' M, M.Perm (List.range n) → Srt (keyF us) id M → w'.ownsRow base 57 1 (.slice (some ⟨g, 0, none⟩) n cap) n ((M.map (uvF us)).map Uv.val) → w.grownBy w' (some g) → R (.returned (.tuple #[])) w') :
    Calls Try.prog 39 #[.slice (some ⟨g, 0, none⟩) n cap, .func (.func 40) #[] #[]] w R := by
  have HR := hide hR; have Hl := hide hl; have Hu := hide hus
  have fm : ∀ M : List Nat, M.flatMap (fun i => [(uvF us i).val]) = (M.map (uvF us)).map Uv.val := fun M => by
    induction M with
    | nil => rfl
    | cons x t ih => simp [ih]
  have H := hide (show w.ownsRow base 57 1 (.slice (some ⟨g, 0, none⟩) n cap) n ((List.range n).flatMap fun i => [(uvF us i).val]) by rw [fm, ← hl, range_map]; rw [hl]; exact h)
  have Fm := hide fm
  clear hR hl h hus fm
  go_enter Try.func39, Try.ntmps39
  go_wp2_with (go_at_call 47; refine Stop.out ?_)
  refine Stop.go (stable_c (key := keyF us) (tag := id) (c0 := fun i => (uvF us i).val) (fun i => val_ifc _) 40 #[] (fun i j => cmpI (keyF us i) (keyF us j)) (fun i j => cmpI_lt _ _) g n cap base (List.range n) w w _ hn (uv_cmp Hu.out w g) ⟨H.out, World.grownBy.refl _ _, by simp, hg⟩ (List.pairwise_lt_range) ?_)
  intro w' M pM sM S'
  have HM := hide (And.intro pM sM)
  have HS := hide S'
  clear pM sM S'
  go_wp2_with fail
  go_end0
  exact HR.out w' M HM.out.1 HM.out.2 (by rw [← Fm.out]; exact HS.out.own) HS.out.grown
end Go.Proofs.Ytaopfoicdjejnaa
