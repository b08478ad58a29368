/- World: the deeds of the fixed run are well-formed, and what deeds do. World: how an item goes on. -/
import Derived.Test.YtkabghifdedmfaaGreatDoorB39
import Derived.RegionTactic
set_option linter.unusedVariables false
set_option linter.unusedSimpArgs false
namespace Go.Proofs.YtkabghifdedmfaaGreatDoor
open Go.RowKit Go.Sort Go.Shelf
attribute [local go_sem] run_store_func

def deedsC : Array Value := #[.int .i64 1, .int .i64 100, .string ⟨#[65]⟩, .int .i64 0, .int .i64 1, .int .i64 0, .int .i64 100, .string ⟨#[]⟩, .string ⟨#[]⟩, .int .i64 0, .int .i64 1, .int .i64 100, .string ⟨#[66]⟩, .int .i64 0, .int .i64 1, .int .i64 0, .int .i64 100, .string ⟨#[]⟩, .string ⟨#[]⟩, .int .i64 0]
theorem MpAt.turned {κ : Type} {sv : κ → Value} {w w' : World} {b r : Nat} {L : List (κ × Value)} (h : MpAt sv w b L) (hg : w.grownBy w' (some r)) (hne : b ≠ r) : MpAt sv w' b L := h.block (hg.block b h.lt (fun e => hne (by injection e)))
/-- The rules. -/
def rulesL (g : Nat) : List (Int × Value) := [(1, .func (.func 68) #[] #[.pointer (some ⟨g + 1 + 1, 0, none⟩), .pointer (some ⟨g + 1 + 1 + 1, 0, none⟩), .pointer (some ⟨g, 0, none⟩)]), (2, .func (.func 67) #[] #[.pointer (some ⟨g + 1 + 1, 0, none⟩)]), (3, .func (.func 67) #[] #[.pointer (some ⟨g + 1 + 1, 0, none⟩)]),
  (4, .func (.func 70) #[] #[.pointer (some ⟨g + 1 + 1 + 1 + 1, 0, none⟩), .pointer (some ⟨g + 1 + 1, 0, none⟩)]), (5, .func (.func 71) #[] #[.pointer (some ⟨g + 1 + 1 + 1, 0, none⟩), .pointer (some ⟨g, 0, none⟩)])]
def postedL : Nat → List (ByteArray × Value)
  | 0 => []
  | 1 => [(⟨#[65]⟩, .bool true)]
  | _ => [(⟨#[65]⟩, .bool true), (⟨#[66]⟩, .bool true)]
structure WJ (w : World) (a : Net) (g dd i : Nat) (W : World) : Prop where
  wi : WI w a g (g + 1) (postedL i) W
  rules : MpAt svI W (g + 1 + 1 + 1 + 1 + 1) (rulesL g)
  deeds : Blk W dd deedsC 67
theorem WJ.next {w W W' : World} {a : Net} {g dd i : Nat} (h : WJ w a g dd i W) (hb : Below W.heap.size W W') : WJ w a g dd i W' := ⟨h.wi.next hb, h.rules.next hb, h.deeds.next hb⟩
set_option maxRecDepth 100000 in
set_option maxHeartbeats 4000000 in
theorem wellFormedW_c (a : Net) (dd : Nat) (w : World) (R) (hD : Blk w dd deedsC 67) (hR : ∀ w', Below w.heap.size w w' → R (.returned (.bool true)) w') : Calls Tryz.prog 37 #[.agg (netC a), .slice (some ⟨dd, 0, none⟩) 2 2] w R := by
  have HR := hide hR
  unfold netC
  have hdl : dd < w.heap.size := hD.lt
  obtain ⟨g, hg⟩ : ∃ g, w.heap.size = g := ⟨_, rfl⟩
  obtain ⟨w6, hw6⟩ : ∃ w6, (((((w.alloc (.cells #[.slice (some ⟨a.cal, 0, none⟩) 1 1, .slice (some ⟨a.nam, 0, none⟩) 1 1, .slice (some ⟨a.opr, 0, none⟩) 2 2, .slice (some ⟨a.off, 0, none⟩) 2 2, .slice (some ⟨a.lin, 0, none⟩) 2 2, .slice (some ⟨a.cls, 0, none⟩) 1 1] 60)).alloc (.map #[] 0)).alloc (.cells #[.map (some (w.heap.size + 1))] 160)).alloc (.cells #[.func (.func 66) #[] #[]] 99)).alloc (.cells #[.func (.func 67) #[] #[.pointer (some ⟨w.heap.size + 1 + 1, 0, none⟩)]] 161)).alloc (.map #[] 0) = w6 := ⟨_, rfl⟩
  have hb6 : Below w.heap.size w w6 := hw6 ▸ balloc (balloc (balloc (balloc (balloc (balloc (Below.refl _ _) _) _) _) _) _) _
  have k2 : Blk w6 g #[.slice (some ⟨a.cal, 0, none⟩) 1 1, .slice (some ⟨a.nam, 0, none⟩) 1 1, .slice (some ⟨a.opr, 0, none⟩) 2 2, .slice (some ⟨a.off, 0, none⟩) 2 2, .slice (some ⟨a.lin, 0, none⟩) 2 2, .slice (some ⟨a.cls, 0, none⟩) 1 1] 60 := by rw [← hw6]; exact Blk.alloc (Blk.alloc (Blk.alloc (Blk.alloc (Blk.alloc (Blk.new_at (by simp [hg])) _) _) _) _) _
  have k1 : MpAt svS w6 (g + 1) [] := by
    rw [← hw6]
    have h := (MpAt.new (sv := svS) (w.alloc (.cells #[.slice (some ⟨a.cal, 0, none⟩) 1 1, .slice (some ⟨a.nam, 0, none⟩) 1 1, .slice (some ⟨a.opr, 0, none⟩) 2 2, .slice (some ⟨a.off, 0, none⟩) 2 2, .slice (some ⟨a.lin, 0, none⟩) 2 2, .slice (some ⟨a.cls, 0, none⟩) 1 1] 60)))
    rw [World.size_alloc, hg] at h
    exact h.next (balloc (balloc (balloc (balloc (Below.refl _ _) _) _) _) _)
  have k5 : Blk w6 (g + 1 + 1) #[.map (some (g + 1))] 160 := by rw [← hw6]; rw [hg]; exact Blk.alloc (Blk.alloc (Blk.alloc (Blk.new_at (by simp [hg])) _) _) _
  have k6 : Blk w6 (g + 1 + 1 + 1) #[.func (.func 66) #[] #[]] 99 := by rw [← hw6]; exact Blk.alloc (Blk.alloc (Blk.new_at (by simp [hg])) _) _
  have k7 : Blk w6 (g + 1 + 1 + 1 + 1) #[.func (.func 67) #[] #[.pointer (some ⟨g + 1 + 1, 0, none⟩)]] 161 := by rw [← hw6]; rw [hg]; exact Blk.alloc (Blk.new_at (by simp [hg])) _
  have k8 : MpAt svI w6 (g + 1 + 1 + 1 + 1 + 1) [] := by
    rw [← hw6]
    have h := MpAt.new (sv := svI) (((((w.alloc (.cells #[.slice (some ⟨a.cal, 0, none⟩) 1 1, .slice (some ⟨a.nam, 0, none⟩) 1 1, .slice (some ⟨a.opr, 0, none⟩) 2 2, .slice (some ⟨a.off, 0, none⟩) 2 2, .slice (some ⟨a.lin, 0, none⟩) 2 2, .slice (some ⟨a.cls, 0, none⟩) 1 1] 60)).alloc (.map #[] 0)).alloc (.cells #[.map (some (w.heap.size + 1))] 160)).alloc (.cells #[.func (.func 66) #[] #[]] 99)).alloc (.cells #[.func (.func 67) #[] #[.pointer (some ⟨w.heap.size + 1 + 1, 0, none⟩)]] 161))
    simp only [World.size_alloc, hg] at h
    rw [hg]; exact h
  obtain ⟨u1, hu1, m1, g1, s1⟩ := k8.update mlaw162 1 (.func (.func 68) #[] #[.pointer (some ⟨g + 1 + 1, 0, none⟩), .pointer (some ⟨g + 1 + 1 + 1, 0, none⟩), .pointer (some ⟨g, 0, none⟩)])
  have t1 := (same_block g1 k7 (by omega)).cell (k := 0) rfl
  obtain ⟨u2, hu2, m2, g2, s2⟩ := m1.update mlaw162 2 (.func (.func 67) #[] #[.pointer (some ⟨g + 1 + 1, 0, none⟩)])
  have t2 := (same_block g2 (same_block g1 k7 (by omega)) (by omega)).cell (k := 0) rfl
  obtain ⟨u3, hu3, m3, g3, s3⟩ := m2.update mlaw162 3 (.func (.func 67) #[] #[.pointer (some ⟨g + 1 + 1, 0, none⟩)])
  obtain ⟨u4, hu4, m4, g4, s4⟩ := m3.update mlaw162 4 (.func (.func 70) #[] #[.pointer (some ⟨g + 1 + 1 + 1 + 1, 0, none⟩), .pointer (some ⟨g + 1 + 1, 0, none⟩)])
  obtain ⟨u5, hu5, m5, g5, s5⟩ := m4.update mlaw162 5 (.func (.func 71) #[] #[.pointer (some ⟨g + 1 + 1 + 1, 0, none⟩), .pointer (some ⟨g, 0, none⟩)])
  have G := World.grownBy.trans (World.grownBy.trans (World.grownBy.trans (World.grownBy.trans g1 g2) g3) g4) g5
  have HJ0 := hide (show WJ w a g dd 0 u5 from ⟨⟨hb6.grown G hb6.size (fun j e => by cases e; omega), same_block G k2 (by omega), same_block G k5 (by omega), same_block G k6 (by omega), k1.turned G (by omega)⟩, m5, same_block G (hD.next hb6) (by omega)⟩)
  have hmm := @run_makeMap Tryz.prog
  have Hg := hide hg
  clear hR hD hb6 k2 k1 k5 k6 k7 k8 m1 m2 m3 m4 m5 g1 g2 g3 g4 g5 s1 s2 s3 s4 s5 G
  rw [← hg] at hu1 hu2 hu3 hu4 hu5 t1 t2
  clear hg
  go_enter Tryz.func37, Tryz.ntmps37
  go_wp2
  clear hu1 hu2 hu3 hu4 hu5 t1 t2 hmm hw6
  rw [Hg.out]
  go_loopw [9, 28] (fun v si wr => ∃ i : Nat, i ≤ 2 ∧ si = .int .i64 i ∧ v = .int .i64 (if i = 0 then 0 else 100) ∧ Hid (WJ w a g dd i wr)) (fun _ si _ => 2 - (intOf si).toNat)
  case atStart => exact ⟨0, by decide, rfl, rfl, HJ0⟩
  case round =>
    clear HJ0
    obtain ⟨i, hi, rfl, rfl, HJ⟩ := hrel
    have hi2 : i = 0 ∨ i = 1 ∨ i = 2 := by omega
    rcases hi2 with rfl | rfl | rfl
    · have HJa := hide (HJ.out.next (balloc (Below.refl _ _) (.cells #[.int .i64 1, .int .i64 100, .string ⟨#[65]⟩, .int .i64 0, .int .i64 1, .int .i64 0, .int .i64 100, .string ⟨#[]⟩, .string ⟨#[]⟩, .int .i64 0] 67)))
      have hlt : g + 1 < wr.heap.size := HJ.out.wi.mp.lt
      have x0 : wr.cell? ⟨dd, 0, none⟩ = some (.int .i64 1) := HJ.out.deeds.cell (k := 0) rfl; have x1 : wr.cell? ⟨dd, 1, none⟩ = some (.int .i64 100) := HJ.out.deeds.cell (k := 1) rfl; have x2 : wr.cell? ⟨dd, 2, none⟩ = some (.string ⟨#[65]⟩) := HJ.out.deeds.cell (k := 2) rfl; have x3 : wr.cell? ⟨dd, 3, none⟩ = some (.int .i64 0) := HJ.out.deeds.cell (k := 3) rfl; have x4 : wr.cell? ⟨dd, 4, none⟩ = some (.int .i64 1) := HJ.out.deeds.cell (k := 4) rfl; have x5 : wr.cell? ⟨dd, 5, none⟩ = some (.int .i64 0) := HJ.out.deeds.cell (k := 5) rfl; have x6 : wr.cell? ⟨dd, 6, none⟩ = some (.int .i64 100) := HJ.out.deeds.cell (k := 6) rfl; have x7 : wr.cell? ⟨dd, 7, none⟩ = some (.string ⟨#[]⟩) := HJ.out.deeds.cell (k := 7) rfl; have x8 : wr.cell? ⟨dd, 8, none⟩ = some (.string ⟨#[]⟩) := HJ.out.deeds.cell (k := 8) rfl; have x9 : wr.cell? ⟨dd, 9, none⟩ = some (.int .i64 0) := HJ.out.deeds.cell (k := 9) rfl
      have hlk := HJa.out.rules.lookup mlaw162 1 true
      rw [show find2 (rulesL g) 1 = some (.func (.func 68) #[] #[.pointer (some ⟨g + 1 + 1, 0, none⟩), .pointer (some ⟨g + 1 + 1 + 1, 0, none⟩), .pointer (some ⟨g, 0, none⟩)]) from rfl] at hlk
      simp only [if_true, Option.getD_some, Option.isSome_some] at hlk
      rw [show ((0 : Nat) : Int) = 0 from rfl]
      go_wp2_with (go_at_call 68; refine Stop.out ?_)
      refine Stop.go (rulePost_c 65 a g (postedL 0) w _ _ (by decide) (by decide) HJa.out.wi (by rw [Hg.out]; exact Nat.le_refl _) rfl (by decide) ?_)
      intro W2 hwi hgr
      have HJ2 := hide (show WJ w a g dd 1 W2 from ⟨hwi, HJa.out.rules.turned hgr (by omega), same_block hgr HJa.out.deeds (by have := Hg.out; omega)⟩)
      have d11 : Blk W2 wr.heap.size #[.int .i64 1, .int .i64 100, .string ⟨#[65]⟩, .int .i64 0, .int .i64 1, .int .i64 0, .int .i64 100, .string ⟨#[]⟩, .string ⟨#[]⟩, .int .i64 0] 67 := same_block hgr (Blk.new _ _ _) (by omega)
      have y1 := d11.cell (k := 1) rfl
      clear hwi hgr d11 hlk x0 x1 x2 x3 x4 x5 x6 x7 x8 x9 HJa HJ
      go_wp2
      go_roundw
      case rel => exact ⟨1, by omega, by go_num, rfl, HJ2⟩
      case measure => simp [intOf]
    · have HJa := hide (HJ.out.next (balloc (Below.refl _ _) (.cells #[.int .i64 1, .int .i64 100, .string ⟨#[66]⟩, .int .i64 0, .int .i64 1, .int .i64 0, .int .i64 100, .string ⟨#[]⟩, .string ⟨#[]⟩, .int .i64 0] 67)))
      have hlt : g + 1 < wr.heap.size := HJ.out.wi.mp.lt
      have x0 : wr.cell? ⟨dd, 10, none⟩ = some (.int .i64 1) := HJ.out.deeds.cell (k := 10) rfl; have x1 : wr.cell? ⟨dd, 11, none⟩ = some (.int .i64 100) := HJ.out.deeds.cell (k := 11) rfl; have x2 : wr.cell? ⟨dd, 12, none⟩ = some (.string ⟨#[66]⟩) := HJ.out.deeds.cell (k := 12) rfl; have x3 : wr.cell? ⟨dd, 13, none⟩ = some (.int .i64 0) := HJ.out.deeds.cell (k := 13) rfl; have x4 : wr.cell? ⟨dd, 14, none⟩ = some (.int .i64 1) := HJ.out.deeds.cell (k := 14) rfl; have x5 : wr.cell? ⟨dd, 15, none⟩ = some (.int .i64 0) := HJ.out.deeds.cell (k := 15) rfl; have x6 : wr.cell? ⟨dd, 16, none⟩ = some (.int .i64 100) := HJ.out.deeds.cell (k := 16) rfl; have x7 : wr.cell? ⟨dd, 17, none⟩ = some (.string ⟨#[]⟩) := HJ.out.deeds.cell (k := 17) rfl; have x8 : wr.cell? ⟨dd, 18, none⟩ = some (.string ⟨#[]⟩) := HJ.out.deeds.cell (k := 18) rfl; have x9 : wr.cell? ⟨dd, 19, none⟩ = some (.int .i64 0) := HJ.out.deeds.cell (k := 19) rfl
      have hlk := HJa.out.rules.lookup mlaw162 1 true
      rw [show find2 (rulesL g) 1 = some (.func (.func 68) #[] #[.pointer (some ⟨g + 1 + 1, 0, none⟩), .pointer (some ⟨g + 1 + 1 + 1, 0, none⟩), .pointer (some ⟨g, 0, none⟩)]) from rfl] at hlk
      simp only [if_true, Option.getD_some, Option.isSome_some] at hlk
      rw [show ((1 : Nat) : Int) = 1 from rfl]
      go_wp2_with (go_at_call 68; refine Stop.out ?_)
      refine Stop.go (rulePost_c 66 a g (postedL 1) w _ _ (by decide) (by decide) HJa.out.wi (by rw [Hg.out]; exact Nat.le_refl _) rfl (by decide) ?_)
      intro W2 hwi hgr
      have HJ2 := hide (show WJ w a g dd 2 W2 from ⟨hwi, HJa.out.rules.turned hgr (by omega), same_block hgr HJa.out.deeds (by have := Hg.out; omega)⟩)
      have d11 : Blk W2 wr.heap.size #[.int .i64 1, .int .i64 100, .string ⟨#[66]⟩, .int .i64 0, .int .i64 1, .int .i64 0, .int .i64 100, .string ⟨#[]⟩, .string ⟨#[]⟩, .int .i64 0] 67 := same_block hgr (Blk.new _ _ _) (by omega)
      have y1 := d11.cell (k := 1) rfl
      clear hwi hgr d11 hlk x0 x1 x2 x3 x4 x5 x6 x7 x8 x9 HJa HJ
      go_wp2
      go_roundw
      case rel => exact ⟨2, by omega, by go_num, rfl, HJ2⟩
      case measure => simp [intOf]
    · have HF := hide (HR.out _ HJ.out.wi.below)
      rw [show ((2 : Nat) : Int) = 2 from rfl]
      go_wp2
      exact HF.out
end Go.Proofs.YtkabghifdedmfaaGreatDoor

namespace Go.Proofs.YtkabghifdedmfaaGreatDoor
open Go.RowKit Go.Sort Go.Shelf

theorem Blk.ne2 {W : World} {x y : Nat} {cs ds : Array Value} {t u : TypeId} (hx : Blk W x cs t) (hy : Blk W y ds u) (h : t ≠ u) : x ≠ y := fun e => by
  subst e
  have hx' : W.heap[x]? = some (.cells cs t (0, 0)) := hx
  have hy' : W.heap[x]? = some (.cells ds u (0, 0)) := hy
  rw [hx'] at hy'
  injection hy' with h1
  injection h1 with h1 h2 h3
  exact h h2
theorem MpAt.ne {κ : Type} {sv : κ → Value} {W : World} {x y : Nat} {L : List (κ × Value)} {ds : Array Value} {u : TypeId} (hx : MpAt sv W x L) (hy : Blk W y ds u) : x ≠ y := fun e => by
  subst e
  obtain ⟨es, c, h1, _⟩ := hx
  have hy' : W.heap[x]? = some (.cells ds u (0, 0)) := hy
  rw [h1] at hy'
  injection hy' with h1
  cases h1
theorem KwAt.turned {w w' : World} {r : Nat} (h : KwAt w) (hg : w.grownBy w' (some r)) (hr : 0 < r) : KwAt w' :=
  ⟨Nat.lt_of_lt_of_le h.1 hg.size, fun k s hk => hg.cell (h.2 k s hk) (fun e => by injection e with e; exact absurd e (by simp; omega))⟩
theorem PlanAt.turned {w w' : World} {nx r0 r1 r : Nat} (h : PlanAt w nx r0 r1) (hg : w.grownBy w' (some r)) (h1 : nx ≠ r) (h2 : r0 ≠ r) (h3 : r1 ≠ r) : PlanAt w' nx r0 r1 := ⟨same_block hg h.nx h1, same_block hg h.r0 h2, same_block hg h.r1 h3⟩
theorem last1_c (b sb sc : Nat) (w : World) (R) (h5 : w.cell? ⟨b, 5, none⟩ = some (.slice (some ⟨sb, 0, none⟩) 1 sc)) (hR : ∀ n, R (.returned (.pointer (some ⟨sb, 0, none⟩))) (w.drewN n)) : Calls Tryz.prog 78 #[.pointer (some ⟨b, 0, none⟩)] w R := by
  have HR := hide hR
  clear hR
  go_enter Tryz.func78, Tryz.ntmps78
  go_wp2
  go_quiet (fail)
  go_wp2
  exact HR.out _
theorem last2_c (b sb sc : Nat) (w : World) (R) (h5 : w.cell? ⟨b, 5, none⟩ = some (.slice (some ⟨sb, 0, none⟩) 2 sc)) (hR : ∀ n, R (.returned (.pointer (some ⟨sb, 4, none⟩))) (w.drewN n)) : Calls Tryz.prog 78 #[.pointer (some ⟨b, 0, none⟩)] w R := by
  have HR := hide hR
  clear hR
  go_enter Tryz.func78, Tryz.ntmps78
  go_wp2
  go_quiet (fail)
  go_wp2
  exact HR.out _
theorem carried_c (b bb : Nat) (s : ByteArray) (w : World) (R) (h5 : w.cell? ⟨b, 8, none⟩ = some (.slice (some ⟨bb, 0, none⟩) 1 1)) (hs : w.cell? ⟨bb, 0, none⟩ = some (.string s)) (hR : ∀ n, R (.returned (.string s)) (w.drewN n)) : Calls Tryz.prog 97 #[.pointer (some ⟨b, 0, none⟩)] w R := by
  have HR := hide hR
  clear hR
  go_enter Tryz.func97, Tryz.ntmps97
  go_wp2
  go_quiet (fail)
  go_wp2
  exact HR.out _
theorem carried_q (b bb : Nat) (s : ByteArray) (w : World) (h5 : w.cell? ⟨b, 8, none⟩ = some (.slice (some ⟨bb, 0, none⟩) 1 1)) (hs : w.cell? ⟨bb, 0, none⟩ = some (.string s)) : Calls Tryz.prog 97 #[.pointer (some ⟨b, 0, none⟩)] w fun e w' => e = .returned (.string s) ∧ Dr w w' :=
  carried_c b bb s w _ h5 hs (fun n => ⟨rfl, n, rfl⟩)
/-- What stands while it is found out how a fresh item goes on. -/
structure DS (W0 : World) (a : Net) (h b sb sc nb bb gm gc nx r0 r1 : Nat) (lb : UInt8) (v se : Value) (li le : Int) (W : World) : Prop where
  grown : W0.grownBy W (some b)
  kw : KwAt W
  net : NetAt W a
  plan : PlanAt W nx r0 r1
  hist : Blk W h #[.slice (some ⟨a.cal, 0, none⟩) 1 1, .slice (some ⟨a.nam, 0, none⟩) 1 1, .slice (some ⟨a.opr, 0, none⟩) 2 2, .slice (some ⟨a.off, 0, none⟩) 2 2, .slice (some ⟨a.lin, 0, none⟩) 2 2, .slice (some ⟨a.cls, 0, none⟩) 1 1, .slice (some ⟨nx, 0, none⟩) 2 2, v, .map (some gm), .map (some gc)] 121
  named : ∃ L, MpAt svS W gm L ∧ find2 L (⟨#[lb]⟩ : ByteArray) = some (.pointer (some ⟨b, 0, none⟩))
  canc : MpAt svI W gc []
  item : Blk W b #[.string ⟨#[lb]⟩, .int .i64 0, .int .i64 1, .int .i64 0, .int .i64 100, .slice (some ⟨sb, 0, none⟩) 1 sc, .bool false, .slice (some ⟨nb, 0, none⟩) 1 1, .slice (some ⟨bb, 0, none⟩) 1 1, se, .int .i64 0, .int .i64 li, .int .i64 le] 127
  stop : Blk W sb #[.int .i64 0, .int .i64 100, .int .i64 (-1), .int .i64 (-1)] 142
  since : Blk W nb #[.int .i64 100] 3
  label : Blk W bb #[.string ⟨#[lb]⟩] 9
theorem DS.next {W0 W W' : World} {a : Net} {h b sb sc nb bb gm gc nx r0 r1 : Nat} {lb : UInt8} {v se : Value} {li le : Int} (d : DS W0 a h b sb sc nb bb gm gc nx r0 r1 lb v se li le W) (hb : Below W.heap.size W W') : DS W0 a h b sb sc nb bb gm gc nx r0 r1 lb v se li le W' :=
  ⟨World.grownBy.trans d.grown (grown_any hb _), d.kw.next hb, d.net.next hb, d.plan.next hb, d.hist.next hb, d.named.imp fun L hL => ⟨hL.1.next hb, hL.2⟩, d.canc.next hb, d.item.next hb, d.stop.next hb, d.since.next hb, d.label.next hb⟩
theorem DS.turn {W0 W W' : World} {a : Net} {h b sb sc nb bb gm gc nx r0 r1 : Nat} {lb : UInt8} {v se : Value} {li le li' le' : Int} (d : DS W0 a h b sb sc nb bb gm gc nx r0 r1 lb v se li le W) (hb0 : 0 < b) (hg : W.grownBy W' (some b)) (hi : Blk W' b #[.string ⟨#[lb]⟩, .int .i64 0, .int .i64 1, .int .i64 0, .int .i64 100, .slice (some ⟨sb, 0, none⟩) 1 sc, .bool false, .slice (some ⟨nb, 0, none⟩) 1 1, .slice (some ⟨bb, 0, none⟩) 1 1, se, .int .i64 0, .int .i64 li', .int .i64 le'] 127) : DS W0 a h b sb sc nb bb gm gc nx r0 r1 lb v se li' le' W' := by
  have n : ∀ {x : Nat} {cs : Array Value} {t : TypeId}, Blk W x cs t → t ≠ 127 → x ≠ b := fun hx ht => hx.ne2 d.item ht
  refine ⟨World.grownBy.trans d.grown hg, d.kw.turned hg hb0, d.net.turned hg (n d.net.week (by decide)) (n d.net.cal (by decide)) (n d.net.nam (by decide)) (n d.net.opr (by decide)) (n d.net.off (by decide)) (n d.net.lin (by decide)) (n d.net.cls (by decide)), d.plan.turned hg (n d.plan.nx (by decide)) (n d.plan.r0 (by decide)) (n d.plan.r1 (by decide)),
    same_block hg d.hist (n d.hist (by decide)), ?_, d.canc.turned hg (d.canc.ne d.item), hi, same_block hg d.stop (n d.stop (by decide)), same_block hg d.since (n d.since (by decide)), same_block hg d.label (n d.label (by decide))⟩
  obtain ⟨L, h1, h2⟩ := d.named
  exact ⟨L, h1.turned hg (h1.ne d.item), h2⟩
theorem grown_set {W : World} {b k : Nat} {x : Value} (hb : b < W.heap.size) : W.grownBy (W.setCell ⟨b, k, none⟩ x) (some b) := by
  refine ⟨rfl, rfl, rfl, by simp [World.setCell], fun j hj hne => Below.heap_setCell _ _ _ _ (fun e => hne (by rw [e]))⟩
theorem DS.line {W0 W : World} {a : Net} {h b sb sc nb bb gm gc nx r0 r1 : Nat} {lb : UInt8} {v se : Value} {li le : Int} (d : DS W0 a h b sb sc nb bb gm gc nx r0 r1 lb v se li le W) (hb0 : 0 < b) (x : Int) : DS W0 a h b sb sc nb bb gm gc nx r0 r1 lb v se x le (W.setCell ⟨b, 11, none⟩ (.int .i64 x)) :=
  d.turn hb0 (grown_set d.item.lt) (d.item.set 11 (.int .i64 x))
theorem DS.leave {W0 W : World} {a : Net} {h b sb sc nb bb gm gc nx r0 r1 : Nat} {lb : UInt8} {v se : Value} {li le : Int} (d : DS W0 a h b sb sc nb bb gm gc nx r0 r1 lb v se li le W) (hb0 : 0 < b) (x : Int) : DS W0 a h b sb sc nb bb gm gc nx r0 r1 lb v se li x (W.setCell ⟨b, 12, none⟩ (.int .i64 x)) :=
  d.turn hb0 (grown_set d.item.lt) (d.item.set 12 (.int .i64 x))
set_option maxRecDepth 100000 in
set_option maxHeartbeats 8000000 in
theorem decideGo_c (W0 : World) (a : Net) (h b sb sc nb bb gm gc nx r0 r1 : Nat) (lb : UInt8) (v se : Value) (le : Int) (W : World) (R) (hb0 : 0 < b) (hD : DS W0 a h b sb sc nb bb gm gc nx r0 r1 lb v se 0 le W) (hR : ∀ W', DS W0 a h b sb sc nb bb gm gc nx r0 r1 lb v se 0 480 W' → R (.returned (.tuple #[])) W') : Calls Tryz.prog 80 #[.pointer (some ⟨h, 0, none⟩), .pointer (some ⟨b, 0, none⟩)] W R := by
  have HR := hide hR
  have x11 : W.cell? ⟨b, 11, none⟩ = some (.int .i64 0) := hD.item.cell (k := 11) rfl
  have f11 := hD.item.free 11
  have HD1 := hide (hD.line hb0 (-1))
  have y5 : (W.setCell ⟨b, 11, none⟩ (.int .i64 (-1))).cell? ⟨b, 5, none⟩ = some (.slice (some ⟨sb, 0, none⟩) 1 sc) := HD1.out.item.cell (k := 5) rfl
  clear hR hD
  go_enter Tryz.func80, Tryz.ntmps80
  go_wp2_with (go_at_call 78; refine Stop.out ?_)
  refine Stop.go (last1_c b sb sc _ _ y5 ?_)
  intro n
  have HD2 := hide (HD1.out.next (below_drewN' (Below.refl _ _) n))
  clear HD1 y5 x11 f11
  generalize ((W.setCell ⟨b, 11, none⟩ (.int .i64 (-1))).drewN n) = W2 at *
  obtain ⟨L, hL, hf⟩ := HD2.out.named
  have hlk : ∀ k, (Instr.lookup 117 (.map (some gm)) (.string ⟨#[lb]⟩) false).run Tryz.prog (W2.drewN k) = .ok (.pointer (some ⟨b, 0, none⟩)) (W2.drewN k) := fun k => by
    have := (hL.next (below_drewN' (Below.refl _ _) k)).lookup mlaw117 (⟨#[lb]⟩ : ByteArray) false
    rw [hf] at this
    simpa using this
  have z8 : W2.cell? ⟨h, 8, none⟩ = some (.map (some gm)) := HD2.out.hist.cell (k := 8) rfl
  have q8 : W2.cell? ⟨b, 8, none⟩ = some (.slice (some ⟨bb, 0, none⟩) 1 1) := HD2.out.item.cell (k := 8) rfl
  have q2 : W2.cell? ⟨b, 2, none⟩ = some (.int .i64 1) := HD2.out.item.cell (k := 2) rfl
  have l0 : W2.cell? ⟨bb, 0, none⟩ = some (.string ⟨#[lb]⟩) := HD2.out.label.cell (k := 0) rfl
  clear hL hf
  go_wp2
  go_quiet ((go_at_call 97; exact quiet_dr (carried_q b bb _ _ (by simpa using q8) (by simpa using l0))))
  have HD3 := hide (HD2.out.next (below_drewN' (Below.refl _ _) nq))
  clear hlk z8 q8 q2 l0 HD2
  generalize W2.drewN nq = W3 at *
  have q6 : W3.cell? ⟨b, 6, none⟩ = some (.bool false) := HD3.out.item.cell (k := 6) rfl
  have s0 : W3.cell? ⟨sb, 0, none⟩ = some (.int .i64 0) := HD3.out.stop.cell (k := 0) rfl
  have z6 : W3.cell? ⟨h, 6, none⟩ = some (.slice (some ⟨nx, 0, none⟩) 2 2) := HD3.out.hist.cell (k := 6) rfl
  have n0 : W3.cell? ⟨nx, 0, none⟩ = some (.slice (some ⟨r0, 0, none⟩) 2 2) := HD3.out.plan.nx.cell (k := 0) rfl
  have p1 : W3.cell? ⟨r0, 1, none⟩ = some (.int .i64 0) := HD3.out.plan.r0.cell (k := 1) rfl
  go_wp2
  go_quiet (fail)
  have HD4 := hide (HD3.out.next (below_drewN' (Below.refl _ _) nq))
  clear q6 s0 z6 n0 p1 HD3
  generalize W3.drewN nq = W4 at *
  have z9 : W4.cell? ⟨h, 9, none⟩ = some (.map (some gc)) := HD4.out.hist.cell (k := 9) rfl
  have hlk := HD4.out.canc.lookup mlaw118 0 false
  simp only [find2, Option.getD_none, Bool.false_eq_true, if_false] at hlk
  have z3 : W4.cell? ⟨h, 3, none⟩ = some (.slice (some ⟨a.off, 0, none⟩) 2 2) := HD4.out.hist.cell (k := 3) rfl
  have s0 : W4.cell? ⟨sb, 0, none⟩ = some (.int .i64 0) := HD4.out.stop.cell (k := 0) rfl
  have o0 : W4.cell? ⟨a.off, 0, none⟩ = some (.string (str1 97)) := HD4.out.net.off.cell (k := 0) rfl; have o1 : W4.cell? ⟨a.off, 1, none⟩ = some (.int .i64 0) := HD4.out.net.off.cell (k := 1) rfl; have o2 : W4.cell? ⟨a.off, 2, none⟩ = some (.int .i64 0) := HD4.out.net.off.cell (k := 2) rfl; have o3 : W4.cell? ⟨a.off, 3, none⟩ = some (.int .i64 2) := HD4.out.net.off.cell (k := 3) rfl; have o4 : W4.cell? ⟨a.off, 4, none⟩ = some (.int .i64 1) := HD4.out.net.off.cell (k := 4) rfl; have o5 : W4.cell? ⟨a.off, 5, none⟩ = some (.int .i64 10) := HD4.out.net.off.cell (k := 5) rfl; have o6 : W4.cell? ⟨a.off, 6, none⟩ = some (.slice none 0 0) := HD4.out.net.off.cell (k := 6) rfl
  go_wp2
  clear z9 hlk
  have z3' : ∀ o, (W4.alloc o).cell? ⟨h, 3, none⟩ = some (.slice (some ⟨a.off, 0, none⟩) 2 2) := fun o => cell_later (balloc (Below.refl _ _) o) z3; have s0' : ∀ o, (W4.alloc o).cell? ⟨sb, 0, none⟩ = some (.int .i64 0) := fun o => cell_later (balloc (Below.refl _ _) o) s0; have o0' : ∀ o, (W4.alloc o).cell? ⟨a.off, 0, none⟩ = some (.string (str1 97)) := fun o => cell_later (balloc (Below.refl _ _) o) o0; have o1' : ∀ o, (W4.alloc o).cell? ⟨a.off, 1, none⟩ = some (.int .i64 0) := fun o => cell_later (balloc (Below.refl _ _) o) o1; have o2' : ∀ o, (W4.alloc o).cell? ⟨a.off, 2, none⟩ = some (.int .i64 0) := fun o => cell_later (balloc (Below.refl _ _) o) o2; have o3' : ∀ o, (W4.alloc o).cell? ⟨a.off, 3, none⟩ = some (.int .i64 2) := fun o => cell_later (balloc (Below.refl _ _) o) o3; have o4' : ∀ o, (W4.alloc o).cell? ⟨a.off, 4, none⟩ = some (.int .i64 1) := fun o => cell_later (balloc (Below.refl _ _) o) o4; have o5' : ∀ o, (W4.alloc o).cell? ⟨a.off, 5, none⟩ = some (.int .i64 10) := fun o => cell_later (balloc (Below.refl _ _) o) o5; have o6' : ∀ o, (W4.alloc o).cell? ⟨a.off, 6, none⟩ = some (.slice none 0 0) := fun o => cell_later (balloc (Below.refl _ _) o) o6
  go_region
  have HB5 : Blk (W4.alloc (.cells #[.string (str1 97), .int .i64 0, .int .i64 0, .int .i64 2, .int .i64 1, .int .i64 10, .slice none 0 0] 108)).drew W4.heap.size #[.string (str1 97), .int .i64 0, .int .i64 0, .int .i64 2, .int .i64 1, .int .i64 10, .slice none 0 0] 108 := (Blk.new W4 #[.string (str1 97), .int .i64 0, .int .i64 0, .int .i64 2, .int .i64 1, .int .i64 10, .slice none 0 0] 108).next (Below.refl _ _).drew
  have HD5 := hide (HD4.out.next (show Below W4.heap.size W4 (W4.alloc (.cells #[.string (str1 97), .int .i64 0, .int .i64 0, .int .i64 2, .int .i64 1, .int .i64 10, .slice none 0 0] 108)).drew from (balloc (Below.refl _ _) _).drew))
  clear z3 s0 o0 o1 o2 o3 o4 o5 o6 HD4 z3' s0' o0' o1' o2' o3' o4' o5' o6'
  generalize W4.heap.size = g7 at *
  generalize (W4.alloc (.cells #[.string (str1 97), .int .i64 0, .int .i64 0, .int .i64 2, .int .i64 1, .int .i64 10, .slice none 0 0] 108)).drew = W5 at *
  have o4 : W5.cell? ⟨g7, 4, none⟩ = some (.int .i64 1) := HB5.cell (k := 4) rfl
  have o5 : W5.cell? ⟨g7, 5, none⟩ = some (.int .i64 10) := HB5.cell (k := 5) rfl
  have s1 : W5.cell? ⟨sb, 1, none⟩ = some (.int .i64 100) := HD5.out.stop.cell (k := 1) rfl
  have q7 : W5.cell? ⟨b, 7, none⟩ = some (.slice (some ⟨nb, 0, none⟩) 1 1) := HD5.out.item.cell (k := 7) rfl
  have n0 : W5.cell? ⟨nb, 0, none⟩ = some (.int .i64 100) := HD5.out.since.cell (k := 0) rfl
  have hmax : max (110 : Int) 100 = 110 := by decide
  clear HB5
  go_wp2
  go_quiet (fail)
  have HD6 := hide (HD5.out.next (below_drewN' (Below.refl _ _) nq))
  clear o4 o5 s1 q7 n0 hmax HD5
  generalize W5.drewN nq = W6 at *
  have q10 : W6.cell? ⟨b, 10, none⟩ = some (.int .i64 0) := HD6.out.item.cell (k := 10) rfl
  go_wp2
  clear q10
  go_loopw [8, 9, 105] (fun t lv si wr => (si = .int .i64 0 ∧ t = .int .i64 110 ∧ Hid (DS W0 a h b sb sc nb bb gm gc nx r0 r1 lb v se (-1) le wr)) ∨ (si = .int .i64 1 ∧ Hid (DS W0 a h b sb sc nb bb gm gc nx r0 r1 lb v se (-1) 480 wr))) (fun _ _ si _ => 1 - (intOf si).toNat)
  case atStart => exact .inl ⟨rfl, rfl, HD6⟩
  case round =>
    clear HD6
    rcases hrel with ⟨rfl, rfl, HD⟩ | ⟨rfl, HD⟩
    · have z0 : wr.cell? ⟨h, 0, none⟩ = some (.slice (some ⟨a.cal, 0, none⟩) 1 1) := HD.out.hist.cell (k := 0) rfl; have z1 : wr.cell? ⟨h, 1, none⟩ = some (.slice (some ⟨a.nam, 0, none⟩) 1 1) := HD.out.hist.cell (k := 1) rfl; have z2 : wr.cell? ⟨h, 2, none⟩ = some (.slice (some ⟨a.opr, 0, none⟩) 2 2) := HD.out.hist.cell (k := 2) rfl; have z3 : wr.cell? ⟨h, 3, none⟩ = some (.slice (some ⟨a.off, 0, none⟩) 2 2) := HD.out.hist.cell (k := 3) rfl; have z4 : wr.cell? ⟨h, 4, none⟩ = some (.slice (some ⟨a.lin, 0, none⟩) 2 2) := HD.out.hist.cell (k := 4) rfl; have z5 : wr.cell? ⟨h, 5, none⟩ = some (.slice (some ⟨a.cls, 0, none⟩) 1 1) := HD.out.hist.cell (k := 5) rfl
      go_wp2_with (go_at_call 96; refine Stop.out ?_)
      refine Stop.go (depart_c a _ _ HD.out.kw HD.out.net ?_)
      intro W7 hb7
      have HD7 := hide (HD.out.next hb7)
      have x12 : W7.cell? ⟨b, 12, none⟩ = some (.int .i64 le) := HD7.out.item.cell (k := 12) rfl
      have f12 := HD7.out.item.free 12
      have HD8 := hide (HD7.out.leave hb0 480)
      clear hb7 z0 z1 z2 z3 z4 z5
      go_wp2
      go_roundw
      case rel => exact .inr ⟨rfl, HD8⟩
      case measure => simp [intOf]
    · have x11 : wr.cell? ⟨b, 11, none⟩ = some (.int .i64 (-1)) := HD.out.item.cell (k := 11) rfl
      have f11 := HD.out.item.free 11
      have HF := hide (HR.out _ (HD.out.line hb0 0))
      go_wp2
      exact bodyPost_end (results_none Tryz.results80 _ _ _) rfl HF.out
end Go.Proofs.YtkabghifdedmfaaGreatDoor
