/- World: Run on the fixed network. -/
import Derived.Test.YtkabghifdedmfaaGreatDoorB45
import Derived.Test.YtkabghifdedmfaaGreatDoorB40
set_option linter.unusedVariables false
set_option linter.unusedSimpArgs false
namespace Go.Proofs.YtkabghifdedmfaaGreatDoor
open Go.RowKit Go.Sort Go.Shelf

theorem Tryz.info43 : (Tryz.prog.info? 43).map (fun i => (i.zero, i.size, i.bytes)) = some (some (.agg #[.string ⟨#[]⟩, .int .i64 0, .int .i64 0, .int .i64 0, .int .i64 0, .slice none 0 0, .bool false, .slice none 0 0, .slice none 0 0, .slice none 0 0]), 10, 152) := by kernel_rfl
theorem own_base {w : World} {base e size n k : Nat} {v : Value} {xs : List Value} (h : w.ownsRow base e size v n xs) (hk : v.ownBlock = some k) : base ≤ k := by
  rcases h.2 with ⟨hv, _⟩ | ⟨g, cap, cur, hv, hB, _⟩
  · rw [hv] at hk; cases hk
  · rw [hv] at hk; cases hk; exact hB
structure RB (w : World) (a : Net) (nx r0 r1 dd : Nat) (W : World) : Prop where
  below : Below w.heap.size w W
  kw : KwAt W
  net : NetAt W a
  plan : PlanAt W nx r0 r1
  deeds : Blk W dd deedsC 67
  b3 : Blk W w.heap.size #[.slice (some ⟨a.cal, 0, none⟩) 1 1, .slice (some ⟨a.nam, 0, none⟩) 1 1, .slice (some ⟨a.opr, 0, none⟩) 2 2, .slice (some ⟨a.off, 0, none⟩) 2 2, .slice (some ⟨a.lin, 0, none⟩) 2 2, .slice (some ⟨a.cls, 0, none⟩) 1 1] 60
  b4 : Blk W (w.heap.size + 1) #[.int .i64 0, .int .i64 0, .slice (some ⟨nx, 0, none⟩) 2 2, .slice none 0 0] 65
theorem RB.next {w W W' : World} {a : Net} {nx r0 r1 dd : Nat} (s : RB w a nx r0 r1 dd W) (hb : Below W.heap.size W W') : RB w a nx r0 r1 dd W' := ⟨bseq s.below hb, s.kw.next hb, s.net.next hb, s.plan.next hb, s.deeds.next hb, s.b3.next hb, s.b4.next hb⟩
set_option maxRecDepth 100000 in
set_option maxHeartbeats 8000000 in
theorem run_c (a : Net) (nx r0 r1 dd : Nat) (w : World) (R) (hk : KwAt w) (hN : NetAt w a) (hP : PlanAt w nx r0 r1) (hD : Blk w dd deedsC 67) (htab : ∀ W, Below w.heap.size w W → Lib.TabIs Tryz.prog W "internal/strconv.uint64pow10" .u64 Lib.pow10Tab)
    (hR : ∀ W' p c (ts : List Trk), Below w.heap.size w W' → TrksAt W' p ts → ts.map Trk.tk = fixT → R (.returned (.tuple #[.slice p 2 c, .int .i64 0])) W') :
    Calls Tryz.prog 15 #[.agg (netC a), .agg #[.int .i64 0, .int .i64 0, .slice (some ⟨nx, 0, none⟩) 2 2, .slice none 0 0], .slice (some ⟨dd, 0, none⟩) 2 2] w R := by
  have HR := hide hR; have Htab := hide htab
  unfold netC
  obtain ⟨w1, hw1⟩ : ∃ w1, (w.alloc (.cells #[.slice (some ⟨a.cal, 0, none⟩) 1 1, .slice (some ⟨a.nam, 0, none⟩) 1 1, .slice (some ⟨a.opr, 0, none⟩) 2 2, .slice (some ⟨a.off, 0, none⟩) 2 2, .slice (some ⟨a.lin, 0, none⟩) 2 2, .slice (some ⟨a.cls, 0, none⟩) 1 1] 60)).alloc (.cells #[.int .i64 0, .int .i64 0, .slice (some ⟨nx, 0, none⟩) 2 2, .slice none 0 0] 65) = w1 := ⟨_, rfl⟩
  have hb1 : Below w.heap.size w w1 := hw1 ▸ balloc (balloc (Below.refl _ _) _) _
  have k3 : Blk w1 w.heap.size #[.slice (some ⟨a.cal, 0, none⟩) 1 1, .slice (some ⟨a.nam, 0, none⟩) 1 1, .slice (some ⟨a.opr, 0, none⟩) 2 2, .slice (some ⟨a.off, 0, none⟩) 2 2, .slice (some ⟨a.lin, 0, none⟩) 2 2, .slice (some ⟨a.cls, 0, none⟩) 1 1] 60 := by rw [← hw1]; exact Blk.alloc (Blk.new_at (by simp)) _
  have k4 : Blk w1 (w.heap.size + 1) #[.int .i64 0, .int .i64 0, .slice (some ⟨nx, 0, none⟩) 2 2, .slice none 0 0] 65 := by rw [← hw1]; exact Blk.new_at (by simp)
  have HB := hide (show RB w a nx r0 r1 dd w1 from ⟨hb1, hk.next hb1, hN.next hb1, hP.next hb1, hD.next hb1, k3, k4⟩)
  have x0 := k3.cell (k := 0) rfl; have x1 := k3.cell (k := 1) rfl; have x2 := k3.cell (k := 2) rfl; have x3 := k3.cell (k := 3) rfl; have x4 := k3.cell (k := 4) rfl; have x5 := k3.cell (k := 5) rfl
  clear hR htab hk hN hP hD hb1 k3 k4
  go_enter Tryz.func15, Tryz.ntmps15
  go_wp2_with (go_at_call 35; refine Stop.out ?_)
  refine Stop.go (sound_c a _ _ HB.out.kw HB.out.net ?_)
  intro w2 hb
  have HB2 := hide (HB.out.next hb)
  clear hb hw1 HB x0 x1 x2 x3 x4 x5
  have x0 := HB2.out.b3.cell (k := 0) rfl; have x1 := HB2.out.b3.cell (k := 1) rfl; have x2 := HB2.out.b3.cell (k := 2) rfl; have x3 := HB2.out.b3.cell (k := 3) rfl; have x4 := HB2.out.b3.cell (k := 4) rfl; have x5 := HB2.out.b3.cell (k := 5) rfl
  have p2 : w2.cell? ⟨w.heap.size + 1, 2, none⟩ = some (.slice (some ⟨nx, 0, none⟩) 2 2) := HB2.out.b4.cell (k := 2) rfl
  go_wp2_with (go_at_call 36; refine Stop.out ?_)
  refine Stop.go (fits_c a nx r0 r1 _ _ HB2.out.net HB2.out.plan ?_)
  intro w3 hb
  have HB3 := hide (HB2.out.next hb)
  clear hb HB2 x0 x1 x2 x3 x4 x5 p2
  have x0 := HB3.out.b3.cell (k := 0) rfl; have x1 := HB3.out.b3.cell (k := 1) rfl; have x2 := HB3.out.b3.cell (k := 2) rfl; have x3 := HB3.out.b3.cell (k := 3) rfl; have x4 := HB3.out.b3.cell (k := 4) rfl; have x5 := HB3.out.b3.cell (k := 5) rfl
  go_wp2_with (go_at_call 37; refine Stop.out ?_)
  refine Stop.go (wellFormedW_c a dd _ _ HB3.out.deeds ?_)
  intro w4 hb
  have HB4 := hide (HB3.out.next hb)
  clear hb HB3 x0 x1 x2 x3 x4 x5
  have x0 := HB4.out.b3.cell (k := 0) rfl; have x1 := HB4.out.b3.cell (k := 1) rfl; have x2 := HB4.out.b3.cell (k := 2) rfl; have x3 := HB4.out.b3.cell (k := 3) rfl; have x4 := HB4.out.b3.cell (k := 4) rfl; have x5 := HB4.out.b3.cell (k := 5) rfl
  have p2 : w4.cell? ⟨w.heap.size + 1, 2, none⟩ = some (.slice (some ⟨nx, 0, none⟩) 2 2) := HB4.out.b4.cell (k := 2) rfl
  have hmm := @run_makeMap Tryz.prog
  obtain ⟨w5, hw5⟩ : ∃ w5, ((w4.alloc (.map #[] 0)).alloc (.map #[] 0)).alloc (.cells #[.slice (some ⟨a.cal, 0, none⟩) 1 1, .slice (some ⟨a.nam, 0, none⟩) 1 1, .slice (some ⟨a.opr, 0, none⟩) 2 2, .slice (some ⟨a.off, 0, none⟩) 2 2, .slice (some ⟨a.lin, 0, none⟩) 2 2, .slice (some ⟨a.cls, 0, none⟩) 1 1, .slice (some ⟨nx, 0, none⟩) 2 2, .slice none 0 0, .map (some w4.heap.size), .map (some (w4.heap.size + 1))] 121) = w5 := ⟨_, rfl⟩
  have hb5 : Below w4.heap.size w4 w5 := hw5 ▸ balloc (balloc (balloc (Below.refl _ _) _) _) _
  have m1 : MpAt svS w5 w4.heap.size [] := by rw [← hw5]; exact (MpAt.new (sv := svS) w4).next (balloc (balloc (Below.refl _ _) _) _)
  have m2 : MpAt svI w5 (w4.heap.size + 1) [] := by
    rw [← hw5]
    have h := MpAt.new (sv := svI) (w4.alloc (.map #[] 0))
    rw [World.size_alloc] at h
    exact h.next (balloc (Below.refl _ _) _)
  have kh : Blk w5 (w4.heap.size + 1 + 1) #[.slice (some ⟨a.cal, 0, none⟩) 1 1, .slice (some ⟨a.nam, 0, none⟩) 1 1, .slice (some ⟨a.opr, 0, none⟩) 2 2, .slice (some ⟨a.off, 0, none⟩) 2 2, .slice (some ⟨a.lin, 0, none⟩) 2 2, .slice (some ⟨a.cls, 0, none⟩) 1 1, .slice (some ⟨nx, 0, none⟩) 2 2, .slice none 0 0, .map (some w4.heap.size), .map (some (w4.heap.size + 1))] 121 := by rw [← hw5]; exact Blk.new_at (by simp)
  have s5 : w5.heap.size = w4.heap.size + 1 + 1 + 1 := by rw [← hw5]; simp only [World.size_alloc]
  have HM := hide (And.intro hb5 (And.intro m1 (And.intro m2 (And.intro kh s5))))
  clear hb5 m1 m2 kh s5
  go_wp2_with (go_at_call 38; refine Stop.out ?_)
  clear hw5 hmm x0 x1 x2 x3 x4 x5 p2
  refine Stop.go (actions_c (w4.heap.size + 1 + 1) _ _ ?_)
  intro w6 hb6 hac
  rw [HM.out.2.2.2.2] at hac ⊢
  have HS0 := hide (show HS w4 a (w4.heap.size + 1 + 1) w4.heap.size (w4.heap.size + 1) nx [] (.slice none 0 0) w6 from
    ⟨bseq HM.out.1 hb6, HM.out.2.2.2.1.next hb6, by omega, HM.out.2.1.next hb6, Nat.le_refl _, HM.out.2.2.1.next hb6, by omega, hac, by omega, World.ownsRow_nil _ _ _ _, (fun r hr => by cases hr), List.nodup_nil, List.Pairwise.nil⟩)
  have HD6 := hide (HB4.out.deeds.next (bseq HM.out.1 hb6))
  clear hb6 hac
  have HJ0 := hide (show ∃ its v, HS w4 a (w4.heap.size + 1 + 1) w4.heap.size (w4.heap.size + 1) nx its v w6 ∧ its.map ItR.lb = [(65 : UInt8), 66].take 0 ∧ ∀ r ∈ its, FreshR r from ⟨[], _, HS0.out, rfl, fun r hr => by cases hr⟩)
  clear HS0 HD6 HM
  go_wp2
  go_loopw [42] (fun si wr => ∃ i : Nat, i ≤ 2 ∧ si = .int .i64 i ∧ Hid (∃ its v, HS w4 a (w4.heap.size + 1 + 1) w4.heap.size (w4.heap.size + 1) nx its v wr ∧ its.map ItR.lb = [(65 : UInt8), 66].take i ∧ ∀ r ∈ its, FreshR r)) (fun si _ => 2 - (intOf si).toNat)
  case atStart => exact ⟨0, by decide, rfl, HJ0⟩
  case round =>
    clear HJ0
    obtain ⟨i, hi, rfl, HJ⟩ := hrel
    have hi2 : i = 0 ∨ i = 1 ∨ i = 2 := by omega
    rcases hi2 with rfl | rfl | rfl
    · obtain ⟨its, v, hS, hlb, hfr⟩ := HJ.out
      have hdd := HB4.out.deeds.next hS.below
      have x0 : wr.cell? ⟨dd, 0, none⟩ = some (.int .i64 1) := hdd.cell (k := 0) rfl; have x1 : wr.cell? ⟨dd, 1, none⟩ = some (.int .i64 100) := hdd.cell (k := 1) rfl; have x2 : wr.cell? ⟨dd, 2, none⟩ = some (.string ⟨#[65]⟩) := hdd.cell (k := 2) rfl; have x3 : wr.cell? ⟨dd, 3, none⟩ = some (.int .i64 0) := hdd.cell (k := 3) rfl; have x4 : wr.cell? ⟨dd, 4, none⟩ = some (.int .i64 1) := hdd.cell (k := 4) rfl; have x5 : wr.cell? ⟨dd, 5, none⟩ = some (.int .i64 0) := hdd.cell (k := 5) rfl; have x6 : wr.cell? ⟨dd, 6, none⟩ = some (.int .i64 100) := hdd.cell (k := 6) rfl; have x7 : wr.cell? ⟨dd, 7, none⟩ = some (.string ⟨#[]⟩) := hdd.cell (k := 7) rfl; have x8 : wr.cell? ⟨dd, 8, none⟩ = some (.string ⟨#[]⟩) := hdd.cell (k := 8) rfl; have x9 : wr.cell? ⟨dd, 9, none⟩ = some (.int .i64 0) := hdd.cell (k := 9) rfl
      have HS1 := hide (hS.next (balloc (Below.refl _ _) (.cells #[.int .i64 1, .int .i64 100, .string ⟨#[65]⟩, .int .i64 0, .int .i64 1, .int .i64 0, .int .i64 100, .string ⟨#[]⟩, .string ⟨#[]⟩, .int .i64 0] 67)))
      have Hfr := hide hfr; have Hlb := hide hlb
      have hl : its.length ≤ 50 := by have := congrArg List.length hlb; rw [List.length_map] at this; rw [this]; decide
      clear hS hlb hfr hdd HJ
      rw [show ((0 : Nat) : Int) = 0 from rfl]
      go_wp2_with (go_at_call 39; refine Stop.out ?_)
      refine Stop.go (proceedNone_c w4 a (w4.heap.size + 1 + 1) w4.heap.size (w4.heap.size + 1) nx its v _ _ HS1.out (fun r hr => (Hfr.out r hr).2.2.1) hl ?_)
      intro W2 hS2 hb2
      have d11 := (Blk.new wr #[.int .i64 1, .int .i64 100, .string ⟨#[65]⟩, .int .i64 0, .int .i64 1, .int .i64 0, .int .i64 100, .string ⟨#[]⟩, .string ⟨#[]⟩, .int .i64 0] 67).next hb2
      have y0 : W2.cell? ⟨wr.heap.size, 0, none⟩ = some (.int .i64 1) := d11.cell (k := 0) rfl; have y1 : W2.cell? ⟨wr.heap.size, 1, none⟩ = some (.int .i64 100) := d11.cell (k := 1) rfl; have y2 : W2.cell? ⟨wr.heap.size, 2, none⟩ = some (.string ⟨#[65]⟩) := d11.cell (k := 2) rfl; have y3 : W2.cell? ⟨wr.heap.size, 3, none⟩ = some (.int .i64 0) := d11.cell (k := 3) rfl; have y4 : W2.cell? ⟨wr.heap.size, 4, none⟩ = some (.int .i64 1) := d11.cell (k := 4) rfl; have y5 : W2.cell? ⟨wr.heap.size, 5, none⟩ = some (.int .i64 0) := d11.cell (k := 5) rfl; have y6 : W2.cell? ⟨wr.heap.size, 6, none⟩ = some (.int .i64 100) := d11.cell (k := 6) rfl; have y7 : W2.cell? ⟨wr.heap.size, 7, none⟩ = some (.string ⟨#[]⟩) := d11.cell (k := 7) rfl; have y8 : W2.cell? ⟨wr.heap.size, 8, none⟩ = some (.string ⟨#[]⟩) := d11.cell (k := 8) rfl; have y9 : W2.cell? ⟨wr.heap.size, 9, none⟩ = some (.int .i64 0) := d11.cell (k := 9) rfl
      have hlk := hS2.acts.lookup mlaw122 1 false
      rw [show find2 (actsL (w4.heap.size + 1 + 1)) 1 = some (.func (.func 72) #[.pointer (some ⟨w4.heap.size + 1 + 1, 0, none⟩)] #[]) from rfl] at hlk
      simp only [Bool.false_eq_true, if_false, Option.getD_some] at hlk
      have HS2 := hide hS2
      clear hS2 hb2 d11 HS1 x0 x1 x2 x3 x4 x5 x6 x7 x8 x9
      go_wp2_with (go_at_call 72; refine Stop.out ?_)
      refine Stop.go (post_c w4 a (w4.heap.size + 1 + 1) w4.heap.size (w4.heap.size + 1) nx r0 r1 its v 65 _ _ HB4.out.kw HB4.out.net HB4.out.plan HS2.out (by rw [Hlb.out]; decide) hl ?_)
      intro W3 v' b sb nb bb hS3
      have HJ2 := hide (show ∃ its v, HS w4 a (w4.heap.size + 1 + 1) w4.heap.size (w4.heap.size + 1) nx its v W3 ∧ its.map ItR.lb = [(65 : UInt8), 66].take 1 ∧ ∀ r ∈ its, FreshR r from
        ⟨_, _, hS3, by rw [List.map_append, Hlb.out]; rfl, fun r hr => by
          rcases List.mem_append.1 hr with hr | hr
          · exact Hfr.out r hr
          · rw [List.mem_singleton] at hr; subst hr; exact ⟨rfl, rfl, rfl, rfl⟩⟩)
      clear hS3 hlk HS2 y0 y1 y2 y3 y4 y5 y6 y7 y8 y9
      go_wp2
      go_roundw
      case rel => exact ⟨1, by omega, by go_num, HJ2⟩
      case measure => simp [intOf]
    · obtain ⟨its, v, hS, hlb, hfr⟩ := HJ.out
      have hdd := HB4.out.deeds.next hS.below
      have x0 : wr.cell? ⟨dd, 10, none⟩ = some (.int .i64 1) := hdd.cell (k := 10) rfl; have x1 : wr.cell? ⟨dd, 11, none⟩ = some (.int .i64 100) := hdd.cell (k := 11) rfl; have x2 : wr.cell? ⟨dd, 12, none⟩ = some (.string ⟨#[66]⟩) := hdd.cell (k := 12) rfl; have x3 : wr.cell? ⟨dd, 13, none⟩ = some (.int .i64 0) := hdd.cell (k := 13) rfl; have x4 : wr.cell? ⟨dd, 14, none⟩ = some (.int .i64 1) := hdd.cell (k := 14) rfl; have x5 : wr.cell? ⟨dd, 15, none⟩ = some (.int .i64 0) := hdd.cell (k := 15) rfl; have x6 : wr.cell? ⟨dd, 16, none⟩ = some (.int .i64 100) := hdd.cell (k := 16) rfl; have x7 : wr.cell? ⟨dd, 17, none⟩ = some (.string ⟨#[]⟩) := hdd.cell (k := 17) rfl; have x8 : wr.cell? ⟨dd, 18, none⟩ = some (.string ⟨#[]⟩) := hdd.cell (k := 18) rfl; have x9 : wr.cell? ⟨dd, 19, none⟩ = some (.int .i64 0) := hdd.cell (k := 19) rfl
      have HS1 := hide (hS.next (balloc (Below.refl _ _) (.cells #[.int .i64 1, .int .i64 100, .string ⟨#[66]⟩, .int .i64 0, .int .i64 1, .int .i64 0, .int .i64 100, .string ⟨#[]⟩, .string ⟨#[]⟩, .int .i64 0] 67)))
      have Hfr := hide hfr; have Hlb := hide hlb
      have hl : its.length ≤ 50 := by have := congrArg List.length hlb; rw [List.length_map] at this; rw [this]; decide
      clear hS hlb hfr hdd HJ
      rw [show ((1 : Nat) : Int) = 1 from rfl]
      go_wp2_with (go_at_call 39; refine Stop.out ?_)
      refine Stop.go (proceedNone_c w4 a (w4.heap.size + 1 + 1) w4.heap.size (w4.heap.size + 1) nx its v _ _ HS1.out (fun r hr => (Hfr.out r hr).2.2.1) hl ?_)
      intro W2 hS2 hb2
      have d11 := (Blk.new wr #[.int .i64 1, .int .i64 100, .string ⟨#[66]⟩, .int .i64 0, .int .i64 1, .int .i64 0, .int .i64 100, .string ⟨#[]⟩, .string ⟨#[]⟩, .int .i64 0] 67).next hb2
      have y0 : W2.cell? ⟨wr.heap.size, 0, none⟩ = some (.int .i64 1) := d11.cell (k := 0) rfl; have y1 : W2.cell? ⟨wr.heap.size, 1, none⟩ = some (.int .i64 100) := d11.cell (k := 1) rfl; have y2 : W2.cell? ⟨wr.heap.size, 2, none⟩ = some (.string ⟨#[66]⟩) := d11.cell (k := 2) rfl; have y3 : W2.cell? ⟨wr.heap.size, 3, none⟩ = some (.int .i64 0) := d11.cell (k := 3) rfl; have y4 : W2.cell? ⟨wr.heap.size, 4, none⟩ = some (.int .i64 1) := d11.cell (k := 4) rfl; have y5 : W2.cell? ⟨wr.heap.size, 5, none⟩ = some (.int .i64 0) := d11.cell (k := 5) rfl; have y6 : W2.cell? ⟨wr.heap.size, 6, none⟩ = some (.int .i64 100) := d11.cell (k := 6) rfl; have y7 : W2.cell? ⟨wr.heap.size, 7, none⟩ = some (.string ⟨#[]⟩) := d11.cell (k := 7) rfl; have y8 : W2.cell? ⟨wr.heap.size, 8, none⟩ = some (.string ⟨#[]⟩) := d11.cell (k := 8) rfl; have y9 : W2.cell? ⟨wr.heap.size, 9, none⟩ = some (.int .i64 0) := d11.cell (k := 9) rfl
      have hlk := hS2.acts.lookup mlaw122 1 false
      rw [show find2 (actsL (w4.heap.size + 1 + 1)) 1 = some (.func (.func 72) #[.pointer (some ⟨w4.heap.size + 1 + 1, 0, none⟩)] #[]) from rfl] at hlk
      simp only [Bool.false_eq_true, if_false, Option.getD_some] at hlk
      have HS2 := hide hS2
      clear hS2 hb2 d11 HS1 x0 x1 x2 x3 x4 x5 x6 x7 x8 x9
      go_wp2_with (go_at_call 72; refine Stop.out ?_)
      refine Stop.go (post_c w4 a (w4.heap.size + 1 + 1) w4.heap.size (w4.heap.size + 1) nx r0 r1 its v 66 _ _ HB4.out.kw HB4.out.net HB4.out.plan HS2.out (by rw [Hlb.out]; decide) hl ?_)
      intro W3 v' b sb nb bb hS3
      have HJ2 := hide (show ∃ its v, HS w4 a (w4.heap.size + 1 + 1) w4.heap.size (w4.heap.size + 1) nx its v W3 ∧ its.map ItR.lb = [(65 : UInt8), 66].take 2 ∧ ∀ r ∈ its, FreshR r from
        ⟨_, _, hS3, by rw [List.map_append, Hlb.out]; rfl, fun r hr => by
          rcases List.mem_append.1 hr with hr | hr
          · exact Hfr.out r hr
          · rw [List.mem_singleton] at hr; subst hr; exact ⟨rfl, rfl, rfl, rfl⟩⟩)
      clear hS3 hlk HS2 y0 y1 y2 y3 y4 y5 y6 y7 y8 y9
      go_wp2
      go_roundw
      case rel => exact ⟨2, by omega, by go_num, HJ2⟩
      case measure => simp [intOf]
    · obtain ⟨its, v, hS, hlb, hfr⟩ := HJ.out
      have HS1 := hide hS; have Hfr := hide hfr; have Hlb := hide hlb
      have hl : its.length ≤ 50 := by have := congrArg List.length hlb; rw [List.length_map] at this; rw [this]; decide
      clear hS hlb hfr HJ
      rw [show ((2 : Nat) : Int) = 2 from rfl]
      go_wp2_with (go_at_call 39; refine Stop.out ?_)
      refine Stop.go (proceedAll_c w4 a (w4.heap.size + 1 + 1) w4.heap.size (w4.heap.size + 1) nx its v _ _ HS1.out Hfr.out hl (by rw [Hlb.out]; decide) HB4.out.net (fun Wx hb => Htab.out Wx (bseq HB4.out.below hb)) ?_)
      intro W2 its' hS2 hlb2 hgone
      obtain ⟨ra, rb, rfl, hra, hrb⟩ := two_of (hlb2.trans Hlb.out)
      obtain ⟨ta, hta1, hta2, hta3, hta4⟩ := trk_of (hS2.items ra (by simp)).1 (hgone ra (by simp))
      obtain ⟨tb, htb1, htb2, htb3, htb4⟩ := trk_of (hS2.items rb (by simp)).1 (hgone rb (by simp))
      obtain ⟨gv, vc, rfl, _, _⟩ := own_form hS2.own (by simp)
      have z7 : W2.cell? ⟨w4.heap.size + 1 + 1, 7, none⟩ = some (.slice (some ⟨gv, 0, none⟩) 2 vc) := hS2.hist.cell (k := 7) rfl
      have Hz0 := hide (show W2.cell? ⟨gv, 0, none⟩ = some (.pointer (some ⟨ra.b, 0, none⟩)) from hS2.own.cellAt 0 (by simp))
      have Hz1 := hide (show W2.cell? ⟨gv, 1, none⟩ = some (.pointer (some ⟨rb.b, 0, none⟩)) from hS2.own.cellAt 1 (by simp))
      have Htta := hide hta4; have Httb := hide htb4
      have HT := hide (And.intro hta2 (And.intro htb2 (And.intro hta3 (And.intro htb3 (And.intro hra (And.intro hrb (HB4.out.below.trans (hS2.below.mono HB4.out.below.size))))))))
      obtain ⟨i0, hi0, hzz0, hzz1, hzz2⟩ := info_parts Tryz.info43
      have HI := hide (And.intro hi0 (And.intro hzz0 (And.intro hzz1 hzz2)))
      clear hS2 hlb2 hgone hra hrb hta1 hta2 hta3 hta4 htb1 htb2 htb3 htb4 hi0 hzz0 hzz1 hzz2 HS1 Hfr Hlb hl
      go_wp2
      clear z7
      go_loopw [12, 66] (fun u12 sk wq => ∃ k : Nat, k ≤ 2 ∧ sk = .int .i64 k ∧ Hid (wq.ownsRow W2.heap.size 43 10 u12 k (([ta, tb].take k).flatMap Trk.cells)) ∧ Hid (Below W2.heap.size W2 wq)) (fun _ sk _ => 2 - (intOf sk).toNat)
      case atStart => exact ⟨0, by decide, rfl, hide (World.ownsRow_nil _ _ _ _), hide (Below.refl _ _)⟩
      case round =>
        obtain ⟨wq, rfl⟩ : ∃ wq, wq = wr := ⟨_, rfl⟩
        obtain ⟨k, hk, rfl, HO, HB⟩ := hrel
        have hk3 : k = 0 ∨ k = 1 ∨ k = 2 := by omega
        rcases hk3 with rfl | rfl | rfl
        · have x0 : wq.cell? ⟨ra.b, 0, none⟩ = some (.string ta.label0) := cell_later HB.out (Htta.out 0 _ rfl); have x1 : wq.cell? ⟨ra.b, 1, none⟩ = some (.int .i64 ta.from0) := cell_later HB.out (Htta.out 1 _ rfl); have x2 : wq.cell? ⟨ra.b, 2, none⟩ = some (.int .i64 ta.to0) := cell_later HB.out (Htta.out 2 _ rfl); have x3 : wq.cell? ⟨ra.b, 3, none⟩ = some (.int .i64 ta.class0) := cell_later HB.out (Htta.out 3 _ rfl); have x4 : wq.cell? ⟨ra.b, 4, none⟩ = some (.int .i64 ta.accept) := cell_later HB.out (Htta.out 4 _ rfl); have x5 : wq.cell? ⟨ra.b, 5, none⟩ = some (.slice ta.sp ta.stops.length ta.sc) := cell_later HB.out (Htta.out 5 _ rfl); have x6 : wq.cell? ⟨ra.b, 6, none⟩ = some (.bool ta.lost) := cell_later HB.out (Htta.out 6 _ rfl); have x7 : wq.cell? ⟨ra.b, 7, none⟩ = some (.slice ta.np ta.since.length ta.nc) := cell_later HB.out (Htta.out 7 _ rfl); have x8 : wq.cell? ⟨ra.b, 8, none⟩ = some (.slice ta.lp ta.label.length ta.lc) := cell_later HB.out (Htta.out 8 _ rfl); have x9 : wq.cell? ⟨ra.b, 9, none⟩ = some (.slice ta.ep ta.seals.length ta.ec) := cell_later HB.out (Htta.out 9 _ rfl)
          have z0 := cell_later HB.out Hz0.out
          rw [show ((0 : Nat) : Int) = 0 from rfl]
          go_wp2_with (at_builtin; refine wpList_append_where rfl _ _ 23 rfl W2.heap.size 43 i0 _ 10 152 Tryz.underlying23 HI.out.1 HI.out.2.1 HI.out.2.2.1 HI.out.2.2.2 rfl (by decide) u12 0 (([ta, tb].take 0).flatMap Trk.cells) rfl (own_below HO.out (balloc (Below.refl _ _) _)) ⟨wq.heap.size, 0, none⟩ 1 1 [.string ta.label0, .int .i64 ta.from0, .int .i64 ta.to0, .int .i64 ta.class0, .int .i64 ta.accept, .slice ta.sp ta.stops.length ta.sc, .bool ta.lost, .slice ta.np ta.since.length ta.nc, .slice ta.lp ta.label.length ta.lc, .slice ta.ep ta.seals.length ta.ec] rfl rfl (new_cells (cs := #[.string ta.label0, .int .i64 ta.from0, .int .i64 ta.to0, .int .i64 ta.class0, .int .i64 ta.accept, .slice ta.sp ta.stops.length ta.sc, .bool ta.lost, .slice ta.np ta.since.length ta.nc, .slice ta.lp ta.label.length ta.lc, .slice ta.ep ta.seals.length ta.ec]) rfl) (by intro u hu; simp only [List.mem_cons, List.not_mem_nil, or_false] at hu; rcases hu with rfl | rfl | rfl | rfl | rfl | rfl | rfl | rfl | rfl | rfl <;> rfl) (by unfold maxLen; omega) (by omega) (Nat.le_trans HB.out.size (by simp)) ?_)
          intro u9 W9 hOwn9 hgr hwh
          obtain ⟨g9, cap9, rfl, hg9a, hg9b⟩ := own_form hOwn9 (by omega)
          have HO9 := hide (show W9.ownsRow W2.heap.size 43 10 (.slice (some ⟨g9, 0, none⟩) 1 cap9) 1 (([ta, tb].take 1).flatMap Trk.cells) from by simpa [Trk.cells] using hOwn9)
          have HB1 := bseq HB.out (balloc (Below.refl wq.heap.size wq) (.cells #[.string ta.label0, .int .i64 ta.from0, .int .i64 ta.to0, .int .i64 ta.class0, .int .i64 ta.accept, .slice ta.sp ta.stops.length ta.sc, .bool ta.lost, .slice ta.np ta.since.length ta.nc, .slice ta.lp ta.label.length ta.lc, .slice ta.ep ta.seals.length ta.ec] 43))
          have HB9 := hide (HB1.grown hgr HB1.size (fun j e => own_base HO.out e))
          clear HB1 hOwn9 hgr hwh hg9a hg9b x0 x1 x2 x3 x4 x5 x6 x7 x8 x9 z0
          go_wp2
          go_roundw
          case rel => exact ⟨1, by omega, by go_num, HO9, HB9⟩
          case measure => simp [intOf]
        · have x0 : wq.cell? ⟨rb.b, 0, none⟩ = some (.string tb.label0) := cell_later HB.out (Httb.out 0 _ rfl); have x1 : wq.cell? ⟨rb.b, 1, none⟩ = some (.int .i64 tb.from0) := cell_later HB.out (Httb.out 1 _ rfl); have x2 : wq.cell? ⟨rb.b, 2, none⟩ = some (.int .i64 tb.to0) := cell_later HB.out (Httb.out 2 _ rfl); have x3 : wq.cell? ⟨rb.b, 3, none⟩ = some (.int .i64 tb.class0) := cell_later HB.out (Httb.out 3 _ rfl); have x4 : wq.cell? ⟨rb.b, 4, none⟩ = some (.int .i64 tb.accept) := cell_later HB.out (Httb.out 4 _ rfl); have x5 : wq.cell? ⟨rb.b, 5, none⟩ = some (.slice tb.sp tb.stops.length tb.sc) := cell_later HB.out (Httb.out 5 _ rfl); have x6 : wq.cell? ⟨rb.b, 6, none⟩ = some (.bool tb.lost) := cell_later HB.out (Httb.out 6 _ rfl); have x7 : wq.cell? ⟨rb.b, 7, none⟩ = some (.slice tb.np tb.since.length tb.nc) := cell_later HB.out (Httb.out 7 _ rfl); have x8 : wq.cell? ⟨rb.b, 8, none⟩ = some (.slice tb.lp tb.label.length tb.lc) := cell_later HB.out (Httb.out 8 _ rfl); have x9 : wq.cell? ⟨rb.b, 9, none⟩ = some (.slice tb.ep tb.seals.length tb.ec) := cell_later HB.out (Httb.out 9 _ rfl)
          have z1 := cell_later HB.out Hz1.out
          rw [show ((1 : Nat) : Int) = 1 from rfl]
          go_wp2_with (at_builtin; refine wpList_append_where rfl _ _ 23 rfl W2.heap.size 43 i0 _ 10 152 Tryz.underlying23 HI.out.1 HI.out.2.1 HI.out.2.2.1 HI.out.2.2.2 rfl (by decide) u12 1 (([ta, tb].take 1).flatMap Trk.cells) rfl (own_below HO.out (balloc (Below.refl _ _) _)) ⟨wq.heap.size, 0, none⟩ 1 1 [.string tb.label0, .int .i64 tb.from0, .int .i64 tb.to0, .int .i64 tb.class0, .int .i64 tb.accept, .slice tb.sp tb.stops.length tb.sc, .bool tb.lost, .slice tb.np tb.since.length tb.nc, .slice tb.lp tb.label.length tb.lc, .slice tb.ep tb.seals.length tb.ec] rfl rfl (new_cells (cs := #[.string tb.label0, .int .i64 tb.from0, .int .i64 tb.to0, .int .i64 tb.class0, .int .i64 tb.accept, .slice tb.sp tb.stops.length tb.sc, .bool tb.lost, .slice tb.np tb.since.length tb.nc, .slice tb.lp tb.label.length tb.lc, .slice tb.ep tb.seals.length tb.ec]) rfl) (by intro u hu; simp only [List.mem_cons, List.not_mem_nil, or_false] at hu; rcases hu with rfl | rfl | rfl | rfl | rfl | rfl | rfl | rfl | rfl | rfl <;> rfl) (by unfold maxLen; omega) (by omega) (Nat.le_trans HB.out.size (by simp)) ?_)
          intro u9 W9 hOwn9 hgr hwh
          obtain ⟨g9, cap9, rfl, hg9a, hg9b⟩ := own_form hOwn9 (by omega)
          have HO9 := hide (show W9.ownsRow W2.heap.size 43 10 (.slice (some ⟨g9, 0, none⟩) 2 cap9) 2 (([ta, tb].take 2).flatMap Trk.cells) from by simpa [Trk.cells] using hOwn9)
          have HB1 := bseq HB.out (balloc (Below.refl wq.heap.size wq) (.cells #[.string tb.label0, .int .i64 tb.from0, .int .i64 tb.to0, .int .i64 tb.class0, .int .i64 tb.accept, .slice tb.sp tb.stops.length tb.sc, .bool tb.lost, .slice tb.np tb.since.length tb.nc, .slice tb.lp tb.label.length tb.lc, .slice tb.ep tb.seals.length tb.ec] 43))
          have HB9 := hide (HB1.grown hgr HB1.size (fun j e => own_base HO.out e))
          clear HB1 hOwn9 hgr hwh hg9a hg9b x0 x1 x2 x3 x4 x5 x6 x7 x8 x9 z1
          go_wp2
          go_roundw
          case rel => exact ⟨2, by omega, by go_num, HO9, HB9⟩
          case measure => simp [intOf]
        · rw [show ((2 : Nat) : Int) = 2 from rfl]
          obtain ⟨g9, cap9, rfl, _, _⟩ := own_form HO.out (by omega)
          have hT : TrksAt wq (some ⟨g9, 0, none⟩) [ta, tb] := ⟨EncAt.of_own (fun _ => rfl) (by decide) HO.out, fun t ht => by
            rcases List.mem_cons.1 ht with rfl | ht
            · exact HT.out.1.keep (Keeps.of_below HB.out)
            · rw [List.mem_singleton] at ht; subst ht; exact HT.out.2.1.keep (Keeps.of_below HB.out)⟩
          have hF : [ta, tb].map Trk.tk = fixT := by
            rw [List.map_cons, List.map_cons, List.map_nil, HT.out.2.2.1, HT.out.2.2.2.1, HT.out.2.2.2.2.1, HT.out.2.2.2.2.2.1]; rfl
          have HF := hide (HR.out wq _ cap9 [ta, tb] (bseq HT.out.2.2.2.2.2.2 HB.out) hT hF)
          clear hT hF
          go_wp2
          exact HF.out
end Go.Proofs.YtkabghifdedmfaaGreatDoor
