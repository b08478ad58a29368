/- The quick way. -/
import Derived.Test.YtaopfoicdjejnaaC6
import Derived.Deep.RegionHeld3
set_option linter.unusedVariables false
set_option linter.unusedSimpArgs false
namespace Go.Proofs.Ytaopfoicdjejnaa
open Go.RowKit

theorem begin_bd {d : List (List Int)} {us : List Uv} {off : Option Nat} {time : Int} {u : Nat} (hok : SrOk d us) (hu : u < us.length) : beginF (dst d) (unF us) off time u ≤ 1000001 ∧ 0 ≤ (unF us u).span ∧ (unF us u).span ≤ 1000000 ∧ (unF us u).exit < d.length := by
  obtain ⟨x, hx⟩ : ∃ x, us[u]? = some x := ⟨_, List.getElem?_eq_getElem hu⟩
  obtain ⟨h0, h1, h2, h3, h4⟩ := hok.ok x (List.mem_of_getElem? hx)
  have hb : x.un.low ≤ 1000001 ∧ x.un.high ≤ 1000000 ∧ 0 ≤ x.un.span ∧ x.un.span ≤ 1000000 ∧ x.un.exit < d.length := by
    cases x with
    | one i e =>
      have a := clampLo_bd e.ev; have b := clampHi_bd e.ev
      simp only [Uv.un, Uv.Ok, Uv.en, Uv.ex] at *
      omega
    | leg g x y =>
      have a := clampLo_bd x.ev; have b := clampHi_bd x.ev; have a' := clampLo_bd y.ev; have b' := clampHi_bd y.ev
      simp only [Uv.un, Uv.Ok, Uv.en, Uv.ex] at *
      omega
  rw [begin_val hx rfl rfl rfl, unF_at hx]
  refine ⟨?_, hb.2.2⟩
  by_cases hc : far (dst d) off x.en.toNat < 0 ∨ x.un.high < time + far (dst d) off x.en.toNat
  · rw [if_pos hc]; omega
  · rw [if_neg hc]; omega
/-- A state that the search may be in. -/
structure StOk (d : List (List Int)) (st : Stt) (time : Int) : Prop where
  done : st.done < 65536
  off : ∀ o, st.off = some o → o < d.length
  lo : 0 ≤ time
  hi : time ≤ 5000000
theorem StOk.start (d : List (List Int)) : StOk d ⟨0, none⟩ 0 := ⟨by decide, (fun o h => by simp at h), by omega, by omega⟩
theorem StOk.next {d : List (List Int)} {us : List Uv} {st : Stt} {time : Int} {u : Nat} (h : StOk d st time) (hok : SrOk d us) (hu : u < us.length) (hb : 0 ≤ beginF (dst d) (unF us) st.off time u) :
    StOk d (afterF (unF us) st u) (beginF (dst d) (unF us) st.off time u + (unF us u).span) := by
  obtain ⟨b1, b2, b3, b4⟩ := begin_bd (off := st.off) (time := time) hok hu
  exact ⟨or_lt h.done (by have := hok.few; omega), fun o ho => by injection ho with ho; rw [← ho]; exact b4, by omega, by omega⟩

set_option maxRecDepth 100000 in
set_option maxHeartbeats 4000000 in
theorem quick_c (sb : Nat) (d : List (List Int)) (us : List Uv) (fs : List Nat) (w : World) (R) (hS : SrF w sb d us fs) (hok : SrOk d us) (hfs : FsOk (dst d) (unF us) us.length fs)
    (hR0 : quickF (dst d) (unF us) us.length us.length ⟨0, none⟩ 0 = none → ∀ w', Below w.heap.size w w' → R (.returned (.tuple #[.slice none 0 0, .bool false])) w')
    (hR1 : ∀ l, quickF (dst d) (unF us) us.length us.length ⟨0, none⟩ 0 = some l → ∀ q c w', Below w.heap.size w w' → IntsAt .i64 w' q (nats l) → R (.returned (.tuple #[.slice q l.length c, .bool true])) w') :
    Calls Try.prog 26 #[.pointer (some ⟨sb, 0, none⟩)] w R := by
  have HR0 := hide hR0; have HR1 := hide hR1; have HS := hide hS; have Hok := hide hok; have Hfs := hide hfs
  obtain ⟨up, uc, c1⟩ := hS.c1
  have hlt := block_lt c1
  simp only at hlt
  clear hR0 hR1 hS hok hfs
  obtain ⟨i0, hi0, hz0, hz1, hz2⟩ := info_parts Try.info3
  go_enter Try.func26, Try.ntmps26
  go_wp2
  have HK := hide (Blk.new w #[.int .u32 0, .int .i64 (-1)] 54)
  have HB := hide (balloc (Below.refl w.heap.size w) (.cells #[.int .u32 0, .int .i64 (-1)] 54))
  clear c1
  generalize w.alloc (.cells #[.int .u32 0, .int .i64 (-1)] 54) = W at *
  go_loopw [5, 6, 15] (fun s5 v si wr => ∃ (r : Nat) (l : List Nat) (st : Stt) (time : Int), r ≤ us.length ∧ s5 = .int .i64 time ∧ si = .int .i64 r ∧ Hid (Blk wr w.heap.size #[.int .u32 (st.done : Int), .int .i64 (offI st.off)] 54 ∧ Below w.heap.size w wr) ∧
      Hid (wr.ownsRow (w.heap.size + 1) 3 1 v l.length ((nats l).map (Value.int .i64))) ∧ Hid (StOk d st time ∧ l.length = r ∧ quickF (dst d) (unF us) us.length us.length ⟨0, none⟩ 0 = (quickF (dst d) (unF us) us.length (us.length - r) st time).map (l ++ ·))) (fun _ _ si _ => us.length - (intOf si).toNat)
  case atStart => exact ⟨0, [], ⟨0, none⟩, 0, Nat.zero_le _, rfl, rfl, hide ⟨HK.out, HB.out⟩, hide (World.ownsRow_nil ..), hide ⟨StOk.start d, rfl, by simp⟩⟩
  case round =>
    clear HK HB
    obtain ⟨r, l, st, time, hr, rfl, rfl, HI, HO, HQ⟩ := hrel
    have hfew := Hok.out.few
    by_cases hlt2 : r < us.length
    · obtain ⟨m, hm⟩ : ∃ m, us.length - r = m + 1 := ⟨us.length - r - 1, by omega⟩
      have HM := hide hm
      clear hm
      have k0 := HI.out.1.cell (k := 0) (v := .int .u32 (st.done : Int)) rfl
      have k1 := HI.out.1.cell (k := 1) (v := .int .i64 (offI st.off)) rfl
      go_wp2_with (go_at_call 43; refine Stop.out ?_)
      refine Stop.go (choices_c sb d us fs st.done st.off time _ _ (HS.out.keep (Keeps.of_below HI.out.2)) Hok.out Hfs.out HQ.out.1.done HQ.out.1.lo HQ.out.1.hi HQ.out.1.off ?_)
      intro q c w1 hb hq _
      have HI1 := hide (And.intro (HI.out.1.next hb) (bseq HI.out.2 hb))
      have HO1 := hide (own_below HO.out hb)
      clear hb HI HO k0 k1
      have hC0 : choicesF (dst d) (unF us) us.length ⟨st.done, st.off⟩ time = choicesF (dst d) (unF us) us.length st time := rfl
      rw [hC0] at hq ⊢
      clear hC0
      cases hC : choicesF (dst d) (unF us) us.length st time with
      | nil =>
        have hn := hide (show quickF (dst d) (unF us) us.length us.length ⟨0, none⟩ 0 = none by rw [HQ.out.2.2, HM.out, quickF, hC]; rfl)
        clear hC hq
        go_wp2
        exact HR0.out hn.out _ HI1.out.2
      | cons u C' =>
        obtain ⟨hmem, hbeg⟩ := choices_mem (D := dst d) (us := unF us) (n := us.length) (st := st) (time := time) (u := u) (by rw [hC]; simp)
        have hun := (mem_leftF.1 hmem).1
        have HC := hide hC
        rw [hC] at hq
        obtain ⟨b, o, x, rfl, hx, hc⟩ := hq.at_ (i := 0) (by simp [nats])
        obtain rfl : (u : Int) = x := by injection hx
        rw [Nat.add_zero] at hc
        obtain ⟨m', hm'⟩ : ∃ m', (u :: C').length = m' + 1 := ⟨_, rfl⟩
        rw [hm']
        clear hm' hx hq hC hmem
        obtain ⟨y, hy⟩ : ∃ y, beginF (dst d) (unF us) st.off time u = y := ⟨_, rfl⟩
        obtain ⟨sp, hsp⟩ : ∃ sp, (unF us u).span = sp := ⟨_, rfl⟩
        have hbd := begin_bd (off := st.off) (time := time) Hok.out hun
        rw [hsp, hy] at hbd
        rw [hy] at hbeg
        have Hy := hide hy; have Hsp := hide hsp
        clear hy hsp
        obtain ⟨z1, z2, z3, z4⟩ := hbd
        have hwr : IntKind.i64.wrap (y + sp) = y + sp := IntWalk.i64_in _ (by omega)
        go_wp2
        have k0 := HI1.out.1.cell (k := 0) (v := .int .u32 (st.done : Int)) rfl
        have k1 := HI1.out.1.cell (k := 1) (v := .int .i64 (offI st.off)) rfl
        have HS1 := hide (HS.out.keep (Keeps.of_below HI1.out.2))
        obtain ⟨ux, hux⟩ : ∃ ux, us[u]? = some ux := ⟨_, List.getElem?_eq_getElem hun⟩
        have hspx : ux.un.span = sp := by rw [← Hsp.out, unF_at hux]
        obtain ⟨dp, dc, ub, uo, uc', c0, c1, hrow, cu⟩ := HS1.out.1.at_ hux
        have hi1 : (0 : Int) ≤ (u : Int) := by omega
        have hi2 : (u : Int) < (us.length : Int) := by omega
        have HX := hide (Hok.out.ok ux (List.mem_of_getElem? hux)).1
        clear c0 hrow hux
        rcases ux with ⟨ui, ue⟩ | ⟨ug, ua, ub'⟩
        · simp only [Uv.val, Uv.un, Uv.Ok] at cu HX hspx
          subst hspx
          rw [Int.add_zero] at hwr
          have f3 := m1_span; have f4 := m2_span
          have KB : Hid (∀ w', Below w1.heap.size w1 w' → Below w1.heap.size w1 w' ∧ w'.cell? ⟨w.heap.size, 0, none⟩ = some (.int .u32 (st.done : Int)) ∧ w'.cell? ⟨w.heap.size, 1, none⟩ = some (.int .i64 (offI st.off)) ∧ w'.cell? ⟨sb, 1, none⟩ = some (.slice (some ⟨ub, uo, none⟩) us.length uc') ∧ w'.cell? ⟨ub, uo + u, none⟩ = some (.iface 80 (agOne ui ue))) :=
            hide (fun w' hb => ⟨hb, cell_later hb k0, cell_later hb k1, cell_later hb c1, cell_later hb cu⟩)
          clear k0 k1 c1 cu
          go_region_held3 (fun w' => Below w1.heap.size w1 w' ∧ w'.cell? ⟨w.heap.size, 0, none⟩ = some (.int .u32 (st.done : Int)) ∧ w'.cell? ⟨w.heap.size, 1, none⟩ = some (.int .i64 (offI st.off)) ∧ w'.cell? ⟨sb, 1, none⟩ = some (.slice (some ⟨ub, uo, none⟩) us.length uc') ∧ w'.cell? ⟨ub, uo + u, none⟩ = some (.iface 80 (agOne ui ue)))
            (first | exact KB.out _ b5 | exact KB.out _ b6 | exact KB.out _ ((Below.refl _ _).drew))
            (first
              | (go_at_call 28; refine begin_c sb d us st.done st.off time u _ _ (SrAt.keep (Keeps.of_below (by first | exact b6 | exact (Below.refl _ _).drew)) HS1.out.1) Hok.out hun HQ.out.1.lo HQ.out.1.hi HQ.out.1.off ?_; intro w5 hb5; rw [Hy.out]; have b5 : Below w1.heap.size w1 w5 := (by first | exact bseq b6 hb5 | exact bseq ((Below.refl _ _).drew) hb5))
              | (go_at_call 75; refine spanOne_c _ _ _ _ ?_; intro w6 hb6; have b6 : Below w1.heap.size w1 w6 := (by first | exact bseq b5 hb6 | exact bseq ((Below.refl _ _).drew) hb6))
              | (go_at_call 70; refine spanLeg_c _ _ _ _ _ ?_; intro w6 hb6; have b6 : Below w1.heap.size w1 w6 := (by first | exact bseq b5 hb6 | exact bseq ((Below.refl _ _).drew) hb6)))
          all_goals
            rename_i hS
            obtain ⟨hb2, k0, k1, _, _⟩ := hS
            have HI2 := hide (And.intro (HI1.out.1.next hb2) (bseq HI1.out.2 hb2))
            have HO2 := hide (own_below HO1.out hb2)
            clear hb2 HI1 HO1 hwr f3 f4 KB HX
            try clear hb5 b5
            try clear hb6 b6
            go_wp2_with (go_at_call 29; refine Stop.out ?_)
            refine Stop.go (after_c sb d us st.done (offI st.off) u _ _ (HS.out.keep (Keeps.of_below HI2.out.2)).1 Hok.out hun HQ.out.1.done ?_)
            intro w7 hb
            have HI3 := hide (And.intro (HI2.out.1.next hb) (bseq HI2.out.2 hb))
            have HO3 := hide (own_below HO2.out hb)
            clear hb HI2 HO2 k0 k1
            obtain ⟨z, hz⟩ : ∃ z, st.done ||| 2 ^ u = z := ⟨_, rfl⟩
            obtain ⟨x2, hx2⟩ : ∃ x2, offI (some (unF us u).exit) = x2 := ⟨_, rfl⟩
            rw [hz, hx2]
            have Hz := hide hz; have Hx2 := hide hx2
            clear hz hx2
            have b0 := HI3.out.1.cell (k := 0) (v := .int .u32 (st.done : Int)) rfl
            have b1 := HI3.out.1.cell (k := 1) (v := .int .i64 (offI st.off)) rfl
            have fz := HI3.out.1.free
            go_wp2_with (at_builtin; refine Stop.out ?_)
            refine Stop.go ?_
            have Hs8 : Hid (((w7.setCell ⟨w.heap.size, 0, none⟩ (.int .u32 (z : Int))).setCell ⟨w.heap.size, 1, none⟩ (.int .i64 x2)).heap.size = w7.heap.size) := hide (by simp [World.setCell])
            have HI4 := hide (And.intro ((HI3.out.1.set 0 (.int .u32 (z : Int))).set 1 (.int .i64 x2)) ((HI3.out.2.setCell (p := ⟨w.heap.size, 0, none⟩) (by show w.heap.size ≤ w.heap.size; omega) (.int .u32 (z : Int))).setCell (p := ⟨w.heap.size, 1, none⟩) (by show w.heap.size ≤ w.heap.size; omega) (.int .i64 x2)))
            have hne : ∀ c : Nat, u6.ownBlock ≠ some w.heap.size := fun _ e => by have := (HO3.out.lt _ e).1; omega
            have HO4 := hide (ownsRow_setCell_other (ownsRow_setCell_other HO3.out (a := ⟨w.heap.size, 0, none⟩) (hne 0) (.int .u32 (z : Int))) (a := ⟨w.heap.size, 1, none⟩) (hne 0) (.int .i64 x2))
            clear HI3 HO3 b0 b1 fz hne
            have hsz := hide HI4.out.1.lt
            generalize (w7.setCell ⟨w.heap.size, 0, none⟩ (.int .u32 (z : Int))).setCell ⟨w.heap.size, 1, none⟩ (.int .i64 x2) = w8 at *
            refine wpList_app _ rfl (.tmp 45) (.tmp 47) 25 rfl (w.heap.size + 1) 3 i0 _ 1 8 Try.underlying25 hi0 hz0 hz1 hz2 rfl (by omega) _ l.length ((nats l).map (Value.int .i64)) rfl (HO4.out.alloc _) (some ⟨w7.heap.size, 0, none⟩) 1 1 [.int .i64 (u : Int)] rfl ⟨rfl, fun _ => ⟨_, rfl, fun j x hx => ?_⟩⟩ (ints_oneCell .i64 [(u : Int)]) (by have := HQ.out.2.1; unfold maxLen; omega) (by have := HQ.out.2.1; omega) (by have := hsz.out; simp; omega) ?_
            · match j, hx with
              | 0, hx => cases hx; rw [← Hs8.out]; exact cell_new
            intro v1 w9 hown1 hg1
            have hg2 := World.grownBy.trans (World.grownBy_alloc w8 (.cells #[.int .i64 (u : Int)] 3) _) hg1
            have HB9 := hide (show Below w.heap.size w w9 from HI4.out.2.grown hg2 HI4.out.2.size (fun k hk => by have := (HO4.out.lt k hk).1; omega))
            have hK9 : Blk w9 w.heap.size #[.int .u32 ((afterF (unF us) st u).done : Int), .int .i64 (offI (afterF (unF us) st u).off)] 54 := by
              have h1 := hg2.block w.heap.size hsz.out (fun e => by have := (HO4.out.lt _ e.symm).1; omega)
              have h2 := h1.trans HI4.out.1
              rw [← Hz.out, ← Hx2.out] at h2
              exact h2
            have HK9 := hide hK9
            have HO9 := hide (show w9.ownsRow (w.heap.size + 1) 3 1 v1 (l ++ [u]).length ((nats (l ++ [u])).map (Value.int .i64)) by simpa [nats] using hown1)
            clear hown1 hg1 hg2 hK9 HI4 HO4 hsz Hs8
            go_wp2_with fail
            go_roundw
            case rel =>
              refine ⟨r + 1, l ++ [u], afterF (unF us) st u, beginF (dst d) (unF us) st.off time u + (unF us u).span, by omega, by rw [Hy.out, Hsp.out]; try rw [Int.add_zero], by go_num, hide ⟨HK9.out, HB9.out⟩, HO9, hide ⟨HQ.out.1.next Hok.out hun (by rw [Hy.out]; exact hbeg), by rw [List.length_append, HQ.out.2.1]; rfl, ?_⟩⟩
              rw [HQ.out.2.2, HM.out, quickF, HC.out, show us.length - (r + 1) = m by have := HM.out; omega]
              simp only [Option.map_map]
              congr 1
              funext t
              try simp
            case measure => simp [intOf]; omega
        · simp only [Uv.val, Uv.un, Uv.Ok] at cu HX hspx
          subst hspx
          have f3 := m1_span; have f4 := m2_span
          have KB : Hid (∀ w', Below w1.heap.size w1 w' → Below w1.heap.size w1 w' ∧ w'.cell? ⟨w.heap.size, 0, none⟩ = some (.int .u32 (st.done : Int)) ∧ w'.cell? ⟨w.heap.size, 1, none⟩ = some (.int .i64 (offI st.off)) ∧ w'.cell? ⟨sb, 1, none⟩ = some (.slice (some ⟨ub, uo, none⟩) us.length uc') ∧ w'.cell? ⟨ub, uo + u, none⟩ = some (.iface 78 (agLeg ug ua ub'))) :=
            hide (fun w' hb => ⟨hb, cell_later hb k0, cell_later hb k1, cell_later hb c1, cell_later hb cu⟩)
          clear k0 k1 c1 cu
          go_region_held3 (fun w' => Below w1.heap.size w1 w' ∧ w'.cell? ⟨w.heap.size, 0, none⟩ = some (.int .u32 (st.done : Int)) ∧ w'.cell? ⟨w.heap.size, 1, none⟩ = some (.int .i64 (offI st.off)) ∧ w'.cell? ⟨sb, 1, none⟩ = some (.slice (some ⟨ub, uo, none⟩) us.length uc') ∧ w'.cell? ⟨ub, uo + u, none⟩ = some (.iface 78 (agLeg ug ua ub')))
            (first | exact KB.out _ b5 | exact KB.out _ b6 | exact KB.out _ ((Below.refl _ _).drew))
            (first
              | (go_at_call 28; refine begin_c sb d us st.done st.off time u _ _ (SrAt.keep (Keeps.of_below (by first | exact b6 | exact (Below.refl _ _).drew)) HS1.out.1) Hok.out hun HQ.out.1.lo HQ.out.1.hi HQ.out.1.off ?_; intro w5 hb5; rw [Hy.out]; have b5 : Below w1.heap.size w1 w5 := (by first | exact bseq b6 hb5 | exact bseq ((Below.refl _ _).drew) hb5))
              | (go_at_call 75; refine spanOne_c _ _ _ _ ?_; intro w6 hb6; have b6 : Below w1.heap.size w1 w6 := (by first | exact bseq b5 hb6 | exact bseq ((Below.refl _ _).drew) hb6))
              | (go_at_call 70; refine spanLeg_c _ _ _ _ _ ?_; intro w6 hb6; have b6 : Below w1.heap.size w1 w6 := (by first | exact bseq b5 hb6 | exact bseq ((Below.refl _ _).drew) hb6)))
          all_goals
            rename_i hS
            obtain ⟨hb2, k0, k1, _, _⟩ := hS
            have HI2 := hide (And.intro (HI1.out.1.next hb2) (bseq HI1.out.2 hb2))
            have HO2 := hide (own_below HO1.out hb2)
            clear hb2 HI1 HO1 hwr f3 f4 KB HX
            try clear hb5 b5
            try clear hb6 b6
            go_wp2_with (go_at_call 29; refine Stop.out ?_)
            refine Stop.go (after_c sb d us st.done (offI st.off) u _ _ (HS.out.keep (Keeps.of_below HI2.out.2)).1 Hok.out hun HQ.out.1.done ?_)
            intro w7 hb
            have HI3 := hide (And.intro (HI2.out.1.next hb) (bseq HI2.out.2 hb))
            have HO3 := hide (own_below HO2.out hb)
            clear hb HI2 HO2 k0 k1
            obtain ⟨z, hz⟩ : ∃ z, st.done ||| 2 ^ u = z := ⟨_, rfl⟩
            obtain ⟨x2, hx2⟩ : ∃ x2, offI (some (unF us u).exit) = x2 := ⟨_, rfl⟩
            rw [hz, hx2]
            have Hz := hide hz; have Hx2 := hide hx2
            clear hz hx2
            have b0 := HI3.out.1.cell (k := 0) (v := .int .u32 (st.done : Int)) rfl
            have b1 := HI3.out.1.cell (k := 1) (v := .int .i64 (offI st.off)) rfl
            have fz := HI3.out.1.free
            go_wp2_with (at_builtin; refine Stop.out ?_)
            refine Stop.go ?_
            have Hs8 : Hid (((w7.setCell ⟨w.heap.size, 0, none⟩ (.int .u32 (z : Int))).setCell ⟨w.heap.size, 1, none⟩ (.int .i64 x2)).heap.size = w7.heap.size) := hide (by simp [World.setCell])
            have HI4 := hide (And.intro ((HI3.out.1.set 0 (.int .u32 (z : Int))).set 1 (.int .i64 x2)) ((HI3.out.2.setCell (p := ⟨w.heap.size, 0, none⟩) (by show w.heap.size ≤ w.heap.size; omega) (.int .u32 (z : Int))).setCell (p := ⟨w.heap.size, 1, none⟩) (by show w.heap.size ≤ w.heap.size; omega) (.int .i64 x2)))
            have hne : ∀ c : Nat, u6.ownBlock ≠ some w.heap.size := fun _ e => by have := (HO3.out.lt _ e).1; omega
            have HO4 := hide (ownsRow_setCell_other (ownsRow_setCell_other HO3.out (a := ⟨w.heap.size, 0, none⟩) (hne 0) (.int .u32 (z : Int))) (a := ⟨w.heap.size, 1, none⟩) (hne 0) (.int .i64 x2))
            clear HI3 HO3 b0 b1 fz hne
            have hsz := hide HI4.out.1.lt
            generalize (w7.setCell ⟨w.heap.size, 0, none⟩ (.int .u32 (z : Int))).setCell ⟨w.heap.size, 1, none⟩ (.int .i64 x2) = w8 at *
            refine wpList_app _ rfl (.tmp 45) (.tmp 47) 25 rfl (w.heap.size + 1) 3 i0 _ 1 8 Try.underlying25 hi0 hz0 hz1 hz2 rfl (by omega) _ l.length ((nats l).map (Value.int .i64)) rfl (HO4.out.alloc _) (some ⟨w7.heap.size, 0, none⟩) 1 1 [.int .i64 (u : Int)] rfl ⟨rfl, fun _ => ⟨_, rfl, fun j x hx => ?_⟩⟩ (ints_oneCell .i64 [(u : Int)]) (by have := HQ.out.2.1; unfold maxLen; omega) (by have := HQ.out.2.1; omega) (by have := hsz.out; simp; omega) ?_
            · match j, hx with
              | 0, hx => cases hx; rw [← Hs8.out]; exact cell_new
            intro v1 w9 hown1 hg1
            have hg2 := World.grownBy.trans (World.grownBy_alloc w8 (.cells #[.int .i64 (u : Int)] 3) _) hg1
            have HB9 := hide (show Below w.heap.size w w9 from HI4.out.2.grown hg2 HI4.out.2.size (fun k hk => by have := (HO4.out.lt k hk).1; omega))
            have hK9 : Blk w9 w.heap.size #[.int .u32 ((afterF (unF us) st u).done : Int), .int .i64 (offI (afterF (unF us) st u).off)] 54 := by
              have h1 := hg2.block w.heap.size hsz.out (fun e => by have := (HO4.out.lt _ e.symm).1; omega)
              have h2 := h1.trans HI4.out.1
              rw [← Hz.out, ← Hx2.out] at h2
              exact h2
            have HK9 := hide hK9
            have HO9 := hide (show w9.ownsRow (w.heap.size + 1) 3 1 v1 (l ++ [u]).length ((nats (l ++ [u])).map (Value.int .i64)) by simpa [nats] using hown1)
            clear hown1 hg1 hg2 hK9 HI4 HO4 hsz Hs8
            go_wp2_with fail
            go_roundw
            case rel =>
              refine ⟨r + 1, l ++ [u], afterF (unF us) st u, beginF (dst d) (unF us) st.off time u + (unF us u).span, by omega, by rw [Hy.out, Hsp.out]; try rw [Int.add_zero], by go_num, hide ⟨HK9.out, HB9.out⟩, HO9, hide ⟨HQ.out.1.next Hok.out hun (by rw [Hy.out]; exact hbeg), by rw [List.length_append, HQ.out.2.1]; rfl, ?_⟩⟩
              rw [HQ.out.2.2, HM.out, quickF, HC.out, show us.length - (r + 1) = m by have := HM.out; omega]
              simp only [Option.map_map]
              congr 1
              funext t
              try simp
            case measure => simp [intOf]; omega
    · obtain rfl : r = us.length := by omega
      have hn := hide (show quickF (dst d) (unF us) us.length us.length ⟨0, none⟩ 0 = some l by rw [HQ.out.2.2, Nat.sub_self, quickF]; try simp)
      obtain ⟨vp, vc, rfl⟩ := own_slice HO.out
      go_wp2
      exact HR1.out l hn.out _ _ _ HI.out.2 (IntsAt.of_own HO.out)
end Go.Proofs.Ytaopfoicdjejnaa
