/- The units that can be next. -/
import Derived.Test.YtaopfoicdjejnaaC5
set_option linter.unusedVariables false
set_option linter.unusedSimpArgs false
namespace Go.Proofs.Ytaopfoicdjejnaa
open Go.RowKit

/-- A search with its table. -/
def SrF (w : World) (sb : Nat) (d : List (List Int)) (us : List Uv) (fs : List Nat) : Prop :=
  SrAt w sb d us ∧ ∃ fp fc, w.cell? ⟨sb, 2, none⟩ = some (.slice fp us.length fc) ∧ IntsAt .u32 w fp (nats fs)
theorem SrF.keep {w w' : World} {sb : Nat} {d : List (List Int)} {us : List Uv} {fs : List Nat} (hk : Keeps w w') (h : SrF w sb d us fs) : SrF w' sb d us fs := by
  obtain ⟨h1, fp, fc, h2, h3⟩ := h
  exact ⟨h1.keep hk, fp, fc, hk _ _ h2, h3.keep hk⟩
theorem PW.srf {d us dp up dc uc sb g w0 wr fs} (h : PW d us dp up dc uc sb g w0 wr fs) (hr : RowsAt w0 dp d) (hu : UvsAt w0 up us) : SrF wr sb d us fs :=
  ⟨h.sr hr hu, _, _, h.blk.cell rfl, IntsAt.of_own h.own⟩
theorem SrF.at_ {w : World} {sb : Nat} {d : List (List Int)} {us : List Uv} {fs : List Nat} (h : SrF w sb d us fs) (hl : fs.length = us.length) {u : Nat} (hu : u < us.length) :
    ∃ b o fc x, w.cell? ⟨sb, 2, none⟩ = some (.slice (some ⟨b, o, none⟩) us.length fc) ∧ fs[u]? = some x ∧ w.cell? ⟨b, o + u, none⟩ = some (.int .u32 (x : Int)) := by
  obtain ⟨_, fp, fc, h2, h3⟩ := h
  obtain ⟨b, o, x, rfl, hx, hc⟩ := h3.at_ (i := u) (by simp [nats]; omega)
  unfold nats at hx
  rw [List.getElem?_map] at hx
  obtain ⟨y, hy, rfl⟩ := Option.map_eq_some_iff.1 hx
  exact ⟨b, o, fc, y, h2, hy, hc⟩
theorem SrF.c1 {w : World} {sb : Nat} {d : List (List Int)} {us : List Uv} {fs : List Nat} (h : SrF w sb d us fs) : ∃ up uc, w.cell? ⟨sb, 1, none⟩ = some (.slice up us.length uc) := by
  obtain ⟨⟨dp, dc, up, uc, h1, h2, h3, h4⟩, _⟩ := h
  exact ⟨up, uc, h2⟩
theorem ints_oneCell (k : IntKind) (l : List Int) : ∀ u ∈ l.map (Value.int k), u.oneCell' = true := by
  intro u hu
  obtain ⟨x, _, rfl⟩ := List.mem_map.1 hu
  rfl
theorem own_addr {w : World} {base b e n cap : Nat} {size : Nat} {p : Option Addr} {xs : List Value} (h : w.ownsRow base e size (.slice p n cap) n xs) (hb : b ≤ base) : ∀ a, p = some a → b ≤ a.block := fun a ha => by
  rcases h.2 with ⟨hv, _⟩ | ⟨g, cap', cur, hv, hg, _⟩
  · injection hv with hv; rw [ha] at hv; cases hv
  · injection hv with hv; rw [ha] at hv; injection hv with hv; rw [hv]; exact Nat.le_trans hb hg
theorem own_slice {w : World} {base : Nat} {e : TypeId} {size n : Nat} {v : Value} {xs : List Value} (h : w.ownsRow base e size v n xs) : ∃ p c, v = .slice p n c := by
  rcases h.2 with ⟨rfl, rfl⟩ | ⟨g, cap, cur, rfl, _⟩
  · exact ⟨_, _, rfl⟩
  · exact ⟨_, _, rfl⟩
theorem own_drewN {w : World} {base : Nat} {e : TypeId} {size n : Nat} {v : Value} {xs : List Value} (h : w.ownsRow base e size v n xs) (k : Nat) : (w.drewN k).ownsRow base e size v n xs := h
theorem own_below {w w' : World} {base : Nat} {e : TypeId} {size n : Nat} {v : Value} {xs : List Value} (h : w.ownsRow base e size v n xs) (hb : Below w.heap.size w w') : w'.ownsRow base e size v n xs :=
  h.kept (row := none) ⟨hb.os, hb.tape, hb.output, hb.size, fun k hk _ => hb.block k hk⟩ (by cases v.ownBlock <;> simp)
section
variable (D : Nat → Nat → Int) (us : Nat → Un) (n done : Nat)
/-- Those of the first k units that can be next. -/
def lkF (k : Nat) : List Nat := ((List.range k).filter fun u => !done.testBit u).filter (readyF D us n done)
def frI : Option Nat → Int
  | none => -1
  | some u => u
variable {D us n done}
theorem lkF_no {k : Nat} (h : done.testBit k = true ∨ readyF D us n done k = false) : lkF D us n done (k + 1) = lkF D us n done k := by
  unfold lkF
  rw [List.range_succ, List.filter_append, List.filter_append]
  rcases h with h | h
  · simp [h]
  · cases hd : done.testBit k <;> simp [h, hd]
theorem lkF_yes {k : Nat} (h : done.testBit k = false) (h2 : readyF D us n done k = true) : lkF D us n done (k + 1) = lkF D us n done k ++ [k] := by
  unfold lkF
  rw [List.range_succ, List.filter_append, List.filter_append]
  simp [h, h2]
theorem lkF_len (k : Nat) : (lkF D us n done k).length ≤ k := by
  unfold lkF
  have h1 := List.length_filter_le (readyF D us n done) ((List.range k).filter fun u => !done.testBit u)
  have h2 := List.length_filter_le (fun u => !done.testBit u) (List.range k)
  rw [List.length_range] at h2
  omega
theorem choices_nil {off : Option Nat} {time : Int} {k : Nat} (hk : k < n) (h : done.testBit k = false) (hb : beginF D us off time k < 0) : choicesF D us n ⟨done, off⟩ time = [] := by
  unfold choicesF
  rw [if_pos]
  exact List.any_eq_true.2 ⟨k, mem_leftF.2 ⟨hk, h⟩, by simpa using hb⟩
theorem choices_all {off : Option Nat} {time : Int} (h : ∀ k < n, done.testBit k = false → 0 ≤ beginF D us off time k) :
    choicesF D us n ⟨done, off⟩ time = match (lkF D us n done n).find? (freeF D us ⟨done, off⟩ time) with | some u => [u] | none => lkF D us n done n := by
  unfold choicesF
  rw [if_neg]
  · rfl
  · rw [Bool.not_eq_true, List.any_eq_false]
    intro k hk
    have hk' := mem_leftF.1 hk
    have := h k hk'.1 hk'.2
    simp; omega
end

set_option maxRecDepth 100000 in
set_option maxHeartbeats 4000000 in
theorem choices_c (sb : Nat) (d : List (List Int)) (us : List Uv) (fs : List Nat) (done : Nat) (off : Option Nat) (time : Int) (w : World) (R) (hS : SrF w sb d us fs) (hok : SrOk d us) (hfs : FsOk (dst d) (unF us) us.length fs) (hd : done < 65536) (ht : 0 ≤ time) (ht2 : time ≤ 5000000)
    (hoff : ∀ o, off = some o → o < d.length)
    (hR : ∀ q c w', Below w.heap.size w w' → IntsAt .i64 w' q (nats (choicesF (dst d) (unF us) us.length ⟨done, off⟩ time)) → (∀ a, q = some a → w.heap.size ≤ a.block) → R (.returned (.slice q (choicesF (dst d) (unF us) us.length ⟨done, off⟩ time).length c)) w') :
    Calls Try.prog 43 #[.pointer (some ⟨sb, 0, none⟩), .agg #[.int .u32 (done : Int), .int .i64 (offI off)], .int .i64 time] w R := by
  have HS0 := hide hS
  have HR := hide hR; have Hok := hide hok; have Hfs := hide hfs; have Hoff := hide hoff
  have HS := hide (hS.keep (Keeps.alloc w (.cells #[.int .u32 (done : Int), .int .i64 (offI off)] 54)))
  have HK := hide (Blk.new w #[.int .u32 (done : Int), .int .i64 (offI off)] 54)
  have HB := hide (balloc (Below.refl w.heap.size w) (.cells #[.int .u32 (done : Int), .int .i64 (offI off)] 54))
  have hfew := hok.few
  obtain ⟨i0, hi0, hz0, hz1, hz2⟩ := info_parts Try.info3
  obtain ⟨up, uc, c1⟩ := HS.out.c1
  clear hR hok hfs hoff hS
  have Hw : Hid (0 < 1) := hide (by omega)
  go_enter Try.func43, Try.ntmps43
  go_wp2
  clear c1
  generalize w.alloc (.cells #[.int .u32 (done : Int), .int .i64 (offI off)] 54) = W at *
  go_loopw [7, 8, 15] (fun v s8 su wr => ∃ (k : Nat) (fr : Int), k ≤ us.length ∧ s8 = .int .i64 fr ∧ su = .int .i64 k ∧ Hid (SrF wr sb d us fs ∧ Blk wr w.heap.size #[.int .u32 (done : Int), .int .i64 (offI off)] 54 ∧ Below w.heap.size w wr) ∧
      Hid (wr.ownsRow (w.heap.size + 1) 3 1 v (lkF (dst d) (unF us) us.length done k).length ((nats (lkF (dst d) (unF us) us.length done k)).map (Value.int .i64))) ∧
      Hid (∀ u < k, done.testBit u = false → 0 ≤ beginF (dst d) (unF us) off time u) ∧ Hid (fr = frI ((lkF (dst d) (unF us) us.length done k).find? (freeF (dst d) (unF us) ⟨done, off⟩ time)))) (fun _ _ su _ => us.length - (intOf su).toNat)
  case atStart => exact ⟨0, -1, Nat.zero_le _, rfl, rfl, hide ⟨HS.out, HK.out, HB.out⟩, hide (World.ownsRow_nil ..), hide (fun u h => absurd h (by omega)), hide rfl⟩
  case round =>
    clear HS HK HB
    obtain ⟨k, fr, hk, rfl, rfl, HI, HO, HN, HF⟩ := hrel
    by_cases hlt : k < us.length
    · obtain ⟨fb, fo, fc, x, s1, hx, s2⟩ := HI.out.1.at_ Hfs.out.len hlt
      have Hx := hide hx
      clear hx
      have k0 := HI.out.2.1.cell (k := 0) (v := .int .u32 (done : Int)) rfl
      have k1 := HI.out.2.1.cell (k := 1) (v := .int .i64 (offI off)) rfl
      obtain ⟨q, hq⟩ : ∃ q, 2 ^ k = q := ⟨_, rfl⟩
      obtain ⟨e1, e2, e3⟩ := shl_val (show k < 16 by omega) hq
      have e5 : (2 : Int) ^ k = (q : Int) := by rw [← hq]; simp
      have e4 := and_val hd (show q < 65536 by rw [← hq]; exact two_lt (by omega))
      obtain ⟨z, hz⟩ : ∃ z, done &&& q = z := ⟨_, rfl⟩
      rw [hz] at e4
      rw [← hq] at hz
      cases hb : done.testBit k with
      | true =>
        have hz0 : ¬ z = 0 := fun h => by rw [h, and_two, hb] at hz; cases hz
        have hz1 : ((z : Int) != 0) = true := by simp; omega
        have Hz := hide hz; have Hb := hide hb
        clear hz hq hb hz0
        go_wp2
        go_quiet (fail)
        go_wp2
        go_roundw
        case rel => exact ⟨k + 1, fr, by omega, rfl, by go_num, hide ⟨HI.out.1.keep (Dr.one _ _).keeps, HI.out.2.1.drewN _, below_drewN' HI.out.2.2 _⟩, hide (by rw [lkF_no (.inl Hb.out)]; exact own_drewN HO.out _), hide (fun u h1 h2 => by
            rcases Nat.lt_or_ge u k with h' | h'
            · exact HN.out u h' h2
            · obtain rfl : u = k := by omega
              rw [Hb.out] at h2; cases h2), hide (by rw [lkF_no (.inl Hb.out)]; exact HF.out)⟩
        case measure => simp [intOf]; omega
      | false =>
        have hz0 : z = 0 := by rw [← hz]; exact and_two.2 hb
        have Hz := hide hz; have Hb := hide hb
        clear hz hq hb
        subst hz0
        go_wp2
        go_quiet (fail)
        go_wp2_with (go_at_call 28; refine Stop.out ?_)
        refine Stop.go (begin_c sb d us done off time k _ _ (HI.out.1.1.keep (Dr.one _ _).keeps) Hok.out hlt ht ht2 Hoff.out ?_)
        intro w1 hb
        have HI1 : Hid (SrF w1 sb d us fs ∧ Blk w1 w.heap.size #[.int .u32 (done : Int), .int .i64 (offI off)] 54 ∧ Below w.heap.size w w1) := hide ⟨(HI.out.1.keep (Dr.one _ _).keeps).keep (Keeps.of_below hb), (HI.out.2.1.drewN _).next hb, bseq (below_drewN' HI.out.2.2 _) hb⟩
        have HO1 := hide (own_below (own_drewN HO.out nq) hb)
        clear hb HI HO s1 s2 k0 k1 e1 e2 e3 e4 e5
        obtain ⟨y, hy⟩ : ∃ y, beginF (dst d) (unF us) off time k = y := ⟨_, rfl⟩
        rw [hy]
        by_cases hneg : y < 0
        · have Hn := hide (choices_nil (D := dst d) (us := unF us) hlt Hb.out (by rw [hy]; exact hneg))
          have HR1 := hide HR.out
          rw [Hn.out] at HR1
          clear hy
          go_wp2
          exact HR1.out _ _ _ HI1.out.2.2 IntsAt.nil (fun a h => by cases h)
        · have hN1 := hide (show ∀ u < k + 1, done.testBit u = false → 0 ≤ beginF (dst d) (unF us) off time u from fun u h1 h2 => by
            rcases Nat.lt_or_ge u k with h' | h'
            · exact HN.out u h' h2
            · obtain rfl : u = k := by omega
              omega)
          clear hy HN
          obtain ⟨fb, fo, fc, x', s1, hx', s2⟩ := HI1.out.1.at_ Hfs.out.len hlt
          have : x' = x := by have := Hx.out; rw [hx'] at this; injection this
          subst this
          clear hx'
          have k0 := HI1.out.2.1.cell (k := 0) (v := .int .u32 (done : Int)) rfl
          have k1 := HI1.out.2.1.cell (k := 1) (v := .int .i64 (offI off)) rfl
          have e4 := andNot_val ((Hfs.out.bits k x' Hx.out).1) hd
          have hrd := Hfs.out.ready (done := done) Hx.out
          obtain ⟨z, hz⟩ : ∃ z, lessF x' done = z := ⟨_, rfl⟩
          rw [hz] at e4 hrd
          clear hz
          cases hr : readyF (dst d) (unF us) us.length done k with
          | false =>
            have hz0 : ¬ z = 0 := fun h => by rw [hrd.1 h] at hr; cases hr
            have hz1 : ((z : Int) == 0) = false := by simp; omega
            have Hr := hide hr
            clear hr hrd hz0
            go_wp2
            go_quiet (fail)
            go_wp2
            go_roundw
            case rel => exact ⟨k + 1, fr, by omega, rfl, by go_num, hide ⟨HI1.out.1.keep (Dr.one _ _).keeps, HI1.out.2.1.drewN _, below_drewN' HI1.out.2.2 _⟩, hide (by rw [lkF_no (.inr Hr.out)]; exact own_drewN HO1.out _), hN1, hide (by rw [lkF_no (.inr Hr.out)]; exact HF.out)⟩
            case measure => simp [intOf]; omega
          | true =>
            have hz0 : z = 0 := hrd.2 hr
            have Hr := hide hr
            clear hr hrd
            subst hz0
            have hll := lkF_len (D := dst d) (us := unF us) (n := us.length) (done := done) k
            have Hnext := hide (lkF_yes (D := dst d) (us := unF us) (n := us.length) Hb.out Hr.out)
            generalize hpl : lkF (dst d) (unF us) us.length done k = pl at *
            have Hpl := hide hpl; clear hpl
            go_wp2
            go_quiet (fail)
            go_wp2_with (at_builtin; refine Stop.out ?_)
            refine Stop.go ?_
            refine wpList_app _ rfl (.tmp 41) (.tmp 43) 25 rfl (w.heap.size + 1) 3 i0 _ 1 8 Try.underlying25 hi0 hz0 hz1 hz2 rfl (by omega) _ pl.length ((nats pl).map (Value.int .i64)) rfl ((own_drewN HO1.out nq).alloc _) (some ⟨(w1.drewN nq).heap.size, 0, none⟩) 1 1 [.int .i64 (k : Int)] rfl ⟨rfl, fun _ => ⟨_, rfl, fun j u hu => ?_⟩⟩ (ints_oneCell .i64 [(k : Int)]) (by unfold maxLen; omega) (by omega) (by have := HI1.out.2.1.lt; simp; omega) ?_
            · match j, hu with
              | 0, hu => cases hu; exact cell_new
            intro v1 w2 hown1 hg1
            have hg2 := World.grownBy.trans (World.grownBy_alloc (w1.drewN nq) (.cells #[.int .i64 (k : Int)] 3) _) hg1
            have hB2 : Below w.heap.size w w2 := (below_drewN' HI1.out.2.2 nq).grown hg2 HI1.out.2.2.size (fun k hk => by have := (HO1.out.lt k hk).1; omega)
            have HI2 : Hid (SrF w2 sb d us fs ∧ Blk w2 w.heap.size #[.int .u32 (done : Int), .int .i64 (offI off)] 54 ∧ Below w.heap.size w w2) := hide ⟨HS0.out.keep (Keeps.of_below hB2), by
              have hlt := HI1.out.2.1.lt
              have h1 := hg2.block w.heap.size hlt (fun e => by have := (HO1.out.lt _ e.symm).1; omega)
              exact h1.trans HI1.out.2.1, hB2⟩
            have HO2 := hide (show w2.ownsRow (w.heap.size + 1) 3 1 v1 (pl ++ [k]).length ((nats (pl ++ [k])).map (Value.int .i64)) by simpa [nats] using hown1)
            clear hown1 hg1 hg2 hB2 HI1 HO1 s1 s2 k0 k1 e4
            have k0 := HI2.out.2.1.cell (k := 0) (v := .int .u32 (done : Int)) rfl
            have k1 := HI2.out.2.1.cell (k := 1) (v := .int .i64 (offI off)) rfl
            cases hf : pl.find? (freeF (dst d) (unF us) ⟨done, off⟩ time) with
            | some u0 =>
              have hfr : fr = (u0 : Int) := by have := HF.out; rw [hf] at this; exact this
              subst hfr
              have hu0 : ¬ (u0 : Int) < 0 := by omega
              have hnf := hide (show (pl ++ [k]).find? (freeF (dst d) (unF us) ⟨done, off⟩ time) = some u0 by rw [List.find?_append, hf]; rfl)
              clear hf HF
              go_wp2
              go_roundw
              case rel => exact ⟨k + 1, (u0 : Int), by omega, rfl, by go_num, HI2, by rw [Hnext.out]; exact HO2, hN1, hide (by rw [Hnext.out, hnf.out]; rfl)⟩
              case measure => simp [intOf]; omega
            | none =>
              have hfr : fr = -1 := by have := HF.out; rw [hf] at this; exact this
              subst hfr
              cases hb2 : freeF (dst d) (unF us) ⟨done, off⟩ time k
              all_goals
                have Hb2 := hide hb2
                have hnf := hide (show (pl ++ [k]).find? (freeF (dst d) (unF us) ⟨done, off⟩ time) = [k].find? (freeF (dst d) (unF us) ⟨done, off⟩ time) by rw [List.find?_append, hf]; rfl)
                clear hf HF hb2
                go_wp2_with (go_at_call 49; refine Stop.out ?_)
                refine Stop.go (free_c sb d us done off time k _ _ HI2.out.1.1 Hok.out hlt ht ht2 Hoff.out ?_)
                intro w3 hb
                rw [Hb2.out]
                have HI3 : Hid (SrF w3 sb d us fs ∧ Blk w3 w.heap.size #[.int .u32 (done : Int), .int .i64 (offI off)] 54 ∧ Below w.heap.size w w3) := hide ⟨HI2.out.1.keep (Keeps.of_below hb), HI2.out.2.1.next hb, bseq HI2.out.2.2 hb⟩
                have HO3 := hide (own_below HO2.out hb)
                clear hb k0 k1
                go_wp2
                go_roundw
                case rel => first | exact ⟨k + 1, -1, by omega, rfl, by go_num, HI3, by rw [Hnext.out]; exact HO3, hN1, hide (by rw [Hnext.out, hnf.out]; simp [Hb2.out, frI])⟩ | exact ⟨k + 1, (k : Int), by omega, rfl, by go_num, HI3, by rw [Hnext.out]; exact HO3, hN1, hide (by rw [Hnext.out, hnf.out]; simp [Hb2.out, frI])⟩
                case measure => simp [intOf]; omega
    · obtain rfl : k = us.length := by omega
      have hall := choices_all (D := dst d) (us := unF us) (n := us.length) (done := done) (off := off) (time := time) HN.out
      cases hf : (lkF (dst d) (unF us) us.length done us.length).find? (freeF (dst d) (unF us) ⟨done, off⟩ time) with
      | some u0 =>
        rw [hf] at hall
        have hfr : fr = (u0 : Int) := by have := HF.out; rw [hf] at this; exact this
        subst hfr
        have hu0 : (0 : Int) ≤ (u0 : Int) := by omega
        have HR1 := hide HR.out
        rw [hall] at HR1
        clear hf HF hall
        go_wp2
        exact HR1.out _ _ _ (balloc HI.out.2.2 _) (IntsAt.lit [(u0 : Int)]) (fun a h => by injection h with h; subst h; exact HI.out.2.2.size)
      | none =>
        rw [hf] at hall
        have hfr : fr = -1 := by have := HF.out; rw [hf] at this; exact this
        subst hfr
        have HR1 := hide HR.out
        rw [hall] at HR1
        clear hf HF hall
        obtain ⟨vp, vc, rfl⟩ := own_slice HO.out
        go_wp2
        exact HR1.out _ _ _ HI.out.2.2 (IntsAt.of_own HO.out) (own_addr HO.out (by omega))
end Go.Proofs.Ytaopfoicdjejnaa
