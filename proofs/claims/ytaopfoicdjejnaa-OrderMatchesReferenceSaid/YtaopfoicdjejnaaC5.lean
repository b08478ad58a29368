/- Which units have to be before others. -/
import Derived.Test.YtaopfoicdjejnaaC4
import Derived.Test.YtaopfoicdjejnaaP1
set_option linter.unusedVariables false
set_option linter.unusedSimpArgs false
namespace Go.Proofs.Ytaopfoicdjejnaa
open Go.RowKit

theorem Try.info36 : (Try.prog.info? 36).map (fun i => (i.zero, i.size, i.bytes)) = some (some (.int .u32 0), 1, 4) := by kernel_rfl
theorem Try.info3 : (Try.prog.info? 3).map (fun i => (i.zero, i.size, i.bytes)) = some (some (.int .i64 0), 1, 8) := by kernel_rfl
theorem Try.info4 : (Try.prog.info? 4).map (fun i => (i.zero, i.size, i.bytes)) = some (some (.bool false), 1, 1) := by kernel_rfl
theorem mk49 (w : World) (n : Nat) (hn : n ≤ 100000) : ∃ w', Sem.run Try.prog (Instr.makeSlice 49 (.int .i64 (n : Int)) (.int .i64 (n : Int))) w = .ok (.slice (some ⟨w.heap.size, 0, none⟩) n n) w' ∧
    w'.ownsRow w.heap.size 36 1 (.slice (some ⟨w.heap.size, 0, none⟩) n n) n ((List.replicate n (0 : Int)).map (Value.int .u32)) ∧ Below w.heap.size w w' ∧ w.heap.size < w'.heap.size := by
  obtain ⟨i, hi, h⟩ := Option.map_eq_some_iff.1 Try.info36
  simp only [Prod.mk.injEq] at h
  obtain ⟨hz, hs, hb⟩ := h
  obtain ⟨w', h1, h2, h3⟩ := run_makeSlice_full (P := Try.prog) w w.heap.size 49 36 i (.int .u32 0) 1 Try.underlying49 hi hz hs .i64 .i64 n (by omega) (by rw [hb]; omega) (by unfold maxLen; omega) (Nat.le_refl _)
  rw [show (madeCells (Value.cells (.int .u32 0)) (n * 1)).toList = (List.replicate n (0 : Int)).map (Value.int .u32) by rw [List.map_replicate, Nat.mul_one]; exact toList_madeCells_one (.int .u32 0) n] at h2
  refine ⟨w', h1, h2, (Below.refl _ _).grown h3 (Nat.le_refl _) (fun k hk => by cases hk), ?_⟩
  rcases h2.2 with ⟨hv, _⟩ | ⟨g, cap, cur, hv, _, hh, _⟩
  · cases hv
  · injection hv with hv; injection hv with hv; injection hv with hv
    rw [hv]; exact lt_of_block hh
theorem fits_b (sb : Nat) (d : List (List Int)) (us : List Uv) (u u' : Nat) (b : Bool) (w : World) (R) (hS : SrAt w sb d us) (hok : SrOk d us) (hu : u < us.length) (hu' : u' < us.length) (h : fitsF (dst d) (unF us) u u' = b)
    (hR : ∀ w', Below w.heap.size w w' → R (.returned (.bool b)) w') :
    Calls Try.prog 42 #[.pointer (some ⟨sb, 0, none⟩), .int .i64 (u : Int), .int .i64 (u' : Int)] w R :=
  fits_c sb d us u u' w R hS hok hu hu' (by rw [h]; exact hR)
def nats (l : List Nat) : List Int := l.map (fun (x : Nat) => (x : Int))
/-- While the pairs are looked at: the search, and its table. -/
structure PW (d : List (List Int)) (us : List Uv) (dp up : Option Addr) (dc uc sb g : Nat) (w0 wr : World) (fs : List Nat) : Prop where
  below : Below w0.heap.size w0 wr
  blk : Blk wr sb #[.slice dp d.length dc, .slice up us.length uc, .slice (some ⟨g, 0, none⟩) us.length us.length] 51
  own : wr.ownsRow g 36 1 (.slice (some ⟨g, 0, none⟩) us.length us.length) us.length ((nats fs).map (Value.int .u32))
  lt : w0.heap.size ≤ sb
  sg : sb < g
theorem PW.gt {d us dp up dc uc sb g w0 wr fs} (h : PW d us dp up dc uc sb g w0 wr fs) : g < wr.heap.size := by
  rcases h.own.2 with ⟨hv, _⟩ | ⟨g', cap, cur, hv, _, hh, _⟩
  · cases hv
  · injection hv with hv; injection hv with hv; injection hv with hv
    rw [hv]; exact lt_of_block hh
theorem PW.later {d us dp up dc uc sb g w0 wr w' fs} (h : PW d us dp up dc uc sb g w0 wr fs) (hb : Below wr.heap.size wr w') : PW d us dp up dc uc sb g w0 w' fs := by
  have hg := h.gt
  refine ⟨h.below.trans (hb.mono h.below.size), h.blk.next hb, ?_, h.lt, h.sg⟩
  refine h.own.kept (row := none) ⟨hb.os, hb.tape, hb.output, hb.size, fun k hk _ => hb.block k hk⟩ (.inr (by simp [Value.ownBlock]))
theorem PW.sr {d us dp up dc uc sb g w0 wr fs} (h : PW d us dp up dc uc sb g w0 wr fs) (hr : RowsAt w0 dp d) (hu : UvsAt w0 up us) : SrAt wr sb d us :=
  ⟨dp, dc, up, uc, h.blk.cell rfl, h.blk.cell rfl, hr.keep (Keeps.of_below h.below), hu.keep (Keeps.of_below h.below)⟩
theorem PW.drewN {d us dp up dc uc sb g w0 wr fs} (h : PW d us dp up dc uc sb g w0 wr fs) (n : Nat) : PW d us dp up dc uc sb g w0 (wr.drewN n) fs := h.later (below_drewN' (Below.refl _ _) n)
theorem PW.drew {d us dp up dc uc sb g w0 wr fs} (h : PW d us dp up dc uc sb g w0 wr fs) : PW d us dp up dc uc sb g w0 wr.drew fs := h.drewN 1
theorem PW.put {d us dp up dc uc sb g w0 wr fs} (h : PW d us dp up dc uc sb g w0 wr fs) (k x : Nat) : PW d us dp up dc uc sb g w0 (wr.setCell ⟨g, k, none⟩ (.int .u32 (x : Int))) (fs.set k x) :=
  ⟨h.below.setCell (p := ⟨g, k, none⟩) (by show w0.heap.size ≤ g; have := h.lt; have := h.sg; omega) _, h.blk.set_other (by show g ≠ sb; have := h.sg; omega) _, by
    have := owni_set h.own k (x : Int)
    rw [show (nats fs).set k (x : Int) = nats (fs.set k x) by unfold nats; rw [List.map_set]] at this
    exact this, h.lt, h.sg⟩
theorem PW.cell {d us dp up dc uc sb g w0 wr fs} (h : PW d us dp up dc uc sb g w0 wr fs) {k x : Nat} (hx : fs[k]? = some x) : wr.cell? ⟨g, k, none⟩ = some (.int .u32 (x : Int)) := by
  have hl : fs.length = us.length := by have := h.own.1; simpa [nats] using this
  have hk : k < us.length := by rw [← hl]; exact (List.getElem?_eq_some_iff.1 hx).1
  have := owni_cell h.own hk
  rw [this]
  unfold nats
  rw [List.getD_eq_getElem?_getD, List.getElem?_map, hx]; rfl

set_option maxRecDepth 100000 in
set_option maxHeartbeats 4000000 in
theorem precede_c (sb : Nat) (d : List (List Int)) (us : List Uv) (dp up : Option Addr) (dc uc : Nat) (w0 w : World) (R) (hok : SrOk d us) (hr : RowsAt w0 dp d) (hu : UvsAt w0 up us) (hB : Below w0.heap.size w0 w) (hsb : w0.heap.size ≤ sb)
    (hblk : Blk w sb #[.slice dp d.length dc, .slice up us.length uc, .slice none 0 0] 51)
    (hR0 : (∃ i j, i < j ∧ j < us.length ∧ fitsF (dst d) (unF us) i j = false ∧ fitsF (dst d) (unF us) j i = false) → ∀ w', Below w0.heap.size w0 w' → R (.returned (.bool false)) w')
    (hR1 : (∀ i j, i < j → j < us.length → fitsF (dst d) (unF us) i j = true ∨ fitsF (dst d) (unF us) j i = true) → ∀ w' g fs, FsOk (dst d) (unF us) us.length fs → PW d us dp up dc uc sb g w0 w' fs → R (.returned (.bool true)) w') :
    Calls Try.prog 25 #[.pointer (some ⟨sb, 0, none⟩)] w R := by
  have HR0 := hide hR0; have HR1 := hide hR1; have Hok := hide hok; have Hr := hide hr; have Hu := hide hu
  obtain ⟨w1, hm, how, hb1, hz1⟩ := mk49 w us.length (by have := hok.few; omega)
  have c1 := hblk.cell (k := 1) (v := .slice up us.length uc) rfl
  have c2' := (hblk.next hb1).cell (k := 2) (v := .slice none 0 0) rfl
  have f2' := (hblk.next hb1).free 2
  have hP : PW d us dp up dc uc sb w.heap.size w0 (w1.setCell ⟨sb, 2, none⟩ (.slice (some ⟨w.heap.size, 0, none⟩) us.length us.length)) (List.replicate us.length 0) := by
    have hlt := hblk.lt
    refine ⟨(hB.trans (hb1.mono hB.size)).setCell (p := ⟨sb, 2, none⟩) (by show w0.heap.size ≤ sb; omega) _, (hblk.next hb1).set 2 _, ?_, hsb, hlt⟩
    have := ownsRow_setCell_other how (a := ⟨sb, 2, none⟩) (by simp [Value.ownBlock]; omega) (.slice (some ⟨w.heap.size, 0, none⟩) us.length us.length)
    rw [show nats (List.replicate us.length 0) = List.replicate us.length 0 by unfold nats; rw [List.map_replicate]; rfl]
    exact this
  have c3 := hP.blk.cell (k := 1) (v := .slice up us.length uc) rfl
  have HP := hide hP; have HB := hide hB; have Hblk := hide hblk
  have hfew := hok.few
  clear hR0 hR1 hok hr hu hB hblk how hb1 hz1 hP
  go_enter Try.func25, Try.ntmps25
  go_wp2
  clear c1 c2' c3 f2' hm HB Hblk
  generalize w1.setCell ⟨sb, 2, none⟩ (.slice (some ⟨w.heap.size, 0, none⟩) us.length us.length) = W at *
  obtain ⟨g, hg⟩ : ∃ g, g = w.heap.size := ⟨_, rfl⟩
  rw [← hg] at HP
  clear hg
  have hg := HP.out.sg
  go_loopw [21] (fun sj wr => ∃ (j : Nat) (fs : List Nat), j ≤ us.length ∧ sj = .int .i64 j ∧ Hid (FsP (dst d) (unF us) us.length j 0 fs ∧ PW d us dp up dc uc sb g w0 wr fs ∧ ∀ a b, a < b → b < j → fitsF (dst d) (unF us) a b = true ∨ fitsF (dst d) (unF us) b a = true)) (fun sj _ => us.length - (intOf sj).toNat)
  case atStart => exact ⟨0, _, Nat.zero_le _, rfl, hide ⟨FsP.start, HP.out, fun a b _ h => absurd h (by omega)⟩⟩
  case round =>
    clear HP
    obtain ⟨j, fs, hj, rfl, HI⟩ := hrel
    by_cases hlt : j < us.length
    · go_wp2
      go_loopw [25] (fun si wr => ∃ (i : Nat) (fs : List Nat), i ≤ j ∧ si = .int .i64 i ∧ Hid (FsP (dst d) (unF us) us.length j i fs ∧ PW d us dp up dc uc sb g w0 wr fs ∧ (∀ a b, a < b → b < j → fitsF (dst d) (unF us) a b = true ∨ fitsF (dst d) (unF us) b a = true) ∧ ∀ a, a < i → fitsF (dst d) (unF us) a j = true ∨ fitsF (dst d) (unF us) j a = true)) (fun si _ => j - (intOf si).toNat)
      case atStart => exact ⟨0, fs, Nat.zero_le _, rfl, hide ⟨HI.out.1, HI.out.2.1, HI.out.2.2, fun a h => absurd h (by omega)⟩⟩
      case round =>
        clear HI fs
        obtain ⟨i, fs, hi, rfl, HI⟩ := hrel
        by_cases hlti : i < j
        · cases h1 : fitsF (dst d) (unF us) i j <;> cases h2 : fitsF (dst d) (unF us) j i
          all_goals
            have H1 := hide h1
            have H2 := hide h2
            clear h1 h2
            go_wp2_with (go_at_call 42; refine Stop.out ?_)
            refine Stop.go (fits_b sb d us i j _ _ _ (HI.out.2.1.sr Hr.out Hu.out) Hok.out (by omega) hlt H1.out ?_)
            intro w' hb
            have HP := hide (HI.out.2.1.later hb)
            clear hb
            go_wp2_with (go_at_call 42; refine Stop.out ?_)
            refine Stop.go (fits_b sb d us j i _ _ _ (HP.out.sr Hr.out Hu.out) Hok.out hlt (by omega) H2.out ?_)
            intro w'' hb
            replace HP := hide (HP.out.later hb)
            clear hb
          · go_wp2
            exact HR0.out ⟨i, j, hlti, hlt, H1.out, H2.out⟩ _ HP.out.below
          · go_wp2
            obtain ⟨x, hx⟩ : ∃ x, fs[i]? = some x := ⟨fs[i]'(by rw [HI.out.1.len]; omega), List.getElem?_eq_getElem (by rw [HI.out.1.len]; omega)⟩
            have Hx := hide hx
            have s1 := HP.out.blk.cell (k := 2) (v := .slice (some ⟨g, 0, none⟩) us.length us.length) rfl
            have s2 := HP.out.cell hx
            have s3 := fun k => HP.out.own.frozenAt k
            have hx1 := (HI.out.1.bits i x hx).1
            obtain ⟨q, hq⟩ : ∃ q, 2 ^ j = q := ⟨_, rfl⟩
            obtain ⟨e1, e2, e3⟩ := shl_val (show j < 16 by omega) hq
            have e5 : (2 : Int) ^ j = (q : Int) := by rw [← hq]; simp
            have hin : i < us.length := by omega
            have e4 := or_val hx1 (show q < 65536 by rw [← hq]; exact two_lt (by omega))
            obtain ⟨z, hz⟩ : ∃ z, x ||| q = z := ⟨_, rfl⟩
            rw [hz] at e4
            rw [← hq] at hz
            have Hz := hide hz
            clear hx hx1 hq hz
            go_still_tail 11, (by kernel_rfl)
            go_wp2
            clear s1 s2 s3 e1 e2 e3 e4 e5
            go_roundw
            case rel => exact ⟨i + 1, fs.set i z, by omega, by go_num, hide ⟨by rw [← Hz.out]; exact HI.out.1.put hlti hlt hfew (.inl ⟨rfl, rfl⟩) H1.out H2.out Hx.out, ((HP.out.put i z).drew), HI.out.2.2.1, fun a h => by
              rcases Nat.lt_or_ge a i with h' | h'
              · exact HI.out.2.2.2 a h'
              · obtain rfl : a = i := by omega
                exact .inr H2.out⟩⟩
            case measure => simp [intOf]; omega
          · go_wp2
            obtain ⟨x, hx⟩ : ∃ x, fs[j]? = some x := ⟨fs[j]'(by rw [HI.out.1.len]; omega), List.getElem?_eq_getElem (by rw [HI.out.1.len]; omega)⟩
            have Hx := hide hx
            have s1 := HP.out.blk.cell (k := 2) (v := .slice (some ⟨g, 0, none⟩) us.length us.length) rfl
            have s2 := HP.out.cell hx
            have s3 := fun k => HP.out.own.frozenAt k
            have hx1 := (HI.out.1.bits j x hx).1
            obtain ⟨q, hq⟩ : ∃ q, 2 ^ i = q := ⟨_, rfl⟩
            obtain ⟨e1, e2, e3⟩ := shl_val (show i < 16 by omega) hq
            have e5 : (2 : Int) ^ i = (q : Int) := by rw [← hq]; simp
            have hin : i < us.length := by omega
            have e4 := or_val hx1 (show q < 65536 by rw [← hq]; exact two_lt (by omega))
            obtain ⟨z, hz⟩ : ∃ z, x ||| q = z := ⟨_, rfl⟩
            rw [hz] at e4
            rw [← hq] at hz
            have Hz := hide hz
            clear hx hx1 hq hz
            go_still_tail 11, (by kernel_rfl)
            go_wp2
            clear s1 s2 s3 e1 e2 e3 e4 e5
            go_roundw
            case rel => exact ⟨i + 1, fs.set j z, by omega, by go_num, hide ⟨by rw [← Hz.out]; exact HI.out.1.put hlti hlt hfew (.inr ⟨rfl, rfl⟩) H2.out H1.out Hx.out, ((HP.out.put j z).drew), HI.out.2.2.1, fun a h => by
              rcases Nat.lt_or_ge a i with h' | h'
              · exact HI.out.2.2.2 a h'
              · obtain rfl : a = i := by omega
                exact .inl H1.out⟩⟩
            case measure => simp [intOf]; omega
          · go_wp2
            go_roundw
            case rel => exact ⟨i + 1, fs, by omega, by go_num, hide ⟨HI.out.1.keep hlti H1.out H2.out, HP.out, HI.out.2.2.1, fun a h => by
              rcases Nat.lt_or_ge a i with h' | h'
              · exact HI.out.2.2.2 a h'
              · obtain rfl : a = i := by omega
                exact .inl H1.out⟩⟩
            case measure => simp [intOf]; omega
        · obtain rfl : i = j := by omega
          go_wp2
          go_roundw
          case rel => exact ⟨i + 1, fs, by omega, by go_num, hide ⟨HI.out.1.row, HI.out.2.1, fun a b h k => by
              rcases Nat.lt_or_ge b i with h' | h'
              · exact HI.out.2.2.1 a b h h'
              · obtain rfl : b = i := by omega
                exact HI.out.2.2.2 a h⟩⟩
          case measure => simp [intOf]; omega
    · obtain rfl : j = us.length := by omega
      go_wp2
      exact HR1.out HI.out.2.2 _ g fs HI.out.1.all HI.out.2.1
end Go.Proofs.Ytaopfoicdjejnaa
