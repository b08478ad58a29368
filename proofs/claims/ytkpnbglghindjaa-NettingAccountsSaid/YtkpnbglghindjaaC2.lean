import Derived.Test.YtkpnbglghindjaaC1
import Derived.StillTailTactics
set_option linter.unusedVariables false
set_option linter.unusedSimpArgs false
namespace Go.Proofs.Ytkpnbglghindjaa
open Go.RowKit Math

theorem info_int : (Try.prog.info? 3).map (fun i => (i.zero, i.size, i.bytes)) = some (some (.int .i64 0), 1, 8) := by kernel_rfl
theorem info_tr : (Try.prog.info? 36).map (fun i => (i.zero, i.size, i.bytes)) = some (some (.agg #[.int .i64 0, .int .i64 0, .int .i64 0]), 3, 24) := by kernel_rfl

/-- A slice of ints that the call owns (its block lies from base on). -/
abbrev OwnI (w : World) (base : Nat) (v : Value) (l : List Int) : Prop := w.ownsRow base 3 1 v l.length (l.map (Value.int .i64))

theorem intsAt_cells {w : World} {b o : Nat} {l : List Int} (h : IntsAt .i64 w (some ⟨b, o, none⟩) l) : ∀ j u, (l.map (Value.int .i64))[j]? = some u → w.cell? ((⟨b, o, none⟩ : Addr).add j) = some u := by
  intro j u hu
  rw [List.getElem?_map] at hu
  obtain ⟨x, hx, rfl⟩ := Option.map_eq_some_iff.1 hu
  obtain ⟨b', o', hp, hc⟩ := h (by have := (List.getElem?_eq_some_iff.1 hx).1; omega)
  injection hp with hp
  injection hp with h1 h2
  subst h1; subst h2
  rw [Addr.add_lit]
  exact hc j x hx

set_option maxHeartbeats 400000 in
theorem clone_c (p : Option Addr) (n cap : Nat) (l : List Int) (w : World) (R) (hn : l.length = n) (hl : n ≤ 1000000) (h : IntsAt .i64 w p l)
    (hp : p = none → n = 0)
    (hR : ∀ v w', Below w.heap.size w w' → OwnI w' w.heap.size v l → R (.returned v) w') : Calls Try.prog 23 #[.slice p n cap] w R := by
  obtain ⟨i0, hi0, hz0, hz1, hz2⟩ := info_parts info_int
  have q := fun (w : World) a n c n' c' => Lib.run_eql_slice_nil (P := Try.prog) w 22 3 a n c n' c' Try.underlying22
  have Hn := hide hn; clear hn
  have HR := hide hR; clear hR
  cases p with
  | none =>
    have hl0 : l = [] := List.eq_nil_of_length_eq_zero (by rw [Hn.out]; exact hp rfl)
    have Hl := hide hl0; clear hl0 hp
    go_enter Try.func23, Try.ntmps23
    go_wp2_with fail
    have := HR.out (.slice none 0 0) w (Below.refl _ _)
    rw [Hl.out] at this
    exact this (World.ownsRow_nil ..)
  | some a =>
    clear hp
    go_enter Try.func23, Try.ntmps23
    go_wp2_with (at_builtin; refine wpList_app _ rfl (.tmp 5) (.tmp 6) 22 rfl w.heap.size 3 i0 _ 1 8 Try.underlying22 hi0 hz0 hz1 hz2 rfl (by omega) _ 0 [] rfl (World.ownsRow_lit _ #[] 0 (Nat.le_refl _) (by decide) rfl) (some a) n cap (l.map (Value.int .i64)) rfl ((Src.ints Hn.out h).keep (Keeps.alloc _ _)) (ints_oneCell _ _) (by unfold maxLen; omega) (by omega) (by simp) ?_; intro v1 w1 hown1 hg1)
    have hg2 : (w.alloc (.cells #[] 3)).grownBy w1 (some w.heap.size) := hg1
    have hb := ((Below.refl w.heap.size w).alloc (Nat.le_refl _) (.cells #[] 3)).grown hg2 (by simp) (fun k hk => by injection hk with hk; omega)
    rw [Nat.zero_add, List.nil_append, ← Hn.out] at hown1
    exact HR.out _ _ hb hown1

/-- A payment between n accounts, of a permitted amount. -/
def TrOk (n : Nat) (t : Tr) : Prop := 0 ≤ t.fr ∧ t.fr < n ∧ 0 ≤ t.to_ ∧ t.to_ < n ∧ -1000000000000 ≤ t.am ∧ t.am ≤ 1000000000000

def Bd (M : Int) (xs : List Int) : Prop := ∀ x ∈ xs, -M ≤ x ∧ x ≤ M
theorem Bd.getD {M : Int} {xs : List Int} (h : Bd M xs) (hM : 0 ≤ M) (i : Nat) : -M ≤ xs.getD i 0 ∧ xs.getD i 0 ≤ M := by
  rw [List.getD_eq_getElem?_getD]
  cases hx : xs[i]? with
  | none => simp; omega
  | some x => exact h x (List.mem_of_getElem? hx)
theorem Bd.set {M N : Int} {xs : List Int} (h : Bd M xs) (hMN : M ≤ N) (i : Nat) (v : Int) (hv : -N ≤ v ∧ v ≤ N) : Bd N (xs.set i v) := fun x hx => by
  rcases List.mem_or_eq_of_mem_set hx with h1 | h1
  · have := h x h1; omega
  · subst h1; exact hv
theorem Bd.mono {M N : Int} {xs : List Int} (h : Bd M xs) (hMN : M ≤ N) : Bd N xs := fun x hx => by have := h x hx; omega
theorem Bd.payOne {M : Int} {xs : List Int} {n : Nat} {t : Tr} (h : Bd M xs) (hM : 0 ≤ M) (ht : TrOk n t) : Bd (M + 2000000000000) (payOne xs t) := by
  have h1 : Bd (M + 1000000000000) (xs.set t.fr.toNat (xs.getD t.fr.toNat 0 + t.am)) :=
    h.set (by omega) _ _ (by have := h.getD hM t.fr.toNat; unfold TrOk at ht; omega)
  exact h1.set (by omega) _ _ (by have := h1.getD (by omega) t.to_.toNat; unfold TrOk at ht; omega)

theorem owni_cell {w : World} {base g cap : Nat} {n : Nat} {xs : List Int} (h : w.ownsRow base 3 1 (.slice (some ⟨g, 0, none⟩) n cap) n (xs.map (Value.int .i64))) {i : Nat} (hi : i < n) : w.cell? ⟨g, i, none⟩ = some (.int .i64 (xs.getD i 0)) := by
  have hl : xs.length = n := by simpa using h.1
  rw [h.cellAt i (by omega), List.getElem?_map, List.getElem?_eq_getElem (by omega), List.getD_eq_getElem?_getD, List.getElem?_eq_getElem (by omega)]
  rfl

theorem owni_at {w : World} {base g cap : Nat} {n : Nat} {xs : List Int} (h : w.ownsRow base 3 1 (.slice (some ⟨g, 0, none⟩) n cap) n (xs.map (Value.int .i64))) {i : Nat} (hi : i < n) :
    ∃ x, xs.getD i 0 = x ∧ w.cell? ⟨g, i, none⟩ = some (.int .i64 x) := ⟨_, rfl, owni_cell h hi⟩
theorem owni_set {w : World} {base g cap : Nat} {n : Nat} {xs : List Int} (h : w.ownsRow base 3 1 (.slice (some ⟨g, 0, none⟩) n cap) n (xs.map (Value.int .i64))) (i : Nat) (x : Int) :
    (w.setCell ⟨g, i, none⟩ (.int .i64 x)).ownsRow base 3 1 (.slice (some ⟨g, 0, none⟩) n cap) n ((xs.set i x).map (Value.int .i64)) := by
  rw [List.map_set]
  exact (h.stored i (.int .i64 x)).1
theorem grownBy_set {w w1 : World} {g : Nat} (h : w.grownBy w1 (some g)) (i : Nat) (u : Value) : w.grownBy (w1.setCell ⟨g, i, none⟩ u) (some g) :=
  ⟨h.os, h.tape, h.output, by simpa [World.setCell] using h.size, fun k hk hne => (Below.heap_setCell w1 ⟨g, i, none⟩ u k (by rintro rfl; exact hne rfl)).trans (h.block k hk hne)⟩

set_option maxHeartbeats 1000000 in
theorem pay_c (g n cap base m cap' : Nat) (q : Option Addr) (xs : List Int) (l : List Tr) (w : World) (R) (hm : l.length = m) (hm' : m ≤ 1000) (hb : base ≤ g) (hgs : g < w.heap.size)
    (hown : w.ownsRow base 3 1 (.slice (some ⟨g, 0, none⟩) n cap) n (xs.map (Value.int .i64))) (hn : n ≤ 1000000) (h : TrsAt w q l) (hq : 0 < m → ∀ b o, q = some ⟨b, o, none⟩ → b ≠ g)
    (hok : ∀ t ∈ l, TrOk n t) (hbd : Bd 4000000000000000000 xs)
    (hR : ∀ w', w'.ownsRow base 3 1 (.slice (some ⟨g, 0, none⟩) n cap) n ((payAll xs l).map (Value.int .i64)) → w.grownBy w' (some g) → R (.returned (.tuple #[])) w') :
    Calls Try.prog 27 #[.slice (some ⟨g, 0, none⟩) n cap, .slice q m cap'] w R := by
  have Hm := hide hm; clear hm
  have HR := hide hR; clear hR
  have Hok := hide hok; clear hok
  have Hown := hide hown; clear hown
  have Hq := hide hq; clear hq
  have Hbd := hide hbd; clear hbd
  go_enter Try.func27, Try.ntmps27
  go_wp2
  go_loopw [8] (fun i wr => ∃ k : Nat, k ≤ m ∧ i = .int .i64 k ∧ Hid (wr.ownsRow base 3 1 (.slice (some ⟨g, 0, none⟩) n cap) n ((payAll xs (l.take k)).map (Value.int .i64))) ∧ w.grownBy wr (some g)
     ∧ Hid (Bd (4000000000000000000 + k * 2000000000000) (payAll xs (l.take k)))) (fun i _ => m - (intOf i).toNat)
  case atStart => exact ⟨0, Nat.zero_le _, rfl, hide (by simpa [payAll] using Hown.out), World.grownBy.refl _ _, hide (by simpa [payAll] using Hbd.out)⟩
  case round =>
    obtain ⟨k, hk, rfl, ho, hg, hbk⟩ := hrel
    by_cases hlt : k < m
    · obtain ⟨b, o, x, rfl, hx, hc1, hc2, hc3⟩ := h.at_ (i := k) (by rw [Hm.out]; exact hlt)
      have hbg := Hq.out (by omega) b o rfl
      obtain ⟨hf1, hf2, ht1, ht2, ha1, ha2⟩ := Hok.out x (List.mem_of_getElem? hx)
      obtain ⟨xf, xt, xa⟩ := x
      simp only at hc1 hc2 hc3 hf1 hf2 ht1 ht2 ha1 ha2
      obtain ⟨f, rfl⟩ := Int.eq_ofNat_of_zero_le hf1
      obtain ⟨t, rfl⟩ := Int.eq_ofNat_of_zero_le ht1
      have Hx := hide hx; clear hx h
      replace hc1 := hg.cell hc1 (by simpa using hbg)
      replace hc2 := hg.cell hc2 (by simpa using hbg)
      replace hc3 := hg.cell hc3 (by simpa using hbg)
      generalize hcur : payAll xs (l.take k) = cur at ho hbk
      have Hcur := hide hcur; clear hcur
      go_wp2
      generalize hw1 : wr.alloc (.cells #[.int .i64 (f : Int), .int .i64 (t : Int), .int .i64 xa] 36) = w1
      have c0 : w1.cell? ⟨wr.heap.size, 0, none⟩ = some (.int .i64 (f : Int)) := by subst hw1; simp
      have c1 : w1.cell? ⟨wr.heap.size, 1, none⟩ = some (.int .i64 (t : Int)) := by subst hw1; simp
      have c2 : w1.cell? ⟨wr.heap.size, 2, none⟩ = some (.int .i64 xa) := by subst hw1; simp
      have ho1 : Hid (w1.ownsRow base 3 1 (.slice (some ⟨g, 0, none⟩) n cap) n (cur.map (Value.int .i64))) := by subst hw1; exact hide (ho.out.alloc _)
      have hg1 : w.grownBy w1 (some g) := by subst hw1; exact hg.trans (World.grownBy_alloc _ _ _)
      have hgB : g < wr.heap.size := Nat.lt_of_lt_of_le hgs hg.size
      have hgB1 : wr.heap.size < w1.heap.size := by subst hw1; simp
      clear hw1 ho hc1 hc2 hc3 hg
      generalize wr.heap.size = B at *
      obtain ⟨y1, hy1, hcf⟩ := owni_at ho1.out (i := f) (by omega)
      have b1 := hbk.out.getD (by omega) f
      rw [hy1] at b1
      have Hy1 := hide hy1; clear hy1
      have hfz := fun j => ho1.out.frozenAt j
      go_still_tail 9, (by kernel_rfl)
      change wpList _ _ _ _ _ w1.drew
      go_wp2
      have ho2 := hide (owni_set ho1.out f (y1 + xa))
      have hg2 := grownBy_set hg1 f (.int .i64 (y1 + xa))
      replace c1 : (w1.setCell ⟨g, f, none⟩ (.int .i64 (y1 + xa))).drew.cell? ⟨B, 1, none⟩ = _ := (World.cell?_setCell_other w1 ⟨g, f, none⟩ ⟨B, 1, none⟩ _ (by intro h; injection h; omega)).trans c1
      replace c2 : (w1.setCell ⟨g, f, none⟩ (.int .i64 (y1 + xa))).drew.cell? ⟨B, 2, none⟩ = _ := (World.cell?_setCell_other w1 ⟨g, f, none⟩ ⟨B, 2, none⟩ _ (by intro h; injection h; omega)).trans c2
      replace ho2 : Hid ((w1.setCell ⟨g, f, none⟩ (.int .i64 (y1 + xa))).drew.ownsRow base 3 1 (.slice (some ⟨g, 0, none⟩) n cap) n ((cur.set f (y1 + xa)).map (Value.int .i64))) := ho2
      replace hg2 : w.grownBy (w1.setCell ⟨g, f, none⟩ (.int .i64 (y1 + xa))).drew (some g) := ⟨hg2.os, hg2.tape, hg2.output, hg2.size, hg2.block⟩
      generalize hw2 : (w1.setCell ⟨g, f, none⟩ (.int .i64 (y1 + xa))).drew = w2 at *
      clear hw2 hcf hfz ho1 hg1 hgB1
      have hbk2 : Bd (4000000000000000000 + k * 2000000000000 + 1000000000000) (cur.set f (y1 + xa)) := hbk.out.set (by omega) _ _ (by omega)
      obtain ⟨y2, hy2, hcf⟩ := owni_at ho2.out (i := t) (by omega)
      have b2 := hbk2.getD (by omega) t
      rw [hy2] at b2
      have Hy2 := hide hy2; clear hy2 hbk2
      have hfz := fun j => ho2.out.frozenAt j
      go_still_tail 9, (by kernel_rfl)
      change wpList _ _ _ _ _ w2.drew
      go_wp2
      have ho3 := hide (owni_set ho2.out t (y2 - xa))
      have hg3 := grownBy_set hg2 t (.int .i64 (y2 - xa))
      go_roundw
      case rel =>
        have he : payAll xs (l.take (k + 1)) = (cur.set f (y1 + xa)).set t (y2 - xa) := by
          rw [List.take_add_one, Hx.out]
          show payAll xs (l.take k ++ [_]) = _
          rw [payAll_snoc, Hcur.out]
          simp only [payOne, Int.toNat_natCast, Hy1.out, Hy2.out]
        exact ⟨k + 1, by omega, by go_num, hide (by rw [he]; exact ho3.out), ⟨hg3.os, hg3.tape, hg3.output, hg3.size, hg3.block⟩, hide (by
          have := Bd.payOne hbk.out (by omega) (t := ⟨f, t, xa⟩) (n := n) ⟨by omega, by omega, by omega, by omega, by omega, by omega⟩
          rw [List.take_add_one, Hx.out]
          show Bd _ (payAll xs (l.take k ++ [_]))
          rw [payAll_snoc, Hcur.out]
          exact this.mono (by omega))⟩
      case measure => simp [intOf]; omega
    · have hkm : l.take k = l := List.take_of_length_le (by rw [Hm.out]; omega)
      rw [hkm] at ho
      clear hkm
      go_wp2
      go_end0
      exact HR.out _ ho.out hg

theorem pay0_c (v : Value) (q : Option Addr) (cap' : Nat) (w : World) (R) (hR : R (.returned (.tuple #[])) w) : Calls Try.prog 27 #[v, .slice q 0 cap'] w R := by
  go_enter Try.func27, Try.ntmps27
  go_wp2
  refine wp_loop_once ?_
  go_wp2
  go_end0
  exact hR

end Go.Proofs.Ytkpnbglghindjaa
