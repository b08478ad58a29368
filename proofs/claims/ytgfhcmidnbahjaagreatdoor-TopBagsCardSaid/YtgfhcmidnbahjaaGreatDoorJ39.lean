/- TopBags: labels of boxes. TopBags: plain facts on groups, items and their boxes. -/
import Derived.Test.YtgfhcmidnbahjaaGreatDoorJ14
import Derived.Test.YtgfhcmidnbahjaaGreatDoorJ38
import Derived.Test.YtgfhcmidnbahjaaGreatDoorJ37
set_option linter.unusedVariables false
set_option linter.unusedSimpArgs false
namespace Go.Proofs.YtgfhcmidnbahjaaGreatDoor
section
open Go.RowKit Go.Shelf
attribute [local go_sem] Oper.semAt_some run_store_func
def lab3 (b : UInt8) (n : Nat) : ByteArray := ⟨#[b, UInt8.ofNat (48 + n / 10), UInt8.ofNat (48 + n % 10)]⟩
theorem lab3_size (b : UInt8) (n : Nat) : (lab3 b n).size = 3 := rfl
theorem lab3_inj {b c : UInt8} {n m : Nat} (hn : n < 100) (hm : m < 100) (h : lab3 b n = lab3 c m) : b = c ∧ n = m := by
 have h1 := congrArg (fun x : ByteArray => x.data.toList) h
 simp only [lab3, List.cons.injEq, and_true] at h1
 obtain ⟨h1, h2, h3⟩ := h1
 have e2 := congrArg UInt8.toNat h2; have e3 := congrArg UInt8.toNat h3
 rw [UInt8.toNat_ofNat', UInt8.toNat_ofNat'] at e2 e3
 exact ⟨h1, by omega⟩
theorem enc_ascii (r : Nat) (h : r < 128) : Utf8.encode (r : Int) = ⟨#[UInt8.ofNat r]⟩ := by
 have hv : Utf8.valid (r : Int) = true := by simp [Utf8.valid]; omega
 unfold Utf8.encode
 simp only [hv, if_true, Int.toNat_natCast]
 rw [if_pos h]
set_option maxRecDepth 100000 in
set_option maxHeartbeats 1000000 in
theorem digits_c (b : UInt8) (n : Nat) (hn : n < 100) (w : World) (R : Ending → World → Prop) (hR : R (.returned (.string (lab3 b n))) w) :
  Calls Tryz.prog 18 #[.string ⟨#[b]⟩, .int .i64 (n : Int)] w R := by
 have HR := hide hR
 obtain ⟨a, ha⟩ : ∃ a : Nat, n / 10 = a := ⟨_, rfl⟩
 obtain ⟨c, hc⟩ : ∃ c : Nat, n % 10 = c := ⟨_, rfl⟩
 have e1 : (n : Int) / 10 % 10 = (a : Int) := by omega
 have e2 : (n : Int) % 10 = (c : Int) := by omega
 obtain ⟨s0, hs0⟩ : ∃ s0 : ByteArray, (⟨#[b]⟩ : ByteArray) = s0 := ⟨_, rfl⟩
 rw [hs0]
 have e5 := enc_ascii (48 + a) (by omega)
 have e6 := enc_ascii (48 + c) (by omega)
 obtain ⟨s1, hs1⟩ : ∃ s1 : ByteArray, (⟨#[UInt8.ofNat (48 + a)]⟩ : ByteArray) = s1 := ⟨_, rfl⟩
 obtain ⟨s2, hs2⟩ : ∃ s2 : ByteArray, (⟨#[UInt8.ofNat (48 + c)]⟩ : ByteArray) = s2 := ⟨_, rfl⟩
 rw [hs1, show ((48 + a : Nat) : Int) = 48 + (a : Int) by omega] at e5; rw [hs2, show ((48 + c : Nat) : Int) = 48 + (c : Int) by omega] at e6
 have HS0 := hide hs0; have HS1 := hide hs1; have HS2 := hide hs2; have HA := hide ha; have HC := hide hc
 have z0 : s0.size = 1 := by rw [← hs0]; rfl
 have z1 : s1.size = 1 := by rw [← hs1]; rfl
 have z2 : s2.size = 1 := by rw [← hs2]; rfl
 have a1 : ∀ W : World, (Op.stringOp .add s0 s1).run Tryz.prog W = .ok (.string (s0 ++ s1)) W := fun W => run_string_add_sum W s0 s1 (by omega)
 have a2 : ∀ W : World, (Op.stringOp .add (s0 ++ s1) s2).run Tryz.prog W = .ok (.string (s0 ++ s1 ++ s2)) W := fun W => run_string_add_sum W _ s2 (by rw [ByteArray.size_append]; omega)
 have HE : Hid (s0 ++ s1 ++ s2 = lab3 b n) := hide (by
  rw [← hs0, ← hs1, ← hs2]
  exact bytes_ext (by rw [← ha, ← hc]; simp [lab3]))
 clear hs0 hs1 hs2 ha hc z0 z1 z2
 clear hR
 go_enter Tryz.func18, Tryz.ntmps18
 go_wp2
 rw [HE.out]
 exact HR.out
end
section
open Go.RowKit Go.Shelf
theorem mem_insU {x y : Int} {S : List Int} : y ∈ insU x S ↔ y = x ∨ y ∈ S := by
 unfold insU
 by_cases h : x ∈ S
 ·rw [if_pos h]
  constructor
  ·exact .inr
  ·rintro (rfl | h')
   ·exact h
   ·exact h'
 ·rw [if_neg h, List.mem_append, List.mem_singleton]
  constructor
  ·rintro (h | h); exact .inr h; exact .inl h
  ·rintro (h | h); exact .inr h; exact .inl h
theorem mem_setL {y : Int} {l : List Int} : y ∈ setL l ↔ y ∈ l := by
 suffices h : ∀ r : List Int, y ∈ setL r.reverse ↔ y ∈ r.reverse by have := h l.reverse; rwa [List.reverse_reverse] at this
 intro r
 induction r with
 | nil => simp [setL]
 | cons x r ih =>
  rw [List.reverse_cons, setL_snoc, mem_insU, List.mem_append, List.mem_singleton, ih]
  constructor
  ·rintro (h | h); exact .inr h; exact .inl h
  ·rintro (h | h); exact .inr h; exact .inl h
theorem idxF_at {v : Int} : ∀ {l : List Int} {k : Nat}, idxF v l = (k : Int) → l[k]? = some v
 | [], k, h => by rw [idxF] at h; omega
 | x :: l, k, h => by
  rw [idxF] at h
  split at h
  ·rename_i e
   obtain rfl : k = 0 := by omega
   rw [e]; rfl
  ·split at h
   ·omega
   ·have hg := idxF_ge v l
    obtain ⟨j, rfl⟩ : ∃ j, k = j + 1 := ⟨k - 1, by omega⟩
    rw [List.getElem?_cons_succ]
    exact idxF_at (by omega)
structure GrpP (f : Nat → Int) (o n : Nat) (G : List Int) : Prop where
 head : ∃ L, G = (-1) :: L ∧ ∀ x ∈ L, ∃ d, d < n ∧ d ≠ o ∧ f d = x ∧ x ≠ -1
theorem grp_of {nx : Mat} {o n : Nat} {ss : List Int} (h : ss.Perm (setL (usedL nx n o))) : GrpP (nx o) o n ((-1) :: ss.mergeSort (fun x y => decide (x ≤ y))) := by
 refine ⟨_, rfl, fun x hx => ?_⟩
 have h1 : x ∈ ss := (List.mergeSort_perm ss _).mem_iff.1 hx
 have h2 := mem_setL.1 (h.mem_iff.1 h1)
 unfold usedL at h2
 rw [List.mem_filter, List.mem_map] at h2
 obtain ⟨⟨d, hd, rfl⟩, hne⟩ := h2
 rw [List.mem_filter, List.mem_range] at hd
 exact ⟨d, hd.1, by simpa using hd.2, rfl, by simpa using hne⟩
section
variable {f : Nat → Int} {o n : Nat} {G : List Int}
theorem of_rg (h : GrpP f o n G) (d : Nat) : -1 ≤ ofF f o G d ∧ ofF f o G d < G.length := by
 obtain ⟨L, hG, _⟩ := h.head
 have hl : 1 ≤ G.length := by rw [hG, List.length_cons]; omega
 unfold ofF
 split
 ·omega
 ·split
  ·omega
  ·have := idxF_ge (f d) G; omega
theorem of_zero (h : GrpP f o n G) {d : Nat} (h0 : ofF f o G d = 0) : d = o := by
 obtain ⟨L, hG, _⟩ := h.head
 unfold ofF at h0
 split at h0
 ·assumption
 ·split at h0
  ·omega
  ·rename_i hne
   rw [hG, idxF, if_neg hne] at h0
   have := idxF_ge (f d) L
   split at h0 <;> omega
theorem of_pos (h : GrpP f o n G) {d j : Nat} (hj : 0 < j) (h0 : ofF f o G d = (j : Int)) : d ≠ o ∧ f d ≠ -1 ∧ G[j]? = some (f d) := by
 unfold ofF at h0
 split at h0
 ·omega
 ·rename_i hd
  split at h0
  ·omega
  ·rename_i hne
   exact ⟨hd, hne, idxF_at h0⟩
theorem grp_line (h : GrpP f o n G) {j : Nat} {x : Int} (hj : 0 < j) (hx : G[j]? = some x) : ∃ d, d < n ∧ d ≠ o ∧ f d = x ∧ x ≠ -1 := by
 obtain ⟨L, hG, hL⟩ := h.head
 rw [hG] at hx
 obtain ⟨i, rfl⟩ : ∃ i, j = i + 1 := ⟨j - 1, by omega⟩
 rw [List.getElem?_cons_succ] at hx
 exact hL x (List.mem_of_getElem? hx)
end
theorem bound_next {N : Net} {fr till : Int} (hs : Snd N) {o d : Nat} (ho : o < N.offs.length) (hd : d < N.offs.length) (hne : o ≠ d) (hn : nextF' N fr till o d ≠ -1) :
  0 ≤ boundF N fr till (linOf N (nextF' N fr till o d)).dst.toNat d ∧ boundF N fr till (linOf N (nextF' N fr till o d)).dst.toNat d < boundF N fr till o d := by
 refine ⟨?_, next_falls hs o d ho hd hne hn⟩
 unfold nextF' nextM at hn ⊢
 split at hn
 ·exact absurd rfl hn
 ·rename_i hc
  rw [if_neg hc]
  obtain ⟨i, e, hi, hsr, hcc, hb, heq⟩ := best_facts hn
  rw [e]; exact hb
def ddF (its : List Nat) (n i : Nat) : Nat := its.getD i 0 % n
def kpL (its : List Nat) (n : Nat) (of : Nat → Int) (k : Nat) : List Nat := (List.range k).filter fun i => decide (0 ≤ of (ddF its n i))
section
variable {its : List Nat} {n : Nat} {of : Nat → Int}
theorem kpL_yes {k : Nat} (h : 0 ≤ of (ddF its n k)) : kpL its n of (k + 1) = kpL its n of k ++ [k] := by
 unfold kpL
 rw [List.range_succ, List.filter_append]
 simp only [List.filter_cons, List.filter_nil]
 rw [if_pos (decide_eq_true h)]
theorem kpL_no {k : Nat} (h : ¬ 0 ≤ of (ddF its n k)) : kpL its n of (k + 1) = kpL its n of k := by
 unfold kpL
 rw [List.range_succ, List.filter_append]
 simp only [List.filter_cons, List.filter_nil]
 rw [if_neg (by rw [decide_eq_false h]; decide), List.append_nil]
theorem kpL_len (k : Nat) : (kpL its n of k).length ≤ k := by
 unfold kpL; exact Nat.le_trans (List.length_filter_le _ _) (by simp)
theorem kpL_mem {k i : Nat} (h : i ∈ kpL its n of k) : i < k ∧ 0 ≤ of (ddF its n i) := by
 unfold kpL at h
 rw [List.mem_filter, List.mem_range] at h
 exact ⟨h.1, of_decide_eq_true h.2⟩
theorem kpL_incr (k : Nat) : (kpL its n of k).Pairwise (· < ·) := List.Pairwise.filter _ List.pairwise_lt_range
theorem getD_lt {l : List Nat} (h : l.Pairwise (· < ·)) {i j : Nat} (hij : i < j) (hj : j < l.length) : l.getD i 0 < l.getD j 0 := by
 rw [List.getD_eq_getElem?_getD, List.getD_eq_getElem?_getD, List.getElem?_eq_getElem (by omega), List.getElem?_eq_getElem hj]
 exact List.pairwise_iff_getElem.1 h i j (by omega) hj hij
end
def bg0 (kp : List Nat) (g o : Nat) (dst : Nat → Nat) : Bgd :=
 { m := kp.length, g := g, at_ := (o : Int), lab := fun k => if k < kp.length then lab3 73 (kp.getD k 0) else lab3 66 (k - kp.length), dest := fun k => dst (kp.getD k 0), put := fun _ => false, shut := fun _ => false, plc := fun _ => (o : Int) }
def itB (o i : Nat) : Bx := ⟨lab3 73 i, 0, -1, (o : Int), false⟩
def bgB (o i : Nat) : Bx := ⟨lab3 66 i, 1, -1, (o : Int), false⟩
theorem bg0_l (kp : List Nat) (g o : Nat) (dst : Nat → Nat) : kp.map (itB o) ++ (List.range g).map (bgB o) = (bg0 kp g o dst).l := by
 apply List.ext_getElem?
 intro k
 by_cases hk : k < kp.length + g
 ·rw [Bgd.at (s := bg0 kp g o dst) hk]
  by_cases hm : k < kp.length
  ·rw [List.getElem?_append_left (by simpa using hm), List.getElem?_map, List.getElem?_eq_getElem hm, Bgd.bx_item (s := bg0 kp g o dst) hm]
   show some (itB o kp[k]) = some (⟨if k < kp.length then lab3 73 (kp.getD k 0) else lab3 66 (k - kp.length), 0, if false = true then _ else -1, if false = true then _ else (o : Int), false⟩ : Bx)
   rw [if_pos hm, List.getD_eq_getElem?_getD, List.getElem?_eq_getElem hm]
   rfl
  ·rw [List.getElem?_append_right (by simp; omega), List.length_map, List.getElem?_map, List.getElem?_range (by omega), Bgd.bx_bag' (s := bg0 kp g o dst) (show kp.length ≤ k by omega)]
   show some (bgB o (k - kp.length)) = some (⟨if k < kp.length then lab3 73 (kp.getD k 0) else lab3 66 (k - kp.length), 1, -1, (o : Int), false⟩ : Bx)
   rw [if_neg hm]; rfl
 ·rw [List.getElem?_eq_none (by simp; omega), List.getElem?_eq_none (by rw [Bgd.len]; show kp.length + g ≤ k; omega)]
theorem bg0_ok {kp : List Nat} {g o : Nat} {dst : Nat → Nat} (hi : kp.Pairwise (· < ·)) (h20 : ∀ i ∈ kp, i < 20) (hl : kp.length ≤ 20) (hg : g ≤ 20) (ho : o < 12) (hd : ∀ i ∈ kp, dst i < g) : BgP (bg0 kp g o dst) := by
 have hmem : ∀ k, k < kp.length → kp.getD k 0 ∈ kp := fun k hk => by
  rw [List.getD_eq_getElem?_getD, List.getElem?_eq_getElem hk]; exact List.getElem_mem hk
 have hlab : ∀ k, (bg0 kp g o dst).lab k = if k < kp.length then lab3 73 (kp.getD k 0) else lab3 66 (k - kp.length) := fun k => rfl
 refine ⟨?_, ?_, ?_, ?_, ?_, ?_⟩
 ·show kp.length + g ≤ 200; omega
 ·intro k _
  rw [hlab]
  split <;> (rw [lab3_size]; omega)
 ·intro i j hi' hj' e
  have hi2 : i < kp.length + g := hi'
  have hj2 : j < kp.length + g := hj'
  rw [hlab, hlab] at e
  by_cases h1 : i < kp.length
  ·by_cases h2 : j < kp.length
   ·rw [if_pos h1, if_pos h2] at e
    have := (lab3_inj (by have := h20 _ (hmem i h1); omega) (by have := h20 _ (hmem j h2); omega) e).2
    rcases Nat.lt_trichotomy i j with h | h | h
    ·have := getD_lt hi h h2; omega
    ·exact h
    ·have := getD_lt hi h h1; omega
   ·rw [if_pos h1, if_neg h2] at e
    exact absurd (lab3_inj (by have := h20 _ (hmem i h1); omega) (by omega) e).1 (by decide)
  ·by_cases h2 : j < kp.length
   ·rw [if_neg h1, if_pos h2] at e
    exact absurd (lab3_inj (by omega) (by have := h20 _ (hmem j h2); omega) e).1 (by decide)
   ·rw [if_neg h1, if_neg h2] at e
    have := (lab3_inj (by omega) (by omega) e).2
    omega
 ·show (0 : Int) ≤ (o : Int) ∧ (o : Int) < 12; omega
 ·intro j _
  show (0 : Int) ≤ (o : Int) ∧ (o : Int) < 12; omega
 ·intro i hi'
  exact hd _ (hmem i hi')
structure BgQ (s t : Bgd) : Prop where
 ok : BgP t
 m : t.m = s.m
 g : t.g = s.g
 at_ : t.at_ = s.at_
 dest : t.dest = s.dest
theorem BgQ.putI {s t : Bgd} (h : BgQ s t) (i : Nat) : BgQ s (t.putI i) := ⟨h.ok.putI i, h.m, h.g, h.at_, h.dest⟩
theorem BgQ.shutI {s t : Bgd} (h : BgQ s t) (i : Nat) : BgQ s (t.shutI i) := ⟨h.ok.shutI i, h.m, h.g, h.at_, h.dest⟩
theorem BgQ.moveI {s t : Bgd} (h : BgQ s t) (i : Nat) {p : Int} (hp : 0 ≤ p ∧ p < 12) : BgQ s (t.moveI i p) := ⟨h.ok.moveI i hp, h.m, h.g, h.at_, h.dest⟩
end
end Go.Proofs.YtgfhcmidnbahjaaGreatDoor
