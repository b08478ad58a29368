import Derived.Test.YtajnoocjjkjfmaaP2
set_option linter.unusedVariables false
set_option linter.unusedSimpArgs false
namespace Go.Proofs.Ytajnoocjjkjfmaa
open Go.RowKit

theorem EntsAt.of_flat {w : World} {g : Nat} {l : List Ent} (h : ∀ j u, (l.flatMap entCells)[j]? = some u → w.cell? ⟨g, j, none⟩ = some u) : EntsAt w (some ⟨g, 0, none⟩) l := fun _ =>
  ⟨g, 0, rfl, fun i x hx => by
    have a := fun c hc => flat_at (enc := entCells) (k := 4) (fun _ => rfl) l i c x hx hc
    refine ⟨?_, ?_, ?_, ?_⟩
    · have := h _ _ (a 0 (by omega)); simpa using this
    · have := h _ _ (a 1 (by omega)); simpa using this
    · have := h _ _ (a 2 (by omega)); simpa using this
    · have := h _ _ (a 3 (by omega)); simpa using this⟩
theorem EntsAt.lit {w : World} {t : TypeId} (l : List Ent) : EntsAt (w.alloc (.cells (l.flatMap entCells).toArray t)) (some ⟨w.heap.size, 0, none⟩) l :=
  EntsAt.of_flat fun j u hu => by rw [cell_new]; simpa using hu
theorem EntsAt.of_own {w : World} {base : Nat} {p : Option Addr} {n cap : Nat} {l : List Ent} (h : w.ownsRow base 34 4 (.slice p n cap) n (l.flatMap entCells)) : EntsAt w p l := fun hl => by
  have hn : l.length = n := by
    have h1 := h.1
    rw [flat_len (k := 4) (fun _ => rfl)] at h1
    omega
  rcases h.2 with ⟨hv, h0⟩ | ⟨g, cap', cur, hv, _, hh, _⟩
  · omega
  · injection hv with h1 h2 h3
    subst h1
    refine EntsAt.of_flat (fun j u hu => ?_) hl
    have := h.cells (g := g) rfl j u hu
    rw [Addr.add_lit] at this
    simpa using this
/-- Well-formed entries. -/
def ewfB (l : List Ent) : Bool := l.all fun e => (Lit.int .i64 e.fr).wf && (Lit.int .i64 e.to_).wf && (Lit.int .i64 e.am).wf && decide (e.ref.size ≤ 1000)
theorem EWf.of_b {l : List Ent} (h : ewfB l = true) : EWf l := fun e he => by
  have := List.all_eq_true.1 h e he
  simp only [Bool.and_eq_true, decide_eq_true_eq] at this
  exact ⟨this.1.1.1, this.1.1.2, this.1.2, by unfold maxLen; omega⟩

theorem balLit_c (k : Int) (l : List Ent) (xs : List Int) (er : Int) (n : Nat) (w : World) (R) (hl : l.length = n) (hn : n ≤ 40) (hw : ewfB l = true) (hk : (Lit.int .i64 k).wf = true) (hx : balL k l = xs) (he : balE k l = er)
    (hR : ∀ p cap w', Below w.heap.size w w' → IntsAt .i64 w' p xs → R (.returned (.tuple #[.slice p xs.length cap, .int .i64 er])) w') : Calls Try.prog 13 #[.int .i64 k, .slice (some ⟨w.heap.size, 0, none⟩) n n] (w.alloc (.cells (l.flatMap entCells).toArray 34)) R := by
  refine balances_c k _ n n l _ R hl (by unfold maxLen; omega) (EntsAt.lit l) (EWf.of_b hw) hk fun v w' hb ho => ?_
  obtain ⟨p, cap, rfl, _⟩ := own_val ho
  rw [hx] at ho ⊢
  rw [he]
  exact hR p cap w' (bseq (balloc (Below.refl _ _) _) hb) (IntsAt.of_own ho)
theorem splitLit_c (a : Int) (l : List Int) (xs : List Int) (n : Nat) (w : World) (R) (hl : l.length = n) (hn : n ≤ 40) (hx : splitL a l = xs) (he : splitE a l = 0)
    (hR : ∀ p cap w', Below w.heap.size w w' → IntsAt .i64 w' p xs → R (.returned (.tuple #[.slice p xs.length cap, .int .i64 0])) w') : Calls Try.prog 15 #[.int .i64 a, .slice (some ⟨w.heap.size, 0, none⟩) n n] (w.alloc (.cells (l.map (Value.int .i64)).toArray 3)) R := by
  refine split_c a _ n n l _ R hl (by unfold maxLen; omega) (IntsAt.lit l) fun v w' hb ho => ?_
  obtain ⟨p, cap, rfl, _⟩ := own_val ho
  rw [hx] at ho ⊢
  rw [he]
  exact hR p cap w' (bseq (balloc (Below.refl _ _) _) hb) (IntsAt.of_own ho)
theorem adjLit_c (a b : List Int) (ref : ByteArray) (xs : List Ent) (er : Int) (n : Nat) (w : World) (R) (hl : a.length = n) (hm : b.length = n) (hn : n ≤ 40) (hr : ref.size ≤ 40) (hx : adjL a b ref = xs) (he : adjE a b ref = er)
    (hR : ∀ p cap w', Below w.heap.size w w' → EntsAt w' p xs → R (.returned (.tuple #[.slice p xs.length cap, .int .i64 er])) w') :
    Calls Try.prog 17 #[.slice (some ⟨w.heap.size, 0, none⟩) n n, .slice (some ⟨w.heap.size + 1, 0, none⟩) n n, .string ref] ((w.alloc (.cells (a.map (Value.int .i64)).toArray 3)).alloc (.cells (b.map (Value.int .i64)).toArray 3)) R := by
  have e : w.heap.size + 1 = (w.alloc (.cells (a.map (Value.int .i64)).toArray 3)).heap.size := by simp
  rw [e]
  refine adjust_c _ _ n n n n a b ref _ R hl hm (by unfold maxLen; omega) (by unfold maxLen; omega) ((IntsAt.lit a).keep (Keeps.alloc _ _)) (IntsAt.lit b) (by unfold maxLen; omega) fun v w' hb ho => ?_
  obtain ⟨p, cap, rfl, _⟩ := own_val ho
  rw [hx] at ho ⊢
  rw [he]
  exact hR p cap w' (bseq (balloc (balloc (Below.refl _ _) _) _) hb) (EntsAt.of_own ho)
theorem intsLit_c (p : Option Addr) (cap n : Nat) (xs : List Int) (w : World) (R) (hn : xs.length = n) (hl : n ≤ 40) (h : IntsAt .i64 w p xs) (hR : ∀ w', Below w.heap.size w w' → R (.returned (.bool true)) w') :
    Calls Try.prog 21 #[.slice p n cap, .slice (some ⟨w.heap.size, 0, none⟩) n n] (w.alloc (.cells (xs.map (Value.int .i64)).toArray 3)) R :=
  ints_c p _ n n cap n xs xs _ R hn hn (by unfold maxLen; omega) (by unfold maxLen; omega) (h.keep (Keeps.alloc _ _)) (IntsAt.lit xs) fun w' hw' => by
    rw [decide_eq_true rfl]; exact hR w' (bseq (balloc (Below.refl _ _) _) hw'.below)
theorem sameLit_c (p : Option Addr) (cap n : Nat) (xs : List Ent) (w : World) (R) (hn : xs.length = n) (hl : n ≤ 40) (h : EntsAt w p xs) (hR : ∀ w', Below w.heap.size w w' → R (.returned (.bool true)) w') :
    Calls Try.prog 22 #[.slice p n cap, .slice (some ⟨w.heap.size, 0, none⟩) n n] (w.alloc (.cells (xs.flatMap entCells).toArray 34)) R :=
  same_c p _ n n cap n xs xs _ R hn hn (by unfold maxLen; omega) (by unfold maxLen; omega) (h.keep (Keeps.alloc _ _)) (EntsAt.lit xs) fun w' hw' => by
    rw [decide_eq_true rfl]; exact hR w' (bseq (balloc (Below.refl _ _) _) hw'.below)

set_option maxRecDepth 100000 in
set_option maxHeartbeats 2000000 in
theorem head_c (w : World) (R) (hR : ∀ w', Below w.heap.size w w' → R (.returned (.bool true)) w') : Calls Try.prog 11 #[] w R := by
  have HR := hide hR; clear hR
  go_enter Try.func11, Try.ntmps11
  go_wp2_with (go_at_call 13; refine Stop.out ?_)
  refine Stop.go (balLit_c 3 [⟨0, 1, 50, ⟨#[]⟩⟩, ⟨1, 2, 20, ⟨#[]⟩⟩] [-50, 30, 20] 0 2 w _ rfl (by decide) (by decide) (by decide) (by decide) (by decide) ?_)
  intro p1 cap1 w1 hb1 hi1
  have B := hide hb1; clear hb1
  go_wp2_with (go_at_call 15; refine Stop.out ?_)
  refine Stop.go (splitLit_c 100 [1, 1, 1] [34, 33, 33] 3 w1 _ rfl (by decide) (by decide) (by decide) ?_)
  intro p2 cap2 w2 hb hi2
  replace B := hide (bseq B.out hb)
  replace hi1 := hi1.keep (Keeps.of_below hb)
  clear hb
  go_wp2_with (go_at_call 15; refine Stop.out ?_)
  refine Stop.go (splitLit_c 10 [5, 0, 3, 3] [4, 0, 3, 3] 4 w2 _ rfl (by decide) (by decide) (by decide) ?_)
  intro p3 cap3 w3 hb hi3
  replace B := hide (bseq B.out hb)
  replace hi1 := hi1.keep (Keeps.of_below hb)
  replace hi2 := hi2.keep (Keeps.of_below hb)
  clear hb
  go_wp2_with (go_at_call 17; refine Stop.out ?_)
  refine Stop.go (adjLit_c [-50, 30, 20] [0, 0, 0] ⟨#[120]⟩ [⟨1, 0, 30, ⟨#[120]⟩⟩, ⟨2, 0, 20, ⟨#[120]⟩⟩] 0 3 w3 _ rfl rfl (by decide) (by decide) (by decide) (by decide) ?_)
  intro p4 cap4 w4 hb hi4
  replace B := hide (bseq B.out hb)
  replace hi1 := hi1.keep (Keeps.of_below hb)
  replace hi2 := hi2.keep (Keeps.of_below hb)
  replace hi3 := hi3.keep (Keeps.of_below hb)
  clear hb
  go_wp2_with (go_at_call 17; refine Stop.out ?_)
  refine Stop.go (adjLit_c [0, 0] [5, 0] ⟨#[]⟩ [] 380 2 w4 _ rfl rfl (by decide) (by decide) (by decide) (by decide) ?_)
  intro p5 cap5 w5 hb hi5
  replace B := hide (bseq B.out hb)
  replace hi1 := hi1.keep (Keeps.of_below hb)
  replace hi2 := hi2.keep (Keeps.of_below hb)
  replace hi3 := hi3.keep (Keeps.of_below hb)
  replace hi4 := hi4.keep (Keeps.of_below hb)
  clear hb hi5
  go_wp2_with (go_at_call 13; refine Stop.out ?_)
  refine Stop.go (balLit_c 2 [⟨0, 0, 1, ⟨#[]⟩⟩] [] 1 1 w5 _ rfl (by decide) (by decide) (by decide) (by decide) (by decide) ?_)
  intro p6 cap6 w6 hb hi6
  replace B := hide (bseq B.out hb)
  replace hi1 := hi1.keep (Keeps.of_below hb)
  replace hi2 := hi2.keep (Keeps.of_below hb)
  replace hi3 := hi3.keep (Keeps.of_below hb)
  replace hi4 := hi4.keep (Keeps.of_below hb)
  clear hb hi6
  go_wp2_with (go_at_call 21; refine Stop.out ?_)
  refine Stop.go (intsLit_c p1 cap1 3 [-50, 30, 20] w6 _ rfl (by decide) hi1 ?_)
  intro w7 hb
  replace B := hide (bseq B.out hb)
  replace hi2 := hi2.keep (Keeps.of_below hb)
  replace hi3 := hi3.keep (Keeps.of_below hb)
  replace hi4 := hi4.keep (Keeps.of_below hb)
  clear hb hi1
  go_wp2_with (go_at_call 21; refine Stop.out ?_)
  refine Stop.go (intsLit_c p2 cap2 3 [34, 33, 33] w7 _ rfl (by decide) hi2 ?_)
  intro w8 hb
  replace B := hide (bseq B.out hb)
  replace hi3 := hi3.keep (Keeps.of_below hb)
  replace hi4 := hi4.keep (Keeps.of_below hb)
  clear hb hi2
  go_wp2_with (go_at_call 21; refine Stop.out ?_)
  refine Stop.go (intsLit_c p3 cap3 4 [4, 0, 3, 3] w8 _ rfl (by decide) hi3 ?_)
  intro w9 hb
  replace B := hide (bseq B.out hb)
  replace hi4 := hi4.keep (Keeps.of_below hb)
  clear hb hi3
  go_wp2_with (go_at_call 22; refine Stop.out ?_)
  refine Stop.go (sameLit_c p4 cap4 2 [⟨1, 0, 30, ⟨#[120]⟩⟩, ⟨2, 0, 20, ⟨#[120]⟩⟩] w9 _ rfl (by decide) hi4 ?_)
  intro w10 hb
  replace B := hide (bseq B.out hb)
  clear hb hi4
  go_wp2_with (go_at_call 19; refine Stop.out ?_)
  refine Stop.go (valid_c 2 ⟨0, 1, 1, ⟨#[]⟩⟩ (by decide) w10 _ ?_)
  rw [show validE 2 ⟨0, 1, 1, ⟨#[]⟩⟩ = true by decide]
  go_wp2_with (go_at_call 19; refine Stop.out ?_)
  refine Stop.go (valid_c 2 ⟨0, 2, 1, ⟨#[]⟩⟩ (by decide) _ _ ?_)
  rw [show validE 2 ⟨0, 2, 1, ⟨#[]⟩⟩ = false by decide]
  go_wp2_with fail
  exact HR.out _ (balloc (balloc B.out _) _)
end Go.Proofs.Ytajnoocjjkjfmaa
