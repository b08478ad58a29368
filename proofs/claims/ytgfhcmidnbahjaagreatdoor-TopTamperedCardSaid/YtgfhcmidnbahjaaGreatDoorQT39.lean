/- The two regions that copy a certificate (printed by genYJ.py). An owned row: no more than its room. -/
import Derived.Test.YtgfhcmidnbahjaaGreatDoorQT38
import Derived.Test.YtgfhcmidnbahjaaGreatDoorQT34
import Derived.Test.YtgfhcmidnbahjaaGreatDoorQT7
set_option linter.unusedVariables false
set_option linter.unusedSimpArgs false
namespace Go.Proofs.YtgfhcmidnbahjaaGreatDoor
open Go.RowKit Go.Shelf
attribute [local go_sem] Oper.semAt_some run_store_func
theorem ite_of' {c : Bool} {A B : Prop} (h : c = true) (a : A) : if c = true then A else B := by rw [if_pos h]; exact a
set_option maxRecDepth 100000 in
set_option maxHeartbeats 4000000 in
theorem cp24 {u0 u1 u2 u4 u5 u6 u7 u8 u9 u10 u11 u12 u13 u14 u15 u16 u17 u18 u19 u20 u21 u22 u23 u24 u25 u26 u27 u28 u29 u30 u31 u32 u33 u34 u35 u36 u37 u38 u39 u40 u41 u42 u43 u44 u45 u46 u47 u48 u49 u50 u51 u52 u53 u54 u55 u56 u57 u58 u59 u60 u61 u62 u63 u64 u65 : Value} {ds : List Deferred} {w : World} {Q : Exit → Act → World → Prop} (X : List Int) (p : Option Addr) (L cap gc : Nat) (s : Int) (hX : X.length = L) (hL : L ≤ 40000) (z0 : w.cell? ⟨gc, 0, none⟩ = some (.slice p L cap)) (z1 : w.cell? ⟨gc, 1, none⟩ = some (.int .i64 s)) (hS : IntsAt .i64 w p X)
    (hQ : ∀ (v28 v29 v30 v31 v32 v33 v34 : Value) (w' : World) (gx : Nat) (q : Option Addr) (c : Nat), Below w.heap.size w w' → Blk w' gx #[.slice q L c, .int .i64 s] 42 → w.heap.size ≤ gx → w'.ownsRow w.heap.size 3 1 (.slice q L c) L (X.map (Value.int .i64)) → (Value.slice q L c).ownBlock ≠ some gx →
      Q .normal { tmps := #[u0, u1, u2, .pointer (some ⟨gc, 0, none⟩), u4, .pointer (some ⟨gx, 0, none⟩), u6, u7, u8, u9, u10, u11, u12, u13, u14, u15, u16, u17, u18, u19, u20, u21, u22, u23, u24, u25, u26, u27, v28, v29, v30, v31, v32, v33, v34, u35, u36, u37, u38, u39, u40, u41, u42, u43, u44, u45, u46, u47, u48, u49, u50, u51, u52, u53, u54, u55, u56, u57, u58, u59, u60, u61, u62, u63, u64, u65], defers := ds } w') :
    ((regionsOf (Tryz.f24.body.getD .skip)).getD 5 .skip).wp Tryz.prog Q { tmps := #[u0, u1, u2, .pointer (some ⟨gc, 0, none⟩), u4, u5, u6, u7, u8, u9, u10, u11, u12, u13, u14, u15, u16, u17, u18, u19, u20, u21, u22, u23, u24, u25, u26, u27, u28, u29, u30, u31, u32, u33, u34, u35, u36, u37, u38, u39, u40, u41, u42, u43, u44, u45, u46, u47, u48, u49, u50, u51, u52, u53, u54, u55, u56, u57, u58, u59, u60, u61, u62, u63, u64, u65], defers := ds } w := by
  obtain ⟨i0, hi0, hz0, hz1, hz2⟩ := info_parts infoI2
  have HQ := hide hQ; have HL := hide hL
  have HS : Hid (Src w p L 1 (X.map (Value.int .i64))) := hide (Src.ints hX hS)
  have KB : Hid (∀ W', Below w.heap.size w W' → W'.cell? ⟨gc, 0, none⟩ = some (.slice p L cap) ∧ W'.cell? ⟨gc, 1, none⟩ = some (.int .i64 s)) := hide (fun W' hb => ⟨cell_later hb z0, cell_later hb z1⟩)
  have hB : Hid (Below w.heap.size w w.drew) := hide (Below.refl _ _).drew
  have hB0 : Hid (Below w.heap.size w w) := hide (Below.refl _ _)
  clear hQ hL hX hS z0 z1
  simp only [Tryz.f24, Option.getD, regionsOf, List.append_eq, List.nil_append, List.append_nil, List.cons_append, List.getD, List.getElem?_cons_succ, List.getElem?_cons_zero]
  refine wp_region_noPanic ?_
  refine wp_region_held_drew (S := fun W => W.cell? ⟨gc, 0, none⟩ = some (.slice p L cap) ∧ W.cell? ⟨gc, 1, none⟩ = some (.int .i64 s)) (by kernel_rfl) (KB.out _ hB.out) (fun hHeld => ?_)
  refine wpAnyH_take (i := 1) (v := ?v1) rfl (by kernel_rfl) (by kernel_rfl) (by kernel_rfl) (fun _ _ _ h => h) (Or.inl ⟨by rfl, ?hy1⟩) hHeld ?rest1
  case hy1 => (intro w0 hSw; (try dsimp only at hSw); go_simp; all_goals with_reducible rfl)
  try simp only [Act.put, List.getElem_toArray, List.getElem_cons_zero, List.getElem_cons_succ, List.setIfInBounds_toArray, List.set_cons_zero, List.set_cons_succ]
  refine wpAnyH_take (i := 2) (v := ?v2) rfl (by kernel_rfl) (by kernel_rfl) (by kernel_rfl) (fun _ _ _ h => h) (Or.inl ⟨by rfl, ?hy2⟩) hHeld ?rest2
  case hy2 => (intro w0 hSw; (try dsimp only at hSw); go_simp; all_goals with_reducible rfl)
  try simp only [Act.put, List.getElem_toArray, List.getElem_cons_zero, List.getElem_cons_succ, List.setIfInBounds_toArray, List.set_cons_zero, List.set_cons_succ]
  refine wpAnyH_take (i := 4) (v := ?v4) rfl (by kernel_rfl) (by kernel_rfl) (by kernel_rfl) (fun _ _ _ h => h) (Or.inl ⟨by rfl, ?hy4⟩) hHeld ?rest4
  case hy4 => (intro w0 hSw; (try dsimp only at hSw); go_simp; all_goals with_reducible rfl)
  try simp only [Act.put, List.getElem_toArray, List.getElem_cons_zero, List.getElem_cons_succ, List.setIfInBounds_toArray, List.set_cons_zero, List.set_cons_succ]
  refine wpAnyH_take (i := 5) (v := ?v5) rfl (by kernel_rfl) (by kernel_rfl) (by kernel_rfl) (fun _ _ _ h => h) (Or.inl ⟨by rfl, ?hy5⟩) hHeld ?rest5
  case hy5 => (intro w0 hSw; (try dsimp only at hSw); go_simp; all_goals with_reducible rfl)
  try simp only [Act.put, List.getElem_toArray, List.getElem_cons_zero, List.getElem_cons_succ, List.setIfInBounds_toArray, List.set_cons_zero, List.set_cons_succ]
  refine wpAnyH_ready (rs := [0, 7]) (by kernel_rfl) (by simp) ?_
  refine AllReadyH.cons rfl (fun K hK => ?_) (AllReadyH.cons rfl (fun K hK => ?_) AllReadyH.nil)
  · go_simp
    obtain ⟨W0z, hW0z⟩ : ∃ W, (World.alloc w (.cells #[] 3)).drew = W := ⟨_, rfl⟩
    rw [hW0z]
    have hc0z : Below (World.heap w).size w W0z := hW0z ▸ (balloc (Below.refl _ _) _).drew
    have hb0z : Below w.heap.size w W0z := bseq hB0.out hc0z
    have HE0z : Hid (W0z.ownsRow w.heap.size 3 1 (.slice (some ⟨(World.heap w).size, 0, none⟩) 0 0) 0 []) := hide (hW0z ▸ (show World.ownsRow (World.drew _) _ _ _ _ _ _ from World.ownsRow_lit _ #[] 0 (Nat.le_refl _) (by decide) rfl))
    clear hc0z hW0z
    have hB := hide hb0z
    clear hb0z
    have HE := HE0z
    clear HE0z
    refine hK.out _ _ (KB.out _ hB.out) (fun hHeld' => ?_)
    clear hK K hHeld
    have hHeld := hHeld'
    clear hHeld'
    try simp only [Act.put, List.getElem_toArray, List.getElem_cons_zero, List.getElem_cons_succ, List.setIfInBounds_toArray, List.set_cons_zero, List.set_cons_succ]
    refine wpAnyH_ready (rs := [3, 7]) (by kernel_rfl) (by simp) ?_
    refine AllReadyH.cons rfl (fun K hK => ?_) (AllReadyH.cons rfl (fun K hK => ?_) AllReadyH.nil)
    · refine ite_of' (by kernel_rfl) ?_
      refine wp_app _ (.tmp 28) (.tmp 30) 40 rfl w.heap.size 3 i0 _ 1 8 Tryz.underlying40 hi0 hz0 hz1 hz2 rfl (by omega) _ 0 [] rfl HE.out p L cap (X.map (Value.int .i64)) rfl (HS.out.keep (Keeps.of_below hB.out)) (ints_oneCell .i64 X) (by have := HL.out; unfold maxLen; omega) (by have := HL.out; omega) hB.out.size ?_
      intro v3a W3a hown3a hg3a
      rw [Nat.zero_add, List.nil_append] at hown3a
      have hb3a := hB.out.grown hg3a hB.out.size (fun k hk => (HE.out.lt k hk).1)
      have hB := hide hb3a
      clear hb3a hg3a HE
      obtain ⟨q6, c6, hv6, _⟩ := own_val hown3a
      subst hv6
      have HA := hide hown3a
      clear hown3a
      refine hK.out _ _ (KB.out _ hB.out) (fun hHeld' => ?_)
      clear hK K hHeld
      have hHeld := hHeld'
      clear hHeld'
      try simp only [Act.put, List.getElem_toArray, List.getElem_cons_zero, List.getElem_cons_succ, List.setIfInBounds_toArray, List.set_cons_zero, List.set_cons_succ]
      refine wpAnyH_take (i := 6) (v := ?v6aa) rfl (by kernel_rfl) (by kernel_rfl) (by kernel_rfl) (fun _ _ _ h => h) (Or.inl ⟨by rfl, ?hy6aa⟩) hHeld ?rest6aa
      case hy6aa => (intro w0 hSw; (try dsimp only at hSw); go_simp; all_goals with_reducible rfl)
      try simp only [Act.put, List.getElem_toArray, List.getElem_cons_zero, List.getElem_cons_succ, List.setIfInBounds_toArray, List.set_cons_zero, List.set_cons_succ]
      refine wpAnyH_ready (rs := [7]) (by kernel_rfl) (by simp) ?_
      refine AllReadyH.cons rfl (fun K hK => ?_) AllReadyH.nil
      go_simp
      obtain ⟨W7aa, hW7aa⟩ : ∃ W, (World.alloc W3a (.cells #[.slice none 0 0, .int .i64 0] 42)) = W := ⟨_, rfl⟩
      rw [hW7aa]
      have hc7aa : Below (World.heap W3a).size W3a W7aa := hW7aa ▸ (balloc (Below.refl _ _) _)
      have hb7aa : Below w.heap.size w W7aa := bseq hB.out hc7aa
      have hC : Hid (Blk W7aa (World.heap W3a).size #[.slice none 0 0, .int .i64 0] 42) := hide (hW7aa ▸ (show Blk _ _ _ _ from Blk.new _ _ _))
      have hg : w.heap.size ≤ (World.heap W3a).size := hB.out.size
      have HA := hide (own_below HA.out hc7aa)
      clear hc7aa hW7aa
      have hB := hide hb7aa
      clear hb7aa
      refine hK.out _ _ (KB.out _ hB.out) (fun hHeld' => ?_)
      clear hK K hHeld
      have hHeld := hHeld'
      clear hHeld'
      try simp only [Act.put, List.getElem_toArray, List.getElem_cons_zero, List.getElem_cons_succ, List.setIfInBounds_toArray, List.set_cons_zero, List.set_cons_succ]
      refine wpAnyH_ready (rs := [8]) (by kernel_rfl) (by simp) ?_
      refine AllReadyH.cons rfl (fun K hK => ?_) AllReadyH.nil
      have x0 := hC.out.cell (k := 0) (v := .slice none 0 0) rfl; have x1 := hC.out.cell (k := 1) (v := .int .i64 0) rfl
      have f0 := hC.out.free 0; have f1 := hC.out.free 1
      have hne := own_ne_blk HA.out hC.out (by decide)
      go_simp
      have hk2 := (hC.out.set 0 (.slice q6 L c6)).set 1 (.int .i64 s)
      have ho2 := ownsRow_setCell_other (ownsRow_setCell_other HA.out (a := ⟨_, 0, none⟩) (fun e => hne e.symm) (.slice q6 L c6)) (a := ⟨_, 1, none⟩) (fun e => hne e.symm) (.int .i64 s)
      have hb2 := (hB.out.setCell (p := ⟨_, 0, none⟩) hg (.slice q6 L c6)).setCell (p := ⟨_, 1, none⟩) hg (.int .i64 s)
      refine hK.out _ _ (KB.out _ hb2) (fun hHeld' => ?_)
      clear hK K hHeld
      have hHeld := hHeld'
      clear hHeld'
      try simp only [Act.put, List.getElem_toArray, List.getElem_cons_zero, List.getElem_cons_succ, List.setIfInBounds_toArray, List.set_cons_zero, List.set_cons_succ]
      refine wpAnyH_done (by kernel_rfl) ?_ _
      refine NoPanic.normal ?_
      exact HQ.out _ _ _ _ _ _ _ _ _ _ _ hb2 hk2 hg ho2 (fun e => hne e.symm)
    · go_simp
      obtain ⟨W7a, hW7a⟩ : ∃ W, (World.alloc W0z (.cells #[.slice none 0 0, .int .i64 0] 42)) = W := ⟨_, rfl⟩
      rw [hW7a]
      have hc7a : Below (World.heap W0z).size W0z W7a := hW7a ▸ (balloc (Below.refl _ _) _)
      have hb7a : Below w.heap.size w W7a := bseq hB.out hc7a
      have hC : Hid (Blk W7a (World.heap W0z).size #[.slice none 0 0, .int .i64 0] 42) := hide (hW7a ▸ (show Blk _ _ _ _ from Blk.new _ _ _))
      have hg : w.heap.size ≤ (World.heap W0z).size := hB.out.size
      have HE := hide (own_below HE.out hc7a)
      clear hc7a hW7a
      have hB := hide hb7a
      clear hb7a
      refine hK.out _ _ (KB.out _ hB.out) (fun hHeld' => ?_)
      clear hK K hHeld
      have hHeld := hHeld'
      clear hHeld'
      try simp only [Act.put, List.getElem_toArray, List.getElem_cons_zero, List.getElem_cons_succ, List.setIfInBounds_toArray, List.set_cons_zero, List.set_cons_succ]
      refine wpAnyH_ready (rs := [3]) (by kernel_rfl) (by simp) ?_
      refine AllReadyH.cons rfl (fun K hK => ?_) AllReadyH.nil
      refine ite_of' (by kernel_rfl) ?_
      refine wp_app _ (.tmp 28) (.tmp 30) 40 rfl w.heap.size 3 i0 _ 1 8 Tryz.underlying40 hi0 hz0 hz1 hz2 rfl (by omega) _ 0 [] rfl HE.out p L cap (X.map (Value.int .i64)) rfl (HS.out.keep (Keeps.of_below hB.out)) (ints_oneCell .i64 X) (by have := HL.out; unfold maxLen; omega) (by have := HL.out; omega) hB.out.size ?_
      intro v3ab W3ab hown3ab hg3ab
      rw [Nat.zero_add, List.nil_append] at hown3ab
      have hb3ab := hB.out.grown hg3ab hB.out.size (fun k hk => (HE.out.lt k hk).1)
      have hC := hide (hC.out.grown hg3ab (own_ne_blk HE.out hC.out (by decide)))
      have hB := hide hb3ab
      clear hb3ab hg3ab HE
      obtain ⟨q6, c6, hv6, _⟩ := own_val hown3ab
      subst hv6
      have HA := hide hown3ab
      clear hown3ab
      refine hK.out _ _ (KB.out _ hB.out) (fun hHeld' => ?_)
      clear hK K hHeld
      have hHeld := hHeld'
      clear hHeld'
      try simp only [Act.put, List.getElem_toArray, List.getElem_cons_zero, List.getElem_cons_succ, List.setIfInBounds_toArray, List.set_cons_zero, List.set_cons_succ]
      refine wpAnyH_take (i := 6) (v := ?v6ab) rfl (by kernel_rfl) (by kernel_rfl) (by kernel_rfl) (fun _ _ _ h => h) (Or.inl ⟨by rfl, ?hy6ab⟩) hHeld ?rest6ab
      case hy6ab => (intro w0 hSw; (try dsimp only at hSw); go_simp; all_goals with_reducible rfl)
      try simp only [Act.put, List.getElem_toArray, List.getElem_cons_zero, List.getElem_cons_succ, List.setIfInBounds_toArray, List.set_cons_zero, List.set_cons_succ]
      refine wpAnyH_ready (rs := [8]) (by kernel_rfl) (by simp) ?_
      refine AllReadyH.cons rfl (fun K hK => ?_) AllReadyH.nil
      have x0 := hC.out.cell (k := 0) (v := .slice none 0 0) rfl; have x1 := hC.out.cell (k := 1) (v := .int .i64 0) rfl
      have f0 := hC.out.free 0; have f1 := hC.out.free 1
      have hne := own_ne_blk HA.out hC.out (by decide)
      go_simp
      have hk2 := (hC.out.set 0 (.slice q6 L c6)).set 1 (.int .i64 s)
      have ho2 := ownsRow_setCell_other (ownsRow_setCell_other HA.out (a := ⟨_, 0, none⟩) (fun e => hne e.symm) (.slice q6 L c6)) (a := ⟨_, 1, none⟩) (fun e => hne e.symm) (.int .i64 s)
      have hb2 := (hB.out.setCell (p := ⟨_, 0, none⟩) hg (.slice q6 L c6)).setCell (p := ⟨_, 1, none⟩) hg (.int .i64 s)
      refine hK.out _ _ (KB.out _ hb2) (fun hHeld' => ?_)
      clear hK K hHeld
      have hHeld := hHeld'
      clear hHeld'
      try simp only [Act.put, List.getElem_toArray, List.getElem_cons_zero, List.getElem_cons_succ, List.setIfInBounds_toArray, List.set_cons_zero, List.set_cons_succ]
      refine wpAnyH_done (by kernel_rfl) ?_ _
      refine NoPanic.normal ?_
      exact HQ.out _ _ _ _ _ _ _ _ _ _ _ hb2 hk2 hg ho2 (fun e => hne e.symm)
  · go_simp
    obtain ⟨W7z, hW7z⟩ : ∃ W, (World.alloc w (.cells #[.slice none 0 0, .int .i64 0] 42)).drew = W := ⟨_, rfl⟩
    rw [hW7z]
    have hc7z : Below (World.heap w).size w W7z := hW7z ▸ (balloc (Below.refl _ _) _).drew
    have hb7z : Below w.heap.size w W7z := bseq hB0.out hc7z
    have hC : Hid (Blk W7z (World.heap w).size #[.slice none 0 0, .int .i64 0] 42) := hide (hW7z ▸ (show Blk (World.drew _) _ _ _ from Blk.new _ _ _))
    have hg : w.heap.size ≤ (World.heap w).size := Nat.le_refl _
    clear hc7z hW7z
    have hB := hide hb7z
    clear hb7z
    refine hK.out _ _ (KB.out _ hB.out) (fun hHeld' => ?_)
    clear hK K hHeld
    have hHeld := hHeld'
    clear hHeld'
    try simp only [Act.put, List.getElem_toArray, List.getElem_cons_zero, List.getElem_cons_succ, List.setIfInBounds_toArray, List.set_cons_zero, List.set_cons_succ]
    refine wpAnyH_ready (rs := [0]) (by kernel_rfl) (by simp) ?_
    refine AllReadyH.cons rfl (fun K hK => ?_) AllReadyH.nil
    go_simp
    obtain ⟨W0b, hW0b⟩ : ∃ W, (World.alloc W7z (.cells #[] 3)) = W := ⟨_, rfl⟩
    rw [hW0b]
    have hc0b : Below (World.heap W7z).size W7z W0b := hW0b ▸ (balloc (Below.refl _ _) _)
    have hb0b : Below w.heap.size w W0b := bseq hB.out hc0b
    have HE0b : Hid (W0b.ownsRow w.heap.size 3 1 (.slice (some ⟨(World.heap W7z).size, 0, none⟩) 0 0) 0 []) := hide (hW0b ▸ (show World.ownsRow _ _ _ _ _ _ _ from World.ownsRow_lit _ #[] 0 hB.out.size (by decide) rfl))
    have hC := hide (hC.out.next hc0b)
    clear hc0b hW0b
    have hB := hide hb0b
    clear hb0b
    have HE := HE0b
    clear HE0b
    refine hK.out _ _ (KB.out _ hB.out) (fun hHeld' => ?_)
    clear hK K hHeld
    have hHeld := hHeld'
    clear hHeld'
    try simp only [Act.put, List.getElem_toArray, List.getElem_cons_zero, List.getElem_cons_succ, List.setIfInBounds_toArray, List.set_cons_zero, List.set_cons_succ]
    refine wpAnyH_ready (rs := [3]) (by kernel_rfl) (by simp) ?_
    refine AllReadyH.cons rfl (fun K hK => ?_) AllReadyH.nil
    refine ite_of' (by kernel_rfl) ?_
    refine wp_app _ (.tmp 28) (.tmp 30) 40 rfl w.heap.size 3 i0 _ 1 8 Tryz.underlying40 hi0 hz0 hz1 hz2 rfl (by omega) _ 0 [] rfl HE.out p L cap (X.map (Value.int .i64)) rfl (HS.out.keep (Keeps.of_below hB.out)) (ints_oneCell .i64 X) (by have := HL.out; unfold maxLen; omega) (by have := HL.out; omega) hB.out.size ?_
    intro v3b W3b hown3b hg3b
    rw [Nat.zero_add, List.nil_append] at hown3b
    have hb3b := hB.out.grown hg3b hB.out.size (fun k hk => (HE.out.lt k hk).1)
    have hC := hide (hC.out.grown hg3b (own_ne_blk HE.out hC.out (by decide)))
    have hB := hide hb3b
    clear hb3b hg3b HE
    obtain ⟨q6, c6, hv6, _⟩ := own_val hown3b
    subst hv6
    have HA := hide hown3b
    clear hown3b
    refine hK.out _ _ (KB.out _ hB.out) (fun hHeld' => ?_)
    clear hK K hHeld
    have hHeld := hHeld'
    clear hHeld'
    try simp only [Act.put, List.getElem_toArray, List.getElem_cons_zero, List.getElem_cons_succ, List.setIfInBounds_toArray, List.set_cons_zero, List.set_cons_succ]
    refine wpAnyH_take (i := 6) (v := ?v6b) rfl (by kernel_rfl) (by kernel_rfl) (by kernel_rfl) (fun _ _ _ h => h) (Or.inl ⟨by rfl, ?hy6b⟩) hHeld ?rest6b
    case hy6b => (intro w0 hSw; (try dsimp only at hSw); go_simp; all_goals with_reducible rfl)
    try simp only [Act.put, List.getElem_toArray, List.getElem_cons_zero, List.getElem_cons_succ, List.setIfInBounds_toArray, List.set_cons_zero, List.set_cons_succ]
    refine wpAnyH_ready (rs := [8]) (by kernel_rfl) (by simp) ?_
    refine AllReadyH.cons rfl (fun K hK => ?_) AllReadyH.nil
    have x0 := hC.out.cell (k := 0) (v := .slice none 0 0) rfl; have x1 := hC.out.cell (k := 1) (v := .int .i64 0) rfl
    have f0 := hC.out.free 0; have f1 := hC.out.free 1
    have hne := own_ne_blk HA.out hC.out (by decide)
    go_simp
    have hk2 := (hC.out.set 0 (.slice q6 L c6)).set 1 (.int .i64 s)
    have ho2 := ownsRow_setCell_other (ownsRow_setCell_other HA.out (a := ⟨_, 0, none⟩) (fun e => hne e.symm) (.slice q6 L c6)) (a := ⟨_, 1, none⟩) (fun e => hne e.symm) (.int .i64 s)
    have hb2 := (hB.out.setCell (p := ⟨_, 0, none⟩) hg (.slice q6 L c6)).setCell (p := ⟨_, 1, none⟩) hg (.int .i64 s)
    refine hK.out _ _ (KB.out _ hb2) (fun hHeld' => ?_)
    clear hK K hHeld
    have hHeld := hHeld'
    clear hHeld'
    try simp only [Act.put, List.getElem_toArray, List.getElem_cons_zero, List.getElem_cons_succ, List.setIfInBounds_toArray, List.set_cons_zero, List.set_cons_succ]
    refine wpAnyH_done (by kernel_rfl) ?_ _
    refine NoPanic.normal ?_
    exact HQ.out _ _ _ _ _ _ _ _ _ _ _ hb2 hk2 hg ho2 (fun e => hne e.symm)
set_option maxRecDepth 100000 in
set_option maxHeartbeats 4000000 in
theorem cp5 {u0 u1 u2 u3 u4 u5 u6 u7 u8 u9 u10 u11 u12 u14 u15 u16 u17 u18 u19 u20 u21 u22 u23 u24 u25 u26 u27 u28 u29 u30 u31 u32 u33 u34 u35 u36 u37 u38 u39 u40 u41 u42 u43 u44 u45 u46 u47 u48 u49 u50 u51 u52 u53 u54 u55 u56 u57 u58 u59 u60 u61 u62 u63 u64 u65 u66 u67 u68 u69 u70 u71 u72 u73 u74 u75 u76 u77 u78 u79 u80 u81 u82 u83 u84 u85 u86 u87 u88 u89 u90 u91 u92 u93 u94 u95 u96 u97 u98 u99 u100 u101 u102 u103 u104 u105 u106 u107 u108 u109 u110 u111 u112 u113 u114 u115 u116 u117 u118 u119 u120 u121 u122 u123 u124 u125 u126 u127 u128 u129 u130 u131 u132 u133 u134 u135 u136 : Value} {ds : List Deferred} {w : World} {Q : Exit → Act → World → Prop} (X : List Int) (p : Option Addr) (L cap gc : Nat) (s : Int) (hX : X.length = L) (hL : L ≤ 40000) (z0 : w.cell? ⟨gc, 0, none⟩ = some (.slice p L cap)) (z1 : w.cell? ⟨gc, 1, none⟩ = some (.int .i64 s)) (hS : IntsAt .i64 w p X)
    (hQ : ∀ (v84 v85 v86 v87 v88 v89 v90 : Value) (w' : World) (gx : Nat) (q : Option Addr) (c : Nat), Below w.heap.size w w' → Blk w' gx #[.slice q L c, .int .i64 s] 42 → w.heap.size ≤ gx → w'.ownsRow w.heap.size 3 1 (.slice q L c) L (X.map (Value.int .i64)) → (Value.slice q L c).ownBlock ≠ some gx →
      Q .normal { tmps := #[u0, u1, u2, u3, u4, u5, u6, u7, u8, u9, u10, u11, u12, .pointer (some ⟨gc, 0, none⟩), u14, u15, u16, u17, u18, .pointer (some ⟨gx, 0, none⟩), u20, u21, u22, u23, u24, u25, u26, u27, u28, u29, u30, u31, u32, u33, u34, u35, u36, u37, u38, u39, u40, u41, u42, u43, u44, u45, u46, u47, u48, u49, u50, u51, u52, u53, u54, u55, u56, u57, u58, u59, u60, u61, u62, u63, u64, u65, u66, u67, u68, u69, u70, u71, u72, u73, u74, u75, u76, u77, u78, u79, u80, u81, u82, u83, v84, v85, v86, v87, v88, v89, v90, u91, u92, u93, u94, u95, u96, u97, u98, u99, u100, u101, u102, u103, u104, u105, u106, u107, u108, u109, u110, u111, u112, u113, u114, u115, u116, u117, u118, u119, u120, u121, u122, u123, u124, u125, u126, u127, u128, u129, u130, u131, u132, u133, u134, u135, u136], defers := ds } w') :
    ((regionsOf (Tryz.f5.body.getD .skip)).getD 11 .skip).wp Tryz.prog Q { tmps := #[u0, u1, u2, u3, u4, u5, u6, u7, u8, u9, u10, u11, u12, .pointer (some ⟨gc, 0, none⟩), u14, u15, u16, u17, u18, u19, u20, u21, u22, u23, u24, u25, u26, u27, u28, u29, u30, u31, u32, u33, u34, u35, u36, u37, u38, u39, u40, u41, u42, u43, u44, u45, u46, u47, u48, u49, u50, u51, u52, u53, u54, u55, u56, u57, u58, u59, u60, u61, u62, u63, u64, u65, u66, u67, u68, u69, u70, u71, u72, u73, u74, u75, u76, u77, u78, u79, u80, u81, u82, u83, u84, u85, u86, u87, u88, u89, u90, u91, u92, u93, u94, u95, u96, u97, u98, u99, u100, u101, u102, u103, u104, u105, u106, u107, u108, u109, u110, u111, u112, u113, u114, u115, u116, u117, u118, u119, u120, u121, u122, u123, u124, u125, u126, u127, u128, u129, u130, u131, u132, u133, u134, u135, u136], defers := ds } w := by
  obtain ⟨i0, hi0, hz0, hz1, hz2⟩ := info_parts infoI2
  have HQ := hide hQ; have HL := hide hL
  have HS : Hid (Src w p L 1 (X.map (Value.int .i64))) := hide (Src.ints hX hS)
  have KB : Hid (∀ W', Below w.heap.size w W' → W'.cell? ⟨gc, 0, none⟩ = some (.slice p L cap) ∧ W'.cell? ⟨gc, 1, none⟩ = some (.int .i64 s)) := hide (fun W' hb => ⟨cell_later hb z0, cell_later hb z1⟩)
  have hB : Hid (Below w.heap.size w w.drew) := hide (Below.refl _ _).drew
  have hB0 : Hid (Below w.heap.size w w) := hide (Below.refl _ _)
  clear hQ hL hX hS z0 z1
  simp only [Tryz.f5, Option.getD, regionsOf, List.append_eq, List.nil_append, List.append_nil, List.cons_append, List.getD, List.getElem?_cons_succ, List.getElem?_cons_zero]
  refine wp_region_noPanic ?_
  refine wp_region_held_drew (S := fun W => W.cell? ⟨gc, 0, none⟩ = some (.slice p L cap) ∧ W.cell? ⟨gc, 1, none⟩ = some (.int .i64 s)) (by kernel_rfl) (KB.out _ hB.out) (fun hHeld => ?_)
  refine wpAnyH_take (i := 1) (v := ?v1) rfl (by kernel_rfl) (by kernel_rfl) (by kernel_rfl) (fun _ _ _ h => h) (Or.inl ⟨by rfl, ?hy1⟩) hHeld ?rest1
  case hy1 => (intro w0 hSw; (try dsimp only at hSw); go_simp; all_goals with_reducible rfl)
  try simp only [Act.put, List.getElem_toArray, List.getElem_cons_zero, List.getElem_cons_succ, List.setIfInBounds_toArray, List.set_cons_zero, List.set_cons_succ]
  refine wpAnyH_take (i := 2) (v := ?v2) rfl (by kernel_rfl) (by kernel_rfl) (by kernel_rfl) (fun _ _ _ h => h) (Or.inl ⟨by rfl, ?hy2⟩) hHeld ?rest2
  case hy2 => (intro w0 hSw; (try dsimp only at hSw); go_simp; all_goals with_reducible rfl)
  try simp only [Act.put, List.getElem_toArray, List.getElem_cons_zero, List.getElem_cons_succ, List.setIfInBounds_toArray, List.set_cons_zero, List.set_cons_succ]
  refine wpAnyH_take (i := 4) (v := ?v4) rfl (by kernel_rfl) (by kernel_rfl) (by kernel_rfl) (fun _ _ _ h => h) (Or.inl ⟨by rfl, ?hy4⟩) hHeld ?rest4
  case hy4 => (intro w0 hSw; (try dsimp only at hSw); go_simp; all_goals with_reducible rfl)
  try simp only [Act.put, List.getElem_toArray, List.getElem_cons_zero, List.getElem_cons_succ, List.setIfInBounds_toArray, List.set_cons_zero, List.set_cons_succ]
  refine wpAnyH_take (i := 5) (v := ?v5) rfl (by kernel_rfl) (by kernel_rfl) (by kernel_rfl) (fun _ _ _ h => h) (Or.inl ⟨by rfl, ?hy5⟩) hHeld ?rest5
  case hy5 => (intro w0 hSw; (try dsimp only at hSw); go_simp; all_goals with_reducible rfl)
  try simp only [Act.put, List.getElem_toArray, List.getElem_cons_zero, List.getElem_cons_succ, List.setIfInBounds_toArray, List.set_cons_zero, List.set_cons_succ]
  refine wpAnyH_ready (rs := [0, 7]) (by kernel_rfl) (by simp) ?_
  refine AllReadyH.cons rfl (fun K hK => ?_) (AllReadyH.cons rfl (fun K hK => ?_) AllReadyH.nil)
  · go_simp
    obtain ⟨W0z, hW0z⟩ : ∃ W, (World.alloc w (.cells #[] 3)).drew = W := ⟨_, rfl⟩
    rw [hW0z]
    have hc0z : Below (World.heap w).size w W0z := hW0z ▸ (balloc (Below.refl _ _) _).drew
    have hb0z : Below w.heap.size w W0z := bseq hB0.out hc0z
    have HE0z : Hid (W0z.ownsRow w.heap.size 3 1 (.slice (some ⟨(World.heap w).size, 0, none⟩) 0 0) 0 []) := hide (hW0z ▸ (show World.ownsRow (World.drew _) _ _ _ _ _ _ from World.ownsRow_lit _ #[] 0 (Nat.le_refl _) (by decide) rfl))
    clear hc0z hW0z
    have hB := hide hb0z
    clear hb0z
    have HE := HE0z
    clear HE0z
    refine hK.out _ _ (KB.out _ hB.out) (fun hHeld' => ?_)
    clear hK K hHeld
    have hHeld := hHeld'
    clear hHeld'
    try simp only [Act.put, List.getElem_toArray, List.getElem_cons_zero, List.getElem_cons_succ, List.setIfInBounds_toArray, List.set_cons_zero, List.set_cons_succ]
    refine wpAnyH_ready (rs := [3, 7]) (by kernel_rfl) (by simp) ?_
    refine AllReadyH.cons rfl (fun K hK => ?_) (AllReadyH.cons rfl (fun K hK => ?_) AllReadyH.nil)
    · refine ite_of' (by kernel_rfl) ?_
      refine wp_app _ (.tmp 84) (.tmp 86) 40 rfl w.heap.size 3 i0 _ 1 8 Tryz.underlying40 hi0 hz0 hz1 hz2 rfl (by omega) _ 0 [] rfl HE.out p L cap (X.map (Value.int .i64)) rfl (HS.out.keep (Keeps.of_below hB.out)) (ints_oneCell .i64 X) (by have := HL.out; unfold maxLen; omega) (by have := HL.out; omega) hB.out.size ?_
      intro v3a W3a hown3a hg3a
      rw [Nat.zero_add, List.nil_append] at hown3a
      have hb3a := hB.out.grown hg3a hB.out.size (fun k hk => (HE.out.lt k hk).1)
      have hB := hide hb3a
      clear hb3a hg3a HE
      obtain ⟨q6, c6, hv6, _⟩ := own_val hown3a
      subst hv6
      have HA := hide hown3a
      clear hown3a
      refine hK.out _ _ (KB.out _ hB.out) (fun hHeld' => ?_)
      clear hK K hHeld
      have hHeld := hHeld'
      clear hHeld'
      try simp only [Act.put, List.getElem_toArray, List.getElem_cons_zero, List.getElem_cons_succ, List.setIfInBounds_toArray, List.set_cons_zero, List.set_cons_succ]
      refine wpAnyH_take (i := 6) (v := ?v6aa) rfl (by kernel_rfl) (by kernel_rfl) (by kernel_rfl) (fun _ _ _ h => h) (Or.inl ⟨by rfl, ?hy6aa⟩) hHeld ?rest6aa
      case hy6aa => (intro w0 hSw; (try dsimp only at hSw); go_simp; all_goals with_reducible rfl)
      try simp only [Act.put, List.getElem_toArray, List.getElem_cons_zero, List.getElem_cons_succ, List.setIfInBounds_toArray, List.set_cons_zero, List.set_cons_succ]
      refine wpAnyH_ready (rs := [7]) (by kernel_rfl) (by simp) ?_
      refine AllReadyH.cons rfl (fun K hK => ?_) AllReadyH.nil
      go_simp
      obtain ⟨W7aa, hW7aa⟩ : ∃ W, (World.alloc W3a (.cells #[.slice none 0 0, .int .i64 0] 42)) = W := ⟨_, rfl⟩
      rw [hW7aa]
      have hc7aa : Below (World.heap W3a).size W3a W7aa := hW7aa ▸ (balloc (Below.refl _ _) _)
      have hb7aa : Below w.heap.size w W7aa := bseq hB.out hc7aa
      have hC : Hid (Blk W7aa (World.heap W3a).size #[.slice none 0 0, .int .i64 0] 42) := hide (hW7aa ▸ (show Blk _ _ _ _ from Blk.new _ _ _))
      have hg : w.heap.size ≤ (World.heap W3a).size := hB.out.size
      have HA := hide (own_below HA.out hc7aa)
      clear hc7aa hW7aa
      have hB := hide hb7aa
      clear hb7aa
      refine hK.out _ _ (KB.out _ hB.out) (fun hHeld' => ?_)
      clear hK K hHeld
      have hHeld := hHeld'
      clear hHeld'
      try simp only [Act.put, List.getElem_toArray, List.getElem_cons_zero, List.getElem_cons_succ, List.setIfInBounds_toArray, List.set_cons_zero, List.set_cons_succ]
      refine wpAnyH_ready (rs := [8]) (by kernel_rfl) (by simp) ?_
      refine AllReadyH.cons rfl (fun K hK => ?_) AllReadyH.nil
      have x0 := hC.out.cell (k := 0) (v := .slice none 0 0) rfl; have x1 := hC.out.cell (k := 1) (v := .int .i64 0) rfl
      have f0 := hC.out.free 0; have f1 := hC.out.free 1
      have hne := own_ne_blk HA.out hC.out (by decide)
      go_simp
      have hk2 := (hC.out.set 0 (.slice q6 L c6)).set 1 (.int .i64 s)
      have ho2 := ownsRow_setCell_other (ownsRow_setCell_other HA.out (a := ⟨_, 0, none⟩) (fun e => hne e.symm) (.slice q6 L c6)) (a := ⟨_, 1, none⟩) (fun e => hne e.symm) (.int .i64 s)
      have hb2 := (hB.out.setCell (p := ⟨_, 0, none⟩) hg (.slice q6 L c6)).setCell (p := ⟨_, 1, none⟩) hg (.int .i64 s)
      refine hK.out _ _ (KB.out _ hb2) (fun hHeld' => ?_)
      clear hK K hHeld
      have hHeld := hHeld'
      clear hHeld'
      try simp only [Act.put, List.getElem_toArray, List.getElem_cons_zero, List.getElem_cons_succ, List.setIfInBounds_toArray, List.set_cons_zero, List.set_cons_succ]
      refine wpAnyH_done (by kernel_rfl) ?_ _
      refine NoPanic.normal ?_
      exact HQ.out _ _ _ _ _ _ _ _ _ _ _ hb2 hk2 hg ho2 (fun e => hne e.symm)
    · go_simp
      obtain ⟨W7a, hW7a⟩ : ∃ W, (World.alloc W0z (.cells #[.slice none 0 0, .int .i64 0] 42)) = W := ⟨_, rfl⟩
      rw [hW7a]
      have hc7a : Below (World.heap W0z).size W0z W7a := hW7a ▸ (balloc (Below.refl _ _) _)
      have hb7a : Below w.heap.size w W7a := bseq hB.out hc7a
      have hC : Hid (Blk W7a (World.heap W0z).size #[.slice none 0 0, .int .i64 0] 42) := hide (hW7a ▸ (show Blk _ _ _ _ from Blk.new _ _ _))
      have hg : w.heap.size ≤ (World.heap W0z).size := hB.out.size
      have HE := hide (own_below HE.out hc7a)
      clear hc7a hW7a
      have hB := hide hb7a
      clear hb7a
      refine hK.out _ _ (KB.out _ hB.out) (fun hHeld' => ?_)
      clear hK K hHeld
      have hHeld := hHeld'
      clear hHeld'
      try simp only [Act.put, List.getElem_toArray, List.getElem_cons_zero, List.getElem_cons_succ, List.setIfInBounds_toArray, List.set_cons_zero, List.set_cons_succ]
      refine wpAnyH_ready (rs := [3]) (by kernel_rfl) (by simp) ?_
      refine AllReadyH.cons rfl (fun K hK => ?_) AllReadyH.nil
      refine ite_of' (by kernel_rfl) ?_
      refine wp_app _ (.tmp 84) (.tmp 86) 40 rfl w.heap.size 3 i0 _ 1 8 Tryz.underlying40 hi0 hz0 hz1 hz2 rfl (by omega) _ 0 [] rfl HE.out p L cap (X.map (Value.int .i64)) rfl (HS.out.keep (Keeps.of_below hB.out)) (ints_oneCell .i64 X) (by have := HL.out; unfold maxLen; omega) (by have := HL.out; omega) hB.out.size ?_
      intro v3ab W3ab hown3ab hg3ab
      rw [Nat.zero_add, List.nil_append] at hown3ab
      have hb3ab := hB.out.grown hg3ab hB.out.size (fun k hk => (HE.out.lt k hk).1)
      have hC := hide (hC.out.grown hg3ab (own_ne_blk HE.out hC.out (by decide)))
      have hB := hide hb3ab
      clear hb3ab hg3ab HE
      obtain ⟨q6, c6, hv6, _⟩ := own_val hown3ab
      subst hv6
      have HA := hide hown3ab
      clear hown3ab
      refine hK.out _ _ (KB.out _ hB.out) (fun hHeld' => ?_)
      clear hK K hHeld
      have hHeld := hHeld'
      clear hHeld'
      try simp only [Act.put, List.getElem_toArray, List.getElem_cons_zero, List.getElem_cons_succ, List.setIfInBounds_toArray, List.set_cons_zero, List.set_cons_succ]
      refine wpAnyH_take (i := 6) (v := ?v6ab) rfl (by kernel_rfl) (by kernel_rfl) (by kernel_rfl) (fun _ _ _ h => h) (Or.inl ⟨by rfl, ?hy6ab⟩) hHeld ?rest6ab
      case hy6ab => (intro w0 hSw; (try dsimp only at hSw); go_simp; all_goals with_reducible rfl)
      try simp only [Act.put, List.getElem_toArray, List.getElem_cons_zero, List.getElem_cons_succ, List.setIfInBounds_toArray, List.set_cons_zero, List.set_cons_succ]
      refine wpAnyH_ready (rs := [8]) (by kernel_rfl) (by simp) ?_
      refine AllReadyH.cons rfl (fun K hK => ?_) AllReadyH.nil
      have x0 := hC.out.cell (k := 0) (v := .slice none 0 0) rfl; have x1 := hC.out.cell (k := 1) (v := .int .i64 0) rfl
      have f0 := hC.out.free 0; have f1 := hC.out.free 1
      have hne := own_ne_blk HA.out hC.out (by decide)
      go_simp
      have hk2 := (hC.out.set 0 (.slice q6 L c6)).set 1 (.int .i64 s)
      have ho2 := ownsRow_setCell_other (ownsRow_setCell_other HA.out (a := ⟨_, 0, none⟩) (fun e => hne e.symm) (.slice q6 L c6)) (a := ⟨_, 1, none⟩) (fun e => hne e.symm) (.int .i64 s)
      have hb2 := (hB.out.setCell (p := ⟨_, 0, none⟩) hg (.slice q6 L c6)).setCell (p := ⟨_, 1, none⟩) hg (.int .i64 s)
      refine hK.out _ _ (KB.out _ hb2) (fun hHeld' => ?_)
      clear hK K hHeld
      have hHeld := hHeld'
      clear hHeld'
      try simp only [Act.put, List.getElem_toArray, List.getElem_cons_zero, List.getElem_cons_succ, List.setIfInBounds_toArray, List.set_cons_zero, List.set_cons_succ]
      refine wpAnyH_done (by kernel_rfl) ?_ _
      refine NoPanic.normal ?_
      exact HQ.out _ _ _ _ _ _ _ _ _ _ _ hb2 hk2 hg ho2 (fun e => hne e.symm)
  · go_simp
    obtain ⟨W7z, hW7z⟩ : ∃ W, (World.alloc w (.cells #[.slice none 0 0, .int .i64 0] 42)).drew = W := ⟨_, rfl⟩
    rw [hW7z]
    have hc7z : Below (World.heap w).size w W7z := hW7z ▸ (balloc (Below.refl _ _) _).drew
    have hb7z : Below w.heap.size w W7z := bseq hB0.out hc7z
    have hC : Hid (Blk W7z (World.heap w).size #[.slice none 0 0, .int .i64 0] 42) := hide (hW7z ▸ (show Blk (World.drew _) _ _ _ from Blk.new _ _ _))
    have hg : w.heap.size ≤ (World.heap w).size := Nat.le_refl _
    clear hc7z hW7z
    have hB := hide hb7z
    clear hb7z
    refine hK.out _ _ (KB.out _ hB.out) (fun hHeld' => ?_)
    clear hK K hHeld
    have hHeld := hHeld'
    clear hHeld'
    try simp only [Act.put, List.getElem_toArray, List.getElem_cons_zero, List.getElem_cons_succ, List.setIfInBounds_toArray, List.set_cons_zero, List.set_cons_succ]
    refine wpAnyH_ready (rs := [0]) (by kernel_rfl) (by simp) ?_
    refine AllReadyH.cons rfl (fun K hK => ?_) AllReadyH.nil
    go_simp
    obtain ⟨W0b, hW0b⟩ : ∃ W, (World.alloc W7z (.cells #[] 3)) = W := ⟨_, rfl⟩
    rw [hW0b]
    have hc0b : Below (World.heap W7z).size W7z W0b := hW0b ▸ (balloc (Below.refl _ _) _)
    have hb0b : Below w.heap.size w W0b := bseq hB.out hc0b
    have HE0b : Hid (W0b.ownsRow w.heap.size 3 1 (.slice (some ⟨(World.heap W7z).size, 0, none⟩) 0 0) 0 []) := hide (hW0b ▸ (show World.ownsRow _ _ _ _ _ _ _ from World.ownsRow_lit _ #[] 0 hB.out.size (by decide) rfl))
    have hC := hide (hC.out.next hc0b)
    clear hc0b hW0b
    have hB := hide hb0b
    clear hb0b
    have HE := HE0b
    clear HE0b
    refine hK.out _ _ (KB.out _ hB.out) (fun hHeld' => ?_)
    clear hK K hHeld
    have hHeld := hHeld'
    clear hHeld'
    try simp only [Act.put, List.getElem_toArray, List.getElem_cons_zero, List.getElem_cons_succ, List.setIfInBounds_toArray, List.set_cons_zero, List.set_cons_succ]
    refine wpAnyH_ready (rs := [3]) (by kernel_rfl) (by simp) ?_
    refine AllReadyH.cons rfl (fun K hK => ?_) AllReadyH.nil
    refine ite_of' (by kernel_rfl) ?_
    refine wp_app _ (.tmp 84) (.tmp 86) 40 rfl w.heap.size 3 i0 _ 1 8 Tryz.underlying40 hi0 hz0 hz1 hz2 rfl (by omega) _ 0 [] rfl HE.out p L cap (X.map (Value.int .i64)) rfl (HS.out.keep (Keeps.of_below hB.out)) (ints_oneCell .i64 X) (by have := HL.out; unfold maxLen; omega) (by have := HL.out; omega) hB.out.size ?_
    intro v3b W3b hown3b hg3b
    rw [Nat.zero_add, List.nil_append] at hown3b
    have hb3b := hB.out.grown hg3b hB.out.size (fun k hk => (HE.out.lt k hk).1)
    have hC := hide (hC.out.grown hg3b (own_ne_blk HE.out hC.out (by decide)))
    have hB := hide hb3b
    clear hb3b hg3b HE
    obtain ⟨q6, c6, hv6, _⟩ := own_val hown3b
    subst hv6
    have HA := hide hown3b
    clear hown3b
    refine hK.out _ _ (KB.out _ hB.out) (fun hHeld' => ?_)
    clear hK K hHeld
    have hHeld := hHeld'
    clear hHeld'
    try simp only [Act.put, List.getElem_toArray, List.getElem_cons_zero, List.getElem_cons_succ, List.setIfInBounds_toArray, List.set_cons_zero, List.set_cons_succ]
    refine wpAnyH_take (i := 6) (v := ?v6b) rfl (by kernel_rfl) (by kernel_rfl) (by kernel_rfl) (fun _ _ _ h => h) (Or.inl ⟨by rfl, ?hy6b⟩) hHeld ?rest6b
    case hy6b => (intro w0 hSw; (try dsimp only at hSw); go_simp; all_goals with_reducible rfl)
    try simp only [Act.put, List.getElem_toArray, List.getElem_cons_zero, List.getElem_cons_succ, List.setIfInBounds_toArray, List.set_cons_zero, List.set_cons_succ]
    refine wpAnyH_ready (rs := [8]) (by kernel_rfl) (by simp) ?_
    refine AllReadyH.cons rfl (fun K hK => ?_) AllReadyH.nil
    have x0 := hC.out.cell (k := 0) (v := .slice none 0 0) rfl; have x1 := hC.out.cell (k := 1) (v := .int .i64 0) rfl
    have f0 := hC.out.free 0; have f1 := hC.out.free 1
    have hne := own_ne_blk HA.out hC.out (by decide)
    go_simp
    have hk2 := (hC.out.set 0 (.slice q6 L c6)).set 1 (.int .i64 s)
    have ho2 := ownsRow_setCell_other (ownsRow_setCell_other HA.out (a := ⟨_, 0, none⟩) (fun e => hne e.symm) (.slice q6 L c6)) (a := ⟨_, 1, none⟩) (fun e => hne e.symm) (.int .i64 s)
    have hb2 := (hB.out.setCell (p := ⟨_, 0, none⟩) hg (.slice q6 L c6)).setCell (p := ⟨_, 1, none⟩) hg (.int .i64 s)
    refine hK.out _ _ (KB.out _ hb2) (fun hHeld' => ?_)
    clear hK K hHeld
    have hHeld := hHeld'
    clear hHeld'
    try simp only [Act.put, List.getElem_toArray, List.getElem_cons_zero, List.getElem_cons_succ, List.setIfInBounds_toArray, List.set_cons_zero, List.set_cons_succ]
    refine wpAnyH_done (by kernel_rfl) ?_ _
    refine NoPanic.normal ?_
    exact HQ.out _ _ _ _ _ _ _ _ _ _ _ hb2 hk2 hg ho2 (fun e => hne e.symm)
end Go.Proofs.YtgfhcmidnbahjaaGreatDoor
namespace Go.Proofs.YtgfhcmidnbahjaaGreatDoor
open Go.RowKit
theorem own_cap {w : World} {base g cap m n size : Nat} {e : TypeId} {xs : List Value} (h : w.ownsRow base e size (.slice (some ⟨g, 0, none⟩) m cap) n xs) : n ≤ cap := by
  rcases h.2 with ⟨hv, _⟩ | ⟨g', cap', cur, hv, _, _, h3, _⟩
  · injection hv with h1; cases h1
  · injection hv with h1 h2 h3'; omega
end Go.Proofs.YtgfhcmidnbahjaaGreatDoor
