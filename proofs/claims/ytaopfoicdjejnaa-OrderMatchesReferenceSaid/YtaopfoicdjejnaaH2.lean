/- The head of each law: the chapter's examples. -/
import Derived.Test.YtaopfoicdjejnaaH1
import Derived.Test.YtaopfoicdjejnaaC14
import Derived.Test.YtaopfoicdjejnaaC16
import Derived.Test.YtaopfoicdjejnaaC17
set_option linter.unusedVariables false
set_option linter.unusedSimpArgs false
namespace Go.Proofs.Ytaopfoicdjejnaa
open Go.RowKit

theorem fitN_c {n m k : Nat} (dp ep lp : Option Addr) (dc ec lc : Nat) (d : List (List Int)) (es : List Evt) (ls : List Lgr) (w : World) (R) (hn : d.length = n) (hm : es.length = m) (hk : ls.length = k) (hdl : n ≤ 1000) (hel : m ≤ 1000) (hll : k ≤ 1000) (hd : RowsAt w dp d) (he : EvsAt w ep es) (hl : LgsAt w lp ls)
    (hR0 : fitR d es ls = none → ∀ w', Below w.heap.size w w' → R (.returned (.tuple #[.slice none 0 0, .bool false])) w')
    (hR1 : ∀ ts, fitR d es ls = some ts → ∀ q c w', Below w.heap.size w w' → IntsAt .i64 w' q ts → R (.returned (.tuple #[.slice q m c, .bool true])) w') :
    Calls Try.prog 12 #[.slice dp n dc, .slice ep m ec, .slice lp k lc] w R := by
  subst hn; subst hm; subst hk
  exact fit_c dp ep lp dc ec lc d es ls w R (by unfold maxLen; omega) (by unfold maxLen; omega) (by unfold maxLen; omega) hd he hl hR0 hR1
theorem holdsN_c {n m k t : Nat} (dp ep lp tp : Option Addr) (dc ec lc tc : Nat) (d : List (List Int)) (es : List Evt) (ls : List Lgr) (ts : List Int) (v : Bool) (w : World) (R) (hn : d.length = n) (hm : es.length = m) (hk : ls.length = k) (ht : ts.length = t) (hdl : n ≤ 1000) (hel : m ≤ 1000) (hll : k ≤ 1000) (htl : t ≤ 1000) (hlc : k ≤ lc) (hd : RowsAt w dp d) (he : EvsAt w ep es) (hl : LgsAt w lp ls) (hti : IntsAt .i64 w tp ts) (hv : holdB d es ls ts = v)
    (hR : ∀ w', Below w.heap.size w w' → R (.returned (.bool v)) w') :
    Calls Try.prog 14 #[.slice dp n dc, .slice ep m ec, .slice lp k lc, .slice tp t tc] w R := by
  subst hn; subst hm; subst hk; subst ht
  exact holds_c dp ep lp tp dc ec lc tc _ d es ls ts w R (by unfold maxLen; omega) (by unfold maxLen; omega) (by unfold maxLen; omega) (by unfold maxLen; omega) rfl hlc hd he hl hti (by rw [hv]; exact hR)
theorem Try.info32 : (Try.prog.info? 32).map (fun i => (i.zero, i.size, i.bytes)) = some (some (.agg #[.int .i64 0, .int .i64 0, .int .i64 0, .slice none 0 0]), 4, 48) := by kernel_rfl
theorem rows_two {w : World} {g a b : Nat} {r1 r2 : List Int} {n1 n2 c1 c2 : Nat} (h : Blk w g #[.slice (some ⟨a, 0, none⟩) n1 c1, .slice (some ⟨b, 0, none⟩) n2 c2] 25) (h1 : r1.length = n1) (h2 : r2.length = n2) (l1 : n1 ≤ 1000) (l2 : n2 ≤ 1000) (i1 : IntsAt .i64 w (some ⟨a, 0, none⟩) r1) (i2 : IntsAt .i64 w (some ⟨b, 0, none⟩) r2) : RowsAt w (some ⟨g, 0, none⟩) [r1, r2] := fun _ => by
  refine ⟨g, 0, rfl, fun i r hr => ?_⟩
  subst h1; subst h2
  rcases i with _ | _ | i
  · injection hr with hr; subst hr
    exact ⟨_, _, h.cell (k := 0) rfl, i1, by unfold maxLen; omega⟩
  · injection hr with hr; subst hr
    exact ⟨_, _, h.cell (k := 1) rfl, i2, by unfold maxLen; omega⟩
  · simp at hr
theorem rows_one {w : World} {g a : Nat} {r : List Int} {n c : Nat} (h : Blk w g #[.slice (some ⟨a, 0, none⟩) n c] 25) (h1 : r.length = n) (l1 : n ≤ 1000) (i1 : IntsAt .i64 w (some ⟨a, 0, none⟩) r) : RowsAt w (some ⟨g, 0, none⟩) [r] := fun _ => by
  refine ⟨g, 0, rfl, fun i r' hr => ?_⟩
  subst h1
  rcases i with _ | i
  · injection hr with hr; subst hr
    exact ⟨_, _, h.cell (k := 0) rfl, i1, by unfold maxLen; omega⟩
  · simp at hr
theorem ints_blk {w : World} {g : Nat} {l : List Int} {cs : Array Value} {t : TypeId} (h : Blk w g cs t) (hc : cs = (l.map (Value.int .i64)).toArray) : IntsAt .i64 w (some ⟨g, 0, none⟩) l := fun _ =>
  ⟨g, 0, rfl, fun i x hx => by rw [Nat.zero_add]; exact h.cell (by rw [hc]; simp [hx])⟩
theorem enc_blk {α : Type} {k : Nat} {enc : α → List Value} (hk : ∀ x, (enc x).length = k) {w : World} {g : Nat} {l : List α} {cs : Array Value} {t : TypeId} (h : Blk w g cs t) (hc : cs = (l.flatMap enc).toArray) : EncAt k enc w (some ⟨g, 0, none⟩) l :=
  EncAt.of_flat hk fun j u hu => h.cell (by rw [hc]; simpa using hu)
set_option maxRecDepth 100000 in
set_option maxHeartbeats 8000000 in
theorem head_c (w : World) (R) (hR : ∀ w', Below w.heap.size w w' → R (.returned (.bool true)) w') : Calls Try.prog 10 #[] w R := by
  have HR := hide hR; clear hR
  obtain ⟨i0, hi0, hz0, hz1, hz2⟩ := info_parts Try.info32
  go_enter Try.func10, Try.ntmps10
  go_wp2_with (go_at_call 12; refine Stop.out ?_)
  have hev : ∀ x : Evt, x.cells.length = 4 := fun _ => rfl
  have hlg : ∀ x : Lgr, x.cells.length = 3 := fun _ => rfl
  have Hev := hide hev; have Hlg := hide hlg
  clear hev hlg
  have K0 := (((Blk.new w #[.int .i64 0, .int .i64 10] 3).alloc (.cells #[.int .i64 (-1), .int .i64 0] 3)).alloc (.cells #[.slice (some ⟨w.heap.size, 0, none⟩) 2 2, .slice (some ⟨w.heap.size + 1, 0, none⟩) 2 2] 25)).alloc (.cells #[.int .i64 0, .int .i64 0, .int .i64 5, .slice none 0 0, .int .i64 1, .int .i64 0, .int .i64 12, .slice none 0 0] 32)
  have K1 := ((Blk.new_at (w := w.alloc (.cells #[.int .i64 0, .int .i64 10] 3)) (cs := #[.int .i64 (-1), .int .i64 0]) (t := 3) (n := w.heap.size + 1) (by simp)).alloc (.cells #[.slice (some ⟨w.heap.size, 0, none⟩) 2 2, .slice (some ⟨w.heap.size + 1, 0, none⟩) 2 2] 25)).alloc (.cells #[.int .i64 0, .int .i64 0, .int .i64 5, .slice none 0 0, .int .i64 1, .int .i64 0, .int .i64 12, .slice none 0 0] 32)
  have K2 := (Blk.new_at (w := (w.alloc (.cells #[.int .i64 0, .int .i64 10] 3)).alloc (.cells #[.int .i64 (-1), .int .i64 0] 3)) (cs := #[.slice (some ⟨w.heap.size, 0, none⟩) 2 2, .slice (some ⟨w.heap.size + 1, 0, none⟩) 2 2]) (t := 25) (n := w.heap.size + 1 + 1) (by simp)).alloc (.cells #[.int .i64 0, .int .i64 0, .int .i64 5, .slice none 0 0, .int .i64 1, .int .i64 0, .int .i64 12, .slice none 0 0] 32)
  have K3 := Blk.new_at (w := ((w.alloc (.cells #[.int .i64 0, .int .i64 10] 3)).alloc (.cells #[.int .i64 (-1), .int .i64 0] 3)).alloc (.cells #[.slice (some ⟨w.heap.size, 0, none⟩) 2 2, .slice (some ⟨w.heap.size + 1, 0, none⟩) 2 2] 25)) (cs := #[.int .i64 0, .int .i64 0, .int .i64 5, .slice none 0 0, .int .i64 1, .int .i64 0, .int .i64 12, .slice none 0 0]) (t := 32) (n := w.heap.size + 1 + 1 + 1) (by simp)
  have B := hide (balloc (balloc (balloc (balloc (Below.refl w.heap.size w) (.cells #[.int .i64 0, .int .i64 10] 3)) (.cells #[.int .i64 (-1), .int .i64 0] 3)) (.cells #[.slice (some ⟨w.heap.size, 0, none⟩) 2 2, .slice (some ⟨w.heap.size + 1, 0, none⟩) 2 2] 25)) (.cells #[.int .i64 0, .int .i64 0, .int .i64 5, .slice none 0 0, .int .i64 1, .int .i64 0, .int .i64 12, .slice none 0 0] 32))
  have D : Hid (RowsAt _ (some ⟨w.heap.size + 1 + 1, 0, none⟩) xD) := hide (rows_two (r1 := [0, 10]) (r2 := [-1, 0]) K2 rfl rfl (by omega) (by omega) (ints_blk K0 rfl) (ints_blk K1 rfl))
  have A : Hid (EvsAt _ (some ⟨w.heap.size + 1 + 1 + 1, 0, none⟩) xA) := hide (enc_blk Hev.out K3 rfl)
  clear K0 K1 K2 K3
  generalize (((w.alloc (.cells #[.int .i64 0, .int .i64 10] 3)).alloc (.cells #[.int .i64 (-1), .int .i64 0] 3)).alloc (.cells #[.slice (some ⟨w.heap.size, 0, none⟩) 2 2, .slice (some ⟨w.heap.size + 1, 0, none⟩) 2 2] 25)).alloc (.cells #[.int .i64 0, .int .i64 0, .int .i64 5, .slice none 0 0, .int .i64 1, .int .i64 0, .int .i64 12, .slice none 0 0] 32) = W at *
  obtain ⟨db, hdb⟩ : ∃ db, w.heap.size + 1 + 1 = db := ⟨_, rfl⟩
  rw [hdb] at A D ⊢
  obtain ⟨ab, hab⟩ : ∃ ab, db + 1 = ab := ⟨_, rfl⟩
  rw [hab] at A ⊢
  clear hdb hab
  refine Stop.go (fitN_c _ _ _ _ _ _ xD xA [] _ _ rfl rfl rfl (by omega) (by omega) (by omega) D.out A.out EncAt.nil ?_ ?_)
  · intro hnone
    obtain ⟨ts, h⟩ := xA_fit
    rw [h] at hnone; cases hnone
  intro ts hts qx cx w1 hb hX
  have HX := hide (fitR_sound hts)
  have hxl := hide (show ts.length = 2 from HX.out.2.1)
  have B1 := hide (bseq B.out hb); have D1 := hide (D.out.keep (Keeps.of_below hb)); have A1 := hide (A.out.keep (Keeps.of_below hb)); have X1 := hide hX
  clear hb hX hts B D A
  go_wp2_with (go_at_call 12; refine Stop.out ?_)
  refine Stop.go (fitN_c _ _ _ _ _ _ xD xN [] _ _ rfl rfl rfl (by omega) (by omega) (by omega) (D1.out.keep (Keeps.alloc _ _)) (enc_blk Hev.out (Blk.new w1 #[.int .i64 1, .int .i64 0, .int .i64 5, .slice none 0 0, .int .i64 0, .int .i64 10, .int .i64 20, .slice none 0 0] 32) rfl) EncAt.nil ?_ ?_)
  rotate_left
  · intro ts' hts'
    rw [xN_fit] at hts'; cases hts'
  intro _ w2 hb0
  have hb := bseq (balloc (Below.refl w1.heap.size w1) (.cells #[.int .i64 1, .int .i64 0, .int .i64 5, .slice none 0 0, .int .i64 0, .int .i64 10, .int .i64 20, .slice none 0 0] 32)) hb0
  have B2 := hide (bseq B1.out hb); have D2 := hide (D1.out.keep (Keeps.of_below hb)); have A2 := hide (A1.out.keep (Keeps.of_below hb)); have X2 := hide (X1.out.keep (Keeps.of_below hb))
  clear hb hb0 B1 D1 A1 X1
  go_wp2_with (go_at_call 12; refine Stop.out ?_)
  have hb0 := balloc (balloc (Below.refl w2.heap.size w2) (.cells #[.int .i64 0, .int .i64 0, .int .i64 5, .slice none 0 0, .int .i64 1, .int .i64 0, .int .i64 30, .slice none 0 0] 32)) (.cells #[.int .i64 0, .int .i64 1, .int .i64 20] 39)
  have KB := (Blk.new w2 #[.int .i64 0, .int .i64 0, .int .i64 5, .slice none 0 0, .int .i64 1, .int .i64 0, .int .i64 30, .slice none 0 0] 32).alloc (.cells #[.int .i64 0, .int .i64 1, .int .i64 20] 39)
  have KL := Blk.new_at (w := w2.alloc (.cells #[.int .i64 0, .int .i64 0, .int .i64 5, .slice none 0 0, .int .i64 1, .int .i64 0, .int .i64 30, .slice none 0 0] 32)) (cs := #[.int .i64 0, .int .i64 1, .int .i64 20]) (t := 39) (n := w2.heap.size + 1) (by simp)
  have B3 := hide (bseq B2.out hb0); have D3 := hide (D2.out.keep (Keeps.of_below hb0)); have A3 := hide (A2.out.keep (Keeps.of_below hb0)); have X3 := hide (X2.out.keep (Keeps.of_below hb0))
  have E3 : Hid (EvsAt _ (some ⟨w2.heap.size, 0, none⟩) xB) := hide (enc_blk Hev.out KB rfl)
  have L3 : Hid (LgsAt _ (some ⟨w2.heap.size + 1, 0, none⟩) xL) := hide (enc_blk Hlg.out KL rfl)
  have KB3 := hide KB
  clear hb0 KB KL B2 D2 A2 X2
  generalize (w2.alloc (.cells #[.int .i64 0, .int .i64 0, .int .i64 5, .slice none 0 0, .int .i64 1, .int .i64 0, .int .i64 30, .slice none 0 0] 32)).alloc (.cells #[.int .i64 0, .int .i64 1, .int .i64 20] 39) = W3 at *
  obtain ⟨bb, hbb⟩ : ∃ bb, w2.heap.size = bb := ⟨_, rfl⟩
  rw [hbb] at E3 L3 KB3 ⊢
  obtain ⟨lb, hlb⟩ : ∃ lb, bb + 1 = lb := ⟨_, rfl⟩
  rw [hlb] at L3 ⊢
  clear hbb hlb
  refine Stop.go (fitN_c _ _ _ _ _ _ xD xB xL _ _ rfl rfl rfl (by omega) (by omega) (by omega) D3.out E3.out L3.out ?_ ?_)
  · intro hnone
    obtain ⟨ts, h⟩ := xB_fit
    rw [h] at hnone; cases hnone
  intro ty hty qy cy w4 hb hY
  have HY := hide (fitR_sound hty)
  have hw4 := hide (bseq B3.out hb).size
  have hyl := hide (show ty.length = 2 from HY.out.2.1)
  have B4 := hide (bseq B3.out hb); have D4 := hide (D3.out.keep (Keeps.of_below hb)); have A4 := hide (A3.out.keep (Keeps.of_below hb)); have X4 := hide (X3.out.keep (Keeps.of_below hb))
  have E4 := hide (E3.out.keep (Keeps.of_below hb)); have L4 := hide (L3.out.keep (Keeps.of_below hb)); have Y4 := hide hY
  have KB4 := hide (KB3.out.next hb)
  clear hb hY hty B3 D3 A3 X3 E3 L3 KB3
  go_wp2_with (at_builtin; refine Stop.out ?_)
  refine Stop.go ?_
  refine wpList_app _ rfl (.tmp 50) (.tmp 51) 23 rfl w4.heap.size 32 i0 _ 4 48 Try.underlying23 hi0 hz0 hz1 hz2 rfl (by omega) _ 0 [] rfl (World.ownsRow_lit _ #[] 0 (Nat.le_refl _) (by decide) rfl) (some ⟨bb, 0, none⟩) 2 2 (xB.flatMap Evt.cells) rfl ⟨rfl, fun _ => ⟨_, rfl, fun j u hu => by rw [Addr.add_lit, Nat.zero_add]; exact (KB4.out.alloc _).cell (by simpa [xB, xE, Evt.cells] using hu)⟩⟩ (by decide) (by unfold maxLen; omega) (by omega) (by simp) ?_
  intro v5 w5 hown hg5
  have hb5 := (balloc (Below.refl w4.heap.size w4) (.cells #[] 32)).grown hg5 (by simp) (fun k hk => by have hk' : some w4.heap.size = some k := hk; injection hk' with h; omega)
  have O5 := hide (own_below hown (balloc (Below.refl _ _) (.cells #[.int .i64 1, .int .i64 12, .int .i64 14, .slice none 0 0] 32)))
  have hb45 := hide hb5
  clear hown hg5 hb5 KB4
  go_wp2_with (at_builtin; refine Stop.out ?_)
  refine Stop.go ?_
  refine wpList_app _ rfl (.tmp 52) (.tmp 54) 23 rfl w4.heap.size 32 i0 _ 4 48 Try.underlying23 hi0 hz0 hz1 hz2 rfl (by omega) _ (0 + 2) ([] ++ xB.flatMap Evt.cells) rfl O5.out (some ⟨w5.heap.size, 0, none⟩) 1 1 (xE 1 12 14).cells rfl ⟨rfl, fun _ => ⟨_, rfl, fun j u hu => by rw [Addr.add_lit, Nat.zero_add]; exact (Blk.new w5 #[.int .i64 1, .int .i64 12, .int .i64 14, .slice none 0 0] 32).cell (by simpa [xE, Evt.cells] using hu)⟩⟩ (by decide) (by unfold maxLen; omega) (by omega) (by have := hb45.out.size; simp; omega) ?_
  intro v6 w6 hown hg6
  have hb6 := (balloc hb45.out (.cells #[.int .i64 1, .int .i64 12, .int .i64 14, .slice none 0 0] 32)).grown hg6 (by have := hb45.out.size; simp; omega) (fun k hk => (O5.out.lt k hk).1)
  obtain ⟨q6, c6, hv6⟩ := own_slice hown
  subst hv6
  have B6 := hide (bseq B4.out hb6); have D6 := hide (D4.out.keep (Keeps.of_below hb6)); have A6 := hide (A4.out.keep (Keeps.of_below hb6)); have X6 := hide (X4.out.keep (Keeps.of_below hb6))
  have E6 := hide (E4.out.keep (Keeps.of_below hb6)); have L6 := hide (L4.out.keep (Keeps.of_below hb6)); have Y6 := hide (Y4.out.keep (Keeps.of_below hb6))
  have C6 : Hid (EvsAt w6 q6 xC) := hide (EncAt.of_own (k := 4) (enc := Evt.cells) Hev.out (by omega) (base := w4.heap.size) (e := 32) (n := 0 + 2 + 1) (cap := c6) hown)
  clear hown hg6 hb6 O5 hb45 B4 D4 A4 X4 E4 L4 Y4 hw4
  go_wp2_with (go_at_call 12; refine Stop.out ?_)
  refine Stop.go (fitN_c _ _ _ _ _ _ xD xC xL _ _ rfl rfl rfl (by omega) (by omega) (by omega) D6.out C6.out L6.out ?_ ?_)
  rotate_left
  · intro ts' hts'
    rw [xC_fit] at hts'; cases hts'
  intro _ w7 hb
  have B7 := hide (bseq B6.out hb); have D7 := hide (D6.out.keep (Keeps.of_below hb)); have A7 := hide (A6.out.keep (Keeps.of_below hb)); have X7 := hide (X6.out.keep (Keeps.of_below hb))
  have E7 := hide (E6.out.keep (Keeps.of_below hb)); have L7 := hide (L6.out.keep (Keeps.of_below hb)); have Y7 := hide (Y6.out.keep (Keeps.of_below hb))
  clear hb B6 D6 A6 X6 E6 L6 Y6 C6
  go_wp2_with (go_at_call 12; refine Stop.out ?_)
  refine Stop.go (fitN_c _ _ _ _ _ _ [] [] [] _ _ rfl rfl rfl (by omega) (by omega) (by omega) RowsAt.nil EncAt.nil EncAt.nil ?_ ?_)
  · intro hnone
    obtain ⟨ts, h⟩ := x0_fit
    rw [h] at hnone; cases hnone
  intro t0 _ q0 c0 w8 hb _
  have B8 := hide (bseq B7.out hb); have D8 := hide (D7.out.keep (Keeps.of_below hb)); have A8 := hide (A7.out.keep (Keeps.of_below hb)); have X8 := hide (X7.out.keep (Keeps.of_below hb))
  have E8 := hide (E7.out.keep (Keeps.of_below hb)); have L8 := hide (L7.out.keep (Keeps.of_below hb)); have Y8 := hide (Y7.out.keep (Keeps.of_below hb))
  clear hb B7 D7 A7 X7 E7 L7 Y7
  obtain ⟨y0, y1, hty⟩ : ∃ y0 y1, ty = [y0, y1] := by
    have h := hyl.out
    rcases ty with _ | ⟨a, _ | ⟨b, _ | ⟨c, t⟩⟩⟩ <;> simp at h
    exact ⟨a, b, rfl⟩
  subst hty
  have hyy := hide (show y1 = y0 + 20 ∧ 0 ≤ y0 ∧ y0 ≤ 1000000 by
    have h1 := HY.out.2.2.leg ⟨0, 1, 20⟩ (by simp [xL, Lgr.lg])
    have h2 : y1 - y0 = 20 := h1.1
    have h3 := HY.out.2.2.win 0 (by decide)
    have h4 : max (evF xB 0).low 0 ≤ y0 ∧ y0 ≤ min (evF xB 0).high 1000000 := h3
    omega)
  obtain ⟨gy, oy, _, hqy, hy0, cy0⟩ := Y8.out.at_ (i := 0) (by simp)
  obtain ⟨gy', oy', _, hqy', hy1, cy1⟩ := Y8.out.at_ (i := 1) (by simp)
  subst hqy
  injection hqy' with hqy'; injection hqy' with e1 e2
  subst e1; subst e2
  injection hy0 with hy0; subst hy0
  injection hy1 with hy1; subst hy1
  have hh1 := holdB_true.2 HX.out
  have hh2 := holdB_true.2 HY.out
  have HH1 := hide hh1; have HH2 := hide hh2
  obtain ⟨z1, z2, z3⟩ := hyy.out
  subst z1
  have hwr : IntKind.i64.wrap (y0 + 20) = y0 + 20 := IntWalk.i64_in _ (by omega)
  have KB : Hid (∀ w', Below w8.heap.size w8 w' → w'.cell? ⟨gy, oy + 0, none⟩ = some (.int .i64 y0) ∧ w'.cell? ⟨gy, oy + 1, none⟩ = some (.int .i64 (y0 + 20))) := hide (fun w' h => ⟨cell_later h cy0, cell_later h cy1⟩)
  clear hh1 hh2 cy0 cy1
  obtain ⟨p0, p1⟩ := KB.out _ (Below.refl _ _)
  rw [Nat.add_zero] at p0
  go_wp2
  have KB2 : Hid (∀ w', Below w8.heap.size w8 w' → Below w8.heap.size w8 w' ∧ w'.cell? ⟨gy, oy, none⟩ = some (.int .i64 y0) ∧ w'.cell? ⟨gy, oy + 1, none⟩ = some (.int .i64 (y0 + 20))) := hide (fun w' h => ⟨h, (KB.out w' h).1, (KB.out w' h).2⟩)
  clear p0 p1
  have HA : Hid (∀ (w9 : World) (R : Ending → World → Prop), Below w8.heap.size w8 w9 → (∀ w', Below w9.heap.size w9 w' → R (.returned (.bool true)) w') → Calls Try.prog 14 #[.slice (some ⟨db, 0, none⟩) 2 2, .slice (some ⟨ab, 0, none⟩) 2 2, .slice none 0 0, .slice qx 2 cx] w9 R) :=
    hide (fun w9 R hb hR => holdsN_c (some ⟨db, 0, none⟩) (some ⟨ab, 0, none⟩) none qx _ _ _ _ xD xA [] ts true _ _ rfl rfl rfl hxl.out (by omega) (by omega) (by omega) (by omega) (by omega) (D8.out.keep (Keeps.of_below hb)) (A8.out.keep (Keeps.of_below hb)) EncAt.nil (X8.out.keep (Keeps.of_below hb)) HH1.out hR)
  have HBt : Hid (∀ (w9 : World) (R : Ending → World → Prop), Below w8.heap.size w8 w9 → (∀ w', Below w9.heap.size w9 w' → R (.returned (.bool true)) w') → Calls Try.prog 14 #[.slice (some ⟨db, 0, none⟩) 2 2, .slice (some ⟨bb, 0, none⟩) 2 2, .slice (some ⟨lb, 0, none⟩) 1 1, .slice (some ⟨gy, oy, none⟩) 2 cy] w9 R) :=
    hide (fun w9 R hb hR => holdsN_c (some ⟨db, 0, none⟩) (some ⟨bb, 0, none⟩) (some ⟨lb, 0, none⟩) (some ⟨gy, oy, none⟩) _ _ _ _ xD xB xL [y0, y0 + 20] true _ _ rfl rfl rfl rfl (by omega) (by omega) (by omega) (by omega) (by omega) (D8.out.keep (Keeps.of_below hb)) (E8.out.keep (Keeps.of_below hb)) (L8.out.keep (Keeps.of_below hb)) (Y8.out.keep (Keeps.of_below hb)) HH2.out hR)
  go_region_held3 (fun w' => Below w8.heap.size w8 w' ∧ w'.cell? ⟨gy, oy, none⟩ = some (.int .i64 y0) ∧ w'.cell? ⟨gy, oy + 1, none⟩ = some (.int .i64 (y0 + 20)))
    (first | exact KB2.out _ b10 | exact KB2.out _ b9 | exact KB2.out _ ((Below.refl _ _).drew))
    (first
      | (go_at_call 14; (with_reducible refine HA.out _ _ ?_ ?_); (first | exact b10 | exact (Below.refl _ _).drew); intro w9 hb9; have b9 : Below w8.heap.size w8 w9 := (by first | exact bseq b10 hb9 | exact bseq ((Below.refl _ _).drew) hb9))
      | (go_at_call 14; (with_reducible refine HBt.out _ _ ?_ ?_); (first | exact b9 | exact (Below.refl _ _).drew); intro w10 hb10; have b10 : Below w8.heap.size w8 w10 := (by first | exact bseq b9 hb10 | exact bseq ((Below.refl _ _).drew) hb10)))
  rename_i hS
  obtain ⟨hb, _, _⟩ := hS
  clear KB KB2 HA HBt HH1 HH2
  have B9 := hide (bseq B8.out hb); have D9 := hide (D8.out.keep (Keeps.of_below hb)); have A9 := hide (A8.out.keep (Keeps.of_below hb)); have X9 := hide (X8.out.keep (Keeps.of_below hb)); have E9 := hide (E8.out.keep (Keeps.of_below hb)); have L9 := hide (L8.out.keep (Keeps.of_below hb))
  clear hb B8 D8 A8 X8 E8 L8
  go_wp2_with (go_at_call 14; refine Stop.out ?_)
  refine Stop.go (holdsN_c _ _ _ _ _ _ _ _ xD xA [] [0, 10] true _ _ rfl rfl rfl rfl (by omega) (by omega) (by omega) (by omega) (by omega) (D9.out.keep (Keeps.alloc _ _)) (A9.out.keep (Keeps.alloc _ _)) EncAt.nil (ints_blk (Blk.new _ #[.int .i64 0, .int .i64 10] 3) rfl) hA10 ?_)
  intro w11 hb0
  have hb := bseq (balloc (Below.refl _ _) (.cells #[.int .i64 0, .int .i64 10] 3)) hb0
  clear hb0
  have B11 := hide (bseq B9.out hb); have D11 := hide (D9.out.keep (Keeps.of_below hb)); have A11 := hide (A9.out.keep (Keeps.of_below hb)); have X11 := hide (X9.out.keep (Keeps.of_below hb)); have E11 := hide (E9.out.keep (Keeps.of_below hb)); have L11 := hide (L9.out.keep (Keeps.of_below hb))
  clear hb B9 D9 A9 X9 E9 L9
  go_wp2_with (go_at_call 14; refine Stop.out ?_)
  refine Stop.go (holdsN_c _ _ _ _ _ _ _ _ xD xA [] [0, 9] false _ _ rfl rfl rfl rfl (by omega) (by omega) (by omega) (by omega) (by omega) (D11.out.keep (Keeps.alloc _ _)) (A11.out.keep (Keeps.alloc _ _)) EncAt.nil (ints_blk (Blk.new _ #[.int .i64 0, .int .i64 9] 3) rfl) hA9 ?_)
  intro w12 hb0
  have hb := bseq (balloc (Below.refl _ _) (.cells #[.int .i64 0, .int .i64 9] 3)) hb0
  clear hb0
  have B12 := hide (bseq B11.out hb); have D12 := hide (D11.out.keep (Keeps.of_below hb)); have A12 := hide (A11.out.keep (Keeps.of_below hb)); have X12 := hide (X11.out.keep (Keeps.of_below hb)); have E12 := hide (E11.out.keep (Keeps.of_below hb)); have L12 := hide (L11.out.keep (Keeps.of_below hb))
  clear hb B11 D11 A11 X11 E11 L11
  go_wp2_with (go_at_call 14; refine Stop.out ?_)
  refine Stop.go (holdsN_c _ _ _ _ _ _ _ _ xD xB xL [0, 21] false _ _ rfl rfl rfl rfl (by omega) (by omega) (by omega) (by omega) (by omega) (D12.out.keep (Keeps.alloc _ _)) (E12.out.keep (Keeps.alloc _ _)) (L12.out.keep (Keeps.alloc _ _)) (ints_blk (Blk.new _ #[.int .i64 0, .int .i64 21] 3) rfl) hB21 ?_)
  intro w13 hb0
  have hb := bseq (balloc (Below.refl _ _) (.cells #[.int .i64 0, .int .i64 21] 3)) hb0
  clear hb0
  have B13 := hide (bseq B12.out hb); have D13 := hide (D12.out.keep (Keeps.of_below hb)); have A13 := hide (A12.out.keep (Keeps.of_below hb)); have X13 := hide (X12.out.keep (Keeps.of_below hb)); have E13 := hide (E12.out.keep (Keeps.of_below hb)); have L13 := hide (L12.out.keep (Keeps.of_below hb))
  clear hb B12 D12 A12 X12 E12 L12
  go_wp2_with (go_at_call 14; refine Stop.out ?_)
  refine Stop.go (holdsN_c _ _ _ _ _ _ _ _ xD xA [] [0] false _ _ rfl rfl rfl rfl (by omega) (by omega) (by omega) (by omega) (by omega) (D13.out.keep (Keeps.alloc _ _)) (A13.out.keep (Keeps.alloc _ _)) EncAt.nil (ints_blk (Blk.new _ #[.int .i64 0] 3) rfl) hA0 ?_)
  intro w14 hb0
  have hb := bseq (balloc (Below.refl _ _) (.cells #[.int .i64 0] 3)) hb0
  clear hb0
  have B14 := hide (bseq B13.out hb); have D14 := hide (D13.out.keep (Keeps.of_below hb)); have A14 := hide (A13.out.keep (Keeps.of_below hb)); have X14 := hide (X13.out.keep (Keeps.of_below hb)); have E14 := hide (E13.out.keep (Keeps.of_below hb)); have L14 := hide (L13.out.keep (Keeps.of_below hb))
  clear hb B13 D13 A13 X13 E13 L13
  go_wp2_with (go_at_call 14; refine Stop.out ?_)
  refine Stop.go (holdsN_c _ _ _ _ _ _ _ _ [[1]] [] [] [] false _ _ rfl rfl rfl rfl (by omega) (by omega) (by omega) (by omega) (by omega) (rows_one (n := 1) (c := 1) (r := [1]) (Blk.new_at (w := w14.alloc (.cells #[.int .i64 1] 3)) (cs := #[.slice (some ⟨w14.heap.size, 0, none⟩) 1 1]) (t := 25) (by simp)) rfl (by omega) (ints_blk ((Blk.new w14 #[.int .i64 1] 3).alloc _) rfl)) EncAt.nil EncAt.nil IntsAt.nil h1 ?_)
  intro w15 hb0
  have hb := bseq (balloc (balloc (Below.refl w14.heap.size w14) (.cells #[.int .i64 1] 3)) (.cells #[.slice (some ⟨w14.heap.size, 0, none⟩) 1 1] 25)) hb0
  clear hb0
  have B15 := hide (bseq B14.out hb); have D15 := hide (D14.out.keep (Keeps.of_below hb)); have A15 := hide (A14.out.keep (Keeps.of_below hb)); have X15 := hide (X14.out.keep (Keeps.of_below hb)); have E15 := hide (E14.out.keep (Keeps.of_below hb)); have L15 := hide (L14.out.keep (Keeps.of_below hb))
  clear hb B14 D14 A14 X14 E14 L14
  go_wp2_with (go_at_call 16; refine Stop.out ?_)
  refine Stop.go (ints_c _ _ _ _ _ _ ts ts _ _ hxl.out hxl.out (by omega) (by omega) X15.out X15.out ?_)
  intro w16 hdr
  rw [decide_eq_true rfl]
  have B16 := hide (bseq B15.out hdr.below)
  clear hdr
  go_wp2
  exact HR.out _ B16.out
end Go.Proofs.Ytaopfoicdjejnaa
