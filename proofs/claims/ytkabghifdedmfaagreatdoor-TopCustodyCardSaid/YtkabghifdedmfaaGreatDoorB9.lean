/- The contents of a container. Plain: observations, one after the other. The iterator over observations: one is handed to the caller. -/
import Derived.Test.YtkabghifdedmfaaGreatDoorB8
import Derived.Test.YtkabghifdedmfaaGreatDoorB6
set_option linter.unusedVariables false
set_option linter.unusedSimpArgs false
namespace Go.Proofs.YtkabghifdedmfaaGreatDoor
open Go.RowKit

/-- The labels of some tracks at a time. -/
def labsP (l : List Trk) (ins : List Nat) (time : Int) : List ByteArray := ins.map fun i => match (l.map Trk.tk)[i]? with | some t => labelP t time | none => ⟨#[]⟩
theorem labsP_contents (l : List Trk) (s : ByteArray) (time : Int) : labsP l (insideP (l.map Trk.tk) s) time = contentsP (l.map Trk.tk) s time := rfl
theorem Tryz.info9 : (Tryz.prog.info? 9).map (fun i => (i.zero, i.size, i.bytes)) = some (some (.string ⟨#[]⟩), 1, 16) := by kernel_rfl
theorem labelP_size {t : Trk} {w : World} (h : TrkAt w t) (time : Int) : (labelP t.tk time).size ≤ maxLen := by
  unfold labelP
  split
  · show (0 : Nat) ≤ maxLen; exact Nat.zero_le _
  · rename_i c _
    cases hx : t.tk.label[c]? with
    | none => show (0 : Nat) ≤ maxLen; exact Nat.zero_le _
    | some s => exact h.label.2 s (List.mem_of_getElem? hx)
abbrev strsV (l : List ByteArray) : List Value := l.map Value.string
/-- Strings that lie at the head of a block of strings. -/
def StrRow (w : World) (p : Option Addr) (l : List ByteArray) : Prop := StrsAt w p l ∧ ∀ a, p = some a → ∃ cs, Blk w a.block cs 9
theorem StrRow.nil {w : World} : StrRow w none [] := ⟨StrsAt.nil, fun a h => by cases h⟩
theorem StrRow.next {w w' : World} {p : Option Addr} {l : List ByteArray} (h : StrRow w p l) (hb : Below w.heap.size w w') : StrRow w' p l :=
  ⟨h.1.keep (Keeps.of_below hb), fun a ha => by obtain ⟨cs, hc⟩ := h.2 a ha; exact ⟨cs, hc.next hb⟩⟩
theorem StrRow.same {w w' : World} {p : Option Addr} {l : List ByteArray} (h : StrRow w p l) (hb : ∀ k cs, Blk w k cs 9 → w'.heap[k]? = w.heap[k]?) : StrRow w' p l :=
  ⟨⟨fun hl => by
      obtain ⟨b, o, hp, hc⟩ := h.1.1 hl
      obtain ⟨cs, hk⟩ := h.2 _ hp
      exact ⟨b, o, hp, fun i x hx c v hv => by rw [World.cell?_of_block (hb b cs hk)]; exact hc i x hx c v hv⟩, h.1.2⟩,
    fun a ha => by obtain ⟨cs, hc⟩ := h.2 a ha; exact ⟨cs, hc.same (hb _ cs hc)⟩⟩
theorem strs_own {w : World} {base : Nat} {v : Value} {l : List ByteArray} (h : w.ownsRow base 9 1 v l.length (strsV l)) (hs : ∀ s ∈ l, s.size ≤ maxLen) : ∃ cp cc, v = .slice cp l.length cc ∧ StrRow w cp l := by
  have e : strsV l = l.flatMap (fun s => [Value.string s]) := by
    unfold strsV
    induction l with
    | nil => rfl
    | cons x l ih => simp [List.flatMap_cons, List.map_eq_flatMap]
  rcases h.2 with ⟨hv, h0⟩ | ⟨g, cap, cur, hv, hb, hh, rest⟩
  · refine ⟨none, 0, by rw [hv, h0], ?_⟩
    rw [List.length_eq_zero_iff.1 h0]; exact StrRow.nil
  · refine ⟨_, _, hv, ⟨?_, hs⟩, fun a ha => by cases ha; exact ⟨cur, hh⟩⟩
    rw [e, hv] at h
    exact EncAt.of_own (fun _ => rfl) (by omega) h

set_option maxRecDepth 100000 in
set_option maxHeartbeats 2000000 in
theorem contents_c (g : Nat) (p : Option Addr) (cap n : Nat) (l : List Trk) (ins : List Nat) (ip : Option Addr) (icap : Nat) (dep : Int) (w : World) (R) (hn : l.length = n) (hl : n ≤ 8) (h : TrksAt w p l) (hk : ∀ t ∈ l, TkOk t.tk)
    (hc2 : w.cell? ⟨g, 2, none⟩ = some (.int .i64 dep)) (hc10 : w.cell? ⟨g, 10, none⟩ = some (.slice ip ins.length icap)) (hi : IntsAt .i64 w ip (ins.map fun (i : Nat) => (i : Int))) (hin : ∀ i ∈ ins, i < n) (hlen : ins.length ≤ 9)
    (hR : ∀ w' cp cc, Below w.heap.size w w' → StrRow w' cp (labsP l ins dep) → R (.returned (.slice cp (labsP l ins dep).length cc)) w') : Calls Tryz.prog 53 #[.pointer (some ⟨g, 0, none⟩), .slice p n cap] w R := by
  have HR := hide hR; have H := hide h; have Hk := hide hk; have Hn := hide hn; have HI := hide hi; have Hin := hide hin
  obtain ⟨i0, hi0, hz0, hz1, hz2⟩ := info_parts Tryz.info9
  have HT := hide (And.intro hi0 (And.intro hz0 (And.intro hz1 hz2)))
  obtain ⟨m, hm⟩ : ∃ m, ins.length = m := ⟨_, rfl⟩
  have Hm := hide hm
  rw [hm] at hc10 hlen
  clear hR h hk hn hi hin hi0 hz0 hz1 hz2 hm
  go_enter Tryz.func53, Tryz.ntmps53
  go_wp2
  go_loopw [5, 13] (fun v si wr => ∃ j : Nat, j ≤ m ∧ si = .int .i64 j ∧ Hid (wr.ownsRow w.heap.size 9 1 v (labsP l (ins.take j) dep).length (strsV (labsP l (ins.take j) dep))) ∧ Hid (Below w.heap.size w wr)) (fun _ si _ => m - (intOf si).toNat)
  case atStart => exact ⟨0, Nat.zero_le _, rfl, hide (World.ownsRow_nil _ _ _ _), hide (Below.refl _ _)⟩
  case round =>
    obtain ⟨j, hj, rfl, HO, HB⟩ := hrel
    by_cases hlt : j < m
    · obtain ⟨bi, oi, x, rfl, hx, cx⟩ := (HI.out.keep (Keeps.of_below HB.out)).at_ (i := j) (by rw [List.length_map, Hm.out]; exact hlt)
      rw [List.getElem?_map] at hx
      obtain ⟨i, hxi, rfl⟩ := Option.map_eq_some_iff.1 hx
      have hii : i < n := Hin.out i (List.mem_of_getElem? hxi)
      obtain ⟨b, o, t, rfl, hxt, ht, x0, x1, x2, x3, x4, x5, x6, x7, x8, x9⟩ := (H.out.keep (Keeps.of_below HB.out)).trk (i := i) (by rw [Hn.out]; exact hii)
      have Ht := hide ht
      have Hok := hide (Hk.out t (List.mem_of_getElem? hxt))
      have hv := hide t.val_eq
      have d2 := cell_later HB.out hc2
      have HS := hide (show labsP l (ins.take (j + 1)) dep = labsP l (ins.take j) dep ++ [labelP t.tk dep] by
        unfold labsP
        rw [List.take_add_one, hxi]
        show ((ins.take j) ++ [i]).map _ = _
        rw [List.map_append, List.map_singleton, List.getElem?_map, hxt]
        rfl)
      have hll : (labsP l (ins.take j) dep).length ≤ 9 := by unfold labsP; rw [List.length_map, List.length_take]; omega
      have hbnd : ∀ c v, w.cell? ⟨c, v, none⟩ ≠ none → u5.ownBlock ≠ some c := fun c v hc e => by
        have h1 := (HO.out.lt _ e).1
        cases hcv : w.cell? ⟨c, v, none⟩ with
        | none => exact hc hcv
        | some vv => have := block_lt hcv; simp only at this; omega
      have hg : u5.ownBlock ≠ some g := hbnd g 2 (by rw [hc2]; simp)
      have hb : u5.ownBlock ≠ some b := by
        obtain ⟨b', o', _, hp', _, _, c0, _⟩ := H.out.trk (i := i) (by rw [Hn.out]; exact hii)
        injection hp' with hp'; injection hp' with e1 e2
        subst e1
        exact hbnd b _ (by rw [c0]; simp)
      have HX := hide (And.intro hx (And.intro hxi hxt))
      have KB : Hid (∀ w', wr.grownBy w' u5.ownBlock → (wr.grownBy w' u5.ownBlock ∧ w'.cell? ⟨g, 2, none⟩ = some (.int .i64 dep) ∧ w'.cell? ⟨b, o + i * 10, none⟩ = some (.string t.label0) ∧ w'.cell? ⟨b, o + i * 10 + 1, none⟩ = some (.int .i64 t.from0) ∧ w'.cell? ⟨b, o + i * 10 + 2, none⟩ = some (.int .i64 t.to0) ∧ w'.cell? ⟨b, o + i * 10 + 3, none⟩ = some (.int .i64 t.class0) ∧
          w'.cell? ⟨b, o + i * 10 + 4, none⟩ = some (.int .i64 t.accept) ∧ w'.cell? ⟨b, o + i * 10 + 5, none⟩ = some (.slice t.sp t.stops.length t.sc) ∧ w'.cell? ⟨b, o + i * 10 + 6, none⟩ = some (.bool t.lost) ∧ w'.cell? ⟨b, o + i * 10 + 7, none⟩ = some (.slice t.np t.since.length t.nc) ∧
          w'.cell? ⟨b, o + i * 10 + 8, none⟩ = some (.slice t.lp t.label.length t.lc) ∧ w'.cell? ⟨b, o + i * 10 + 9, none⟩ = some (.slice t.ep t.seals.length t.ec))) :=
        hide (fun w' h => ⟨h, grow_cell h d2 hg, grow_cell h x0 hb, grow_cell h x1 hb, grow_cell h x2 hb, grow_cell h x3 hb, grow_cell h x4 hb, grow_cell h x5 hb, grow_cell h x6 hb, grow_cell h x7 hb, grow_cell h x8 hb, grow_cell h x9 hb⟩)
      have hin : (i : Int) < (n : Int) := by omega
      obtain ⟨hi0, hz0, hz1, hz2⟩ := HT.out
      have hsz := HB.out.size
      clear hx hxi hxt ht hbnd hg hb x0 x1 x2 x3 x4 x5 x6 x7 x8 x9 d2
      go_wp2
      go_region_held3 (fun w' => wr.grownBy w' u5.ownBlock ∧ w'.cell? ⟨g, 2, none⟩ = some (.int .i64 dep) ∧ w'.cell? ⟨b, o + i * 10, none⟩ = some (.string t.label0) ∧ w'.cell? ⟨b, o + i * 10 + 1, none⟩ = some (.int .i64 t.from0) ∧ w'.cell? ⟨b, o + i * 10 + 2, none⟩ = some (.int .i64 t.to0) ∧ w'.cell? ⟨b, o + i * 10 + 3, none⟩ = some (.int .i64 t.class0) ∧
          w'.cell? ⟨b, o + i * 10 + 4, none⟩ = some (.int .i64 t.accept) ∧ w'.cell? ⟨b, o + i * 10 + 5, none⟩ = some (.slice t.sp t.stops.length t.sc) ∧ w'.cell? ⟨b, o + i * 10 + 6, none⟩ = some (.bool t.lost) ∧ w'.cell? ⟨b, o + i * 10 + 7, none⟩ = some (.slice t.np t.since.length t.nc) ∧
          w'.cell? ⟨b, o + i * 10 + 8, none⟩ = some (.slice t.lp t.label.length t.lc) ∧ w'.cell? ⟨b, o + i * 10 + 9, none⟩ = some (.slice t.ep t.seals.length t.ec))
        (first | exact KB.out _ (grow_drew (World.grownBy.refl _ _)) | exact KB.out _ b7 | exact KB.out _ (grow_next b6 (balloc (Below.refl _ _) _)) | exact KB.out _ b6)
        (first
        | (go_at_call 52
           rw [← hv.out]
           refine labelAt_c t dep _ _ (Ht.out.keep (Keeps.drew _)) Hok.out.asc Hok.out.labels (by have := Hok.out.few.2; show t.since.length ≤ _; exact Nat.le_trans this (by decide)) ?_
           intro w6 hb6
           have b6 : wr.grownBy w6 u5.ownBlock := grow_next (grow_drew (World.grownBy.refl wr _)) hb6)
        | (refine step_where rfl (.tmp 17) (.tmp 28) 30 rfl w.heap.size 9 i0 _ 1 16 Tryz.underlying30 hi0 hz0 hz1 hz2 rfl (by omega) u5 _ _ rfl (own_below HO.out (bseq (bseq (Below.refl wr.heap.size wr).drew hb6) (balloc (Below.refl _ _) _))) ⟨w6.heap.size, 0, none⟩ 1 1 [.string (labelP t.tk dep)] rfl rfl (one_cells rfl) (by intro u hu; obtain rfl := List.mem_singleton.1 hu; rfl) (by unfold maxLen; omega) (by omega) (by have := b6.size; simp; omega) ?_
           intro v7 w7 hown hg7 hw7
           have b7 : wr.grownBy w7 u5.ownBlock := World.grownBy.trans (grow_next b6 (balloc (Below.refl _ _) _)) hg7))
      all_goals
        have HB3 := hide (show Below w.heap.size w w7 from HB.out.grown b7 HB.out.size (fun k hk => (HO.out.lt k hk).1))
        have HO3 := hide (show w7.ownsRow w.heap.size 9 1 v7 (labsP l (ins.take (j + 1)) dep).length (strsV (labsP l (ins.take (j + 1)) dep)) by rw [HS.out]; simpa [strsV] using hown)
        clear hown hg7 hw7 b7 KB HB HO HS
        go_wp2_with fail
        go_roundw
        case rel => exact ⟨j + 1, by omega, by go_num, HO3, HB3⟩
        case measure => simp [intOf]; omega
    · obtain rfl : j = m := by omega
      have HF := hide (show ins.take j = ins from List.take_of_length_le (by rw [Hm.out]; exact Nat.le_refl _))
      have HO2 := HO
      rw [HF.out] at HO2
      obtain ⟨cp, cc, hv, hs⟩ := strs_own HO2.out (fun s hs => by
        unfold labsP at hs
        obtain ⟨i, hi, rfl⟩ := List.mem_map.1 hs
        rw [List.getElem?_map]
        cases hx : l[i]? with
        | none => exact Nat.zero_le _
        | some t => exact labelP_size (H.out.2 t (List.mem_of_getElem? hx)) dep)
      subst hv
      have HR1 := hide (HR.out _ _ cc HB.out hs)
      clear hs HO HO2
      go_wp2
      exact HR1.out
end Go.Proofs.YtkabghifdedmfaaGreatDoor

namespace Go.Proofs.YtkabghifdedmfaaGreatDoor

def obsIn (ts : List Tk) (i : Nat) (t : Tk) (j : Nat) : List Ob := (List.range j).flatMap fun j => match t.stops[j]? with | some s => obsStop ts i t j s | none => []
def obsUp (ts : List Tk) (i : Nat) : List Ob := (List.range i).flatMap fun i => match ts[i]? with | some t => obsTrack ts i t | none => []
theorem obsIn_succ {ts : List Tk} {i : Nat} {t : Tk} {j : Nat} {s : Stp} (hs : t.stops[j]? = some s) : obsIn ts i t (j + 1) = obsIn ts i t j ++ obsStop ts i t j s := by
  unfold obsIn
  rw [List.range_succ, List.flatMap_append, List.flatMap_singleton, hs]
theorem obsUp_succ {ts : List Tk} {i : Nat} {t : Tk} (ht : ts[i]? = some t) : obsUp ts (i + 1) = obsUp ts i ++ obsIn ts i t t.stops.length := by
  unfold obsUp
  rw [List.range_succ, List.flatMap_append, List.flatMap_singleton, ht]
  rfl
theorem obsUp_all (ts : List Tk) : obsUp ts ts.length = obsP ts := rfl
theorem obsStop_len (ts : List Tk) (i : Nat) (t : Tk) (j : Nat) (s : Stp) : (obsStop ts i t j s).length ≤ 3 := by
  unfold obsStop
  rw [List.length_cons]
  split
  · simp
  · split
    · simp
    · split <;> simp
theorem flat_le {β : Type} (f : Nat → List β) (k : Nat) : ∀ n, (∀ i, i < n → (f i).length ≤ k) → ((List.range n).flatMap f).length ≤ k * n
  | 0, _ => by simp
  | n + 1, h => by
    rw [List.range_succ, List.flatMap_append, List.flatMap_singleton, List.length_append]
    have h1 := flat_le f k n (fun i hi => h i (by omega))
    have h2 := h n (by omega)
    rw [Nat.mul_add, Nat.mul_one]; omega
theorem obsIn_len (ts : List Tk) (i : Nat) (t : Tk) (j : Nat) : (obsIn ts i t j).length ≤ 3 * j := by
  refine flat_le _ 3 j fun j _ => ?_
  split
  · exact obsStop_len ..
  · simp
theorem obsUp_len {ts : List Tk} (h : ∀ t ∈ ts, t.stops.length ≤ 20) (i : Nat) : (obsUp ts i).length ≤ 60 * i := by
  refine flat_le _ 60 i fun i _ => ?_
  split
  · rename_i t ht
    have h1 := obsIn_len ts i t t.stops.length
    have h2 := h t (List.mem_of_getElem? ht)
    show (obsIn ts i t t.stops.length).length ≤ 60
    omega
  · simp
theorem obsStop_none {ts : List Tk} {i : Nat} {t : Tk} {j : Nat} {s : Stp} (h : t.seals[j]? = none) : obsStop ts i t j s = [⟨s.office, 1, s.arrive, labelP t s.arrive, []⟩] := by
  unfold obsStop; rw [h]
theorem obsStop_not {ts : List Tk} {i : Nat} {t : Tk} {j : Nat} {s : Stp} {e : ByteArray} (h : t.seals[j]? = some e) (hf : firstP ts e ≠ some (i, j)) : obsStop ts i t j s = [⟨s.office, 1, s.arrive, labelP t s.arrive, []⟩] := by
  unfold obsStop; rw [h]
  simp only
  split
  · rfl
  · rw [if_neg hf]
theorem obsStop_three {ts : List Tk} {i : Nat} {t : Tk} {j : Nat} {s n : Stp} {e : ByteArray} (h : t.seals[j]? = some e) (hn : t.stops[j + 1]? = some n) (hf : firstP ts e = some (i, j)) :
    obsStop ts i t j s = [⟨s.office, 1, s.arrive, labelP t s.arrive, []⟩, ⟨s.office, 2, s.depart, e, contentsP ts e s.depart⟩, ⟨n.office, 1, n.arrive, e, []⟩] := by
  unfold obsStop; rw [h, hn]
  simp only
  rw [if_pos hf]
end Go.Proofs.YtkabghifdedmfaaGreatDoor

namespace Go.Proofs.YtkabghifdedmfaaGreatDoor
open Go.RowKit Go.Shelf
attribute [local go_sem] Oper.semAt_some

/-- An observation with the place of its contents. -/
structure Obm where
  office : Int
  kind : Int
  time : Int
  label : ByteArray
  cp : Option Addr
  contents : List ByteArray
  cc : Nat
def Obm.ob (x : Obm) : Ob := ⟨x.office, x.kind, x.time, x.label, x.contents⟩
def encO (x : Obm) : Array Value := #[.agg #[.int .i64 0, .int .i64 0, .int .i64 x.kind, .int .i64 x.time, .string x.label, .slice x.cp x.contents.length x.cc, .int .i64 x.office]]
def Px (x : Obm) (W : World) : Prop := StrRow W x.cp x.contents ∧ x.label.size ≤ maxLen

set_option maxRecDepth 100000 in
set_option maxHeartbeats 1000000 in
theorem see_c (n : Nat) (hn : 1 ≤ n) (l B2 : Nat) (x : Obm) (W : World) (R' : World → Prop) (c2 : W.cell? ⟨B2, 0, none⟩ = some (.func (.yield l) #[] #[]))
    (hY : YieldAt Fence.wide (n - 1) Tryz.prog l (encO x) (W.alloc (.cells #[.int .i64 0, .int .i64 0, .int .i64 x.kind, .int .i64 x.time, .string x.label, .slice x.cp x.contents.length x.cc] 32)) fun e W' => e = .returned (.bool true) ∧ R' W') :
    Calls Tryz.prog 51 #[.int .i64 x.office, .int .i64 x.kind, .int .i64 x.time, .string x.label, .slice x.cp x.contents.length x.cc, .pointer (some ⟨B2, 0, none⟩)] W fun e W' => e = .returned (.bool true) ∧ R' W' := by
  refine (callsIn_wide (n := n)).1 ?_
  obtain ⟨fn, tmps, assign, body, hy, hR⟩ := hY
  refine callsIn_of_wp Tryz.func51 rfl trivial ?_ rfl
  simp only [Tryz.ntmps51, List.size_toArray, List.length_cons, List.length_nil, Nat.reduceAdd, Nat.reduceSub, Array.replicate_succ, Array.replicate_zero, List.push_toArray, List.append_toArray, List.nil_append, List.cons_append]
  unfold encO at hy
  have c2' := cell_later (balloc (Below.refl W.heap.size W) (.cells #[.int .i64 0, .int .i64 0, .int .i64 x.kind, .int .i64 x.time, .string x.label, .slice x.cp x.contents.length x.cc] 32)) c2
  gi_wp2
  refine hR.mono ?_
  rintro e W3 ⟨rfl, h3⟩
  gi_wp2
  exact bodyPost_ret (results_tmp rfl _ _ _) rfl ⟨rfl, h3⟩
theorem kpb_cell {bad : World → Nat → Prop} {A B : World} (h : Kpb bad A B) {b o : Nat} {v : Value} (hb : ¬ bad A b) (hc : A.cell? ⟨b, o, none⟩ = some v) : B.cell? ⟨b, o, none⟩ = some v := by
  rw [World.cell?_of_block (h.2 b (block_lt hc) hb).1]; exact hc
/-- What the iterator reads, and that the caller leaves it alone. -/
structure It (bad : World → Nat → Prop) (w0 : World) (B1 B2 base top gm l : Nat) (p : Option Addr) (m cap : Nat) (L : List Ct) (w : World) : Prop where
  old : ∀ k, k < w0.heap.size → w.heap[k]? = w0.heap[k]?
  sz : w0.heap.size ≤ w.heap.size
  sz2 : top ≤ w.heap.size
  c1 : w.cell? ⟨B1, 0, none⟩ = some (.slice p m cap)
  c2 : w.cell? ⟨B2, 0, none⟩ = some (.func (.yield l) #[] #[])
  cts : CtsAt w base gm L
  tp : gm < top ∧ ∀ c ∈ L, ∀ k, c.Own k → k < top
  nb : ∀ k, (k < w0.heap.size ∨ k = B1 ∨ k = B2 ∨ (base ≤ k ∧ k < top)) → ¬ bad w k
section
variable {bad : World → Nat → Prop} {w0 w w' : World} {B1 B2 base top gm l m cap : Nat} {p : Option Addr} {L : List Ct}
theorem It.kp (h : It bad w0 B1 B2 base top gm l p m cap L w) (hk : Kpb bad w w') : It bad w0 B1 B2 base top gm l p m cap L w' :=
  ⟨fun k hkl => (hk.2 k (Nat.lt_of_lt_of_le hkl h.sz) (h.nb k (.inl hkl))).1.trans (h.old k hkl), Nat.le_trans h.sz hk.1, Nat.le_trans h.sz2 hk.1, kpb_cell hk (h.nb _ (.inr (.inl rfl))) h.c1, kpb_cell hk (h.nb _ (.inr (.inr (.inl rfl)))) h.c2,
    h.cts.keep (hk.2 gm h.cts.map.lt (h.nb gm (.inr (.inr (.inr ⟨h.cts.gmb, h.tp.1⟩))))).1 (fun c hc k ho => (hk.2 k (h.cts.lt hc ho) (h.nb k (.inr (.inr (.inr ⟨(h.cts.off c hc k ho).2, h.tp.2 c hc k ho⟩))))).1),
    h.tp, fun k hkk => (hk.2 k (by
      rcases hkk with hkk | rfl | rfl | hkk
      · exact Nat.lt_of_lt_of_le hkk h.sz
      · exact block_lt h.c1
      · exact block_lt h.c2
      · exact Nat.lt_of_lt_of_le hkk.2 h.sz2) (h.nb k hkk)).2⟩
theorem It.keeps (h : It bad w0 B1 B2 base top gm l p m cap L w) : Keeps w0 w := fun a v hv => by
  rw [World.cell?_of_block (h.old a.block (World.block_lt_of_cell? w0 a hv))]; exact hv
/-- A block of the iterator's own. -/
def BN (bad : World → Nat → Prop) (w : World) (b : Nat) (cs : Array Value) (T : TypeId) : Prop := Blk w b cs T ∧ ¬ bad w b
theorem BN.kp {b : Nat} {cs : Array Value} {T : TypeId} (h : BN bad w b cs T) (hk : Kpb bad w w') : BN bad w' b cs T := ⟨h.1.same (hk.2 b h.1.lt h.2).1, (hk.2 b h.1.lt h.2).2⟩
theorem BN.cell {b : Nat} {cs : Array Value} {T : TypeId} (h : BN bad w b cs T) {k : Nat} {v : Value} (hk : cs[k]? = some v) : w.cell? ⟨b, k, none⟩ = some v := h.1.cell hk
end
end Go.Proofs.YtkabghifdedmfaaGreatDoor
