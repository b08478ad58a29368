/- Records are sorted by their times. Records: the words. -/
import Derived.Test.YtkabghifdedmfaaGreatDoorB10
import Derived.Test.YtkabghifdedmfaaGreatDoorB11
import Derived.Test.YtkabghifdedmfaaGreatDoorB15
set_option linter.unusedVariables false
set_option linter.unusedSimpArgs false
namespace Go.Proofs.YtkabghifdedmfaaGreatDoor
open Go.RowKit Go.Sort

/-- New blocks and draws alone. -/
def Gr (w w' : World) : Prop := ∃ q os, w' = grow (w.drewN q) os
theorem Gr.refl (w : World) : Gr w w := ⟨0, #[], by rw [grow_empty]; rfl⟩
theorem Gr.trans {a b c : World} (h : Gr a b) (k : Gr b c) : Gr a c := by
  obtain ⟨q, os, rfl⟩ := h
  obtain ⟨q', os', rfl⟩ := k
  refine ⟨q + q', os ++ os', ?_⟩
  rw [← World.drewN_drewN, ← grow_grow]
  rfl
theorem Gr.alloc1 (w : World) (o : Obj) : Gr w (w.alloc o) := ⟨0, #[o], by rw [alloc_eq_grow]; rfl⟩
theorem Gr.drewN1 (w : World) (n : Nat) : Gr w (w.drewN n) := ⟨n, #[], by rw [grow_empty]⟩
theorem Gr.drew1 (w : World) : Gr w w.drew := ⟨1, #[], by rw [grow_empty]; rfl⟩
theorem Gr.below {w w' : World} (h : Gr w w') : Below w.heap.size w w' := by
  obtain ⟨q, os, rfl⟩ := h
  exact ⟨rfl, rfl, rfl, by rw [size_grow]; exact Nat.le_add_right _ _, fun k hk => heap_grow_old (w.drewN q) os hk⟩
def cmpI (x y : Int) : Int := if x < y then -1 else if y < x then 1 else 0
theorem cmpI_lt (x y : Int) : cmpI x y < 0 ↔ x < y := by
  unfold cmpI
  split
  · omega
  · split <;> omega
theorem compare_c (x y : Int) (w : World) (R) (hR : R (.returned (.int .i64 (cmpI x y))) w) : Calls Tryz.prog 56 #[.int .i64 x, .int .i64 y] w R := by
  have HR := hide hR; clear hR
  unfold cmpI at HR
  by_cases h1 : x < y
  · rw [if_pos h1] at HR
    go_enter Tryz.func56, Tryz.ntmps56
    go_wp2_with (go_at_call 88; refine isNaN_c _ _ _ ?_)
    exact HR.out
  · rw [if_neg h1] at HR
    by_cases h2 : y < x
    · rw [if_pos h2] at HR
      go_enter Tryz.func56, Tryz.ntmps56
      go_wp2_with (go_at_call 88; refine isNaN_c _ _ _ ?_)
      exact HR.out
    · rw [if_neg h2] at HR
      go_enter Tryz.func56, Tryz.ntmps56
      go_wp2_with (go_at_call 88; refine isNaN_c _ _ _ ?_)
      exact HR.out
theorem timeOf_c (r : Rec) (w : World) (R) (hR : R (.returned (.int .i64 r.time)) (w.alloc (.cells r.cells.toArray 32))) : Calls Tryz.prog 23 #[.agg r.cells.toArray] w R := by
  have HR := hide hR; clear hR
  unfold Rec.cells at *
  go_enter Tryz.func23, Tryz.ntmps23
  go_wp2
  exact HR.out
set_option maxHeartbeats 1000000 in
theorem cmpRec_c (bx : Nat) (x y : Rec) (w : World) (R) (hc : w.cell? ⟨bx, 0, none⟩ = some (.func (.func 23) #[] #[])) (hR : ∀ w', Gr w w' → R (.returned (.int .i64 (cmpI x.time y.time))) w') :
    Calls Tryz.prog 55 #[.agg x.cells.toArray, .agg y.cells.toArray, .pointer (some ⟨bx, 0, none⟩)] w R := by
  have HR := hide hR; clear hR
  obtain ⟨w2, hw2⟩ : ∃ w2, (w.alloc (.cells x.cells.toArray 32)).alloc (.cells y.cells.toArray 32) = w2 := ⟨_, rfl⟩
  have HG := hide (show Gr w w2 from hw2 ▸ (Gr.alloc1 w _).trans (Gr.alloc1 _ _))
  have hx : Hid (Value.agg x.cells.toArray = .agg #[.int .i64 x.scanner, .int .i64 x.number, .int .i64 x.kind, .int .i64 x.time, .string x.label, .slice x.cp x.contents.length x.cc]) := hide rfl
  have hy : Hid (Value.agg y.cells.toArray = .agg #[.int .i64 y.scanner, .int .i64 y.number, .int .i64 y.kind, .int .i64 y.time, .string y.label, .slice y.cp y.contents.length y.cc]) := hide rfl
  have hbk1 : Blk w2 w.heap.size x.cells.toArray 32 := by rw [← hw2]; exact (Blk.new _ _ _).alloc _
  have hbk2 : Blk w2 (w.heap.size + 1) y.cells.toArray 32 := by rw [← hw2]; exact Blk.new_at (by simp)
  have hc2 := cell_later HG.out.below hc
  have KB : Hid (∀ w', Gr w2 w' → (Gr w2 w' ∧ w'.cell? ⟨bx, 0, none⟩ = some (.func (.func 23) #[] #[]) ∧ w'.cell? ⟨w.heap.size, 0, none⟩ = some (.int .i64 x.scanner) ∧ w'.cell? ⟨w.heap.size, 1, none⟩ = some (.int .i64 x.number) ∧ w'.cell? ⟨w.heap.size, 2, none⟩ = some (.int .i64 x.kind) ∧ w'.cell? ⟨w.heap.size, 3, none⟩ = some (.int .i64 x.time) ∧
      w'.cell? ⟨w.heap.size, 4, none⟩ = some (.string x.label) ∧ w'.cell? ⟨w.heap.size, 5, none⟩ = some (.slice x.cp x.contents.length x.cc) ∧ w'.cell? ⟨w.heap.size + 1, 0, none⟩ = some (.int .i64 y.scanner) ∧ w'.cell? ⟨w.heap.size + 1, 1, none⟩ = some (.int .i64 y.number) ∧ w'.cell? ⟨w.heap.size + 1, 2, none⟩ = some (.int .i64 y.kind) ∧ w'.cell? ⟨w.heap.size + 1, 3, none⟩ = some (.int .i64 y.time) ∧
      w'.cell? ⟨w.heap.size + 1, 4, none⟩ = some (.string y.label) ∧ w'.cell? ⟨w.heap.size + 1, 5, none⟩ = some (.slice y.cp y.contents.length y.cc))) := hide (fun w' h => by
    have a := hbk1.next h.below
    have b := hbk2.next h.below
    exact ⟨h, cell_later h.below hc2, a.cell (k := 0) rfl, a.cell (k := 1) rfl, a.cell (k := 2) rfl, a.cell (k := 3) rfl, a.cell (k := 4) rfl, a.cell (k := 5) rfl, b.cell (k := 0) rfl, b.cell (k := 1) rfl, b.cell (k := 2) rfl, b.cell (k := 3) rfl, b.cell (k := 4) rfl, b.cell (k := 5) rfl⟩)
  have HW := hide hw2
  unfold Rec.cells at HW
  have HX30 : Hid (∀ W R, R (.returned (.int .i64 x.time)) (W.alloc (.cells x.cells.toArray 32)) → Calls Tryz.prog 23 #[.agg #[.int .i64 x.scanner, .int .i64 x.number, .int .i64 x.kind, .int .i64 x.time, .string x.label, .slice x.cp x.contents.length x.cc]] W R) := hide (fun W R h => timeOf_c x W R h)
  have HY30 : Hid (∀ W R, R (.returned (.int .i64 y.time)) (W.alloc (.cells y.cells.toArray 32)) → Calls Tryz.prog 23 #[.agg #[.int .i64 y.scanner, .int .i64 y.number, .int .i64 y.kind, .int .i64 y.time, .string y.label, .slice y.cp y.contents.length y.cc]] W R) := hide (fun W R h => timeOf_c y W R h)
  rw [hx.out, hy.out]
  clear hbk1 hbk2 hc2 hw2 hc
  go_enter Tryz.func55, Tryz.ntmps55
  go_wp2
  rw [HW.out]
  go_region_held3 (fun w' => Gr w2 w' ∧ w'.cell? ⟨bx, 0, none⟩ = some (.func (.func 23) #[] #[]) ∧ w'.cell? ⟨w.heap.size, 0, none⟩ = some (.int .i64 x.scanner) ∧ w'.cell? ⟨w.heap.size, 1, none⟩ = some (.int .i64 x.number) ∧ w'.cell? ⟨w.heap.size, 2, none⟩ = some (.int .i64 x.kind) ∧ w'.cell? ⟨w.heap.size, 3, none⟩ = some (.int .i64 x.time) ∧
      w'.cell? ⟨w.heap.size, 4, none⟩ = some (.string x.label) ∧ w'.cell? ⟨w.heap.size, 5, none⟩ = some (.slice x.cp x.contents.length x.cc) ∧ w'.cell? ⟨w.heap.size + 1, 0, none⟩ = some (.int .i64 y.scanner) ∧ w'.cell? ⟨w.heap.size + 1, 1, none⟩ = some (.int .i64 y.number) ∧ w'.cell? ⟨w.heap.size + 1, 2, none⟩ = some (.int .i64 y.kind) ∧ w'.cell? ⟨w.heap.size + 1, 3, none⟩ = some (.int .i64 y.time) ∧
      w'.cell? ⟨w.heap.size + 1, 4, none⟩ = some (.string y.label) ∧ w'.cell? ⟨w.heap.size + 1, 5, none⟩ = some (.slice y.cp y.contents.length y.cc))
    (first | exact KB.out _ (Gr.drew1 _) | exact KB.out _ ((Gr.drew1 _).trans (Gr.alloc1 _ _)) | exact KB.out _ (((Gr.drew1 _).trans (Gr.alloc1 _ _)).trans (Gr.alloc1 _ _)))
    (first
    | (go_at_call 23; with_reducible refine HX30.out _ _ ?_)
    | (go_at_call 23; with_reducible refine HY30.out _ _ ?_)
    | (go_at_call 56; refine compare_c _ _ _ _ ?_))
  go_wp2
  exact HR.out _ (HG.out.trans (((Gr.alloc1 _ _).trans (Gr.alloc1 _ _)).trans (Gr.drew1 _)))
abbrev RZ := Rec × Nat
def RZ.c0 (x : RZ) : Value := .int .i64 x.1.scanner
def RZ.c1 (x : RZ) : Value := .int .i64 x.1.number
def RZ.c2 (x : RZ) : Value := .int .i64 x.1.kind
def RZ.c3 (x : RZ) : Value := .int .i64 x.1.time
def RZ.c4 (x : RZ) : Value := .string x.1.label
def RZ.c5 (x : RZ) : Value := .slice x.1.cp x.1.contents.length x.1.cc
theorem rz_flat : ∀ (M : List RZ), M.flatMap (fun x => [RZ.c0 x, RZ.c1 x, RZ.c2 x, RZ.c3 x, RZ.c4 x, RZ.c5 x]) = (M.map (·.1)).flatMap Rec.cells
  | [] => rfl
  | x :: M => by rw [List.flatMap_cons, List.map_cons, List.flatMap_cons, rz_flat M]; rfl
theorem rz_cmp (bx : Nat) (w0 : World) (g : Nat) (hne : bx ≠ g) (hc : w0.cell? ⟨bx, 0, none⟩ = some (.func (.func 23) #[] #[])) : CmpC 55 #[.pointer (some ⟨bx, 0, none⟩)] RZ.c0 RZ.c1 RZ.c2 RZ.c3 RZ.c4 RZ.c5 (fun x y => cmpI x.1.time y.1.time) w0 g :=
  ⟨fun args w => by simp [go_sem], fun W hW x y => cmpRec_c bx x.1 y.1 W _ (hW.cell hc (by simp; exact hne)) fun w' hg => ⟨rfl, hg⟩⟩
set_option maxHeartbeats 1000000 in
theorem orderR_c (g n cap base : Nat) (l : List Rec) (w : World) (R) (hl : l.length = n) (hn : n ≤ 1000000) (hg : g < w.heap.size) (h : w.ownsRow base 32 6 (.slice (some ⟨g, 0, none⟩) n cap) n (l.flatMap Rec.cells))
    (hR : ∀ w', w'.ownsRow base 32 6 (.slice (some ⟨g, 0, none⟩) n cap) n ((sortK Rec.time l).flatMap Rec.cells) → w.grownBy w' (some g) → R (.returned (.tuple #[])) w') :
    Calls Tryz.prog 22 #[.slice (some ⟨g, 0, none⟩) n cap, .func (.func 23) #[] #[]] w R := by
  have HR := hide hR; have Hl := hide hl
  have H := hide (show w.ownsRow base 32 6 (.slice (some ⟨g, 0, none⟩) n cap) n (l.zipIdx.flatMap (fun x : RZ => [RZ.c0 x, RZ.c1 x, RZ.c2 x, RZ.c3 x, RZ.c4 x, RZ.c5 x])) by rw [rz_flat, List.zipIdx_map_fst]; exact h)
  obtain ⟨w1, hw1⟩ : ∃ w1, w.alloc (.cells #[.func (.func 23) #[] #[]] 89) = w1 := ⟨_, rfl⟩
  have HW := hide hw1
  have HB1 := hide (show Below w.heap.size w w1 from hw1 ▸ balloc (Below.refl _ _) _)
  have HC := hide (show w1.cell? ⟨w.heap.size, 0, none⟩ = some (.func (.func 23) #[] #[]) by rw [← hw1]; simp)
  clear hR hl h hw1
  go_enter Tryz.func22, Tryz.ntmps22
  go_wp2_with (go_at_call 54; rw [HW.out]; refine Stop.out ?_)
  refine Stop.go ?_
  go_enter Tryz.func54, Tryz.ntmps54
  go_wp2_with (go_at_call 87; refine Stop.out ?_)
  refine Stop.go (stable_c (key := fun x : RZ => x.1.time) (tag := fun x : RZ => x.2) (c0 := RZ.c0) (c1 := RZ.c1) (c2 := RZ.c2) (c3 := RZ.c3) (c4 := RZ.c4) (c5 := RZ.c5) (fun _ => rfl) (fun _ => rfl) (fun _ => rfl) (fun _ => rfl) (fun _ => rfl) (fun _ => rfl) 55 #[.pointer (some ⟨w.heap.size, 0, none⟩)] (fun x y => cmpI x.1.time y.1.time) (fun x y => cmpI_lt _ _) g n cap base l.zipIdx w1 w1 _ hn (rz_cmp w.heap.size w1 g (by omega) HC.out) ⟨own_below H.out HB1.out, World.grownBy.refl _ _, by rw [List.length_zipIdx]; exact Hl.out, Nat.lt_of_lt_of_le hg HB1.out.size⟩ (zip_tag l 0) ?_)
  intro w' M pM sM S'
  have HS := hide (show w'.ownsRow base 32 6 (.slice (some ⟨g, 0, none⟩) n cap) n ((sortK Rec.time l).flatMap Rec.cells) by rw [← srt_is pM sM, ← rz_flat]; exact S'.own)
  have HG := hide (show w.grownBy w' (some g) from World.grownBy.trans ⟨HB1.out.os, HB1.out.tape, HB1.out.output, HB1.out.size, fun k hk _ => HB1.out.block k hk⟩ S'.grown)
  clear pM sM S'
  go_wp2_with fail
  go_end0
  go_wp2_with fail
  go_end0
  exact HR.out w' HS.out HG.out
set_option maxHeartbeats 1000000 in
theorem orderR0_c (w : World) (R) (hR : ∀ w', Below w.heap.size w w' → R (.returned (.tuple #[])) w') : Calls Tryz.prog 22 #[.slice none 0 0, .func (.func 23) #[] #[]] w R := by
  have HR := hide (hR _ (balloc (Below.refl w.heap.size w) (.cells #[.func (.func 23) #[] #[]] 89)))
  clear hR
  go_enter Tryz.func22, Tryz.ntmps22
  go_wp2_with (go_at_call 54; refine Stop.out ?_)
  refine Stop.go ?_
  go_enter Tryz.func54, Tryz.ntmps54
  go_wp2_with (go_at_call 87; refine Stop.out ?_)
  refine Stop.go ?_
  go_enter Tryz.func87, Tryz.ntmps87
  go_wp2
  go_loop [7, 8] (fun a b => a = .int .i64 0 ∧ b = .int .i64 20) (fun _ _ => 0)
  case atStart => exact ⟨rfl, rfl⟩
  case round =>
    obtain ⟨rfl, rfl⟩ := hrel
    go_wp2_with (go_at_call 103; refine Stop.out ?_)
    refine Stop.go ?_
    go_enter Tryz.func103, Tryz.ntmps103
    go_wp2
    go_loop [8] (fun a => a = .int .i64 1) (fun _ => 0)
    case atStart => rfl
    case round =>
      subst hrel
      go_wp2
      go_end0
      go_wp2
      go_loop [6] (fun a => a = .int .i64 20) (fun _ => 0)
      case atStart => rfl
      case round =>
        subst hrel
        go_wp2
        go_end0
        go_wp2_with fail
        go_end0
        go_wp2_with fail
        go_end0
        exact HR.out
end Go.Proofs.YtkabghifdedmfaaGreatDoor

namespace Go.Proofs.YtkabghifdedmfaaGreatDoor
open Go.RowKit Go.Sort

abbrev intK : Int → Value := fun n => .int .i64 n
/-- The map of first scanners, while the scanners come from the last to the first. -/
def putS (pre : List (Scn × Nat)) : List (Int × Value) := pre.foldl (fun L x => putL L x.1.office (.int .i64 (x.2 : Int))) []
theorem putS_snoc (pre : List (Scn × Nat)) (x : Scn × Nat) : putS (pre ++ [x]) = putL (putS pre) x.1.office (.int .i64 (x.2 : Int)) := by
  unfold putS; rw [List.foldl_append]; rfl
theorem find2_putS (o : Int) : ∀ l : List (Scn × Nat), find2 (putS l.reverse) o = (l.find? fun x => decide (x.1.office = o)).map fun x => Value.int .i64 (x.2 : Int)
  | [] => rfl
  | x :: l => by
    rw [List.reverse_cons, putS_snoc, find2_put, List.find?_cons, find2_putS o l]
    by_cases h : o = x.1.office
    · rw [if_pos h, h]; simp
    · rw [if_neg h]
      have : decide (x.1.office = o) = false := by simpa using fun e : x.1.office = o => h e.symm
      rw [this]
theorem find_zip (o : Int) : ∀ (l : List Scn) (k : Nat), ((l.zipIdx k).find? fun x => decide (x.1.office = o)).map (·.2) = (l.findIdx? fun x => decide (x.office = o)).map (· + k)
  | [], _ => rfl
  | x :: l, k => by
    rw [List.zipIdx_cons, List.find?_cons, List.findIdx?_cons]
    by_cases h : x.office = o
    · simp [h]
    · have := find_zip o l (k + 1)
      simp only [h, decide_false, this, Option.map_map, Bool.false_eq_true, if_false]
      cases l.findIdx? (fun x => decide (x.office = o)) with
      | none => rfl
      | some j => simp; omega
theorem find2_scan (l : List Scn) (o : Int) : find2 (putS l.zipIdx.reverse) o = (scanP l o).map fun (i : Nat) => Value.int .i64 (i : Int) := by
  rw [find2_putS]
  have := find_zip o l 0
  unfold scanP
  cases hf : l.zipIdx.find? (fun x => decide (x.1.office = o)) with
  | none =>
    rw [hf] at this
    cases hg : l.findIdx? (fun x => decide (x.office = o)) with
    | none => rfl
    | some j => rw [hg] at this; cases this
  | some x =>
    rw [hf] at this
    cases hg : l.findIdx? (fun x => decide (x.office = o)) with
    | none => rw [hg] at this; cases this
    | some j =>
      rw [hg] at this
      simp at this
      simp [this]
theorem scanP_lt {l : List Scn} {o : Int} {i : Nat} (h : scanP l o = some i) : i < l.length := by
  unfold scanP at h
  rw [List.findIdx?_eq_some_iff_getElem] at h
  exact h.1
/-- An observation as it lies in memory, as a record. -/
def noteR (l : List Scn) (x : Obm) : Option Rec := match scanP l x.office with
  | none => none
  | some i => if 1000000 < x.time then none else some ⟨i, 0, x.kind, x.time, x.label, x.cp, x.contents, x.cc⟩
theorem noteR_rp (l : List Scn) (x : Obm) : (noteR l x).map Rec.rp = noteP l x.ob := by
  unfold noteR noteP
  show _ = match scanP l x.office with | none => none | some i => _
  cases scanP l x.office with
  | none => rfl
  | some i =>
    simp only
    split
    · rename_i h; exact (if_pos (show 1000000 < x.ob.time from h)).symm
    · rename_i h; exact (if_neg (show ¬ 1000000 < x.ob.time from h)).symm
theorem notes_rp (l : List Scn) (xs : List Obm) : (xs.filterMap (noteR l)).map Rec.rp = (xs.map Obm.ob).filterMap (noteP l) := by
  rw [List.map_filterMap, List.filterMap_map]
  have e : (fun x => (noteR l x).map Rec.rp) = noteP l ∘ Obm.ob := funext fun x => noteR_rp l x
  rw [e]
/-- A record gets its number. -/
def cntR (seen : List Rec) (s : Int) : Nat := (seen.filter fun x => decide (x.scanner = s)).length
def numR : List Rec → List Rec → List Rec
  | _, [] => []
  | seen, r :: l => { r with number := (cntR seen r.scanner : Int) } :: numR (seen ++ [r]) l
theorem numR_rp : ∀ (l seen : List Rec), (numR seen l).map Rec.rp = numberP (seen.map Rec.rp) (l.map Rec.rp)
  | [], _ => rfl
  | r :: l, seen => by
    rw [numR, List.map_cons, List.map_cons, numberP, numR_rp l (seen ++ [r]), List.map_append]
    congr 1
    show (⟨_, _, _, _, _, _⟩ : RP) = ⟨_, _, _, _, _, _⟩
    congr 1
    unfold cntR
    rw [List.filter_map, List.length_map]
    rfl
theorem numR_len : ∀ (l seen : List Rec), (numR seen l).length = l.length
  | [], _ => rfl
  | r :: l, seen => by rw [numR, List.length_cons, numR_len l, List.length_cons]
theorem numR_at : ∀ (l seen : List Rec) (i : Nat) (r : Rec), l[i]? = some r → (numR seen l)[i]? = some { r with number := (cntR (seen ++ l.take i) r.scanner : Int) }
  | [], _, _, _, h => by simp at h
  | x :: l, seen, 0, r, h => by
    simp at h; subst h
    rw [numR]; simp
  | x :: l, seen, i + 1, r, h => by
    rw [numR, List.getElem?_cons_succ, numR_at l (seen ++ [x]) i r (by simpa using h), List.take_succ_cons, List.append_assoc]
    rfl
/-- The list when the first i records have their numbers. -/
def midR (l : List Rec) (i : Nat) : List Rec := (numR [] l).take i ++ l.drop i
theorem midR_zero (l : List Rec) : midR l 0 = l := by simp [midR]
theorem midR_all (l : List Rec) : midR l l.length = numR [] l := by
  unfold midR
  rw [List.take_of_length_le (by rw [numR_len]; exact Nat.le_refl _), List.drop_of_length_le (Nat.le_refl _), List.append_nil]
theorem midR_at {l : List Rec} {i : Nat} {r : Rec} (h : l[i]? = some r) : (midR l i)[i]? = some r := by
  have hi := (List.getElem?_eq_some_iff.1 h).1
  unfold midR
  rw [List.getElem?_append_right (by rw [List.length_take, numR_len]; omega), List.length_take, numR_len, Nat.min_eq_left (by omega), Nat.sub_self, List.getElem?_drop]
  exact h
theorem midR_succ {l : List Rec} {i : Nat} {r : Rec} (h : l[i]? = some r) : midR l (i + 1) = (midR l i).set i { r with number := (cntR (l.take i) r.scanner : Int) } := by
  have hi := (List.getElem?_eq_some_iff.1 h).1
  have hn := numR_at l [] i r h
  rw [List.nil_append] at hn
  have ht : ((numR [] l).take i).length = i := by rw [List.length_take, numR_len]; omega
  unfold midR
  rw [List.set_append_right _ _ (by omega), ht, Nat.sub_self, List.take_add_one, hn, List.drop_eq_getElem_cons hi, List.set_cons_zero, List.append_assoc]
  rfl
theorem midR_len {l : List Rec} {i : Nat} (hi : i ≤ l.length) : (midR l i).length = l.length := by
  unfold midR; rw [List.length_append, List.length_take, numR_len, List.length_drop]; omega
/-- One cell of one element is stored. -/
theorem flat_set1 {α : Type} {enc : α → List Value} {k : Nat} (hk : ∀ x, (enc x).length = k) (l : List α) (i c : Nat) (x : α) (v : Value) (hi : i < l.length) (hc : c < k) (hx : enc x = (enc l[i]).set c v) : (l.flatMap enc).set (i * k + c) v = (l.set i x).flatMap enc := by
  apply List.ext_getElem?
  intro m
  have hl := flat_len hk l
  have hl2 := flat_len hk (l.set i x)
  rw [List.length_set] at hl2
  have hb : i * k + k ≤ l.length * k := by
    have := Nat.mul_le_mul_right k (show i + 1 ≤ l.length from hi); rwa [Nat.add_mul, Nat.one_mul] at this
  rw [List.getElem?_set]
  rcases Nat.lt_or_ge m (l.length * k) with hm | hm
  · have hk0 : 0 < k := by omega
    have hq : m / k < l.length := Nat.div_lt_of_lt_mul (by rwa [Nat.mul_comm] at hm)
    have hr : m % k < k := Nat.mod_lt _ hk0
    have hm2 : m = m / k * k + m % k := by rw [Nat.mul_comm]; exact (Nat.div_add_mod m k).symm
    obtain ⟨q, hq'⟩ : ∃ q, m / k = q := ⟨_, rfl⟩
    obtain ⟨r, hr'⟩ : ∃ r, m % k = r := ⟨_, rfl⟩
    rw [hq', hr'] at hm2
    rw [hq'] at hq
    rw [hr'] at hr
    subst hm2
    have h1 := flat_at hk (l.set i x) q r ((l.set i x)[q]'(by rw [List.length_set]; exact hq)) (List.getElem?_eq_getElem _) hr
    rw [h1, List.getElem_set]
    by_cases hqi : i = q
    · subst hqi
      rw [if_pos rfl, hx, List.getElem?_set, hk]
      by_cases hcr : c = r
      · subst hcr; rw [if_pos rfl, if_pos rfl, if_pos (by rw [hl]; omega), if_pos hc]
      · rw [if_neg (by omega), if_neg hcr]
        exact flat_at hk l i r l[i] (List.getElem?_eq_getElem hi) hr
    · rw [if_neg hqi, if_neg (fun e => hqi (by
        have e2 := congrArg (· / k) e
        rw [Nat.mul_comm i, Nat.mul_comm q, Nat.mul_add_div hk0, Nat.mul_add_div hk0, Nat.div_eq_of_lt hc, Nat.div_eq_of_lt hr] at e2
        omega))]
      exact flat_at hk l q r l[q] (List.getElem?_eq_getElem hq) hr
  · have z1 : (l.flatMap enc)[m]? = none := List.getElem?_eq_none (by omega)
    have z2 : ((l.set i x).flatMap enc)[m]? = none := List.getElem?_eq_none (by omega)
    rw [z1, z2, if_neg (by omega)]
/-- The counts of the scanners. -/
def cntsR (n : Nat) (l : List Rec) : List Int := (List.range n).map fun (k : Nat) => (cntR l (k : Int) : Int)
theorem cntsR_nil (n : Nat) : cntsR n [] = List.replicate n 0 := by
  unfold cntsR cntR
  apply List.ext_getElem?
  intro i
  rcases Nat.lt_or_ge i n with h | h
  · rw [at_range n _ i h, List.getElem?_replicate, if_pos h]; rfl
  · rw [List.getElem?_eq_none (by simpa using h), List.getElem?_eq_none (by simpa using h)]
theorem cntR_snoc (l : List Rec) (r : Rec) (s : Int) : cntR (l ++ [r]) s = cntR l s + if r.scanner = s then 1 else 0 := by
  unfold cntR
  rw [List.filter_append, List.length_append, List.filter_cons]
  by_cases h : r.scanner = s <;> simp [h]
theorem cntsR_snoc (n : Nat) (l : List Rec) (r : Rec) (s : Nat) (hs : r.scanner = (s : Int)) : (cntsR n l).set s ((cntR l (s : Int) : Int) + 1) = cntsR n (l ++ [r]) := by
  unfold cntsR
  refine set_range n _ _ s _ fun i hi => ?_
  rw [cntR_snoc, hs]
  by_cases h : s = i
  · subst h; simp
  · rw [if_neg h, if_neg (by omega)]; simp
theorem cntR_le (l : List Rec) (s : Int) : cntR l s ≤ l.length := List.length_filter_le _ _
end Go.Proofs.YtkabghifdedmfaaGreatDoor
