import Derived.Test.YtkbdkkllfaljlaaQ1
import Derived.Test.YtkbdkkllfaljlaaP1
import Derived.Test.YtkbdkkllfaljlaaF2
set_option linter.unusedVariables false
set_option linter.unusedSimpArgs false
namespace Go.Proofs.Ytkbdkkllfaljlaa
open Go.RowKit Go.Sort

theorem bytes_ext {x y : ByteArray} : x = y ↔ x.data.toList = y.data.toList := by
  constructor
  · rintro rfl; rfl
  · intro h
    obtain ⟨⟨a⟩⟩ := x; obtain ⟨⟨b⟩⟩ := y
    simp at h; rw [h]
theorem bdist_zero (a b : ByteArray) : bdist a b = 0 ↔ a = b := by unfold bdist; rw [lev_zero, bytes_ext]
theorem bdist_self (a : ByteArray) : bdist a a = 0 := (bdist_zero a a).2 rfl
theorem beq_toList (x y : ByteArray) : (x.toList == y.toList) = decide (x = y) := by
  rw [Bool.eq_iff_iff, beq_iff_eq, decide_eq_true_eq, bytes_ext, ByteArray.toList_eq, ByteArray.toList_eq]
theorem leastL_mem : ∀ (l : List Int) (x : Int), leastL x l = x ∨ leastL x l ∈ l
  | [], x => .inl rfl
  | y :: l, x => by
    show leastL (min x y) l = x ∨ leastL (min x y) l ∈ y :: l
    rcases leastL_mem l (min x y) with h | h
    · rw [h]
      rcases (by omega : min x y = x ∨ min x y = y) with h2 | h2
      · exact .inl h2
      · exact .inr (by rw [h2]; exact List.mem_cons_self)
    · exact .inr (List.mem_cons_of_mem _ h)
/-- The name is one of the street's. -/
def calledB (s : Sv) (f : ByteArray) : Bool := s.al.any (fun t => decide (foldB t = f)) || decide (foldB s.name = f)
theorem cost_zero {s : Sv} {a : Av} (h : costP s a = some 0) : calledB s (foldB a.street) = true ∧ (a.code.toList.isEmpty = true ∨ a.code = s.code) ∧ (a.town.toList.isEmpty = true ∨ foldB a.town = foldB s.town) := by
  unfold costP at h
  split at h
  · cases h
  · split at h
    · cases h
    · injection h with h
      have g1 := leastL_ge 0 (s.al.map fun x => (bdist (foldB a.street) (foldB x) : Int)) (bdist (foldB a.street) (foldB s.name)) (by omega) (by intro y hy; obtain ⟨z, _, rfl⟩ := List.mem_map.1 hy; omega)
      have g2 : (0 : Int) ≤ (if a.code.toList.isEmpty = true then 0 else (bdist a.code s.code : Int)) := by split <;> omega
      have g3 : (0 : Int) ≤ (if a.town.toList.isEmpty = true then 0 else (bdist (foldB a.town) (foldB s.town) : Int)) := by split <;> omega
      refine ⟨?_, ?_, ?_⟩
      · have h0 : leastL (bdist (foldB a.street) (foldB s.name)) (s.al.map fun x => (bdist (foldB a.street) (foldB x) : Int)) = 0 := by omega
        unfold calledB
        rw [Bool.or_eq_true]
        rcases leastL_mem (s.al.map fun x => (bdist (foldB a.street) (foldB x) : Int)) (bdist (foldB a.street) (foldB s.name)) with h1 | h1
        · right
          rw [h0] at h1
          rw [decide_eq_true_eq]
          exact ((bdist_zero _ _).1 (by omega)).symm
        · left
          rw [h0] at h1
          obtain ⟨z, hz, h2⟩ := List.mem_map.1 h1
          exact List.any_eq_true.2 ⟨z, hz, by rw [decide_eq_true_eq]; exact ((bdist_zero _ _).1 (by omega)).symm⟩
      · by_cases hc : a.code.toList.isEmpty = true
        · exact .inl hc
        · right
          rw [if_neg hc] at h g2
          exact (bdist_zero _ _).1 (by omega)
      · by_cases hc : a.town.toList.isEmpty = true
        · exact .inl hc
        · right
          rw [if_neg hc] at h g3
          exact (bdist_zero _ _).1 (by omega)
theorem longB_60 {t : ByteArray} (h : t.size ≤ 60) : longB t = false := by unfold longB; rw [decide_eq_false_iff_not]; omega
theorem cost_exact {s : Sv} {a : Av} (hs : okS s = true) (hst : a.street = s.name ∨ a.street ∈ s.al) (hc : a.code = s.code) (ht : a.town = s.town) : costP s a = some 0 := by
  obtain ⟨h1, h2, h3, h4, h5⟩ := (okS_iff s).1 hs
  have l1 : longB s.name = false := longB_60 h1
  have l2 : longB s.code = false := longB_60 h2
  have l3 : longB s.town = false := longB_60 h3
  have l4 : s.al.any longB = false := by rw [List.any_eq_false]; intro t ht; simp [longB_60 (h5 t ht)]
  have l5 : longB a.street = false := by
    rcases hst with h | h
    · rw [h]; exact l1
    · exact longB_60 (h5 _ h)
  have e0 : leastL (bdist (foldB a.street) (foldB s.name)) (s.al.map fun x => (bdist (foldB a.street) (foldB x) : Int)) = 0 := by
    have g1 := leastL_ge 0 (s.al.map fun x => (bdist (foldB a.street) (foldB x) : Int)) (bdist (foldB a.street) (foldB s.name)) (by omega) (by intro y hy; obtain ⟨z, _, rfl⟩ := List.mem_map.1 hy; omega)
    have g2 : leastL (bdist (foldB a.street) (foldB s.name)) (s.al.map fun x => (bdist (foldB a.street) (foldB x) : Int)) ≤ 0 := by
      rcases hst with h | h
      · have := leastL_le (s.al.map fun x => (bdist (foldB a.street) (foldB x) : Int)) (bdist (foldB a.street) (foldB s.name))
        rw [h, bdist_self] at this; rw [h, bdist_self]; omega
      · have key : ∀ (l : List Int) (x y : Int), y ∈ l → leastL x l ≤ y := by
          intro l
          induction l with
          | nil => intro x y h; simp at h
          | cons z l ih =>
            intro x y hy
            show leastL (min x z) l ≤ y
            rcases List.mem_cons.1 hy with rfl | hy
            · exact Int.le_trans (leastL_le l (min x y)) (by omega)
            · exact ih _ _ hy
        exact key _ _ 0 (List.mem_map.2 ⟨a.street, h, by rw [bdist_self]; rfl⟩)
    omega
  unfold costP
  rw [e0, hc, ht, bdist_self, bdist_self]
  simp [l1, l2, l3, l4, l5]
/-- The box of a street. -/
structure Sx (s : Sv) (w wr : World) : Prop where
  below : Below w.heap.size w wr
  s2 : wr.cell? ⟨w.heap.size, 2, none⟩ = some (.string s.name)
  s3 : wr.cell? ⟨w.heap.size, 3, none⟩ = some (.slice s.ap s.al.length s.ac)
  al : StrsAt wr s.ap s.al
theorem Sx.later {s : Sv} {w wr w' : World} (h : Sx s w wr) (hb : Below wr.heap.size wr w') : Sx s w w' :=
  ⟨bseq h.below hb, cell_later hb h.s2, cell_later hb h.s3, h.al.keep (Keeps.of_below hb)⟩
theorem Sx.new (s : Sv) (w : World) (hal : StrsAt w s.ap s.al) : Sx s w (w.alloc (.cells s.cells.toArray 49)) :=
  ⟨balloc (Below.refl _ _) _, by rw [cell_new]; rfl, by rw [cell_new]; rfl, hal.keep (Keeps.alloc _ _)⟩
set_option maxRecDepth 100000 in
set_option maxHeartbeats 1000000 in
theorem called_c (s : Sv) (f : ByteArray) (w : World) (R) (hal : StrsAt w s.ap s.al) (hs : okS s = true) (hR : ∀ w', Below w.heap.size w w' → R (.returned (.bool (calledB s f))) w') : Calls Try.prog 25 #[.agg s.cells.toArray, .string f] w R := by
  have HR := hide hR; clear hR
  have X0 := hide (Sx.new s w hal)
  obtain ⟨h1, h2, h3, h4, h5⟩ := (okS_iff s).1 hs
  have H5 := hide h5
  clear h5
  unfold Sv.cells at *
  go_enter Try.func25, Try.ntmps25
  go_wp2
  generalize w.alloc (.cells [.string s.code, .string s.town, .string s.name, .slice s.ap s.al.length s.ac, .int .i64 s.low, .int .i64 s.high, .int .i64 s.shift, .bool s.opn].toArray 49) = w0 at *
  go_loopw [5] (fun i wr => ∃ k : Nat, k ≤ s.al.length ∧ i = .int .i64 k ∧ Hid ((s.al.take k).any (fun t => decide (foldB t = f)) = false) ∧ Hid (Sx s w wr)) (fun i _ => s.al.length - (intOf i).toNat)
  case atStart => exact ⟨0, Nat.zero_le _, rfl, hide (by simp), X0⟩
  case round =>
    clear X0
    obtain ⟨k, hk, rfl, hany, X⟩ := hrel
    have x2 := X.out.s2
    have x3 := X.out.s3
    by_cases hlt : k < s.al.length
    · obtain ⟨b, o, y, hap, hy, hc⟩ := X.out.al.at_ hlt
      rw [hap] at x3
      clear hap
      have hym := List.mem_of_getElem? hy
      have hys := H5.out y hym
      have Hy := hide hy
      have Hym := hide hym
      clear hy hym
      go_wp2_with (go_at_call 16; refine Stop.out ?_)
      refine Stop.go (fold_c y _ _ (by omega) ?_)
      intro w5 hb
      have X5 := hide (X.out.later hb)
      have hq := beq_toList (foldB y) f
      clear hb X x2 x3 hc
      by_cases he : foldB y = f
      · rw [decide_eq_true he] at hq
        have HC := hide (show calledB s f = true by
          unfold calledB
          rw [List.any_eq_true.2 ⟨y, Hym.out, by rw [decide_eq_true_eq]; exact he⟩]; rfl)
        clear he
        have HR1 := hide (HR.out _ X5.out.below)
        rw [HC.out] at HR1
        go_wp2
        exact HR1.out
      · rw [decide_eq_false he] at hq
        have hany2 := hide (show (s.al.take (k + 1)).any (fun t => decide (foldB t = f)) = false by
          rw [List.take_add_one, Hy.out, List.any_append, hany.out]; simp [he])
        clear he
        go_wp2
        go_roundw
        case rel => exact ⟨k + 1, by omega, by go_num, hany2, X5⟩
        case measure => simp [intOf]; omega
    · go_wp2_with (go_at_call 16; refine Stop.out ?_)
      refine Stop.go (fold_c s.name _ _ (by omega) ?_)
      intro w5 hb
      have X5 := hide (X.out.later hb)
      have hq := beq_toList (foldB s.name) f
      have HC := hide (show calledB s f = decide (foldB s.name = f) by
        unfold calledB
        have := hany.out
        rw [List.take_of_length_le (by omega)] at this
        rw [this]; rfl)
      clear hb X x2 x3
      have HR1 := HR.out _ X5.out.below
      rw [HC.out] at HR1
      go_wp2
      exact HR1
end Go.Proofs.Ytkbdkkllfaljlaa
