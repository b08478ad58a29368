import Derived.Test.YtkbdkkllfaljlaaC4
set_option linter.unusedVariables false
set_option linter.unusedSimpArgs false
namespace Go.Proofs.Ytkbdkkllfaljlaa
open Go.RowKit Go.ChangeMaps

/-- A street as it lies in memory: with the place of its aliases. -/
structure Sv where
  code : ByteArray
  town : ByteArray
  name : ByteArray
  ap : Option Addr
  ac : Nat
  al : List ByteArray
  low : Int
  high : Int
  shift : Int
  opn : Bool
def Sv.cells (s : Sv) : List Value := [.string s.code, .string s.town, .string s.name, .slice s.ap s.al.length s.ac, .int .i64 s.low, .int .i64 s.high, .int .i64 s.shift, .bool s.opn]
structure Av where
  person : ByteArray
  street : ByteArray
  number : Int
  code : ByteArray
  town : ByteArray
def Av.cells (a : Av) : List Value := [.string a.person, .string a.street, .int .i64 a.number, .string a.code, .string a.town]
def bdist (a b : ByteArray) : Nat := lev a.data.toList b.data.toList
theorem bdist_c (a b : ByteArray) (w : World) (R) (ha : a.size ≤ 200) (hb : b.size ≤ 200) (hR : ∀ w', Below w.heap.size w w' → R (.returned (.int .i64 (bdist a b))) w') : Calls Try.prog 14 #[.string a, .string b] w R := dist_c a b w R ha hb hR
def costP (s : Sv) (a : Av) : Option Int :=
  if [a.street, s.name].any longB || s.al.any longB then none
  else if !a.code.toList.isEmpty && [a.code, s.code].any longB || !a.town.toList.isEmpty && [a.town, s.town].any longB then none
  else some (leastL (bdist (foldB a.street) (foldB s.name)) (s.al.map fun x => (bdist (foldB a.street) (foldB x) : Int)) + (if a.code.toList.isEmpty then 0 else (bdist a.code s.code : Int)) + (if a.town.toList.isEmpty then 0 else (bdist (foldB a.town) (foldB s.town) : Int)))
/-- What cost hands back. -/
def costV (s : Sv) (a : Av) : Value := .tuple (match costP s a with | some n => #[.int .i64 n, .bool true] | none => #[.int .i64 0, .bool false])

theorem join_size1 (xs : List (List UInt8)) (h : xs ≠ []) : (Lib.join xs [32]).length + 1 ≤ xs.flatten.length + xs.length := by
  unfold Lib.join
  induction xs with
  | nil => exact absurd rfl h
  | cons x t ih =>
    cases t with
    | nil => simp [List.intercalate]
    | cons y r =>
      have := ih (by simp)
      rw [List.intercalate, List.intersperse_cons_cons] at *
      simp only [List.flatten_cons, List.length_append, List.length_cons, List.length_nil] at *
      omega
theorem foldB_size (s : ByteArray) : (foldB s).size ≤ s.size := by
  have e : (foldB s).size = (Lib.join ((endB (wordsB ⟨(s.data.toList.map smallB).toArray⟩)).map (·.data.toList)) [32]).length := by
    unfold foldB; simp [ByteArray.size]
  have h2 := words_bound ⟨(s.data.toList.map smallB).toArray⟩
  have h3 := endB_flat (wordsB ⟨(s.data.toList.map smallB).toArray⟩)
  have h4 := endB_len (wordsB ⟨(s.data.toList.map smallB).toArray⟩)
  have hs : ByteArray.size ⟨(s.data.toList.map smallB).toArray⟩ = s.size := by
    show (s.data.toList.map smallB).toArray.size = _
    rw [List.size_toArray, List.length_map]; simp
  rw [hs] at h2
  rw [e]
  generalize wordsB ⟨(s.data.toList.map smallB).toArray⟩ = ws at *
  by_cases h0 : (endB ws).map (·.data.toList) = []
  · rw [h0]; simp [Lib.join, List.intercalate]
  · have h1 := join_size1 _ h0
    rw [List.length_map] at h1
    omega
theorem lev_le (a b : List UInt8) : lev a b ≤ a.length + b.length := rowN_le _ _ _ _
theorem bdist_le {a b : ByteArray} (ha : a.size ≤ 200) (hb : b.size ≤ 200) : bdist a b ≤ 400 := by
  have h := lev_le a.data.toList b.data.toList
  have e1 : a.data.toList.length = a.size := by simp
  have e2 : b.data.toList.length = b.size := by simp
  unfold bdist; omega
theorem leastL_le : ∀ (l : List Int) (x : Int), leastL x l ≤ x
  | [], x => Int.le_refl _
  | y :: l, x => Int.le_trans (leastL_le l (min x y)) (by omega)
theorem leastL_ge (m : Int) : ∀ (l : List Int) (x : Int), m ≤ x → (∀ y ∈ l, m ≤ y) → m ≤ leastL x l
  | [], x, h, _ => h
  | y :: l, x, h, hl => leastL_ge m l (min x y) (by have := hl y (by simp); omega) (fun z hz => hl z (by simp [hz]))
theorem longB_le {t : ByteArray} (h : longB t = false) : t.size ≤ 200 := by unfold longB at h; simpa using h

/-- The two boxes of cost. -/
structure CW (s : Sv) (a : Av) (w wr : World) : Prop where
  below : Below w.heap.size w wr
  lt : w.heap.size + 1 < wr.heap.size
  s0 : wr.cell? ⟨w.heap.size, 0, none⟩ = some (.string s.code)
  s1 : wr.cell? ⟨w.heap.size, 1, none⟩ = some (.string s.town)
  s2 : wr.cell? ⟨w.heap.size, 2, none⟩ = some (.string s.name)
  s3 : wr.cell? ⟨w.heap.size, 3, none⟩ = some (.slice s.ap s.al.length s.ac)
  a1 : wr.cell? ⟨w.heap.size + 1, 1, none⟩ = some (.string a.street)
  a3 : wr.cell? ⟨w.heap.size + 1, 3, none⟩ = some (.string a.code)
  a4 : wr.cell? ⟨w.heap.size + 1, 4, none⟩ = some (.string a.town)
  al : StrsAt wr s.ap s.al
theorem CW.later {s : Sv} {a : Av} {w wr w' : World} (h : CW s a w wr) (hb : Below wr.heap.size wr w') : CW s a w w' :=
  ⟨bseq h.below hb, Nat.lt_of_lt_of_le h.lt hb.size, cell_later hb h.s0, cell_later hb h.s1, cell_later hb h.s2, cell_later hb h.s3, cell_later hb h.a1, cell_later hb h.a3, cell_later hb h.a4, h.al.keep (Keeps.of_below hb)⟩
theorem CW.alloc {s : Sv} {a : Av} {w wr : World} (h : CW s a w wr) (o : Obj) : CW s a w (wr.alloc o) := h.later (balloc (Below.refl _ _) o)
theorem CW.drew {s : Sv} {a : Av} {w wr : World} (h : CW s a w wr) : CW s a w wr.drew := h.later (Below.refl _ _).drew
theorem CW.new (s : Sv) (a : Av) (w : World) (hal : StrsAt w s.ap s.al) : CW s a w ((w.alloc (.cells s.cells.toArray 49)).alloc (.cells a.cells.toArray 24)) := by
  have h1 : ∀ i v, s.cells[i]? = some v → ((w.alloc (.cells s.cells.toArray 49)).alloc (.cells a.cells.toArray 24)).cell? ⟨w.heap.size, i, none⟩ = some v := fun i v hi => Keeps.alloc _ _ _ _ (by rw [cell_new]; simpa using hi)
  have h2 : ∀ i v, a.cells[i]? = some v → ((w.alloc (.cells s.cells.toArray 49)).alloc (.cells a.cells.toArray 24)).cell? ⟨w.heap.size + 1, i, none⟩ = some v := fun i v hi => by
    have := cell_new (w := w.alloc (.cells s.cells.toArray 49)) (cs := a.cells.toArray) (t := 24) (i := i)
    rw [show (w.alloc (.cells s.cells.toArray 49)).heap.size = w.heap.size + 1 by simp] at this
    rw [this]; simpa using hi
  have hb : Below w.heap.size w ((w.alloc (.cells s.cells.toArray 49)).alloc (.cells a.cells.toArray 24)) := balloc (balloc (Below.refl _ _) _) _
  exact ⟨hb, by simp, h1 0 _ rfl, h1 1 _ rfl, h1 2 _ rfl, h1 3 _ rfl, h2 1 _ rfl, h2 3 _ rfl, h2 4 _ rfl, hal.keep (Keeps.of_below hb)⟩

theorem CW.store {s : Sv} {a : Av} {w wr : World} {g k : Nat} {z : Int} {v : Value} (h : CW s a w wr) (hg : w.heap.size + 1 < g) (hc : wr.cell? ⟨g, k, none⟩ = some (.int .i64 z)) : CW s a w (wr.setCell ⟨g, k, none⟩ v) := by
  have h1 : ∀ i u, wr.cell? ⟨w.heap.size, i, none⟩ = some u → (wr.setCell ⟨g, k, none⟩ v).cell? ⟨w.heap.size, i, none⟩ = some u := fun i u hu => store_other hu (fun e => by injection e with e1 _; omega)
  have h2 : ∀ i u, wr.cell? ⟨w.heap.size + 1, i, none⟩ = some u → (wr.setCell ⟨g, k, none⟩ v).cell? ⟨w.heap.size + 1, i, none⟩ = some u := fun i u hu => store_other hu (fun e => by injection e with e1 _; omega)
  refine ⟨h.below.setCell (p := ⟨g, k, none⟩) (by show w.heap.size ≤ g; omega) v, ?_, h1 _ _ h.s0, h1 _ _ h.s1, h1 _ _ h.s2, h1 _ _ h.s3, h2 _ _ h.a1, h2 _ _ h.a3, h2 _ _ h.a4, fun hl => ?_⟩
  · have := h.lt
    simp only [World.setCell]
    split <;> simp [this]
  · obtain ⟨b, o, hp, hx⟩ := h.al hl
    exact ⟨b, o, hp, fun i x hi => store_other (hx i x hi) (fun e => by have := hx i x hi; rw [← e, hc] at this; cases this)⟩
theorem StrsAt.lit_at {w : World} {t : TypeId} {g : Nat} (l : List ByteArray) (hg : g = w.heap.size) : StrsAt (w.alloc (.cells (l.map Value.string).toArray t)) (some ⟨g, 0, none⟩) l := by
  subst hg; exact StrsAt.lit l
theorem made_zeros (n : Nat) : (madeCells (Value.cells (.int .i64 0)) (n * 1)).toList = (List.replicate n (0 : Int)).map (Value.int .i64) := by
  rw [List.map_replicate, Nat.mul_one]
  exact toList_madeCells_one (.int .i64 0) n
theorem mk57 (w : World) (n : Nat) (hn : n ≤ 100000) : ∃ w', Sem.run Try.prog (Instr.makeSlice 57 (.int .i64 (n : Int)) (.int .i64 (n : Int))) w = .ok (.slice (some ⟨w.heap.size, 0, none⟩) n n) w' ∧
    w'.ownsRow w.heap.size 3 1 (.slice (some ⟨w.heap.size, 0, none⟩) n n) n ((List.replicate n (0 : Int)).map (Value.int .i64)) ∧ Below w.heap.size w w' := by
  obtain ⟨i, hi, h⟩ := Option.map_eq_some_iff.1 Try.info3
  simp only [Prod.mk.injEq] at h
  obtain ⟨hz, hs, hb⟩ := h
  obtain ⟨w', h1, h2, h3⟩ := run_makeSlice_full (P := Try.prog) w w.heap.size 57 3 i (.int .i64 0) 1 Try.underlying57 hi hz hs .i64 .i64 n (by omega) (by rw [hb]; omega) (by unfold maxLen; omega) (Nat.le_refl _)
  rw [made_zeros] at h2
  exact ⟨w', h1, h2, (Below.refl _ _).grown h3 (Nat.le_refl _) (fun k hk => by cases hk)⟩
theorem dists_step {xs : List Int} {l : List ByteArray} {k : Nat} {y : ByteArray} {f : ByteArray → Int} (h : xs.length = l.length ∧ xs.take k = (l.take k).map f) (hy : l[k]? = some y) : (xs.set k (f y)).length = l.length ∧ (xs.set k (f y)).take (k + 1) = (l.take (k + 1)).map f := by
  have hk := (List.getElem?_eq_some_iff.1 hy).1
  refine ⟨by rw [List.length_set]; exact h.1, ?_⟩
  rw [List.take_add_one, List.take_add_one, hy, List.getElem?_set_self (by omega), List.take_set_of_le (Nat.le_refl _), h.2]
  simp
set_option maxRecDepth 100000 in
set_option maxHeartbeats 4000000 in
theorem cost_c (s : Sv) (a : Av) (w : World) (R) (hal : StrsAt w s.ap s.al) (hn : s.al.length ≤ 100000) (hR : ∀ w', Below w.heap.size w w' → R (.returned (costV s a)) w') :
    Calls Try.prog 35 #[.agg s.cells.toArray, .agg a.cells.toArray] w R := by
  have HR := hide hR; clear hR
  have H0 := hide (CW.new s a w hal)
  clear hal
  unfold Sv.cells Av.cells at *
  go_enter Try.func35, Try.ntmps35
  go_wp2_with (go_at_call 43; refine Stop.out ?_)
  have hsz : ((w.alloc (.cells #[.string s.code, .string s.town, .string s.name, .slice s.ap s.al.length s.ac, .int .i64 s.low, .int .i64 s.high, .int .i64 s.shift, .bool s.opn] 49)).alloc (.cells #[.string a.person, .string a.street, .int .i64 a.number, .string a.code, .string a.town] 24)).heap.size = w.heap.size + 1 + 1 := by simp
  generalize hw2 : (w.alloc _).alloc _ = w2 at *
  clear hw2
  rw [← hsz]
  obtain ⟨hb, hlt, s0, s1, s2, s3, a1, a3, a4, hal⟩ := H0.out
  have hlt0 : w.heap.size < w2.heap.size := by omega
  have Hal := hide hal
  clear hb hal hsz
  cases c1 : [a.street, s.name].any longB with
  | true =>
    have hv : costV s a = .tuple #[.int .i64 0, .bool false] := by unfold costV costP; rw [c1]; rfl
    rw [hv] at HR
    refine Stop.go (tooLong_c _ _ _ [a.street, s.name] _ _ rfl (by decide) (StrsAt.lit _) ?_)
    rw [c1]
    go_wp2
    exact HR.out _ (H0.out.alloc _).below
  | false =>
    refine Stop.go (tooLong_c _ _ _ [a.street, s.name] _ _ rfl (by decide) (StrsAt.lit _) ?_)
    rw [c1]
    cases c2 : s.al.any longB with
    | true =>
      have hv : costV s a = .tuple #[.int .i64 0, .bool false] := by unfold costV costP; rw [c1, c2]; rfl
      rw [hv] at HR
      go_wp2_with (go_at_call 43; refine tooLong_c _ _ _ s.al _ _ rfl (by unfold maxLen; omega) (Hal.out.keep (Keeps.alloc _ _)) ?_; rw [c2])
      exact HR.out _ (H0.out.alloc _).below
    | false =>
      have hst : a.street.size ≤ 200 := longB_le (by simp at c1; exact c1.1)
      have hnm : s.name.size ≤ 200 := longB_le (by simp at c1; exact c1.2)
      have hall : ∀ x ∈ s.al, x.size ≤ 200 := fun x hx => longB_le (by rw [List.any_eq_false] at c2; simpa using c2 x hx)
      have hfs := Nat.le_trans (foldB_size a.street) hst
      obtain ⟨L, hL⟩ : ∃ L, leastL (bdist (foldB a.street) (foldB s.name)) (s.al.map fun x => (bdist (foldB a.street) (foldB x) : Int)) = L := ⟨_, rfl⟩
      have hL1 : 0 ≤ L := by rw [← hL]; exact leastL_ge 0 _ _ (by omega) (fun y hy => by obtain ⟨x, _, rfl⟩ := List.mem_map.1 hy; omega)
      have hL2 : L ≤ 400 := by
        rw [← hL]
        have h1 := leastL_le (s.al.map fun x => (bdist (foldB a.street) (foldB x) : Int)) (bdist (foldB a.street) (foldB s.name))
        have h2 := bdist_le hfs (Nat.le_trans (foldB_size s.name) hnm)
        omega
      cases e1 : a.code.toList.isEmpty with
      | true =>
        cases e2 : a.town.toList.isEmpty with
        | true =>
          have hv : costV s a = .tuple #[.int .i64 (L), .bool true] := by unfold costV costP; simp only [c1, c2, e1, e2, hL, Bool.or_false, Bool.false_eq_true, if_false, Bool.not_false, Bool.not_true, Bool.true_and, Bool.false_and, if_true, Int.add_zero]
          have Hend := hide HR.out
          rw [hv] at Hend
          clear hv HR
          have Hcl := hide c1
          go_wp2_with (first
            | (go_at_call 43; refine tooLong_c _ _ _ s.al _ _ rfl (by unfold maxLen; omega) (Hal.out.keep (Keeps.alloc _ _)) ?_; rw [c2])
            | (go_at_call 16; refine fold_c _ _ _ (by omega) ?_; intro w3 hb3; have H3 := hide (CW.later (s := s) (a := a) (w := w) (by repeat' first | exact H0.out | apply CW.alloc) hb3); clear s0 s1 s2 s3 a1 a3 a4; obtain ⟨_, hlt3, s0, s1, s2, s3, a1, a3, a4, _⟩ := H3.out; obtain ⟨w4, hmk, hP4, hb4⟩ := mk57 w3 s.al.length hn; have P4 := hide hP4; have H4 := hide (H3.out.later hb4); obtain ⟨_, _, _, _, _, s3', _, _, _, _⟩ := H4.out; clear hP4))
          clear H3 s0 s1 s2 s3 a1 a3 a4 hb3 hmk hb4 s3'
          generalize hD : w3.heap.size = D at *
          clear hD
          go_loopw [56] (fun i wr => ∃ (k : Nat) (xs : List Int), k ≤ s.al.length ∧ i = .int .i64 k ∧ Hid (xs.length = s.al.length ∧ xs.take k = (s.al.take k).map fun x => (bdist (foldB a.street) (foldB x) : Int)) ∧ Hid (wr.ownsRow D 3 1 (.slice (some ⟨D, 0, none⟩) s.al.length s.al.length) s.al.length (xs.map (Value.int .i64))) ∧ Hid (CW s a w wr)) (fun i _ => s.al.length - (intOf i).toNat)
          case atStart => exact ⟨0, _, Nat.zero_le _, rfl, hide ⟨List.length_replicate, by simp⟩, P4, H4⟩
          case round =>
            clear P4 H4
            obtain ⟨k, xs, hk, rfl, hx, P, H⟩ := hrel
            by_cases hlk : k < s.al.length
            · obtain ⟨b, o, y, hap, hy, hcy⟩ := H.out.al.at_ (i := k) hlk
              have hy200 := hall y (List.mem_of_getElem? hy)
              have hstep := hide (dists_step (xs := xs) (l := s.al) (k := k) (y := y) (f := fun x => (bdist (foldB a.street) (foldB x) : Int)) hx.out hy)
              clear hy
              rw [hap]
              go_wp2_with (first
                | (go_at_call 16; refine fold_c _ _ _ (by omega) ?_; intro w6 hb6)
                | (go_at_call 14; refine bdist_c _ _ _ _ hfs (Nat.le_trans (foldB_size y) hy200) ?_; intro w7 hb7; have hb67 := bseq hb6 hb7; have P7 := own_later P.out hb67; have hf7 := P7.frozenAt k; have hc7 := owni_cell P7 hlk; have P8 := hide P7; have H7 := hide (H.out.later hb67); clear P7 hb67 hb6 hb7))
              have hP9 := hide (owni_set P8.out k (bdist (foldB a.street) (foldB y)))
              have H9 := hide (H7.out.store (v := .int .i64 (bdist (foldB a.street) (foldB y))) hlt3 hc7)
              go_roundw
              case rel => exact ⟨k + 1, _, by omega, by go_num, hstep, hP9, H9⟩
              case measure => simp [intOf]; omega
            · have hkn : k = s.al.length := by omega
              have hxs : xs = s.al.map fun x => (bdist (foldB a.street) (foldB x) : Int) := by
                have h := hx.out.2
                rw [hkn, List.take_of_length_le (by rw [hx.out.1]; omega), List.take_of_length_le (Nat.le_refl _)] at h
                exact h
              clear hx
              rw [hxs] at P
              clear hxs hlk
              obtain ⟨_, _, s0, s1, s2, s3, a1, a3, a4, _⟩ := H.out
              go_wp2_with (first
                | (go_at_call_of 16 (Value.string s.name); refine fold_c _ _ _ (by omega) ?_; intro w6 hb6)
                | (go_at_call_of 14 (Value.string (foldB s.name)); refine bdist_c _ _ _ _ hfs (Nat.le_trans (foldB_size s.name) hnm) ?_; intro w7 hb7; have hb67 := bseq hb6 hb7; have P7 := hide (own_later P.out hb67); have H7 := hide (H.out.later hb67); clear s0 s1 s2 s3 a1 a3 a4; obtain ⟨_, _, s0, s1, s2, s3, a1, a3, a4, _⟩ := H7.out; clear hb67 hb6 hb7)
                | (go_at_call 27; refine least_c _ _ _ _ (s.al.map fun x => (bdist (foldB a.street) (foldB x) : Int)) _ _ (by rw [List.length_map]) (by unfold maxLen; omega) (IntsAt.of_own P7.out) ?_; rw [hL])
                | fail)
              exact Hend.out _ H7.out.below
        | false =>
          cases c4 : [a.town, s.town].any longB with
          | true =>
            have hv : costV s a = .tuple #[.int .i64 0, .bool false] := by unfold costV costP; simp only [c1, c2, e1, e2, c4, Bool.or_false, Bool.false_eq_true, if_false, Bool.not_false, Bool.not_true, Bool.true_and, Bool.false_and, Bool.or_true, Bool.true_or, if_true]
            rw [hv] at HR
            go_wp2_with (first
              | (go_at_call 43; refine tooLong_c _ _ _ s.al _ _ rfl (by unfold maxLen; omega) (Hal.out.keep (Keeps.alloc _ _)) ?_; rw [c2])
              | (go_at_call 43; refine tooLong_c _ _ _ [a.town, s.town] _ _ rfl (by decide) (StrsAt.lit_at _ (by simp)) ?_; rw [c4])
              | fail)
            exact HR.out _ (CW.below (s := s) (a := a) (by repeat' first | exact H0.out | apply CW.alloc))
          | false =>
            have h4a : a.town.size ≤ 200 := longB_le (by simp at c4; exact c4.1)
            have h4b : s.town.size ≤ 200 := longB_le (by simp at c4; exact c4.2)
            obtain ⟨T, hT⟩ : ∃ T, (bdist (foldB a.town) (foldB s.town) : Int) = T := ⟨_, rfl⟩
            have hT1 : 0 ≤ T ∧ T ≤ 400 := by have := bdist_le (Nat.le_trans (foldB_size a.town) h4a) (Nat.le_trans (foldB_size s.town) h4b); omega
            have hwT : IntKind.i64.wrap (L + T) = L + T := IntWalk.i64_in _ (by omega)
            have hv : costV s a = .tuple #[.int .i64 (L + T), .bool true] := by unfold costV costP; simp only [c1, c2, e1, e2, c4, hT, hL, Bool.or_false, Bool.false_eq_true, if_false, Bool.not_false, Bool.not_true, Bool.true_and, Bool.false_and, if_true, Int.add_zero]
            have Hend := hide HR.out
            rw [hv] at Hend
            clear hv HR
            have Hcl := hide c1
            go_wp2_with (first
              | (go_at_call 43; refine tooLong_c _ _ _ s.al _ _ rfl (by unfold maxLen; omega) (Hal.out.keep (Keeps.alloc _ _)) ?_; rw [c2])
              | (go_at_call 43; refine tooLong_c _ _ _ [a.town, s.town] _ _ rfl (by decide) (StrsAt.lit_at _ (by simp)) ?_; rw [c4])
              | (go_at_call 16; refine fold_c _ _ _ (by omega) ?_; intro w3 hb3; have H3 := hide (CW.later (s := s) (a := a) (w := w) (by repeat' first | exact H0.out | apply CW.alloc) hb3); clear s0 s1 s2 s3 a1 a3 a4; obtain ⟨_, hlt3, s0, s1, s2, s3, a1, a3, a4, _⟩ := H3.out; obtain ⟨w4, hmk, hP4, hb4⟩ := mk57 w3 s.al.length hn; have P4 := hide hP4; have H4 := hide (H3.out.later hb4); obtain ⟨_, _, _, _, _, s3', _, _, _, _⟩ := H4.out; clear hP4))
            clear H3 s0 s1 s2 s3 a1 a3 a4 hb3 hmk hb4 s3'
            generalize hD : w3.heap.size = D at *
            clear hD
            go_loopw [56] (fun i wr => ∃ (k : Nat) (xs : List Int), k ≤ s.al.length ∧ i = .int .i64 k ∧ Hid (xs.length = s.al.length ∧ xs.take k = (s.al.take k).map fun x => (bdist (foldB a.street) (foldB x) : Int)) ∧ Hid (wr.ownsRow D 3 1 (.slice (some ⟨D, 0, none⟩) s.al.length s.al.length) s.al.length (xs.map (Value.int .i64))) ∧ Hid (CW s a w wr)) (fun i _ => s.al.length - (intOf i).toNat)
            case atStart => exact ⟨0, _, Nat.zero_le _, rfl, hide ⟨List.length_replicate, by simp⟩, P4, H4⟩
            case round =>
              clear P4 H4
              obtain ⟨k, xs, hk, rfl, hx, P, H⟩ := hrel
              by_cases hlk : k < s.al.length
              · obtain ⟨b, o, y, hap, hy, hcy⟩ := H.out.al.at_ (i := k) hlk
                have hy200 := hall y (List.mem_of_getElem? hy)
                have hstep := hide (dists_step (xs := xs) (l := s.al) (k := k) (y := y) (f := fun x => (bdist (foldB a.street) (foldB x) : Int)) hx.out hy)
                clear hy
                rw [hap]
                go_wp2_with (first
                  | (go_at_call 16; refine fold_c _ _ _ (by omega) ?_; intro w6 hb6)
                  | (go_at_call 14; refine bdist_c _ _ _ _ hfs (Nat.le_trans (foldB_size y) hy200) ?_; intro w7 hb7; have hb67 := bseq hb6 hb7; have P7 := own_later P.out hb67; have hf7 := P7.frozenAt k; have hc7 := owni_cell P7 hlk; have P8 := hide P7; have H7 := hide (H.out.later hb67); clear P7 hb67 hb6 hb7))
                have hP9 := hide (owni_set P8.out k (bdist (foldB a.street) (foldB y)))
                have H9 := hide (H7.out.store (v := .int .i64 (bdist (foldB a.street) (foldB y))) hlt3 hc7)
                go_roundw
                case rel => exact ⟨k + 1, _, by omega, by go_num, hstep, hP9, H9⟩
                case measure => simp [intOf]; omega
              · have hkn : k = s.al.length := by omega
                have hxs : xs = s.al.map fun x => (bdist (foldB a.street) (foldB x) : Int) := by
                  have h := hx.out.2
                  rw [hkn, List.take_of_length_le (by rw [hx.out.1]; omega), List.take_of_length_le (Nat.le_refl _)] at h
                  exact h
                clear hx
                rw [hxs] at P
                clear hxs hlk
                obtain ⟨_, _, s0, s1, s2, s3, a1, a3, a4, _⟩ := H.out
                go_wp2_with (first
                  | (go_at_call_of 16 (Value.string s.name); refine fold_c _ _ _ (by omega) ?_; intro w6 hb6)
                  | (go_at_call_of 14 (Value.string (foldB s.name)); refine bdist_c _ _ _ _ hfs (Nat.le_trans (foldB_size s.name) hnm) ?_; intro w7 hb7; have hb67 := bseq hb6 hb7; have P7 := hide (own_later P.out hb67); have H7 := hide (H.out.later hb67); clear s0 s1 s2 s3 a1 a3 a4; obtain ⟨_, _, s0, s1, s2, s3, a1, a3, a4, _⟩ := H7.out; clear hb67 hb6 hb7)
                  | (go_at_call 27; refine least_c _ _ _ _ (s.al.map fun x => (bdist (foldB a.street) (foldB x) : Int)) _ _ (by rw [List.length_map]) (by unfold maxLen; omega) (IntsAt.of_own P7.out) ?_; rw [hL])
                  | fail)
                have Hb := hide H7.out.below
                go_region_held3 (fun w' => w'.cell? ⟨w.heap.size, 1, none⟩ = some (.string s.town) ∧ w'.cell? ⟨w.heap.size + 1, 4, none⟩ = some (.string a.town) ∧ Below w.heap.size w w')
                  (first | exact ⟨s1, a4, Hb.out.drew⟩ | (obtain ⟨q1, q2, q3⟩ := ‹_ ∧ _ ∧ Below w.heap.size w _›; first | exact ⟨q1, q2, q3⟩ | exact ⟨cell_later hb9 q1, cell_later hb9 q2, bseq q3 hb9⟩))
                  (first | (go_at_call_of 16 (Value.string a.town); refine fold_c _ _ _ (by omega) ?_; intro w9 hb9) | (go_at_call_of 16 (Value.string s.town); refine fold_c _ _ _ (by omega) ?_; intro w9 hb9) | (go_at_call 14; refine bdist_c _ _ _ _ (Nat.le_trans (foldB_size a.town) h4a) (Nat.le_trans (foldB_size s.town) h4b) ?_; intro w9 hb9; rw [hT]))
                all_goals (
                  rename_i hS
                  go_wp2
                  exact Hend.out _ hS.2.2)
      | false =>
        cases c3 : [a.code, s.code].any longB with
        | true =>
          have hv : costV s a = .tuple #[.int .i64 0, .bool false] := by unfold costV costP; simp only [c1, c2, e1, c3, Bool.or_false, Bool.false_eq_true, if_false, Bool.not_false, Bool.not_true, Bool.true_and, Bool.false_and, Bool.or_true, Bool.true_or, if_true]
          rw [hv] at HR
          go_wp2_with (first
            | (go_at_call 43; refine tooLong_c _ _ _ s.al _ _ rfl (by unfold maxLen; omega) (Hal.out.keep (Keeps.alloc _ _)) ?_; rw [c2])
            | (go_at_call 43; refine tooLong_c _ _ _ [a.code, s.code] _ _ rfl (by decide) (StrsAt.lit_at _ (by simp)) ?_; rw [c3])
            | fail)
          exact HR.out _ (CW.below (s := s) (a := a) (by repeat' first | exact H0.out | apply CW.alloc))
        | false =>
          cases e2 : a.town.toList.isEmpty with
          | true =>
            have h3a : a.code.size ≤ 200 := longB_le (by simp at c3; exact c3.1)
            have h3b : s.code.size ≤ 200 := longB_le (by simp at c3; exact c3.2)
            obtain ⟨C, hC⟩ : ∃ C, (bdist a.code s.code : Int) = C := ⟨_, rfl⟩
            have hC1 : 0 ≤ C ∧ C ≤ 400 := by have := bdist_le h3a h3b; omega
            have hwC : IntKind.i64.wrap (L + C) = L + C := IntWalk.i64_in _ (by omega)
            have hv : costV s a = .tuple #[.int .i64 (L + C), .bool true] := by unfold costV costP; simp only [c1, c2, e1, e2, c3, hC, hL, Bool.or_false, Bool.false_eq_true, if_false, Bool.not_false, Bool.not_true, Bool.true_and, Bool.false_and, if_true, Int.add_zero]
            have Hend := hide HR.out
            rw [hv] at Hend
            clear hv HR
            have Hcl := hide c1
            go_wp2_with (first
              | (go_at_call 43; refine tooLong_c _ _ _ s.al _ _ rfl (by unfold maxLen; omega) (Hal.out.keep (Keeps.alloc _ _)) ?_; rw [c2])
              | (go_at_call 43; refine tooLong_c _ _ _ [a.code, s.code] _ _ rfl (by decide) (StrsAt.lit_at _ (by simp)) ?_; rw [c3])
              | (go_at_call 16; refine fold_c _ _ _ (by omega) ?_; intro w3 hb3; have H3 := hide (CW.later (s := s) (a := a) (w := w) (by repeat' first | exact H0.out | apply CW.alloc) hb3); clear s0 s1 s2 s3 a1 a3 a4; obtain ⟨_, hlt3, s0, s1, s2, s3, a1, a3, a4, _⟩ := H3.out; obtain ⟨w4, hmk, hP4, hb4⟩ := mk57 w3 s.al.length hn; have P4 := hide hP4; have H4 := hide (H3.out.later hb4); obtain ⟨_, _, _, _, _, s3', _, _, _, _⟩ := H4.out; clear hP4))
            clear H3 s0 s1 s2 s3 a1 a3 a4 hb3 hmk hb4 s3'
            generalize hD : w3.heap.size = D at *
            clear hD
            go_loopw [56] (fun i wr => ∃ (k : Nat) (xs : List Int), k ≤ s.al.length ∧ i = .int .i64 k ∧ Hid (xs.length = s.al.length ∧ xs.take k = (s.al.take k).map fun x => (bdist (foldB a.street) (foldB x) : Int)) ∧ Hid (wr.ownsRow D 3 1 (.slice (some ⟨D, 0, none⟩) s.al.length s.al.length) s.al.length (xs.map (Value.int .i64))) ∧ Hid (CW s a w wr)) (fun i _ => s.al.length - (intOf i).toNat)
            case atStart => exact ⟨0, _, Nat.zero_le _, rfl, hide ⟨List.length_replicate, by simp⟩, P4, H4⟩
            case round =>
              clear P4 H4
              obtain ⟨k, xs, hk, rfl, hx, P, H⟩ := hrel
              by_cases hlk : k < s.al.length
              · obtain ⟨b, o, y, hap, hy, hcy⟩ := H.out.al.at_ (i := k) hlk
                have hy200 := hall y (List.mem_of_getElem? hy)
                have hstep := hide (dists_step (xs := xs) (l := s.al) (k := k) (y := y) (f := fun x => (bdist (foldB a.street) (foldB x) : Int)) hx.out hy)
                clear hy
                rw [hap]
                go_wp2_with (first
                  | (go_at_call 16; refine fold_c _ _ _ (by omega) ?_; intro w6 hb6)
                  | (go_at_call 14; refine bdist_c _ _ _ _ hfs (Nat.le_trans (foldB_size y) hy200) ?_; intro w7 hb7; have hb67 := bseq hb6 hb7; have P7 := own_later P.out hb67; have hf7 := P7.frozenAt k; have hc7 := owni_cell P7 hlk; have P8 := hide P7; have H7 := hide (H.out.later hb67); clear P7 hb67 hb6 hb7))
                have hP9 := hide (owni_set P8.out k (bdist (foldB a.street) (foldB y)))
                have H9 := hide (H7.out.store (v := .int .i64 (bdist (foldB a.street) (foldB y))) hlt3 hc7)
                go_roundw
                case rel => exact ⟨k + 1, _, by omega, by go_num, hstep, hP9, H9⟩
                case measure => simp [intOf]; omega
              · have hkn : k = s.al.length := by omega
                have hxs : xs = s.al.map fun x => (bdist (foldB a.street) (foldB x) : Int) := by
                  have h := hx.out.2
                  rw [hkn, List.take_of_length_le (by rw [hx.out.1]; omega), List.take_of_length_le (Nat.le_refl _)] at h
                  exact h
                clear hx
                rw [hxs] at P
                clear hxs hlk
                obtain ⟨_, _, s0, s1, s2, s3, a1, a3, a4, _⟩ := H.out
                go_wp2_with (first
                  | (go_at_call_of 16 (Value.string s.name); refine fold_c _ _ _ (by omega) ?_; intro w6 hb6)
                  | (go_at_call_of 14 (Value.string (foldB s.name)); refine bdist_c _ _ _ _ hfs (Nat.le_trans (foldB_size s.name) hnm) ?_; intro w7 hb7; have hb67 := bseq hb6 hb7; have P7 := hide (own_later P.out hb67); have H7 := hide (H.out.later hb67); clear s0 s1 s2 s3 a1 a3 a4; obtain ⟨_, _, s0, s1, s2, s3, a1, a3, a4, _⟩ := H7.out; clear hb67 hb6 hb7)
                  | (go_at_call 27; refine least_c _ _ _ _ (s.al.map fun x => (bdist (foldB a.street) (foldB x) : Int)) _ _ (by rw [List.length_map]) (by unfold maxLen; omega) (IntsAt.of_own P7.out) ?_; rw [hL])
                  | (go_at_call_of 14 (Value.string s.code); refine bdist_c _ _ _ _ h3a h3b ?_; intro w8 hb8; have H8 := hide (H7.out.later hb8); clear s0 s1 s2 s3 a1 a3 a4; obtain ⟨_, _, s0, s1, s2, s3, a1, a3, a4, _⟩ := H8.out; rw [hC])
                  | fail)
                exact Hend.out _ H8.out.below
          | false =>
            cases c4 : [a.town, s.town].any longB with
            | true =>
              have hv : costV s a = .tuple #[.int .i64 0, .bool false] := by unfold costV costP; simp only [c1, c2, e1, e2, c3, c4, Bool.or_false, Bool.false_eq_true, if_false, Bool.not_false, Bool.not_true, Bool.true_and, Bool.false_and, Bool.or_true, Bool.true_or, if_true]
              rw [hv] at HR
              go_wp2_with (first
                | (go_at_call 43; refine tooLong_c _ _ _ s.al _ _ rfl (by unfold maxLen; omega) (Hal.out.keep (Keeps.alloc _ _)) ?_; rw [c2])
                | (go_at_call 43; refine tooLong_c _ _ _ [a.code, s.code] _ _ rfl (by decide) (StrsAt.lit_at _ (by simp)) ?_; rw [c3])
                | (go_at_call 43; refine tooLong_c _ _ _ [a.town, s.town] _ _ rfl (by decide) (StrsAt.lit_at _ (by simp)) ?_; rw [c4])
                | fail)
              exact HR.out _ (CW.below (s := s) (a := a) (by repeat' first | exact H0.out | apply CW.alloc))
            | false =>
              have h3a : a.code.size ≤ 200 := longB_le (by simp at c3; exact c3.1)
              have h3b : s.code.size ≤ 200 := longB_le (by simp at c3; exact c3.2)
              obtain ⟨C, hC⟩ : ∃ C, (bdist a.code s.code : Int) = C := ⟨_, rfl⟩
              have hC1 : 0 ≤ C ∧ C ≤ 400 := by have := bdist_le h3a h3b; omega
              have hwC : IntKind.i64.wrap (L + C) = L + C := IntWalk.i64_in _ (by omega)
              have h4a : a.town.size ≤ 200 := longB_le (by simp at c4; exact c4.1)
              have h4b : s.town.size ≤ 200 := longB_le (by simp at c4; exact c4.2)
              obtain ⟨T, hT⟩ : ∃ T, (bdist (foldB a.town) (foldB s.town) : Int) = T := ⟨_, rfl⟩
              have hT1 : 0 ≤ T ∧ T ≤ 400 := by have := bdist_le (Nat.le_trans (foldB_size a.town) h4a) (Nat.le_trans (foldB_size s.town) h4b); omega
              have hwT : IntKind.i64.wrap (L + C + T) = L + C + T := IntWalk.i64_in _ (by omega)
              have hv : costV s a = .tuple #[.int .i64 (L + C + T), .bool true] := by unfold costV costP; simp only [c1, c2, e1, e2, c3, hC, c4, hT, hL, Bool.or_false, Bool.false_eq_true, if_false, Bool.not_false, Bool.not_true, Bool.true_and, Bool.false_and, if_true, Int.add_zero]
              have Hend := hide HR.out
              rw [hv] at Hend
              clear hv HR
              have Hcl := hide c1
              go_wp2_with (first
                | (go_at_call 43; refine tooLong_c _ _ _ s.al _ _ rfl (by unfold maxLen; omega) (Hal.out.keep (Keeps.alloc _ _)) ?_; rw [c2])
                | (go_at_call 43; refine tooLong_c _ _ _ [a.code, s.code] _ _ rfl (by decide) (StrsAt.lit_at _ (by simp)) ?_; rw [c3])
                | (go_at_call 43; refine tooLong_c _ _ _ [a.town, s.town] _ _ rfl (by decide) (StrsAt.lit_at _ (by simp)) ?_; rw [c4])
                | (go_at_call 16; refine fold_c _ _ _ (by omega) ?_; intro w3 hb3; have H3 := hide (CW.later (s := s) (a := a) (w := w) (by repeat' first | exact H0.out | apply CW.alloc) hb3); clear s0 s1 s2 s3 a1 a3 a4; obtain ⟨_, hlt3, s0, s1, s2, s3, a1, a3, a4, _⟩ := H3.out; obtain ⟨w4, hmk, hP4, hb4⟩ := mk57 w3 s.al.length hn; have P4 := hide hP4; have H4 := hide (H3.out.later hb4); obtain ⟨_, _, _, _, _, s3', _, _, _, _⟩ := H4.out; clear hP4))
              clear H3 s0 s1 s2 s3 a1 a3 a4 hb3 hmk hb4 s3'
              generalize hD : w3.heap.size = D at *
              clear hD
              go_loopw [56] (fun i wr => ∃ (k : Nat) (xs : List Int), k ≤ s.al.length ∧ i = .int .i64 k ∧ Hid (xs.length = s.al.length ∧ xs.take k = (s.al.take k).map fun x => (bdist (foldB a.street) (foldB x) : Int)) ∧ Hid (wr.ownsRow D 3 1 (.slice (some ⟨D, 0, none⟩) s.al.length s.al.length) s.al.length (xs.map (Value.int .i64))) ∧ Hid (CW s a w wr)) (fun i _ => s.al.length - (intOf i).toNat)
              case atStart => exact ⟨0, _, Nat.zero_le _, rfl, hide ⟨List.length_replicate, by simp⟩, P4, H4⟩
              case round =>
                clear P4 H4
                obtain ⟨k, xs, hk, rfl, hx, P, H⟩ := hrel
                by_cases hlk : k < s.al.length
                · obtain ⟨b, o, y, hap, hy, hcy⟩ := H.out.al.at_ (i := k) hlk
                  have hy200 := hall y (List.mem_of_getElem? hy)
                  have hstep := hide (dists_step (xs := xs) (l := s.al) (k := k) (y := y) (f := fun x => (bdist (foldB a.street) (foldB x) : Int)) hx.out hy)
                  clear hy
                  rw [hap]
                  go_wp2_with (first
                    | (go_at_call 16; refine fold_c _ _ _ (by omega) ?_; intro w6 hb6)
                    | (go_at_call 14; refine bdist_c _ _ _ _ hfs (Nat.le_trans (foldB_size y) hy200) ?_; intro w7 hb7; have hb67 := bseq hb6 hb7; have P7 := own_later P.out hb67; have hf7 := P7.frozenAt k; have hc7 := owni_cell P7 hlk; have P8 := hide P7; have H7 := hide (H.out.later hb67); clear P7 hb67 hb6 hb7))
                  have hP9 := hide (owni_set P8.out k (bdist (foldB a.street) (foldB y)))
                  have H9 := hide (H7.out.store (v := .int .i64 (bdist (foldB a.street) (foldB y))) hlt3 hc7)
                  go_roundw
                  case rel => exact ⟨k + 1, _, by omega, by go_num, hstep, hP9, H9⟩
                  case measure => simp [intOf]; omega
                · have hkn : k = s.al.length := by omega
                  have hxs : xs = s.al.map fun x => (bdist (foldB a.street) (foldB x) : Int) := by
                    have h := hx.out.2
                    rw [hkn, List.take_of_length_le (by rw [hx.out.1]; omega), List.take_of_length_le (Nat.le_refl _)] at h
                    exact h
                  clear hx
                  rw [hxs] at P
                  clear hxs hlk
                  obtain ⟨_, _, s0, s1, s2, s3, a1, a3, a4, _⟩ := H.out
                  go_wp2_with (first
                    | (go_at_call_of 16 (Value.string s.name); refine fold_c _ _ _ (by omega) ?_; intro w6 hb6)
                    | (go_at_call_of 14 (Value.string (foldB s.name)); refine bdist_c _ _ _ _ hfs (Nat.le_trans (foldB_size s.name) hnm) ?_; intro w7 hb7; have hb67 := bseq hb6 hb7; have P7 := hide (own_later P.out hb67); have H7 := hide (H.out.later hb67); clear s0 s1 s2 s3 a1 a3 a4; obtain ⟨_, _, s0, s1, s2, s3, a1, a3, a4, _⟩ := H7.out; clear hb67 hb6 hb7)
                    | (go_at_call 27; refine least_c _ _ _ _ (s.al.map fun x => (bdist (foldB a.street) (foldB x) : Int)) _ _ (by rw [List.length_map]) (by unfold maxLen; omega) (IntsAt.of_own P7.out) ?_; rw [hL])
                    | (go_at_call_of 14 (Value.string s.code); refine bdist_c _ _ _ _ h3a h3b ?_; intro w8 hb8; have H8 := hide (H7.out.later hb8); clear s0 s1 s2 s3 a1 a3 a4; obtain ⟨_, _, s0, s1, s2, s3, a1, a3, a4, _⟩ := H8.out; rw [hC])
                    | fail)
                  have Hb := hide H8.out.below
                  go_region_held3 (fun w' => w'.cell? ⟨w.heap.size, 1, none⟩ = some (.string s.town) ∧ w'.cell? ⟨w.heap.size + 1, 4, none⟩ = some (.string a.town) ∧ Below w.heap.size w w')
                    (first | exact ⟨s1, a4, Hb.out.drew⟩ | (obtain ⟨q1, q2, q3⟩ := ‹_ ∧ _ ∧ Below w.heap.size w _›; first | exact ⟨q1, q2, q3⟩ | exact ⟨cell_later hb9 q1, cell_later hb9 q2, bseq q3 hb9⟩))
                    (first | (go_at_call_of 16 (Value.string a.town); refine fold_c _ _ _ (by omega) ?_; intro w9 hb9) | (go_at_call_of 16 (Value.string s.town); refine fold_c _ _ _ (by omega) ?_; intro w9 hb9) | (go_at_call 14; refine bdist_c _ _ _ _ (Nat.le_trans (foldB_size a.town) h4a) (Nat.le_trans (foldB_size s.town) h4b) ?_; intro w9 hb9; rw [hT]))
                  all_goals (
                    rename_i hS
                    go_wp2
                    exact Hend.out _ hS.2.2)
end Go.Proofs.Ytkbdkkllfaljlaa
