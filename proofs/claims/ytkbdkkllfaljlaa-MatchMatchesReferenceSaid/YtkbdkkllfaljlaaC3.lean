import Derived.Test.YtkbdkkllfaljlaaC2
import Derived.Test.YtkbdkkllfaljlaaM2
import Derived.Test.YtkbdkkllfaljlaaShelf
import Derived.Laws.IdiomStrings
import Derived.Shelf.Abstract
import Derived.Deep.RegionHeld3
set_option linter.unusedVariables false
set_option linter.unusedSimpArgs false
namespace Go.Proofs.Ytkbdkkllfaljlaa
open Go.RowKit Go.ChangeMaps

/-! ### bytes in a block of the call's own -/
structure BRow (base : Nat) (w : World) (g : Nat) (l : List UInt8) : Prop where
  ge : base ≤ g
  lt : g < w.heap.size
  cell : ∀ j (hj : j < l.length), w.cell? ⟨g, j, none⟩ = some (.int .u8 (l[j].toNat : Int))
  free : ∀ j, j < l.length → w.frozen? ⟨g, j, none⟩ = false
theorem BRow.set {base : Nat} {w : World} {g : Nat} {l : List UInt8} (h : BRow base w g l) (k : Nat) (c : UInt8) (hk : k < l.length) : BRow base (w.setCell ⟨g, k, none⟩ (.int .u8 (c.toNat : Int))) g (l.set k c) := by
  refine ⟨h.ge, ?_, fun j hj => ?_, fun j hj => ?_⟩
  · have := h.lt
    simp only [World.setCell]
    split <;> simp [this]
  · rw [List.length_set] at hj
    by_cases e : k = j
    · subst e
      rw [World.cell?_setCell_same _ _ _ (h.cell k hk), List.getElem_set_self]
    · rw [List.getElem_set_ne e, World.cell?_setCell_other w _ _ _ (by simp [e, Ne.symm e])]
      exact h.cell j hj
  · rw [List.length_set] at hj
    rw [World.frozen?_setCell]
    exact h.free j hj
theorem bytes_row (s : ByteArray) (w : World) : ∃ w1 cap, (convert 9 35 (.string s)).run Try.prog w = .ok (.slice (some ⟨w.heap.size, 0, none⟩) s.size cap) w1 ∧ BRow w.heap.size w1 w.heap.size s.data.toList ∧ Below w.heap.size w w1 := by
  refine ⟨_, _, run_bytes_of_string w 9 35 5 s Try.underlying9 Try.underlying35 Try.underlying5, ⟨Nat.le_refl _, by simp, fun j hj => ?_, fun j hj => ?_⟩, balloc (Below.refl _ _).drew _⟩
  · have hj' : j < s.data.size := by simpa using hj
    refine (World.cell?_alloc_mark w.drew _ 5 _ j).trans ?_
    rw [bytesRow_at s _ j hj']
    simp
  · have hj' : j < s.data.size := by simpa using hj
    refine (World.frozen?_alloc_mark w.drew _ 5 _ _ j).trans ?_
    have : ¬ (bytesRow s (grownCap w s.size 0 5)).size ≤ j := by
      unfold bytesRow
      rw [Array.size_append, Array.size_map]; omega
    simp [this]
theorem BRow.back {base : Nat} {w : World} {g : Nat} {l : List UInt8} (h : BRow base w g l) (n cap : Nat) (hn : n = l.length) : (convert 35 9 (.slice (some ⟨g, 0, none⟩) n cap)).run Try.prog w = .ok (.string ⟨l.toArray⟩) w := by
  subst hn
  exact run_convert_bytes_back w 35 9 5 ⟨g, 0, none⟩ cap l Try.underlying35 Try.underlying5 Try.underlying9 (fun j hj => by
    rw [show (⟨g, 0, none⟩ : Addr).add j = ⟨g, j, none⟩ by unfold Addr.add; split <;> simp_all]; exact h.cell j hj)

/-! ### the words -/
theorem blank_runes (w : World) : PredAtRunes Try.prog 29 #[] (fun x => x == 32) w := fun W x hx hb => by
  show Calls Try.prog 29 #[.int .i32 (x : Int)] W _
  go_enter Try.func29, Try.ntmps29
  go_wp2
  go_ret
  refine ⟨?_, 0, rfl⟩
  have h2 : (x == 32) = decide (x = 32) := by rw [Bool.eq_iff_iff]; simp
  have h1 : ((x : Int) == 32) = decide (x = 32) := by rw [Bool.eq_iff_iff]; simp; omega
  simp [h1, h2]
theorem fields_c (s : ByteArray) (ws : List ByteArray) (n : Nat) (w : World) (R) (hws : ws = wordsB s) (hn : ws.length = n) (hs : s.size ≤ 1000000) (hR : ∀ w' A, w.heap.size ≤ A → w'.ownsRow w.heap.size 9 1 (.slice (some ⟨A, 0, none⟩) n n) n (ws.map Value.string) → Below w.heap.size w w' → R (.returned (.slice (some ⟨A, 0, none⟩) n n)) w') : Calls Try.prog 28 #[.string s, .func (.func 29) #[] #[]] w R := by
  subst hws; subst hn
  refine (Try.strings_FieldsFunc_runes 29 #[] (enters_of Try.func29 (by kernel_rfl) rfl) _ s w (by omega) (blank_runes w)).mono ?_
  rintro e w' ⟨A, rfl, h1, h2, h3⟩
  exact hR w' A h1 h2 h3
theorem join_c (bk n c : Nat) (xs : List ByteArray) (sep : ByteArray) (w : World) (R) (hn : xs.length = n) (hcells : ∀ (j : Nat) x, xs[j]? = some x → w.cell? ⟨bk, j, none⟩ = some (.string x)) (hbk : bk < w.heap.size) (hN : n ≤ 1000000) (hcap : n ≤ c) (hlen : (Lib.join (xs.map (·.data.toList)) sep.data.toList).length ≤ 140737488355328)
    (hR : ∀ w', Below w.heap.size w w' → R (.returned (.string ⟨(Lib.join (xs.map (·.data.toList)) sep.data.toList).toArray⟩)) w') :
    Calls Try.prog 31 #[.slice (some ⟨bk, 0, none⟩) n c, .string sep] w R := by
  subst hn
  refine (Try.strings_Join bk 0 c xs sep w (fun j x hj => by rw [Nat.zero_add]; exact hcells j x hj) hbk (by omega) hcap hlen).mono ?_
  rintro e w' ⟨rfl, h⟩
  exact hR w' h
/-- A small letter for a capital one. -/
def smallB (c : UInt8) : UInt8 := if 65 ≤ c.toNat ∧ c.toNat ≤ 90 then c + 32 else c
def endV (x : ByteArray) : ByteArray := ((endL.find? (fun p => x == p.1)).map (·.2)).getD x
def endB (ws : List ByteArray) : List ByteArray := if 2 ≤ ws.length then ws.set (ws.length - 1) (endV (ws.getD (ws.length - 1) ⟨#[]⟩)) else ws
def foldB (s : ByteArray) : ByteArray := ⟨(Lib.join ((endB (wordsB ⟨(s.data.toList.map smallB).toArray⟩)).map (·.data.toList)) [32]).toArray⟩
def mixL (l : List UInt8) (k : Nat) : List UInt8 := (l.take k).map smallB ++ l.drop k
theorem mixL_len (l : List UInt8) (k : Nat) : (mixL l k).length = l.length := by
  unfold mixL; simp only [List.length_append, List.length_map, List.length_take, List.length_drop]; omega
theorem mixL_get (l : List UInt8) (k : Nat) (hk : k < l.length) : (mixL l k)[k]'(by rw [mixL_len]; exact hk) = l[k] := by
  unfold mixL
  rw [List.getElem_append_right (by simp; omega)]
  simp [Nat.min_eq_left (Nat.le_of_lt hk)]
theorem mixL_set (l : List UInt8) (k : Nat) (hk : k < l.length) : (mixL l k).set k (smallB l[k]) = mixL l (k + 1) := by
  unfold mixL
  have h1 : ((l.take k).map smallB).length = k := by simp; omega
  rw [List.set_append_right _ _ (by omega), h1, Nat.sub_self, List.drop_eq_getElem_cons hk, List.set_cons_zero, List.take_add_one, List.getElem?_eq_getElem hk, List.map_append, List.append_assoc]
  rfl
theorem mixL_same (l : List UInt8) (k : Nat) (hk : k < l.length) (h : smallB l[k] = l[k]) : mixL l k = mixL l (k + 1) := by
  rw [← mixL_set l k hk, h]
  have : (mixL l k)[k]'(by rw [mixL_len]; exact hk) = l[k] := mixL_get l k hk
  rw [← this, List.set_getElem_self]
theorem mixL_zero (l : List UInt8) : mixL l 0 = l := by simp [mixL]
theorem mixL_all (l : List UInt8) (k : Nat) (h : l.length ≤ k) : mixL l k = l.map smallB := by
  unfold mixL; rw [List.take_of_length_le h, List.drop_of_length_le h, List.append_nil]
theorem smallB_up (c : UInt8) (h : 65 ≤ c.toNat ∧ c.toNat ≤ 90) : ((smallB c).toNat : Int) = (c.toNat : Int) - 65 + 97 := by
  unfold smallB
  rw [if_pos h, UInt8.toNat_add]
  have : (32 : UInt8).toNat = 32 := rfl
  omega
theorem own_later {w w' : World} {base e size n : Nat} {v : Value} {xs : List Value} (h : w.ownsRow base e size v n xs) (hb : Below w.heap.size w w') : w'.ownsRow base e size v n xs :=
  h.kept (row := none) ⟨hb.os, hb.tape, hb.output, hb.size, fun i hi _ => hb.block i hi⟩ (by cases h : v.ownBlock <;> simp)
theorem str_cells {w : World} {base A n cap : Nat} {ws : List ByteArray} (h : w.ownsRow base 9 1 (.slice (some ⟨A, 0, none⟩) n cap) n (ws.map Value.string)) : ∀ (j : Nat) x, ws[j]? = some x → w.cell? ⟨A, j, none⟩ = some (.string x) := fun j x hj => by
  have hl : (ws.map Value.string).length = n * 1 := h.1
  have hj2 := (List.getElem?_eq_some_iff.1 hj).1
  rw [List.length_map] at hl
  rw [h.cellAt j (by omega), List.getElem?_map, hj]; rfl
theorem join_size (xs : List (List UInt8)) (sep : List UInt8) : (Lib.join xs sep).length ≤ xs.flatten.length + xs.length * sep.length := by
  unfold Lib.join
  induction xs with
  | nil => simp [List.intercalate]
  | cons x t ih =>
    cases t with
    | nil => simp [List.intercalate]
    | cons y r =>
      rw [List.intercalate, List.intersperse_cons_cons] at *
      simp only [List.flatten_cons, List.length_append, List.length_cons, Nat.add_mul, Nat.one_mul] at *
      omega
theorem words_bound (s : ByteArray) : ((wordsB s).map (·.data.toList)).flatten.length + (wordsB s).length ≤ s.size + 1 := by
  have h := (wordsF_size s.data.toList []).1
  have h2 := wordsB_eq s
  unfold wordsL at h2
  rw [← h2] at h
  simp at h ⊢; omega
theorem endV_size (x : ByteArray) : (endV x).size ≤ x.size := by
  unfold endV
  cases hf : endL.find? (fun p => x == p.1) with
  | none => exact Nat.le_refl _
  | some p =>
    have h1 := List.find?_some hf
    have h2 := List.mem_of_find?_eq_some hf
    have h3 : ∀ q ∈ endL, q.2.size ≤ q.1.size := by decide
    have h4 : x = p.1 := (MapKept.bytes_beq _ _).1 h1
    rw [h4]; exact h3 p h2
theorem flat_setB (ws : List ByteArray) (i : Nat) (y : ByteArray) (h : ∀ x, ws[i]? = some x → y.size ≤ x.size) : ((ws.set i y).map (·.data.toList)).flatten.length ≤ (ws.map (·.data.toList)).flatten.length := by
  induction ws generalizing i with
  | nil => simp
  | cons x t ih =>
    cases i with
    | zero =>
      have := h x rfl
      have e1 : y.data.toList.length = y.size := by simp
      have e2 : x.data.toList.length = x.size := by simp
      simp only [List.set_cons_zero, List.map_cons, List.flatten_cons, List.length_append]; omega
    | succ i =>
      have := ih i (fun z hz => h z (by simpa using hz))
      simp only [List.set_cons_succ, List.map_cons, List.flatten_cons, List.length_append]; omega
theorem endB_len (ws : List ByteArray) : (endB ws).length = ws.length := by unfold endB; split <;> simp
theorem endB_flat (ws : List ByteArray) : ((endB ws).map (·.data.toList)).flatten.length ≤ (ws.map (·.data.toList)).flatten.length := by
  unfold endB
  split
  · refine flat_setB _ _ _ fun x hx => ?_
    rw [List.getD_eq_getElem?_getD, hx]; exact endV_size x
  · exact Nat.le_refl _
theorem endB_bound (s : ByteArray) : (Lib.join ((endB (wordsB s)).map (·.data.toList)) [32]).length ≤ s.size + 1 := by
  have h1 := join_size ((endB (wordsB s)).map (·.data.toList)) [32]
  have h2 := words_bound s
  have h3 := endB_flat (wordsB s)
  rw [List.length_map, endB_len] at h1
  simp only [List.length_singleton, Nat.mul_one] at h1
  omega
set_option maxRecDepth 100000 in
set_option maxHeartbeats 2000000 in
theorem fold_c (s : ByteArray) (w : World) (R) (hs : s.size ≤ 100000) (hR : ∀ w', Below w.heap.size w w' → R (.returned (.string (foldB s))) w') : Calls Try.prog 16 #[.string s] w R := by
  have HR := hide hR; clear hR
  obtain ⟨w1, cap, hcv, hrow, hbel⟩ := bytes_row s w
  have Hl := hide (show s.data.toList.length = s.size by simp)
  have P0 := hide hrow
  have B0 := hide hbel
  clear hrow hbel
  go_enter Try.func16, Try.ntmps16
  go_wp2
  go_loopw [14] (fun i wr => ∃ k : Nat, k ≤ s.size ∧ i = .int .i64 k ∧ Hid (BRow w.heap.size wr w.heap.size (mixL s.data.toList k)) ∧ Hid (Below w.heap.size w wr)) (fun i _ => s.size - (intOf i).toNat)
  case atStart => exact ⟨0, Nat.zero_le _, rfl, hide (by rw [mixL_zero]; exact P0.out), B0⟩
  case round =>
    clear P0 B0
    obtain ⟨k, hk, rfl, P, B⟩ := hrel
    by_cases hlt : k < s.size
    · have hkl : k < s.data.toList.length := by rw [Hl.out]; exact hlt
      have hc := P.out.cell k (by rw [mixL_len]; exact hkl)
      rw [mixL_get _ _ hkl] at hc
      have hf := P.out.free k (by rw [mixL_len]; exact hkl)
      have Hset := hide (mixL_set _ _ hkl)
      have Hsame := hide (mixL_same _ _ hkl)
      have Hup := hide (smallB_up s.data.toList[k])
      have Hno := hide (show ¬ (65 ≤ s.data.toList[k].toNat ∧ s.data.toList[k].toNat ≤ 90) → smallB s.data.toList[k] = s.data.toList[k] from fun h => by unfold smallB; rw [if_neg h])
      have hlt8 : s.data.toList[k].toNat < 256 := UInt8.toNat_lt _
      generalize s.data.toList[k] = c at *
      by_cases h1 : 65 ≤ c.toNat
      · by_cases h2 : c.toNat ≤ 90
        · have hw1 : IntKind.u8.wrap ((c.toNat : Int) - 65) = (c.toNat : Int) - 65 := IntWalk.u8_in _ (by omega)
          have hw2 : IntKind.u8.wrap ((c.toNat : Int) - 65 + 97) = (c.toNat : Int) - 65 + 97 := IntWalk.u8_in _ (by omega)
          have e1 : (65 : Int) ≤ c.toNat := by omega
          have e2 : (c.toNat : Int) ≤ 90 := by omega
          have P2 := P.out.set k (smallB c) (by rw [mixL_len]; exact hkl)
          rw [Hset.out, Hup.out ⟨h1, h2⟩] at P2
          have P3 := hide P2
          have B3 := hide (B.out.setCell (p := ⟨w.heap.size, k, none⟩) (Nat.le_refl _) (.int .u8 ((c.toNat : Int) - 65 + 97)))
          clear P P2 B
          go_wp2
          go_roundw
          case rel => exact ⟨k + 1, by omega, by go_num, P3, B3⟩
          case measure => simp [intOf]; omega
        · have e1 : (65 : Int) ≤ c.toNat := by omega
          have e2 : ¬ (c.toNat : Int) ≤ 90 := by omega
          have P3 := P.out
          rw [Hsame.out (Hno.out (fun h => h2 h.2))] at P3
          go_wp2
          go_roundw
          case rel => exact ⟨k + 1, by omega, by go_num, hide P3, B⟩
          case measure => simp [intOf]; omega
      · have e1 : ¬ (65 : Int) ≤ c.toNat := by omega
        have P3 := P.out
        rw [Hsame.out (Hno.out (fun h => h1 h.1))] at P3
        go_wp2
        go_roundw
        case rel => exact ⟨k + 1, by omega, by go_num, hide P3, B⟩
        case measure => simp [intOf]; omega
    · have P2 := P.out
      rw [mixL_all _ _ (by rw [Hl.out]; omega)] at P2
      have P3 := hide P2
      have hback := P2.back s.size cap (by rw [List.length_map, Hl.out])
      clear P P2
      have hkk : k = s.size := by omega
      obtain ⟨ws, hws⟩ : ∃ ws, ws = wordsB ⟨(s.data.toList.map smallB).toArray⟩ := ⟨_, rfl⟩
      have hsz : ByteArray.size ⟨(s.data.toList.map smallB).toArray⟩ = s.size := by rw [← Hl.out]; show (s.data.toList.map smallB).toArray.size = _; rw [List.size_toArray, List.length_map]
      have Hb := hide (endB_bound ⟨(s.data.toList.map smallB).toArray⟩)
      have hwb := words_bound ⟨(s.data.toList.map smallB).toArray⟩
      have HR1 := hide (show ∀ w', Below w.heap.size w w' → R (.returned (.string ⟨(Lib.join ((endB (wordsB ⟨(s.data.toList.map smallB).toArray⟩)).map (·.data.toList)) [32]).toArray⟩)) w' from HR.out)
      rw [← hws] at Hb hwb HR1
      have hn : ws.length ≤ 100001 := by omega
      rw [hsz] at Hb
      have Hws := hide hws
      clear HR hwb hws
      by_cases h2 : 2 ≤ ws.length
      · obtain ⟨m, hm⟩ : ∃ m, ws.length = m + 1 := ⟨ws.length - 1, by omega⟩
        have h1m : (1 : Int) ≤ m := by omega
        have hmb : (m : Int) ≤ 100001 := by omega
        obtain ⟨x, hx⟩ : ∃ x, ws[m]? = some x := ⟨ws[m], List.getElem?_eq_getElem (by omega)⟩
        have hend : endB ws = ws.set m (endV x) := by
          unfold endB
          rw [if_pos h2, hm, Nat.add_sub_cancel, List.getD_eq_getElem?_getD, hx]; rfl
        rw [hend] at HR1 Hb
        have Hx := hide hx
        have Hm := hide hm
        have hw1 : IntKind.i64.wrap ((m : Int) + 1 - 1) = m := by rw [IntWalk.i64_in _ (by omega)]; omega
        have hw2 : IntKind.i64.wrap (m : Int) = m := IntWalk.i64_in _ (by omega)
        have e0 : (0 : Int) ≤ m := by omega
        have e3 : (m : Int) < (m : Int) + 1 := by omega
        clear h2 hend hx hm hn
        cases hf : endL.find? (fun p => x == p.1) with
        | none =>
          have hv : ws.set m (endV x) = ws := by
            unfold endV; rw [hf]
            exact List.ext_getElem? fun i => by
              rw [List.getElem?_set]
              split
              · rename_i h; subst h; rw [if_pos (by have := Hm.out; omega)]; exact Hx.out.symm
              · rfl
          rw [hv] at HR1 Hb
          clear hv
          go_wp2_with (go_at_call 28; refine fields_c _ ws (m + 1) _ _ Hws.out Hm.out (by rw [hsz]; omega) ?_; intro w5 A hA hrow hb5; have hcell := hrow.cellAt m (by omega); rw [List.getElem?_map, Hx.out] at hcell; have Hrow := hide hrow; have Bw := hide (B.out.trans (hb5.mono B.out.size)); clear hrow hb5)
          go_region_held3 (fun w' => w'.cell? ⟨A, m, none⟩ = some (.string x))
            (first | exact hcell | (go_keep; done) | exact (cell_later hmap.below hcell))
            (first | (go_at_call 30; refine endings_c _ _ ?_; intro w6 hmap; have hl : Sem.run Try.prog (Instr.lookup 63 (Value.map (some w5.heap.size)) (Value.string x) true) w6 = _ := hmap.lookup x; rw [hf] at hl; have Hmap := hide hmap.below))
          have row6 : w6.ownsRow wr.heap.size 9 1 (.slice (some ⟨A, 0, none⟩) (m + 1) (m + 1)) (m + 1) (ws.map Value.string) := own_later (w := w5.drew) Hrow.out Hmap.out
          have B6 := hide (bseq Bw.out.drew Hmap.out)
          have Hcells := hide (str_cells row6)
          have hlt6 := (row6.lt _ rfl).2
          clear row6 Hrow Bw Hmap hmap hcell
          go_wp2_with (go_at_call 31; refine join_c A (m + 1) (m + 1) ws _ _ _ Hm.out Hcells.out hlt6 (by omega) (Nat.le_refl _) (by have := Hb.out; show (Lib.join _ [32]).length ≤ _; omega) ?_; intro w7 hb7)
          exact HR1.out _ (bseq B6.out hb7)
        | some p =>
          have hv : endV x = p.2 := by unfold endV; rw [hf]; rfl
          rw [hv] at HR1 Hb
          clear hv
          go_wp2_with (go_at_call 28; refine fields_c _ ws (m + 1) _ _ Hws.out Hm.out (by rw [hsz]; omega) ?_; intro w5 A hA hrow hb5; have hcell := hrow.cellAt m (by omega); rw [List.getElem?_map, Hx.out] at hcell; have Hrow := hide hrow; have Bw := hide (B.out.trans (hb5.mono B.out.size)); clear hrow hb5)
          go_region_held3 (fun w' => w'.cell? ⟨A, m, none⟩ = some (.string x))
            (first | exact hcell | (go_keep; done) | exact (cell_later hmap.below hcell))
            (first | (go_at_call 30; refine endings_c _ _ ?_; intro w6 hmap; have hl : Sem.run Try.prog (Instr.lookup 63 (Value.map (some w5.heap.size)) (Value.string x) true) w6 = _ := hmap.lookup x; rw [hf] at hl; have Hmap := hide hmap.below))
          have row6 : w6.ownsRow wr.heap.size 9 1 (.slice (some ⟨A, 0, none⟩) (m + 1) (m + 1)) (m + 1) (ws.map Value.string) := own_later (w := w5.drew) Hrow.out Hmap.out
          have B6 := hide (bseq Bw.out.drew Hmap.out)
          have hlt6 := (row6.lt _ rfl).2
          have hc6 := str_cells row6 m x Hx.out
          have hf6 := row6.frozenAt m
          have row7 := (row6.stored m (.string p.2)).1
          rw [← List.map_set] at row7
          have B7 := hide (B6.out.setCell (p := ⟨A, m, none⟩) (Nat.le_trans B.out.size hA) (.string p.2))
          have Hcells := hide (str_cells row7)
          have hlt7 := (row7.lt _ rfl).2
          clear row6 row7 Hrow Bw Hmap hmap hcell B6
          go_wp2_with (go_at_call 31; refine join_c A (m + 1) (m + 1) (ws.set m p.2) _ _ _ (by rw [List.length_set]; exact Hm.out) Hcells.out hlt7 (by omega) (Nat.le_refl _) (by have := Hb.out; show (Lib.join _ [32]).length ≤ _; omega) ?_; intro w7 hb7)
          have HR2 := HR1.out _ (bseq B7.out hb7)
          rw [List.map_set] at HR2
          exact HR2
      · have hend : endB ws = ws := by unfold endB; rw [if_neg h2]
        rw [hend] at HR1 Hb
        have hn1 : (ws.length : Int) ≤ 1 := by omega
        have hw1 : IntKind.i64.wrap ((ws.length : Int) - 1) = (ws.length : Int) - 1 := IntWalk.i64_in _ (by omega)
        have e1 : ¬ (1 : Int) ≤ (ws.length : Int) - 1 := by omega
        have Hn := hide (show ws.length ≤ 1 by omega)
        clear hend h2 hn hn1
        go_wp2_with (first
          | (go_at_call 28; refine fields_c _ ws ws.length _ _ Hws.out rfl (by rw [hsz]; omega) ?_; intro w5 A hA hrow hb5; have Hrow := hide hrow; have Bw := hide (B.out.trans (hb5.mono B.out.size)); clear hrow hb5)
          | (go_at_call 31; refine join_c A ws.length ws.length ws _ _ _ rfl (str_cells Hrow.out) (Hrow.out.lt _ rfl).2 (by have := Hn.out; omega) (Nat.le_refl _) (by have := Hb.out; show (Lib.join _ [32]).length ≤ _; omega) ?_; intro w7 hb7))
        exact HR1.out _ (bseq Bw.out hb7)
end Go.Proofs.Ytkbdkkllfaljlaa
