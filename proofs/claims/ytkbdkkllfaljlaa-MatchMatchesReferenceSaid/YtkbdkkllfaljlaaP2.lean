/- Plain: the folded form of a name. -/
import Derived.Test.YtkbdkkllfaljlaaC3
set_option linter.unusedVariables false
set_option linter.unusedSimpArgs false
namespace Go.Proofs.Ytkbdkkllfaljlaa
open Go.RowKit

def endLL : List (List UInt8 × List UInt8) := endL.map fun p => (p.1.data.toList, p.2.data.toList)
def endVL (x : List UInt8) : List UInt8 := ((endLL.find? (fun p => x == p.1)).map (·.2)).getD x
def endLs (ws : List (List UInt8)) : List (List UInt8) := if 2 ≤ ws.length then ws.set (ws.length - 1) (endVL (ws.getD (ws.length - 1) [])) else ws
def joinW (ws : List (List UInt8)) : List UInt8 := Lib.join ws [32]
def foldL (l : List UInt8) : List UInt8 := joinW (endLs (wordsL (l.map smallB)))
theorem bytes_data {x y : ByteArray} : x = y ↔ x.data.toList = y.data.toList := by
  constructor
  · rintro rfl; rfl
  · intro h
    obtain ⟨⟨a⟩⟩ := x; obtain ⟨⟨b⟩⟩ := y
    simp at h; rw [h]
theorem beq_data (x y : ByteArray) : (x == y) = (x.data.toList == y.data.toList) := by
  rw [Bool.eq_iff_iff, MapKept.bytes_beq, beq_iff_eq, bytes_data]
theorem endV_list (x : ByteArray) : (endV x).data.toList = endVL x.data.toList := by
  unfold endV endVL endLL
  rw [List.find?_map]
  have : ((fun p : List UInt8 × List UInt8 => x.data.toList == p.1) ∘ fun p : ByteArray × ByteArray => (p.1.data.toList, p.2.data.toList)) = fun p => x == p.1 := by
    funext p; simp only [Function.comp]; rw [beq_data]
  rw [this]
  cases endL.find? (fun p => x == p.1) <;> rfl
theorem endB_list (ws : List ByteArray) : (endB ws).map (·.data.toList) = endLs (ws.map (·.data.toList)) := by
  unfold endB endLs
  rw [List.length_map]
  split
  · rename_i h
    rw [List.map_set, endV_list]
    congr 2
    rw [List.getD_eq_getElem?_getD, List.getD_eq_getElem?_getD, List.getElem?_map, List.getElem?_eq_getElem (by omega)]
    rfl
  · rfl
theorem foldB_list (s : ByteArray) : (foldB s).data.toList = foldL s.data.toList := by
  unfold foldB foldL joinW
  rw [List.toList_toArray, endB_list, wordsB_eq]

/-! ### words -/
/-- A word: it has a byte, and no blank. -/
def isW (x : List UInt8) : Prop := x ≠ [] ∧ ∀ c ∈ x, c ≠ 32
theorem wordsF_isW : ∀ (l cur : List UInt8), (∀ c ∈ cur, c ≠ 32) → ∀ x ∈ wordsF cur l, isW x
  | [], cur, hc => by
    unfold wordsF
    split
    · simp
    · rename_i h; intro x hx; obtain rfl := List.mem_singleton.1 hx; exact ⟨h, hc⟩
  | c :: t, cur, hc => by
    unfold wordsF
    split
    · split
      · exact wordsF_isW t [] (by simp)
      · rename_i h
        intro x hx
        rcases List.mem_cons.1 hx with rfl | hx
        · exact ⟨h, hc⟩
        · exact wordsF_isW t [] (by simp) x hx
    · rename_i h1
      exact wordsF_isW t _ (by intro d hd; rcases List.mem_append.1 hd with h | h; exact hc d h; obtain rfl := List.mem_singleton.1 h; exact h1)
theorem wordsL_isW (l : List UInt8) : ∀ x ∈ wordsL l, isW x := wordsF_isW l [] (by simp)
theorem wordsF_map (f : UInt8 → UInt8) (hf : ∀ c, f c = 32 ↔ c = 32) : ∀ (l cur : List UInt8), wordsF (cur.map f) (l.map f) = (wordsF cur l).map (List.map f)
  | [], cur => by
    unfold wordsF
    by_cases h : cur = []
    · simp [h]
    · simp [h]
  | c :: t, cur => by
    rw [List.map_cons]
    unfold wordsF
    by_cases h : c = 32
    · rw [if_pos ((hf c).2 h), if_pos h]
      by_cases h2 : cur = []
      · have := wordsF_map f hf t []
        simp only [h2, List.map_nil, if_true] at *
        exact this
      · have := wordsF_map f hf t []
        rw [if_neg (by simpa using h2), if_neg h2, List.map_cons]
        rw [List.map_nil] at this; rw [this]
    · rw [if_neg (fun e => h ((hf c).1 e)), if_neg h]
      have := wordsF_map f hf t (cur ++ [c])
      rw [List.map_append] at this
      exact this
theorem wordsL_map (f : UInt8 → UInt8) (hf : ∀ c, f c = 32 ↔ c = 32) (l : List UInt8) : wordsL (l.map f) = (wordsL l).map (List.map f) := wordsF_map f hf l []
theorem wordsF_blank (cur l : List UInt8) (h : cur ≠ []) : wordsF cur (32 :: l) = cur :: wordsL l := by
  rw [wordsF, if_pos rfl, if_neg h]; rfl
theorem wordsL_blank (l : List UInt8) : wordsL (32 :: l) = wordsL l := by
  unfold wordsL; rw [wordsF, if_pos rfl, if_pos rfl]
theorem wordsL_word {x : List UInt8} (h : isW x) : wordsL x = [x] := by
  have := wordsF_run x [] [] h.2
  rw [List.append_nil] at this
  unfold wordsL
  rw [this, List.nil_append, wordsF, if_neg h.1]
theorem wordsL_cons {x : List UInt8} (h : isW x) (l : List UInt8) : wordsL (x ++ 32 :: l) = x :: wordsL l := by
  unfold wordsL
  rw [wordsF_run x [] _ h.2, List.nil_append, wordsF_blank _ _ h.1]; rfl
theorem joinW_cons2 (x y : List UInt8) (r : List (List UInt8)) : joinW (x :: y :: r) = x ++ 32 :: joinW (y :: r) := by
  unfold joinW Lib.join
  rw [List.intercalate, List.intersperse_cons_cons]
  simp [List.intercalate]
theorem joinW_one (x : List UInt8) : joinW [x] = x := Lib.join_one x _
theorem joinW_nil : joinW [] = [] := rfl
theorem words_join : ∀ (ws : List (List UInt8)), (∀ x ∈ ws, isW x) → wordsL (joinW ws) = ws
  | [], _ => rfl
  | [x], h => by rw [joinW_one, wordsL_word (h x (by simp))]
  | x :: y :: r, h => by
    rw [joinW_cons2, wordsL_cons (h x (by simp)), words_join (y :: r) (fun z hz => h z (List.mem_cons_of_mem _ hz))]
theorem joinW_snoc : ∀ (ws : List (List UInt8)) (x : List UInt8), ws ≠ [] → joinW (ws ++ [x]) = joinW ws ++ 32 :: x
  | [], _, h => absurd rfl h
  | [w], x, _ => by rw [List.singleton_append, joinW_cons2, joinW_one, joinW_one]
  | w :: y :: r, x, _ => by
    have := joinW_snoc (y :: r) x (by simp)
    rw [List.cons_append, List.cons_append, joinW_cons2, ← List.cons_append, this, joinW_cons2]
    simp
theorem joinW_ne {ws : List (List UInt8)} (h : ∀ x ∈ ws, isW x) (h0 : ws ≠ []) : joinW ws ≠ [] := by
  cases ws with
  | nil => exact absurd rfl h0
  | cons x t =>
    have hx := (h x (by simp)).1
    cases t with
    | nil => rw [joinW_one]; exact hx
    | cons y r => rw [joinW_cons2]; intro e; simp at e
theorem wordsF_append_blank (y : List UInt8) : ∀ (l cur : List UInt8), wordsF cur (l ++ 32 :: y) = wordsF cur l ++ wordsL y
  | [], cur => by
    rw [List.nil_append]
    unfold wordsF
    rw [if_pos rfl]
    split
    · rfl
    · rfl
  | c :: t, cur => by
    rw [List.cons_append, wordsF, wordsF]
    split
    · split
      · exact wordsF_append_blank y t []
      · rw [wordsF_append_blank y t [], List.cons_append]
    · exact wordsF_append_blank y t _
theorem wordsL_append_blank (l y : List UInt8) : wordsL (l ++ 32 :: y) = wordsL l ++ wordsL y := wordsF_append_blank y l []

/-! ### small letters -/
theorem u8_all (P : UInt8 → Bool) (h : ∀ n : Fin 256, P (UInt8.ofNat n) = true) (c : UInt8) : P c = true := by
  have := h ⟨c.toNat, UInt8.toNat_lt c⟩
  simpa using this
theorem smallB_blank (c : UInt8) : smallB c = 32 ↔ c = 32 := by
  have := u8_all (fun c => decide (smallB c = 32 ↔ c = 32)) (by decide +kernel) c
  simpa using this
theorem smallB_idem (c : UInt8) : smallB (smallB c) = smallB c := by
  have := u8_all (fun c => decide (smallB (smallB c) = smallB c)) (by decide +kernel) c
  simpa using this
theorem map_small_idem (l : List UInt8) : (l.map smallB).map smallB = l.map smallB := by
  rw [List.map_map]; exact List.map_congr_left fun c _ => smallB_idem c
theorem endVL_or (x : List UInt8) : endVL x = x ∨ ∃ p ∈ endLL, x = p.1 ∧ endVL x = p.2 := by
  unfold endVL
  cases h : endLL.find? (fun p => x == p.1) with
  | none => exact .inl rfl
  | some p => exact .inr ⟨p, List.mem_of_find?_eq_some h, by simpa using List.find?_some h, rfl⟩
theorem endLL_facts : ∀ p ∈ endLL, endVL p.2 = p.2 ∧ (p.2 ≠ [] ∧ ∀ c ∈ p.2, c ≠ 32) ∧ p.2.map smallB = p.2 ∧ endVL p.1 = p.2 := by decide +kernel
theorem endVL_idem (x : List UInt8) : endVL (endVL x) = endVL x := by
  rcases endVL_or x with h | ⟨p, hp, rfl, h⟩
  · rw [h, h]
  · rw [h]; exact (endLL_facts p hp).1
theorem endVL_isW {x : List UInt8} (hx : isW x) : isW (endVL x) := by
  rcases endVL_or x with h | ⟨p, hp, rfl, h⟩
  · rw [h]; exact hx
  · rw [h]; exact (endLL_facts p hp).2.1
theorem endVL_small {x : List UInt8} (hx : x.map smallB = x) : (endVL x).map smallB = endVL x := by
  rcases endVL_or x with h | ⟨p, hp, rfl, h⟩
  · rw [h]; exact hx
  · rw [h]; exact (endLL_facts p hp).2.2.1
theorem endLs_snoc (ws : List (List UInt8)) (x : List UInt8) (h : ws ≠ []) : endLs (ws ++ [x]) = ws ++ [endVL x] := by
  have h0 : 0 < ws.length := List.length_pos_iff.2 h
  unfold endLs
  rw [if_pos (by simp; omega), List.length_append, List.length_singleton, Nat.add_sub_cancel, List.set_append_right _ _ (Nat.le_refl _), Nat.sub_self, List.set_cons_zero, List.getD_eq_getElem?_getD, List.getElem?_append_right (Nat.le_refl _), Nat.sub_self]
  rfl
theorem endLs_cases (ws : List (List UInt8)) : (ws.length < 2 ∧ endLs ws = ws) ∨ ∃ us x, us ≠ [] ∧ ws = us ++ [x] ∧ endLs ws = us ++ [endVL x] := by
  by_cases h : 2 ≤ ws.length
  · right
    have h0 : ws ≠ [] := by rintro rfl; simp at h
    refine ⟨ws.dropLast, ws.getLast h0, ?_, (List.dropLast_concat_getLast h0).symm, ?_⟩
    · intro e; have := congrArg List.length e; rw [List.length_dropLast] at this; simp at this; omega
    · have e := (List.dropLast_concat_getLast h0).symm
      conv => lhs; rw [e]
      rw [endLs_snoc]
      intro e; have := congrArg List.length e; rw [List.length_dropLast] at this; simp at this; omega
  · left; refine ⟨by omega, ?_⟩; unfold endLs; rw [if_neg h]
theorem endLs_isW {ws : List (List UInt8)} (h : ∀ x ∈ ws, isW x) : ∀ x ∈ endLs ws, isW x := by
  rcases endLs_cases ws with ⟨_, e⟩ | ⟨us, x, h0, rfl, e⟩
  · rw [e]; exact h
  · rw [e]
    intro y hy
    rcases List.mem_append.1 hy with hy | hy
    · exact h y (by simp [hy])
    · obtain rfl := List.mem_singleton.1 hy; exact endVL_isW (h x (by simp))
theorem endLs_small {ws : List (List UInt8)} (h : ∀ x ∈ ws, x.map smallB = x) : ∀ x ∈ endLs ws, x.map smallB = x := by
  rcases endLs_cases ws with ⟨_, e⟩ | ⟨us, x, h0, rfl, e⟩
  · rw [e]; exact h
  · rw [e]
    intro y hy
    rcases List.mem_append.1 hy with hy | hy
    · exact h y (by simp [hy])
    · obtain rfl := List.mem_singleton.1 hy; exact endVL_small (h x (by simp))
theorem endLs_idem (ws : List (List UInt8)) : endLs (endLs ws) = endLs ws := by
  rcases endLs_cases ws with ⟨_, e⟩ | ⟨us, x, h0, rfl, e⟩
  · rw [e, e]
  · rw [e, endLs_snoc _ _ h0, endVL_idem]
theorem map_id_of {ws : List (List UInt8)} (h : ∀ x ∈ ws, x.map smallB = x) : ws.map (List.map smallB) = ws := by
  have := List.map_congr_left (f := List.map smallB) (g := id) (l := ws) fun x hx => h x hx
  rw [this, List.map_id]
theorem words_small (l : List UInt8) : ∀ x ∈ wordsL (l.map smallB), x.map smallB = x := by
  rw [wordsL_map _ smallB_blank]
  intro x hx
  obtain ⟨y, _, rfl⟩ := List.mem_map.1 hx
  exact map_small_idem y
theorem foldL_words (l : List UInt8) : wordsL ((foldL l).map smallB) = endLs (wordsL (l.map smallB)) := by
  rw [wordsL_map _ smallB_blank]
  unfold foldL
  rw [words_join _ (endLs_isW (wordsL_isW _)), map_id_of (endLs_small (words_small l))]
theorem foldL_idem (l : List UInt8) : foldL (foldL l) = foldL l := by
  rw [foldL, foldL_words, endLs_idem]; rfl
theorem foldL_of_words {l m : List UInt8} (h : wordsL (l.map smallB) = wordsL (m.map smallB)) : foldL l = foldL m := by unfold foldL; rw [h]
/-- The text has no bytes but blanks. -/
def blankL (l : List UInt8) : Bool := l.all (· == 32)
theorem wordsF_nil : ∀ (l cur : List UInt8), wordsF cur l = [] ↔ cur = [] ∧ blankL l = true
  | [], cur => by
    unfold wordsF
    split
    · rename_i h; simp [h, blankL]
    · rename_i h; simp [h]
  | c :: t, cur => by
    unfold wordsF
    split
    · rename_i hc
      split
      · rename_i h; rw [wordsF_nil t []]; simp [h, blankL, hc]
      · rename_i h; simp [h]
    · rename_i hc
      rw [wordsF_nil t]
      simp [blankL, hc]
theorem wordsL_nil (l : List UInt8) : wordsL l = [] ↔ blankL l = true := by unfold wordsL; rw [wordsF_nil]; simp
theorem blank_map_small (l : List UInt8) : blankL (l.map smallB) = blankL l := by
  unfold blankL
  rw [List.all_map]
  congr 1
  funext c
  rw [Bool.eq_iff_iff]
  simp only [Function.comp, beq_iff_eq]
  exact smallB_blank c
theorem endLs_nil (ws : List (List UInt8)) : endLs ws = [] ↔ ws = [] := by
  rcases endLs_cases ws with ⟨_, e⟩ | ⟨us, x, h0, rfl, e⟩
  · rw [e]
  · rw [e]; simp
theorem foldL_nil (l : List UInt8) : foldL l = [] ↔ blankL l = true := by
  rw [← blank_map_small, ← wordsL_nil, ← endLs_nil]
  constructor
  · intro h
    by_cases h0 : endLs (wordsL (l.map smallB)) = []
    · exact h0
    · exact absurd h (joinW_ne (endLs_isW (wordsL_isW _)) h0)
  · intro h; unfold foldL; rw [h]; rfl
/-- With a further word behind it. -/
theorem foldL_word (l x : List UInt8) (h : blankL l = false) (hx : isW x) (hs : x.map smallB = x) : foldL (l ++ 32 :: x) = joinW (wordsL (l.map smallB)) ++ 32 :: endVL x ∧ joinW (wordsL (l.map smallB)) ≠ [] := by
  have h0 : wordsL (l.map smallB) ≠ [] := by
    intro e
    rw [wordsL_nil, blank_map_small] at e
    rw [e] at h; cases h
  refine ⟨?_, joinW_ne (wordsL_isW _) h0⟩
  unfold foldL
  rw [List.map_append, List.map_cons, show smallB 32 = 32 by decide, wordsL_append_blank, hs, wordsL_word hx, endLs_snoc _ _ h0, joinW_snoc _ _ h0]
end Go.Proofs.Ytkbdkkllfaljlaa
