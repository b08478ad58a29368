/- Plain: the words of a text. -/
import Derived.Test.YtkbdkkllfaljlaaBase
import Derived.Lib.FieldsP
import Derived.Lib.TrimUEq
import Derived.Lib.Join
set_option linter.unusedVariables false
set_option linter.unusedSimpArgs false
namespace Go.Proofs.Ytkbdkkllfaljlaa
open Go.RowKit Go.Lib

/-- The words of a text that begins with a piece of a word. -/
def wordsF : List UInt8 → List UInt8 → List (List UInt8)
  | cur, [] => if cur = [] then [] else [cur]
  | cur, c :: t => if c = 32 then (if cur = [] then wordsF [] t else cur :: wordsF [] t) else wordsF (cur ++ [c]) t
def wordsL (l : List UInt8) : List (List UInt8) := wordsF [] l
theorem wordsF_run : ∀ (x cur t : List UInt8), (∀ c ∈ x, c ≠ 32) → wordsF cur (x ++ t) = wordsF (cur ++ x) t
  | [], cur, t, _ => by simp
  | c :: x, cur, t, h => by
    rw [List.cons_append, wordsF, if_neg (h c (by simp)), wordsF_run x _ t (fun d hd => h d (by simp [hd]))]
    simp
theorem decodeN_blank (n b0 b1 b2 b3 : Nat) (hn : 1 ≤ n) (h0 : b0 ≠ 32) : (decodeN n b0 b1 b2 b3).1 ≠ 32 ∧ (decodeN n b0 b1 b2 b3).2 ≤ n ∧ 1 ≤ (decodeN n b0 b1 b2 b3).2 ∧ (decodeN n b0 b1 b2 b3).2 ≤ 4 ∧
    (2 ≤ (decodeN n b0 b1 b2 b3).2 → b1 ≠ 32) ∧ (3 ≤ (decodeN n b0 b1 b2 b3).2 → b2 ≠ 32) ∧ (4 ≤ (decodeN n b0 b1 b2 b3).2 → b3 ≠ 32) := by
  unfold decodeN
  repeat' split
  all_goals (simp only; omega)
theorem byte_at (l : List UInt8) (i : Nat) (h : i < l.length) : l.getD i 0 = l[i] := by
  rw [List.getD_eq_getElem?_getD, List.getElem?_eq_getElem h]; rfl
theorem drop_split (l : List UInt8) (p w : Nat) : l.drop p = (l.drop p).take w ++ l.drop (p + w) := by
  rw [← List.drop_drop, List.take_append_drop]
/-- From a place on, up to another. -/
def pieceL (l : List UInt8) (a b : Nat) : List UInt8 := (l.drop a).take (b - a)
theorem pieceL_more (l : List UInt8) (a p w : Nat) (h : a ≤ p) : pieceL l a p ++ (l.drop p).take w = pieceL l a (p + w) := by
  unfold pieceL
  have : l.drop p = (l.drop a).drop (p - a) := by rw [List.drop_drop]; congr 1; omega
  rw [this, show p + w - a = (p - a) + w by omega, List.take_add]
theorem spans_words (s : ByteArray) : ∀ (f pos : Nat) (st : Option Nat) (acc : List (Nat × Nat)), s.data.toList.length - pos ≤ f → pos ≤ s.data.toList.length → (∀ a, st = some a → a < pos) →
    acc.map (fun x => pieceL s.data.toList x.1 x.2) ++ wordsF (match st with | some a => pieceL s.data.toList a pos | none => []) (s.data.toList.drop pos) = (closeSpans s (spansFromP (fun x => x == 32) s f pos st acc)).map (fun x => pieceL s.data.toList x.1 x.2) := by
  have hsz : s.data.toList.length = s.size := by simp
  have hend : ∀ (pos : Nat) (st : Option Nat) (acc : List (Nat × Nat)), pos = s.size → (∀ a, st = some a → a < pos) → acc.map (fun x => pieceL s.data.toList x.1 x.2) ++ wordsF (match st with | some a => pieceL s.data.toList a pos | none => []) (s.data.toList.drop pos) = (closeSpans s (acc, st)).map (fun x => pieceL s.data.toList x.1 x.2) := by
    intro pos st acc hp hst
    rw [List.drop_of_length_le (by omega)]
    cases st with
    | none => simp [wordsF, closeSpans]
    | some a =>
      have h1 := hst a rfl
      have h2 : pieceL s.data.toList a pos ≠ [] := by
        intro h0
        have := congrArg List.length h0
        simp only [pieceL, List.length_take, List.length_drop, List.length_nil] at this
        omega
      simp [wordsF, closeSpans, h2, hp]
      rw [← hp]; exact h2
  intro f
  induction f with
  | zero => intro pos st acc h1 h2 h3; rw [spansFromP]; exact hend pos st acc (by omega) h3
  | succ f ih =>
    intro pos st acc h1 h2 h3
    by_cases hlt : pos < s.size
    · have hpl : pos < s.data.toList.length := by omega
      unfold spansFromP
      rw [if_pos hlt]
      by_cases hb : s.data.toList[pos] = 32
      · have hd : Utf8.decode s pos = (32, 1) := by
          have h8 : (s[pos]'hlt) = 32 := by rw [← hb]; simp; rfl
          rw [decode_ascii s pos hlt (by rw [h8]; decide), h8]; rfl
        rw [hd]
        have hdr : s.data.toList.drop pos = 32 :: s.data.toList.drop (pos + 1) := by rw [List.drop_eq_getElem_cons hpl, hb]
        cases st with
        | none =>
          simp only [beq_self_eq_true, if_true]
          rw [← ih (pos + 1) none acc (by omega) (by omega) (fun a h => by cases h), hdr]
          simp [wordsF]
        | some a =>
          have h4 := h3 a rfl
          have h5 : pieceL s.data.toList a pos ≠ [] := by
            intro h0
            have := congrArg List.length h0
            simp only [pieceL, List.length_take, List.length_drop, List.length_nil] at this
            omega
          simp only [beq_self_eq_true, if_true]
          rw [← ih (pos + 1) none (acc ++ [(a, pos)]) (by omega) (by omega) (fun a h => by cases h), hdr]
          simp [wordsF, h5]
      · have hN := decode_N s pos
        have hb2 : s.data.toList.getD pos 0 ≠ 32 := by rw [byte_at _ _ hpl]; exact hb
        have hne : ∀ c : UInt8, c.toNat ≠ 32 → c ≠ 32 := fun c h e => h (by rw [e]; rfl)
        have hne2 : ∀ c : UInt8, c ≠ 32 → c.toNat ≠ 32 := fun c h e => h (UInt8.toNat_inj.1 e)
        have hB := decodeN_blank (s.data.toList.length - pos) (s.data.toList.getD pos 0).toNat (s.data.toList.getD (pos + 1) 0).toNat (s.data.toList.getD (pos + 2) 0).toNat (s.data.toList.getD (pos + 3) 0).toNat (by omega) (hne2 _ hb2)
        rw [← hN] at hB
        obtain ⟨r, wd, hrw⟩ : ∃ r wd, Utf8.decode s pos = (r, wd) := ⟨_, _, rfl⟩
        simp only [hrw] at hB ⊢
        obtain ⟨b1, b2, b3, b4, b5, b6, b7⟩ := hB
        have hr : (r == 32) = false := by simpa using b1
        simp only [hr, Bool.false_eq_true, if_false]
        have hrun : ∀ c ∈ (s.data.toList.drop pos).take wd, c ≠ 32 := by
          intro c hc
          obtain ⟨i, hi, rfl⟩ := List.getElem_of_mem hc
          simp only [List.length_take, List.length_drop] at hi
          rw [List.getElem_take, List.getElem_drop]
          rw [← byte_at _ _ (by omega)]
          rcases (by omega : i = 0 ∨ i = 1 ∨ i = 2 ∨ i = 3) with rfl | rfl | rfl | rfl
          · exact hb2
          · exact hne _ (b5 (by omega))
          · exact hne _ (b6 (by omega))
          · exact hne _ (b7 (by omega))
        cases st with
        | none =>
          simp only
          rw [← ih (pos + wd) (some pos) acc (by omega) (by omega) (fun a h => by injection h with h; omega), drop_split s.data.toList pos wd, wordsF_run _ _ _ hrun]
          have : pieceL s.data.toList pos (pos + wd) = (s.data.toList.drop pos).take wd := by unfold pieceL; rw [Nat.add_sub_cancel_left]
          simp only [this, List.nil_append]
        | some a =>
          have h4 := h3 a rfl
          simp only
          rw [← ih (pos + wd) (some a) acc (by omega) (by omega) (fun a' h => by injection h with h; omega), drop_split s.data.toList pos wd, wordsF_run _ _ _ hrun, pieceL_more _ _ _ _ (by omega)]
    · rw [spansFromP_end _ _ _ _ _ _ hlt]
      exact hend pos st acc (by omega) h3
/-- The words of a text, as the library gives them. -/
def wordsB (s : ByteArray) : List ByteArray := Lib.goFieldsP (fun x => x == 32) s
theorem wordsB_eq (s : ByteArray) : (wordsB s).map (·.data.toList) = wordsL s.data.toList := by
  have h := spans_words s s.size 0 none [] (by simp) (Nat.zero_le _) (fun a h => by cases h)
  simp only [List.map_nil, List.nil_append, List.drop_zero] at h
  unfold wordsL
  rw [h]
  unfold wordsB goFieldsP spansOfP
  rw [List.map_map]
  apply List.map_congr_left
  intro x _
  simp [pieceL]
theorem wordsF_size : ∀ (l cur : List UInt8), (wordsF cur l).flatten.length + (wordsF cur l).length ≤ cur.length + l.length + 1 ∧ ∀ w ∈ wordsF cur l, w ≠ []
  | [], cur => by
    unfold wordsF
    split
    · simp
    · rename_i h; simp [h]
  | c :: t, cur => by
    unfold wordsF
    split
    · split
      · have := wordsF_size t []
        refine ⟨by have := this.1; simp at this ⊢; omega, this.2⟩
      · rename_i h
        have := wordsF_size t []
        refine ⟨by have := this.1; simp at this ⊢; omega, fun w hw => ?_⟩
        rcases List.mem_cons.1 hw with rfl | hw
        · exact h
        · exact this.2 w hw
    · have := wordsF_size t (cur ++ [c])
      refine ⟨by have := this.1; simp at this ⊢; omega, this.2⟩
end Go.Proofs.Ytkbdkkllfaljlaa
