/- Plain: candidates. -/
import Derived.Test.YtkbdkkllfaljlaaC8
set_option linter.unusedVariables false
set_option linter.unusedSimpArgs false
namespace Go.Proofs.Ytkbdkkllfaljlaa
open Go.RowKit Go.Sort

theorem mem_one {a : Av} {most : Int} {i : Nat} {s : Sv} {x : Cnd} : x ∈ one a most i s ↔ x.i = i ∧ x.num = wrap64 (a.number - s.shift) ∧ costP s a = some x.cost ∧ fits s a = true ∧ x.cost ≤ most := by
  unfold one
  cases h : costP s a with
  | none => simp
  | some n =>
    simp only
    by_cases hc : (fits s a && decide (n ≤ most)) = true
    · rw [if_pos hc]
      simp only [Bool.and_eq_true, decide_eq_true_eq] at hc
      constructor
      · intro hx
        obtain rfl := List.mem_singleton.1 hx
        exact ⟨rfl, rfl, rfl, hc.1, hc.2⟩
      · rintro ⟨h1, h2, h3, h4, h5⟩
        injection h3 with h3
        obtain ⟨xi, xn, xc⟩ := x
        simp only at h1 h2 h3
        subst h1; subst h2; subst h3
        simp
    · rw [if_neg hc]
      constructor
      · intro hx; simp at hx
      · rintro ⟨h1, h2, h3, h4, h5⟩
        injection h3 with h3
        exact absurd (by rw [h4, h3, decide_eq_true h5]; rfl) hc
theorem found_cons (a : Av) (most : Int) (i : Nat) (s : Sv) (t : List Sv) : found a most i (s :: t) = one a most i s ++ found a most (i + 1) t := rfl
theorem mem_found {a : Av} {most : Int} {x : Cnd} : ∀ {l : List Sv} {k : Nat}, x ∈ found a most k l ↔ ∃ i s, l[i]? = some s ∧ x ∈ one a most (k + i) s
  | [], k => by simp [found]
  | s :: t, k => by
    rw [found_cons, List.mem_append, mem_found]
    constructor
    · rintro (h | ⟨i, u, h1, h2⟩)
      · exact ⟨0, s, rfl, h⟩
      · exact ⟨i + 1, u, by simpa using h1, by rw [show k + (i + 1) = k + 1 + i by omega]; exact h2⟩
    · rintro ⟨i, u, h1, h2⟩
      rcases i with _ | i
      · injection h1 with h1; subst h1; exact .inl h2
      · exact .inr ⟨i, u, by simpa using h1, by rw [show k + 1 + i = k + (i + 1) by omega]; exact h2⟩
theorem found_append (a : Av) (most : Int) : ∀ (l m : List Sv) (k : Nat), found a most k (l ++ m) = found a most k l ++ found a most (k + l.length) m
  | [], m, k => by simp [found]
  | s :: t, m, k => by
    rw [List.cons_append, found_cons, found_cons, found_append a most t m (k + 1), List.append_assoc, List.length_cons, show k + 1 + t.length = k + (t.length + 1) by omega]
theorem one_filter (a : Av) (lo hi : Int) (h : lo ≤ hi) (i : Nat) (s : Sv) : (one a hi i s).filter (fun x => decide (x.cost ≤ lo)) = one a lo i s := by
  unfold one
  cases costP s a with
  | none => rfl
  | some n =>
    simp only
    by_cases h1 : n ≤ lo
    · have h2 : n ≤ hi := Int.le_trans h1 h
      cases fits s a <;> simp [h1, h2]
    · cases fits s a <;> by_cases h2 : n ≤ hi <;> simp [h1, h2]
theorem found_filter (a : Av) (lo hi : Int) (h : lo ≤ hi) : ∀ (l : List Sv) (k : Nat), (found a hi k l).filter (fun x => decide (x.cost ≤ lo)) = found a lo k l
  | [], k => rfl
  | s :: t, k => by rw [found_cons, found_cons, List.filter_append, one_filter a lo hi h, found_filter a lo hi h t (k + 1)]
/-- Two lists in the same order with the same candidates are the same. -/
theorem srt_eq {l m : List Cnd} (hl : Srt Cnd.key Cnd.tag l) (hm : Srt Cnd.key Cnd.tag m) (hp : l.Perm m) : l = m :=
  hp.eq_of_pairwise (le := LtT Cnd.key Cnd.tag) (fun a b _ _ h1 h2 => absurd h2 h1.asymm) hl hm
theorem Srt.filter {l : List Cnd} (h : Srt Cnd.key Cnd.tag l) (p : Cnd → Bool) : Srt Cnd.key Cnd.tag (l.filter p) := List.Pairwise.filter p h
/-- What candidates hands back: in order, and the candidates of the streets. -/
def isCnds (a : Av) (most : Int) (l : List Sv) (M : List Cnd) : Prop := M.Perm (found a most 0 l) ∧ Srt Cnd.key Cnd.tag M
theorem isCnds.mem {a : Av} {most : Int} {l : List Sv} {M : List Cnd} (h : isCnds a most l M) (x : Cnd) : x ∈ M ↔ ∃ s, l[x.i]? = some s ∧ x.num = wrap64 (a.number - s.shift) ∧ costP s a = some x.cost ∧ fits s a = true ∧ x.cost ≤ most := by
  rw [h.1.mem_iff, mem_found]
  constructor
  · rintro ⟨i, s, h1, h2⟩
    obtain ⟨e, h3⟩ := mem_one.1 h2
    rw [Nat.zero_add] at e
    exact ⟨s, by rw [e]; exact h1, h3⟩
  · rintro ⟨s, h1, h2⟩
    exact ⟨x.i, s, h1, mem_one.2 ⟨by rw [Nat.zero_add], h2⟩⟩
theorem isCnds.low {a : Av} {lo hi : Int} {l : List Sv} {M N : List Cnd} (h : lo ≤ hi) (hM : isCnds a lo l M) (hN : isCnds a hi l N) : M = N.filter (fun x => decide (x.cost ≤ lo)) :=
  srt_eq hM.2 (Srt.filter hN.2 _) (hM.1.trans (by rw [← found_filter a lo hi h l 0]; exact (hN.1.filter _).symm))
theorem filter_split {N : List Cnd} (h : Srt Cnd.key Cnd.tag N) (lo : Int) : N = N.filter (fun x => decide (x.cost ≤ lo)) ++ N.filter (fun x => !decide (x.cost ≤ lo)) := by
  induction N with
  | nil => rfl
  | cons x t ih =>
    have h2 := List.pairwise_cons.1 h
    by_cases hx : x.cost ≤ lo
    · have := ih h2.2
      simp only [List.filter_cons, hx, decide_true, if_true, Bool.not_true, Bool.false_eq_true, if_false, List.cons_append]
      rw [← this]
    · have e : t.filter (fun x => decide (x.cost ≤ lo)) = [] := by
        rw [List.filter_eq_nil_iff]
        intro y hy
        have := h2.1 y hy
        unfold LtT Cnd.key at this
        simp only [decide_eq_true_eq]; omega
      have e2 : t.filter (fun x => !decide (x.cost ≤ lo)) = t := by
        have := ih h2.2
        rw [e, List.nil_append] at this; exact this.symm
      simp only [List.filter_cons, hx, decide_false, Bool.false_eq_true, if_false, Bool.not_false, if_true, e, e2, List.nil_append]
theorem cost_range {s : Sv} {a : Av} {n : Int} (h : costP s a = some n) : 0 ≤ n ∧ n ≤ 1200 := by
  unfold costP at h
  split at h
  · cases h
  · split at h
    · cases h
    · rename_i h1 h2
      injection h with h
      simp only [Bool.not_eq_true, Bool.or_eq_false_iff, List.any_cons, List.any_nil, Bool.or_false] at h1
      have l1 := bdist_le (Nat.le_trans (foldB_size a.street) (longB_le h1.1.1)) (Nat.le_trans (foldB_size s.name) (longB_le h1.1.2))
      have g1 := leastL_ge 0 (s.al.map fun x => (bdist (foldB a.street) (foldB x) : Int)) (bdist (foldB a.street) (foldB s.name)) (by omega) (by intro y hy; obtain ⟨z, _, rfl⟩ := List.mem_map.1 hy; omega)
      have g2 := leastL_le (s.al.map fun x => (bdist (foldB a.street) (foldB x) : Int)) (bdist (foldB a.street) (foldB s.name))
      simp only [Bool.not_eq_true, Bool.or_eq_false_iff, Bool.and_eq_false_iff, List.any_cons, List.any_nil, Bool.or_false, Bool.not_eq_false'] at h2
      have g3 : (0 : Int) ≤ (if a.code.toList.isEmpty = true then 0 else (bdist a.code s.code : Int)) ∧ (if a.code.toList.isEmpty = true then 0 else (bdist a.code s.code : Int)) ≤ 400 := by
        by_cases hc : a.code.toList.isEmpty = true
        · rw [if_pos hc]; omega
        · rw [if_neg hc]
          rcases h2.1 with h3 | h3
          · exact absurd h3 hc
          · have := bdist_le (longB_le h3.1) (longB_le h3.2); omega
      have g4 : (0 : Int) ≤ (if a.town.toList.isEmpty = true then 0 else (bdist (foldB a.town) (foldB s.town) : Int)) ∧ (if a.town.toList.isEmpty = true then 0 else (bdist (foldB a.town) (foldB s.town) : Int)) ≤ 400 := by
        by_cases hc : a.town.toList.isEmpty = true
        · rw [if_pos hc]; omega
        · rw [if_neg hc]
          rcases h2.2 with h3 | h3
          · exact absurd h3 hc
          · have := bdist_le (Nat.le_trans (foldB_size a.town) (longB_le h3.1)) (Nat.le_trans (foldB_size s.town) (longB_le h3.2)); omega
      omega
theorem candS_c (p : Option Addr) (n cap : Nat) (l : List Sv) (a : Av) (most : Int) (w : World) (R) (hn : l.length = n) (hl : n ≤ 100000) (h : StsAt w p l) (hal' : ∀ s ∈ l, s.al.length ≤ 100000) (h0 : 0 ≤ most) (h6 : most ≤ 6)
    (hR : ∀ q c M w', Below w.heap.size w w' → CndsAt w' q M → M.length ≤ n → isCnds a most l M → R (.returned (.slice q M.length c)) w') :
    Calls Try.prog 19 #[.slice p n cap, .agg a.cells.toArray, .int .i64 most] w R := by
  refine candidates_c p n cap l a most w R hn hl h hal' (wf_i64.2 (by omega)) fun q c M w' hb ho _ h2 => ?_
  have h3 := h2 ⟨h0, h6⟩
  exact hR q c M w' hb (CndsAt.of_own ho) (by rw [h3.1.length_eq]; have := found_len a most l 0; omega) h3
theorem few_le {l : List Sv} (h : fewS l = true) : l.length ≤ 12 ∧ ∀ s ∈ l, s.al.length ≤ 100000 ∧ okS s = true := by
  unfold fewS at h
  rw [Bool.and_eq_true, decide_eq_true_eq, List.all_eq_true] at h
  exact ⟨h.1, fun s hs => ⟨by have := (okS_iff s).1 (h.2 s hs); omega, h.2 s hs⟩⟩
end Go.Proofs.Ytkbdkkllfaljlaa
