/- ScannerClocks: a record stays true if its time is moved by no more than its scanner's error, and every true record stays true if a scanner's error is declared greater. Conditions: those that the law tests itself (scanners and tracks well-formed and few: at most 8 tracks); at any other input the law asks its fixed examples alone. Parts of this text: Plain: slips that change nothing. Plain: the records' numbers, times and scanners; each arrival has a record. Plain: wider errors, a further track, and false deliveries. ScannerClocks. -/
import Derived.Test.YtihdpkeclmpehaaA7
import Derived.Test.YtihdpkeclmpehaaA17
import Derived.Test.YtihdpkeclmpehaaA22
import Derived.Test.YtihdpkeclmpehaaA23
set_option linter.unusedVariables false
set_option linter.unusedSimpArgs false
namespace Go.Proofs.Ytihdpkeclmpehaa

theorem sortK_id {α : Type} (key : α → Int) : ∀ l : List α, l.Pairwise (fun a b => key a ≤ key b) → sortK key l = l
  | [], _ => rfl
  | x :: l, h => by
    obtain ⟨h1, h2⟩ := List.pairwise_cons.1 h
    rw [sortK, sortK_id key l h2]
    cases l with
    | nil => rfl
    | cons y l => rw [insK, if_pos (h1 y (by simp))]
theorem startP_sorted (rs : List RP) : (startP rs).Pairwise (fun a b => a.number ≤ b.number) := by
  unfold startP
  rw [List.pairwise_map]
  have : ∀ (l : List RP) (k : Nat), (l.zipIdx k).Pairwise (fun a b => ((a.2 : Nat) : Int) ≤ ((b.2 : Nat) : Int)) := by
    intro l
    induction l with
    | nil => intro k; exact List.Pairwise.nil
    | cons x t ih =>
      intro k
      rw [List.zipIdx_cons, List.pairwise_cons]
      refine ⟨fun b hb => ?_, ih (k + 1)⟩
      have := (List.mem_zipIdx hb).1
      show ((k : Nat) : Int) ≤ ((b.2 : Nat) : Int)
      omega
  exact this rs 0
theorem startP_out (rs : List RP) : (startP rs).flatMap outP = rs := by
  unfold startP
  rw [List.flatMap_map]
  have : ∀ (l : List RP) (k : Nat), (l.zipIdx k).flatMap (fun x => outP ⟨x.1, ((x.2 : Nat) : Int), 1, false⟩) = l := by
    intro l
    induction l with
    | nil => intro k; rfl
    | cons x t ih =>
      intro k
      rw [List.zipIdx_cons, List.flatMap_cons, ih (k + 1)]
      rfl
  exact this rs 0
/-- A slip that is passed over. -/
def overP (n : Nat) (s : SP) : Prop := s.kind < 1 ∨ 6 < s.kind ∨ (s.kind ≠ 3 ∧ (s.index < 0 ∨ (n : Int) ≤ s.index))
theorem step_over {x : List DP × List DP} {s : SP} (h : overP x.1.length s) : stepP x s = x := by
  have h3 : ¬ s.kind = 3 := by rcases h with h | h | h <;> first | omega | exact h.1
  unfold stepP
  rw [if_neg h3]
  by_cases hc : cntP x.1.length s
  · rw [if_pos hc]
    have hid : ∀ d, chgP s d = d := by
      intro d
      rcases h with h | h | ⟨_, h⟩
      · unfold chgP; rw [if_neg (by omega), if_neg (by omega), if_neg (by omega), if_neg (by omega), if_neg (by omega)]
      · unfold chgP; rw [if_neg (by omega), if_neg (by omega), if_neg (by omega), if_neg (by omega), if_neg (by omega)]
      · obtain ⟨c1, c2, _⟩ := hc
        omega
    have : x.1.modify s.index.toNat (chgP s) = x.1 := by
      rw [show chgP s = id from funext hid]
      exact List.modify_id _ _
    rw [this]
  · rw [if_neg hc]
theorem steps_over : ∀ (ss : List SP) (x : List DP × List DP), (∀ s ∈ ss, overP x.1.length s) → ss.foldl stepP x = x
  | [], _, _ => rfl
  | s :: ss, x, h => by
    rw [List.foldl_cons, step_over (h s (by simp))]
    exact steps_over ss x (fun t ht => h t (List.mem_cons_of_mem _ ht))
theorem startP_length (rs : List RP) : (startP rs).length = rs.length := by simp [startP]
/-- Without slips that count the records are delivered as they are. -/
theorem deliver_over {l : List Scn} {ts : List Tk} {ss : List SP} (h : ∀ s ∈ ss, overP (recordsP l ts).length s) : deliverP l ts ss = recordsP l ts := by
  unfold deliverP slipP
  rw [steps_over ss _ (fun s hs => by rw [startP_length]; exact h s hs), List.append_nil, sortK_id _ _ (startP_sorted _), startP_out]
end Go.Proofs.Ytihdpkeclmpehaa

namespace Go.Proofs.Ytihdpkeclmpehaa

theorem numberP_at : ∀ (l seen : List RP) (i : Nat) (q : RP), l[i]? = some q → (numberP seen l)[i]? = some { q with number := (((seen ++ l.take i).filter fun x => decide (x.scanner = q.scanner)).length : Nat) }
  | [], _, _, _, h => by simp at h
  | x :: l, seen, 0, q, h => by
    simp at h; subst h
    rw [numberP]; simp
  | x :: l, seen, i + 1, q, h => by
    have := numberP_at l (seen ++ [x]) i q (by simpa using h)
    rw [numberP, List.getElem?_cons_succ, this, List.take_succ_cons, List.append_assoc, List.singleton_append]
theorem numberP_map {β : Type} (f : RP → β) (hf : ∀ (q : RP) (n : Int), f { q with number := n } = f q) : ∀ (l seen : List RP), (numberP seen l).map f = l.map f
  | [], _ => rfl
  | x :: l, seen => by rw [numberP, List.map_cons, List.map_cons, hf, numberP_map f hf l]
def cntS (l : List RP) (s : Int) : Nat := (l.filter fun x => decide (x.scanner = s)).length
theorem cntS_map : ∀ (l k : List RP) (s : Int), l.map RP.scanner = k.map RP.scanner → cntS l s = cntS k s
  | [], [], _, _ => rfl
  | [], y :: k, _, h => by simp at h
  | x :: l, [], _, h => by simp at h
  | x :: l, y :: k, s, h => by
    rw [List.map_cons, List.map_cons] at h
    injection h with h1 h2
    have := cntS_map l k s h2
    unfold cntS at this ⊢
    rw [List.filter_cons, List.filter_cons, h1]
    split <;> simp [this]
/-- A record's number: how many of its scanner lie before it. -/
theorem rec_number {l : List Scn} {ts : List Tk} {i : Nat} {r : RP} (h : (recordsP l ts)[i]? = some r) : r.number = (cntS ((recordsP l ts).take i) r.scanner : Int) := by
  unfold recordsP at h ⊢
  obtain ⟨S, hS⟩ : ∃ S, sortK RP.time ((obsP ts).filterMap (noteP l)) = S := ⟨_, rfl⟩
  rw [hS] at h ⊢
  have hi := (List.getElem?_eq_some_iff.1 h).1
  rw [numberP_len] at hi
  have h2 := numberP_at S [] i S[i] (List.getElem?_eq_getElem hi)
  rw [h] at h2
  injection h2 with h2
  rw [h2]
  show ((cntS ([] ++ S.take i) _ : Nat) : Int) = _
  rw [List.nil_append, cntS_map (S.take i) ((numberP [] S).take i) _ (by rw [List.map_take, List.map_take, numberP_map RP.scanner (fun _ _ => rfl)])]
theorem insK_mem {α : Type} (key : α → Int) (x : α) (l : List α) : ∀ y ∈ insK key x l, y = x ∨ y ∈ l := by
  induction l with
  | nil => intro y hy; exact .inl (List.mem_singleton.1 hy)
  | cons z l ih =>
    intro y hy
    rw [insK] at hy
    split at hy
    · rcases List.mem_cons.1 hy with h | h
      · exact .inl h
      · exact .inr h
    · rcases List.mem_cons.1 hy with h | h
      · exact .inr (by simp [h])
      · rcases ih y h with h | h
        · exact .inl h
        · exact .inr (List.mem_cons_of_mem _ h)
theorem insK_pw {α : Type} (key : α → Int) (x : α) : ∀ l : List α, l.Pairwise (fun a b => key a ≤ key b) → (insK key x l).Pairwise (fun a b => key a ≤ key b)
  | [], _ => by rw [insK]; exact List.pairwise_singleton _ _
  | y :: l, h => by
    obtain ⟨h1, h2⟩ := List.pairwise_cons.1 h
    rw [insK]
    split
    · rename_i hxy
      exact List.pairwise_cons.2 ⟨fun z hz => by rcases List.mem_cons.1 hz with e | e; · rw [e]; exact hxy
                                                 · exact Int.le_trans hxy (h1 z e), h⟩
    · rename_i hxy
      exact List.pairwise_cons.2 ⟨fun z hz => by rcases insK_mem key x l z hz with e | e; · rw [e]; omega
                                                 · exact h1 z e, insK_pw key x l h2⟩
theorem sortK_pw {α : Type} (key : α → Int) : ∀ l : List α, (sortK key l).Pairwise (fun a b => key a ≤ key b)
  | [] => List.Pairwise.nil
  | x :: l => insK_pw key x _ (sortK_pw key l)
/-- The records' times do not decrease. -/
theorem rec_sorted (l : List Scn) (ts : List Tk) : (recordsP l ts).Pairwise (fun a b => a.time ≤ b.time) := by
  have h := sortK_pw RP.time ((obsP ts).filterMap (noteP l))
  have h2 : ((recordsP l ts).map RP.time).Pairwise (· ≤ ·) := by
    unfold recordsP
    rw [numberP_map RP.time (fun _ _ => rfl), List.pairwise_map]
    exact h
  rwa [List.pairwise_map] at h2
theorem rec_scan {l : List Scn} {ts : List Tk} {r : RP} (h : r ∈ recordsP l ts) : ∃ (i : Nat) (c : Scn), r.scanner = (i : Int) ∧ l[i]? = some c ∧ scanP l c.office = some i := by
  obtain ⟨o, ho, i, hsc, _, e1, _⟩ := rec_obs h
  obtain ⟨c, hc, hoff⟩ := scanP_some hsc
  exact ⟨i, c, e1, hc, by rw [hoff]; exact hsc⟩
theorem numberP_of {l : List RP} {seen : List RP} {q : RP} (h : q ∈ l) : ∃ n : Int, { q with number := n } ∈ numberP seen l := by
  obtain ⟨i, hi⟩ := List.getElem?_of_mem h
  exact ⟨_, List.mem_of_getElem? (numberP_at l seen i q hi)⟩
/-- An observation that counts has a record. -/
theorem obs_rec {l : List Scn} {ts : List Tk} {o : Ob} (ho : o ∈ obsP ts) {i : Nat} (hs : scanP l o.office = some i) (ht : o.time ≤ 1000000) : ∃ n : Int, (⟨i, n, o.kind, o.time, o.label, o.contents⟩ : RP) ∈ recordsP l ts := by
  have hn : noteP l o = some ⟨i, 0, o.kind, o.time, o.label, o.contents⟩ := by
    unfold noteP
    rw [hs]
    show (if 1000000 < o.time then none else some _) = _
    rw [if_neg (by omega)]
  have hm : (⟨i, 0, o.kind, o.time, o.label, o.contents⟩ : RP) ∈ sortK RP.time ((obsP ts).filterMap (noteP l)) := (sortK_perm _ _).mem_iff.2 (List.mem_filterMap.2 ⟨o, ho, hn⟩)
  obtain ⟨n, h⟩ := numberP_of (seen := []) hm
  exact ⟨n, h⟩
/-- Each arrival at an office with a scanner has a record. -/
theorem arrive_rec {l : List Scn} {ts : List Tk} {i j k : Nat} {t : Tk} {s : Stp} (ht : ts[i]? = some t) (hs : t.stops[j]? = some s) (hk : scanP l s.office = some k) (h6 : s.arrive ≤ 1000000) : ∃ n : Int, (⟨k, n, 1, s.arrive, labelP t s.arrive, []⟩ : RP) ∈ recordsP l ts :=
  obs_rec (o := ⟨s.office, 1, s.arrive, labelP t s.arrive, []⟩) (obs_mem ht hs (by unfold obsStop; exact List.mem_cons_self ..)) hk h6
end Go.Proofs.Ytihdpkeclmpehaa

namespace Go.Proofs.Ytihdpkeclmpehaa

theorem SeesP.mono {o a b a' b' : Int} {t : Tk} {s : ByteArray} (h : SeesP o a b t s) (ha : a' ≤ a) (hb : b ≤ b') : SeesP o a' b' t s := by
  obtain ⟨j, st, m, h1, h2, h3, h4, h5, h6, h7⟩ := h
  exact ⟨j, st, m, h1, h2, h3, by omega, by omega, h6, h7⟩
theorem HasP.mono {o a b a' b' x y : Int} (h : HasP o a b x y) (ha : a' ≤ a) (hb : b ≤ b') : HasP o a' b' x y := ⟨h.1, by have := h.2.1; omega, by have := h.2.2; omega⟩
/-- A true record stays true if errors are declared greater. -/
theorem true_wide {l l' : List Scn} {ts : List Tk} {r : RP} (h : TrueP l ts r) (hw : ∀ (i : Nat) (c : Scn), l[i]? = some c → ∃ c' : Scn, l'[i]? = some c' ∧ c'.office = c.office ∧ c.error ≤ c'.error) : TrueP l' ts r := by
  obtain ⟨h1, h2, h3, c, hc, h4⟩ := h
  obtain ⟨c', hc', ho, he⟩ := hw _ c hc
  refine ⟨h1, h2, h3, c', hc', ?_⟩
  rw [ho]
  rcases h4 with ⟨k, kc, h | ⟨a, b, hcp, h⟩⟩ | ⟨k, a, b, hcp, h, hcon⟩
  · obtain ⟨t, ht, hs⟩ := h
    exact .inl ⟨k, kc, .inl ⟨t, ht, hs.mono (by omega) (by omega)⟩⟩
  · refine .inl ⟨k, kc, .inr ⟨a, b, hcp, ?_⟩⟩
    rcases h with h | h
    · exact .inl (h.mono (by omega) (by omega))
    · exact .inr (h.mono (by omega) (by omega))
  · exact .inr ⟨k, a, b, hcp, h.mono (by omega) (by omega), hcon⟩
theorem firstP_more {ts : List Tk} {s : ByteArray} {p : Nat × Nat} (h : firstP ts s = some p) (us : List Tk) : firstP (ts ++ us) s = some p := by
  induction ts generalizing p with
  | nil => rw [firstP] at h; cases h
  | cons t ts ih =>
    rw [List.cons_append, firstP]
    rw [firstP] at h
    cases hf : t.seals.findIdx? (fun x => decide (x = s)) with
    | some j => rw [hf] at h; exact h
    | none =>
      rw [hf] at h
      simp only at h ⊢
      obtain ⟨q, hq, rfl⟩ := Option.map_eq_some_iff.1 h
      rw [ih hq]; rfl
theorem ContP.more {ts : List Tk} {s : ByteArray} {a b : Stp} (h : ContP ts s a b) (us : List Tk) : ContP (ts ++ us) s a b := by
  obtain ⟨i, j, t, h1, h2, h3, h4⟩ := h
  exact ⟨i, j, t, firstP_more h1 us, by rw [List.getElem?_append_left (List.getElem?_eq_some_iff.1 h2).1]; exact h2, h3, h4⟩
/-- A true scan stays true with further tracks. -/
theorem true_more {l : List Scn} {ts us : List Tk} {r : RP} (h : TrueP l ts r) (hk : r.kind = 1) : TrueP l (ts ++ us) r := by
  obtain ⟨h1, h2, h3, c, hc, h4⟩ := h
  refine ⟨h1, h2, h3, c, hc, ?_⟩
  rcases h4 with ⟨k, kc, h | ⟨a, b, hcp, h⟩⟩ | ⟨k, _⟩
  · obtain ⟨t, ht, hs⟩ := h
    exact .inl ⟨k, kc, .inl ⟨t, List.mem_append_left _ ht, hs⟩⟩
  · exact .inl ⟨k, kc, .inr ⟨a, b, hcp.more us, h⟩⟩
  · omega
/-- A recorded scan is recorded with further tracks. -/
theorem rec_more {l : List Scn} {ts us : List Tk} {r : RP} (h : r ∈ recordsP l ts) (hk : r.kind = 1) : ∃ q ∈ recordsP l (ts ++ us), q.kind = 1 ∧ q.scanner = r.scanner ∧ q.time = r.time ∧ q.label = r.label := by
  obtain ⟨o, ho, i, hsc, htm, e1, e2, e3, e4, e5⟩ := rec_obs h
  obtain ⟨k, t, j, s, ht, hs, hcs⟩ := obs_cases ho
  have ht' : (ts ++ us)[k]? = some t := by rw [List.getElem?_append_left (List.getElem?_eq_some_iff.1 ht).1]; exact ht
  have hmem : o ∈ obsP (ts ++ us) := by
    refine obs_mem ht' hs ?_
    unfold obsStop
    rcases hcs with rfl | ⟨e, n, he, hn, hf, rfl | rfl⟩
    · exact List.mem_cons_self ..
    · exact absurd (show (2 : Int) = 1 from e2.symm.trans hk) (by decide)
    · refine List.mem_cons_of_mem _ ?_
      rw [he]
      simp only
      rw [hn]
      simp only
      rw [if_pos (firstP_more hf us)]
      simp
  obtain ⟨n, hn⟩ := obs_rec (l := l) hmem hsc htm
  exact ⟨_, hn, by rw [← hk, e2], e1.symm, e3.symm, e4.symm⟩
def tellsB (s : SP) : Bool := decide (s.kind = 2 ∨ s.kind = 4 ∨ s.kind = 3)
/-- What is delivered is a record, or one of a few others. -/
theorem steps_told (rs : List RP) : ∀ (ss : List SP) (x : List DP × List DP) (T : List RP), (∀ d ∈ x.1 ++ x.2, d.r ∈ rs ∨ d.r ∈ T) → ∃ T' : List RP, T'.length ≤ T.length + (ss.filter tellsB).length ∧ ∀ d ∈ (ss.foldl stepP x).1 ++ (ss.foldl stepP x).2, d.r ∈ rs ∨ d.r ∈ T'
  | [], x, T, h => ⟨T, by simp, h⟩
  | s :: ss, x, T, h => by
    rw [List.foldl_cons]
    obtain ⟨T1, hT1, h1⟩ : ∃ T1 : List RP, T1.length ≤ T.length + (if tellsB s then 1 else 0) ∧ ∀ d ∈ (stepP x s).1 ++ (stepP x s).2, d.r ∈ rs ∨ d.r ∈ T1 := by
      unfold stepP
      by_cases h3 : s.kind = 3
      · rw [if_pos h3]
        refine ⟨T ++ [s.record], by simp [tellsB, h3], fun d hd => ?_⟩
        rw [← List.append_assoc] at hd
        rcases List.mem_append.1 hd with hd | hd
        · rcases h d hd with e | e
          · exact .inl e
          · exact .inr (List.mem_append_left _ e)
        · rw [List.mem_singleton.1 hd]; exact .inr (by simp)
      · rw [if_neg h3]
        by_cases hc : cntP x.1.length s
        · rw [if_pos hc]
          have hlt : s.index.toNat < x.1.length := by obtain ⟨a, b, _⟩ := hc; omega
          by_cases ht : s.kind = 2 ∨ s.kind = 4
          · refine ⟨T ++ [(chgP s x.1[s.index.toNat]).r], by rcases ht with h | h <;> simp [tellsB, h], fun d hd => ?_⟩
            rcases List.mem_append.1 hd with hd | hd
            · obtain ⟨j, hj⟩ := List.getElem?_of_mem hd
              rw [List.getElem?_modify] at hj
              by_cases hji : s.index.toNat = j
              · subst hji
                rw [List.getElem?_eq_getElem hlt] at hj
                simp at hj
                rw [← hj]; exact .inr (by simp)
              · simp [hji] at hj
                rcases h d (List.mem_append_left _ (List.mem_of_getElem? hj)) with e | e
                · exact .inl e
                · exact .inr (List.mem_append_left _ e)
            · rcases h d (List.mem_append_right _ hd) with e | e
              · exact .inl e
              · exact .inr (List.mem_append_left _ e)
          · refine ⟨T, by omega, fun d hd => ?_⟩
            have hr : ∀ d, (chgP s d).r = d.r := by
              intro d
              unfold chgP
              have n2 : ¬ s.kind = 2 := fun e => ht (.inl e)
              have n4 : ¬ s.kind = 4 := fun e => ht (.inr e)
              rw [if_neg n2, if_neg n4]
              split
              · rfl
              · split
                · rfl
                · split <;> rfl
            rcases List.mem_append.1 hd with hd | hd
            · obtain ⟨j, hj⟩ := List.getElem?_of_mem hd
              rw [List.getElem?_modify] at hj
              by_cases hji : s.index.toNat = j
              · subst hji
                rw [List.getElem?_eq_getElem hlt] at hj
                simp at hj
                rw [← hj, hr]
                exact h _ (List.mem_append_left _ (List.getElem_mem hlt))
              · simp [hji] at hj
                exact h d (List.mem_append_left _ (List.mem_of_getElem? hj))
            · exact h d (List.mem_append_right _ hd)
        · rw [if_neg hc]
          exact ⟨T, by omega, h⟩
    obtain ⟨T2, hT2, h2⟩ := steps_told rs ss (stepP x s) T1 h1
    refine ⟨T2, ?_, h2⟩
    rw [List.filter_cons]
    cases hs : tellsB s <;> simp [hs] at hT1 ⊢ <;> omega
/-- At most so many different delivered records are not true as slips misread, drift or invent. -/
theorem false_few {l : List Scn} {ts : List Tk} (hl : ScnsOk l) (hts : TksOk ts) (ss : List SP) : ∃ T : List RP, T.length ≤ (ss.filter tellsB).length ∧ ∀ r ∈ deliverP l ts ss, TrueP l ts r ∨ r ∈ T := by
  obtain ⟨T, hT, h⟩ := steps_told (recordsP l ts) ss (startP (recordsP l ts), []) [] (fun d hd => by
    rw [List.append_nil] at hd
    unfold startP at hd
    obtain ⟨x, hx, rfl⟩ := List.mem_map.1 hd
    exact .inl (List.fst_mem_of_mem_zipIdx hx))
  refine ⟨T, by simpa using hT, fun r hr => ?_⟩
  unfold deliverP at hr
  obtain ⟨d, hd, hr⟩ := List.mem_flatMap.1 hr
  have hd' := (sortK_perm _ _).mem_iff.1 hd
  have hrr : r = d.r := by
    unfold outP at hr
    split at hr
    · cases hr
    · exact List.eq_of_mem_replicate hr
  rcases h d hd' with e | e
  · left; rw [hrr]; exact rec_true hl hts e
  · right; rw [hrr]; exact e
end Go.Proofs.Ytihdpkeclmpehaa

namespace Go.Proofs.Ytihdpkeclmpehaa
open Go.ChangeShapes Go.WideShapes Go.ChangeAt Go.RowKit Go.Deep

theorem wf_u8 {n : Int} : (Lit.int .u8 n).wf = true ↔ 0 ≤ n ∧ n ≤ 255 := by
  simp [Lit.wf, show IntKind.min .u8 = 0 from rfl, show IntKind.max .u8 = 255 from rfl]
theorem wf_i16 {n : Int} : (Lit.int .i16 n).wf = true ↔ -32768 ≤ n ∧ n ≤ 32767 := by
  simp [Lit.wf, show IntKind.min .i16 = -32768 from rfl, show IntKind.max .i16 = 32767 from rfl]
theorem Src.enc {α : Type} {k : Nat} {enc : α → List Value} (hk : ∀ x, (enc x).length = k) (h0 : 0 < k) {w : World} {p : Option Addr} {l : List α} (h : EncAt k enc w p l) : Src w p l.length k (l.flatMap enc) := by
  refine ⟨flatMap_len hk l, fun hl => ?_⟩
  obtain ⟨b, o, rfl, hc⟩ := h hl
  refine ⟨_, rfl, fun j u hu => ?_⟩
  have hj : j < l.length * k := by rw [← flatMap_len hk l]; exact (List.getElem?_eq_some_iff.1 hu).1
  have hi : j / k < l.length := by rw [Nat.div_lt_iff_lt_mul h0]; exact hj
  have hr : j % k < k := Nat.mod_lt _ h0
  have e : j / k * k + j % k = j := Nat.div_add_mod' j k
  have hx : l[j / k]? = some l[j / k] := List.getElem?_eq_getElem hi
  have h1 := flatMap_at hk l (j / k) (j % k) _ hx hr
  rw [e] at h1
  rw [h1] at hu
  have := hc (j / k) _ hx (j % k) u hu
  rw [Addr.add_lit]
  rw [show o + j = o + j / k * k + j % k by omega]
  exact this
theorem scn_one (l : List Scn) : ∀ u ∈ l.flatMap Scn.cells, u.oneCell' = true := by
  intro u hu
  obtain ⟨x, _, hx⟩ := List.mem_flatMap.1 hu
  simp only [Scn.cells, List.mem_cons, List.not_mem_nil, or_false] at hx
  rcases hx with rfl | rfl | rfl <;> rfl
theorem Try.info35 : (Try.prog.info? 35).map (fun i => (i.zero, i.size, i.bytes)) = some (some (.agg #[.int .i64 0, .int .i64 0, .int .i64 0]), 3, 24) := by kernel_rfl
theorem tmod_nat {x : Int} {n : Nat} (hx : 0 ≤ x) (hn : 0 < n) : ∃ i : Nat, i < n ∧ x.tmod (n : Int) = (i : Int) := by
  have h1 := Int.emod_nonneg x (show (n : Int) ≠ 0 by omega)
  have h2 := Int.emod_lt_of_pos x (show (0 : Int) < n by omega)
  exact ⟨(x % (n : Int)).toNat, by omega, by rw [Int.tmod_eq_emod_of_nonneg hx]; omega⟩
theorem tmod_err (x e : Int) (he : 0 ≤ e) : -e ≤ x.tmod (e + 1) ∧ x.tmod (e + 1) ≤ e := by
  have h1 := Int.tmod_lt_of_pos x (show 0 < e + 1 by omega)
  have h2 := Int.lt_tmod_of_pos x (show 0 < e + 1 by omega)
  omega
def wideL (sl : List Scn) (k : Nat) (c : Scn) (e : Int) : List Scn := sl.set k { c with error := e }
theorem wide_ok {sl : List Scn} {k : Nat} {c : Scn} {e : Int} (h : ScnsOk sl) (hc : sl[k]? = some c) (h0 : 0 ≤ e) (h1 : e ≤ 10000) : ScnsOk (wideL sl k c e) := by
  refine ⟨by unfold wideL; rw [List.length_set]; exact h.1, fun x hx => ?_⟩
  rcases List.mem_or_eq_of_mem_set hx with hx | rfl
  · exact h.2 x hx
  · have := scnOk_iff.1 (h.2 c (List.mem_of_getElem? hc))
    rw [scnOk_iff]
    exact ⟨this.1, this.2.1, h0, h1⟩
theorem wide_at {sl : List Scn} {k : Nat} {c : Scn} {e : Int} (hc : sl[k]? = some c) (h0 : c.error ≤ e) (i : Nat) (x : Scn) (hx : sl[i]? = some x) : ∃ x' : Scn, (wideL sl k c e)[i]? = some x' ∧ x'.office = x.office ∧ x.error ≤ x'.error := by
  unfold wideL
  rw [List.getElem?_set]
  by_cases hk : k = i
  · subst hk
    obtain rfl : c = x := by rw [hc] at hx; exact Option.some.inj hx
    rw [if_pos rfl, if_pos (List.getElem?_eq_some_iff.1 hc).1]
    exact ⟨_, rfl, rfl, h0⟩
  · rw [if_neg hk]
    exact ⟨x, hx, rfl, Int.le_refl _⟩
set_option maxRecDepth 100000 in
set_option maxHeartbeats 4000000 in
theorem clocks_c (sp : Option Addr) (n cap : Nat) (sl : List Scn) (p : Option Addr) (m cap2 : Nat) (ts : List Trk) (wh by_ mo : Int) (r : Rec) (w : World) (R) (hn : n ≤ maxLen) (hm : m ≤ maxLen) (hsl : sl.length = n) (hS : ScnsAt w sp sl) (hts : ts.length = m) (hT : TrksAt w p ts)
    (hwh : (Lit.int .u8 wh).wf = true) (hby : (Lit.int .i16 by_).wf = true) (hmo : (Lit.int .u8 mo).wf = true) (hst : StrsAt w r.cp r.contents) (hrl : r.contents.length ≤ maxLen)
    (hR : ∀ w', Below w.heap.size w w' → R (.returned (.bool true)) w') : Calls Try.prog 7 #[.slice sp n cap, .slice p m cap2, .int .u8 wh, .int .i16 by_, .agg r.cells.toArray, .int .u8 mo] w R := by
  have HR := hide hR; have HS := hide hS; have HT := hide hT; have Hn := hide hsl; have Hm := hide hts; have Hst := hide hst; have Hrl := hide hrl
  obtain ⟨wh0, wh1⟩ := wf_u8.1 hwh
  obtain ⟨by0, by1⟩ := wf_i16.1 hby
  obtain ⟨mo0, mo1⟩ := wf_u8.1 hmo
  have hcl := hide (show Rec.cells r = [.int .i64 r.scanner, .int .i64 r.number, .int .i64 r.kind, .int .i64 r.time, .string r.label, .slice r.cp r.contents.length r.cc] from rfl)
  rw [hcl.out]
  obtain ⟨w0, hw0⟩ : ∃ w0, w.alloc (.cells #[.int .i64 r.scanner, .int .i64 r.number, .int .i64 r.kind, .int .i64 r.time, .string r.label, .slice r.cp r.contents.length r.cc] 31) = w0 := ⟨_, rfl⟩
  have HB0 := hide (show Below w.heap.size w w0 from hw0 ▸ balloc (Below.refl _ _) _)
  have kx : Blk w0 w.heap.size #[.int .i64 r.scanner, .int .i64 r.number, .int .i64 r.kind, .int .i64 r.time, .string r.label, .slice r.cp r.contents.length r.cc] 31 := hw0 ▸ Blk.new _ _ _
  have HY : Hid (∀ w', Below w0.heap.size w0 w' → w'.cell? ⟨w.heap.size, 0, none⟩ = some (.int .i64 r.scanner) ∧ w'.cell? ⟨w.heap.size, 1, none⟩ = some (.int .i64 r.number) ∧ w'.cell? ⟨w.heap.size, 2, none⟩ = some (.int .i64 r.kind) ∧ w'.cell? ⟨w.heap.size, 3, none⟩ = some (.int .i64 r.time) ∧ w'.cell? ⟨w.heap.size, 4, none⟩ = some (.string r.label) ∧ w'.cell? ⟨w.heap.size, 5, none⟩ = some (.slice r.cp r.contents.length r.cc)) :=
    hide (fun w' h => ⟨cell_later h (kx.cell (k := 0) rfl), cell_later h (kx.cell (k := 1) rfl), cell_later h (kx.cell (k := 2) rfl), cell_later h (kx.cell (k := 3) rfl), cell_later h (kx.cell (k := 4) rfl), cell_later h (kx.cell (k := 5) rfl)⟩)
  clear hR hS hT hsl hts hst hrl kx hwh hby hmo
  go_enter Try.func7, Try.ntmps7
  go_wp2_with (go_at_call 10; refine Stop.out ?_)
  refine Stop.go (head_c _ _ ?_)
  intro w1 hb1
  have HB1 := hide hb1
  clear hb1
  go_wp2_with (go_at_call 11; refine Stop.out ?_)
  refine Stop.go (right_c sp n cap sl p m cap2 ts w1 _ hn hm Hn.out (HS.out.keep (Keeps.of_below (bseq HB0.out HB1.out))) Hm.out (HT.out.keep (Keeps.of_below (bseq HB0.out HB1.out))) ?_)
  intro b w2 hb2 hok
  have HB2 := hide (bseq HB1.out hb2)
  clear hb2
  cases b with
  | false =>
    clear hok
    go_wp2
    exact HR.out _ (bseq HB0.out HB2.out)
  | true =>
    have HO := hide (hok rfl)
    have hn24 : n ≤ 24 := by rw [← Hn.out]; exact HO.out.1.1
    clear hok
    go_wp2_with (go_at_call 12; refine Stop.out ?_)
    refine Stop.go (records_c sp n cap sl p m cap2 ts w2 _ Hn.out (HS.out.keep (Keeps.of_below (bseq HB0.out HB2.out))) HO.out.1 Hm.out (HT.out.keep (Keeps.of_below (bseq HB0.out HB2.out))) HO.out.2 ?_)
    intro w3 qr c rl hb3 hrs hrp
    have HB3 := hide (bseq HB2.out hb3)
    have HRs := hide hrs; have HRp := hide hrp
    have hN : rl.length ≤ 480 := by have := recs_len (l := sl) HO.out.2; rw [← hrp, List.length_map] at this; exact this
    obtain ⟨N, hNe⟩ : ∃ N, rl.length = N := ⟨_, rfl⟩
    have HN := hide hNe
    rw [hNe] at hN
    rw [hNe]
    clear hb3 hrs hrp hNe hw0
    by_cases hN0 : N = 0
    · have t0 : ¬ 0 < N := by omega
      have HBW := HB3
      by_cases hn0 : n = 0
      · have t3 : ((n : Int) == 0) = true := by simp [hn0]
        have HF := hide (HR.out _ (bseq HB0.out HBW.out))
        go_wp2
        exact HF.out
      have t3 : ((n : Int) == 0) = false := by simp [hn0]
      have t4 : ¬ ((n : Int) = 0) := by omega
      obtain ⟨k, hk, ek⟩ := tmod_nat (n := n) wh0 (by omega)
      have hkI : (k : Int) < (n : Int) := by omega
      obtain ⟨i35, hi0, hz0, hz1, hz2⟩ := info_parts Try.info35
      have HT35 := hide (And.intro hi0 (And.intro hz0 (And.intro hz1 hz2)))
      clear hi0 hz0 hz1 hz2
      go_wp2_with (at_builtin; refine Stop.out ?_)
      refine Stop.go ?_
      obtain ⟨hi0, hz0, hz1, hz2⟩ := HT35.out
      refine wpList_app _ rfl (.tmp 71) (.tmp 72) 22 rfl w3.heap.size 35 i35 _ 3 24 Try.underlying22 hi0 hz0 hz1 hz2 rfl (by omega) (.slice (some ⟨w3.heap.size, 0, none⟩) 0 0) 0 [] rfl (World.ownsRow_lit _ #[] 0 (Nat.le_refl _) (by decide) rfl) sp n cap (sl.flatMap Scn.cells) rfl (by have h := Src.enc (k := 3) (fun _ => rfl) (by omega) (HS.out.keep (Keeps.of_below (bseq HB0.out (bseq HBW.out (balloc (Below.refl _ _) (.cells #[] 35)))))); rw [Hn.out] at h; exact h) (scn_one sl) (by unfold maxLen; omega) (by omega) (by simp) ?_
      clear hi0 hz0 hz1 hz2
      intro v9 w9 hown hgr
      rw [Nat.zero_add, List.nil_append] at hown
      obtain ⟨g, cap9, rfl, hg1, hg2⟩ := own_form hown (by omega)
      have hb9 : Below w0.heap.size w0 w9 := (bseq HBW.out (balloc (Below.refl _ _) (.cells #[] 35))).grown hgr (bseq HBW.out (balloc (Below.refl _ _) (.cells #[] 35))).size (fun k hk => by cases hk; exact HBW.out.size)
      have hS9 := HS.out.keep (Keeps.of_below (bseq HB0.out hb9))
      obtain ⟨b4, o4, c4, hp4, hc4, z0, z1, z2⟩ := hS9.scn (i := k) (by rw [Hn.out]; exact hk)
      subst hp4
      have hc4ok := scnOk_iff.1 (HO.out.1.2 c4 (List.mem_of_getElem? hc4))
      have kc : w9.cell? ⟨g, k * 3 + 2, none⟩ = some (.int .i64 c4.error) := by
        have := hown.cells (g := g) rfl (k * 3 + 2) (.int .i64 c4.error) ((flatMap_at (enc := Scn.cells) (k := 3) (fun _ => rfl) sl k 2 c4 hc4 (by omega)).trans rfl)
        rw [Addr.add_lit] at this
        simpa using this
      have kf := own_free hown (k * 3 + 2)
      obtain ⟨e, he⟩ : ∃ e, min 10000 (c4.error + mo) = e := ⟨_, rfl⟩
      have he0 : c4.error ≤ e := by rw [← he]; omega
      have he1 : 0 ≤ e ∧ e ≤ 10000 := by rw [← he]; omega
      have hown2 : (w9.setCell ⟨g, k * 3 + 2, none⟩ (.int .i64 e)).ownsRow w3.heap.size 35 3 (.slice (some ⟨g, 0, none⟩) n cap9) n ((wideL sl k c4 e).flatMap Scn.cells) := by
        have h1 := (hown.stored (k * 3 + 2) (.int .i64 e)).1
        have hkl : k < sl.length := (List.getElem?_eq_some_iff.1 hc4).1
        rw [flat_set1 (k := 3) (enc := Scn.cells) (fun _ => rfl) sl k 2 { c4 with error := e } (.int .i64 e) hkl (by omega) (by rw [(List.getElem?_eq_some_iff.1 hc4).2]; rfl)] at h1
        exact h1
      have Hb10 := hide (hb9.setCell (p := ⟨g, k * 3 + 2, none⟩) (show w0.heap.size ≤ g by have := HBW.out.size; omega) (.int .i64 e))
      have Hw10 := hide (EncAt.of_own (k := 3) (enc := Scn.cells) (fun _ => rfl) (by omega) hown2)
      have Hok := hide (wide_ok HO.out.1 hc4 he1.1 he1.2)
      have Hwl : Hid ((wideL sl k c4 e).length = n) := hide (by unfold wideL; rw [List.length_set]; exact Hn.out)
      have Hwat := hide (wide_at hc4 he0)
      have hk32 : (k : Int) = (k : Int) := rfl
      have hne : w.heap.size ≠ g := by have := HBW.out.size; have := block_lt (HY.out _ (Below.refl _ _)).1; simp at this; omega
      obtain ⟨r0, r1, r2, r3, r4, r5⟩ := HY.out _ hb9
      clear hown hgr hb9 hS9 hc4 hown2 hk32
      go_wp2_with (go_at_call 13; refine Stop.out ?_)
      refine Stop.go (true_c (some ⟨b4, o4, none⟩) n cap sl p m cap2 ts r _ _ Hn.out (HS.out.keep (Keeps.of_below (bseq HB0.out Hb10.out))) HO.out.1 Hm.out (HT.out.keep (Keeps.of_below (bseq HB0.out Hb10.out))) HO.out.2 (Hst.out.keep (Keeps.of_below (bseq HB0.out Hb10.out))) Hrl.out ?_)
      intro v w11 hb11 hiff
      have HB11 := hide (bseq Hb10.out hb11)
      have Hif := hide hiff
      obtain ⟨q0, q1, q2, q3, q4, q5⟩ := HY.out _ HB11.out
      have Hw11 := hide (Hw10.out.keep (Keeps.of_below hb11))
      clear hb11 hiff r0 r1 r2 r3 r4 r5
      cases v with
      | false =>
        have HF := hide (HR.out _ (bseq HB0.out HB11.out))
        go_wp2
        exact HF.out
      | true =>
        have Htw := hide (true_wide (Hif.out.1 rfl) Hwat.out)
        go_wp2_with (go_at_call 13; refine Stop.out ?_)
        refine Stop.go (true_c (some ⟨g, 0, none⟩) n cap9 (wideL sl k c4 e) p m cap2 ts r _ _ Hwl.out Hw11.out Hok.out Hm.out (HT.out.keep (Keeps.of_below (bseq HB0.out HB11.out))) HO.out.2 (Hst.out.keep (Keeps.of_below (bseq HB0.out HB11.out))) Hrl.out ?_)
        intro v2 w12 hb12 hiff2
        obtain rfl : v2 = true := hiff2.2 Htw.out
        have HF := hide (HR.out _ (bseq HB0.out (bseq HB11.out hb12)))
        clear hb12 hiff2
        go_wp2
        exact HF.out
    · have t0 : 0 < N := by omega
      obtain ⟨i, hi, ei⟩ := tmod_nat (n := N) wh0 t0
      have hnz : ((N : Int) == 0) = false := by simp [hN0]
      have hnz2 : ¬ ((N : Int) = 0) := by omega
      obtain ⟨b, o, x, rfl, hx, hsx, x0, x1, x2, x3, x4, x5⟩ := HRs.out.rec_ (i := i) (by rw [HN.out]; exact hi)
      have hmem : x.rp ∈ recordsP sl (ts.map Trk.tk) := by rw [← HRp.out]; exact List.mem_map_of_mem (List.mem_of_getElem? hx)
      obtain ⟨s, c2, hxs, hc2, hnear⟩ := rec_near HO.out.1 HO.out.2 hmem
      have htm := rec_time HO.out.2 hmem
      have hfew := rec_few HO.out.2 hmem
      have hxs' : x.scanner = (s : Int) := hxs
      have hxt : x.rp.time = x.time := rfl
      rw [hxt] at htm
      have hcl2 : x.contents.length ≤ maxLen := by have h2 : x.rp.contents = x.contents := rfl; rw [h2] at hfew; unfold maxLen; omega
      have hsn : s < n := by rw [← Hn.out]; exact (List.getElem?_eq_some_iff.1 hc2).1
      obtain ⟨b2, o2, c3, hp2, hc3, z0, z1, z2⟩ := (HS.out.keep (Keeps.of_below (bseq HB0.out HB3.out))).scn (i := s) (by rw [Hn.out]; exact hsn)
      subst hp2
      obtain rfl : c2 = c3 := by rw [hc2] at hc3; injection hc3
      have hok2 := scnOk_iff.1 (HO.out.1.2 c2 (List.mem_of_getElem? hc2))
      obtain ⟨d, hd⟩ : ∃ d, by_.tmod (c2.error + 1) = d := ⟨_, rfl⟩
      have hdb := tmod_err by_ c2.error hok2.2.2.1
      rw [hd] at hdb
      have Htrue := hide (show TrueP sl (ts.map Trk.tk) ({ x with scanner := (s : Int), time := x.time + d } : Rec).rp by
        have h := hnear d hdb.1 hdb.2
        have e2 : ({ x with scanner := (s : Int), time := x.time + d } : Rec).rp = { x.rp with time := x.rp.time + d } := by
          unfold Rec.rp; rw [hxs']
        rw [e2]; exact h)
      rw [hxs'] at x0
      obtain ⟨he0, he1⟩ : 0 ≤ c2.error ∧ c2.error ≤ 10000 := hok2.2.2
      have hen : ((c2.error + 1) == 0) = false := by simp; omega
      have hen2 : ¬ (c2.error + 1 = 0) := by omega
      have hen3 : IntKind.i64.wrap (c2.error + 1) = c2.error + 1 := IntWalk.i64_in _ (by omega)
      have hen4 : IntKind.i64.wrap d = d := IntWalk.i64_in _ (by omega)
      have hen5 : IntKind.i64.wrap (x.time + d) = x.time + d := IntWalk.i64_in _ (by omega)
      have t1 : ¬ (s : Int) < 0 := by omega
      have t2 : ¬ (n : Int) ≤ (s : Int) := by omega
      have hsI : (s : Int) < (n : Int) := by omega
      have hiI : (i : Int) < (N : Int) := by omega
      obtain ⟨wb, hwb⟩ : ∃ wb, w3.alloc (.cells #[.int .i64 (s : Int), .int .i64 x.number, .int .i64 x.kind, .int .i64 x.time, .string x.label, .slice x.cp x.contents.length x.cc] 31) = wb := ⟨_, rfl⟩
      have hbb : Below w3.heap.size w3 wb := hwb ▸ balloc (Below.refl _ _) _
      have kb : Blk wb w3.heap.size #[.int .i64 (s : Int), .int .i64 x.number, .int .i64 x.kind, .int .i64 x.time, .string x.label, .slice x.cp x.contents.length x.cc] 31 := hwb ▸ Blk.new _ _ _
      have y0 : wb.cell? ⟨w3.heap.size, 0, none⟩ = some (.int .i64 (s : Int)) := kb.cell (k := 0) rfl
      have y1 : wb.cell? ⟨w3.heap.size, 1, none⟩ = some (.int .i64 x.number) := kb.cell (k := 1) rfl
      have y2 : wb.cell? ⟨w3.heap.size, 2, none⟩ = some (.int .i64 x.kind) := kb.cell (k := 2) rfl
      have y3 : wb.cell? ⟨w3.heap.size, 3, none⟩ = some (.int .i64 x.time) := kb.cell (k := 3) rfl
      have y4 : wb.cell? ⟨w3.heap.size, 4, none⟩ = some (.string x.label) := kb.cell (k := 4) rfl
      have y5 : wb.cell? ⟨w3.heap.size, 5, none⟩ = some (.slice x.cp x.contents.length x.cc) := kb.cell (k := 5) rfl
      have fb := kb.free 3
      have v2 : wb.cell? ⟨b2, o2 + s * 3 + 2, none⟩ = some (.int .i64 c2.error) := cell_later hbb z2
      have Hsx := hide (hsx.keep (Keeps.of_below hbb))
      have Hbb := hide ((bseq HB3.out hbb).setCell (p := ⟨w3.heap.size, 3, none⟩) HB3.out.size (.int .i64 (x.time + d))).drew
      have Hkp : Hid (StrsAt ((wb.setCell ⟨w3.heap.size, 3, none⟩ (.int .i64 (x.time + d))).drew) x.cp x.contents) := hide (hsx.keep (Keeps.of_below ((hbb.setCell (p := ⟨w3.heap.size, 3, none⟩) (Nat.le_refl _) (.int .i64 (x.time + d))).drew)))
      clear hx hsx hmem hxs hc2 hnear hfew hxs' hxt hc3 hok2 hbb kb
      go_wp2
      go_still_tail 14, (by kernel_rfl)
      go_wp2_with (go_at_call 13; refine Stop.out ?_)
      refine Stop.go (true_c (some ⟨b2, o2, none⟩) n cap sl p m cap2 ts { x with scanner := (s : Int), time := x.time + d } _ _ Hn.out (HS.out.keep (Keeps.of_below (bseq HB0.out Hbb.out))) HO.out.1 Hm.out (HT.out.keep (Keeps.of_below (bseq HB0.out Hbb.out))) HO.out.2 Hkp.out hcl2 ?_)
      intro v w5 hb5 hiff
      obtain rfl : v = true := hiff.2 Htrue.out
      have HBW := hide (bseq Hbb.out hb5)
      clear hb5 hiff x0 x1 x2 x3 x4 x5 y0 y1 y2 y3 y4 y5 z0 z1 z2 v2
      by_cases hn0 : n = 0
      · have t3 : ((n : Int) == 0) = true := by simp [hn0]
        have HF := hide (HR.out _ (bseq HB0.out HBW.out))
        go_wp2
        exact HF.out
      have t3 : ((n : Int) == 0) = false := by simp [hn0]
      have t4 : ¬ ((n : Int) = 0) := by omega
      obtain ⟨k, hk, ek⟩ := tmod_nat (n := n) wh0 (by omega)
      have hkI : (k : Int) < (n : Int) := by omega
      obtain ⟨i35, hi0, hz0, hz1, hz2⟩ := info_parts Try.info35
      have HT35 := hide (And.intro hi0 (And.intro hz0 (And.intro hz1 hz2)))
      clear hi0 hz0 hz1 hz2
      go_wp2_with (at_builtin; refine Stop.out ?_)
      refine Stop.go ?_
      obtain ⟨hi0, hz0, hz1, hz2⟩ := HT35.out
      refine wpList_app _ rfl (.tmp 71) (.tmp 72) 22 rfl w5.heap.size 35 i35 _ 3 24 Try.underlying22 hi0 hz0 hz1 hz2 rfl (by omega) (.slice (some ⟨w5.heap.size, 0, none⟩) 0 0) 0 [] rfl (World.ownsRow_lit _ #[] 0 (Nat.le_refl _) (by decide) rfl) (some ⟨b2, o2, none⟩) n cap (sl.flatMap Scn.cells) rfl (by have h := Src.enc (k := 3) (fun _ => rfl) (by omega) (HS.out.keep (Keeps.of_below (bseq HB0.out (bseq HBW.out (balloc (Below.refl _ _) (.cells #[] 35)))))); rw [Hn.out] at h; exact h) (scn_one sl) (by unfold maxLen; omega) (by omega) (by simp) ?_
      clear hi0 hz0 hz1 hz2
      intro v9 w9 hown hgr
      rw [Nat.zero_add, List.nil_append] at hown
      obtain ⟨g, cap9, rfl, hg1, hg2⟩ := own_form hown (by omega)
      have hb9 : Below w0.heap.size w0 w9 := (bseq HBW.out (balloc (Below.refl _ _) (.cells #[] 35))).grown hgr (bseq HBW.out (balloc (Below.refl _ _) (.cells #[] 35))).size (fun k hk => by cases hk; exact HBW.out.size)
      have hS9 := HS.out.keep (Keeps.of_below (bseq HB0.out hb9))
      obtain ⟨b4, o4, c4, hp4, hc4, z0, z1, z2⟩ := hS9.scn (i := k) (by rw [Hn.out]; exact hk)
      injection hp4 with hp4; injection hp4 with hp4a hp4b; subst hp4a; subst hp4b
      have hc4ok := scnOk_iff.1 (HO.out.1.2 c4 (List.mem_of_getElem? hc4))
      have kc : w9.cell? ⟨g, k * 3 + 2, none⟩ = some (.int .i64 c4.error) := by
        have := hown.cells (g := g) rfl (k * 3 + 2) (.int .i64 c4.error) ((flatMap_at (enc := Scn.cells) (k := 3) (fun _ => rfl) sl k 2 c4 hc4 (by omega)).trans rfl)
        rw [Addr.add_lit] at this
        simpa using this
      have kf := own_free hown (k * 3 + 2)
      obtain ⟨e, he⟩ : ∃ e, min 10000 (c4.error + mo) = e := ⟨_, rfl⟩
      have he0 : c4.error ≤ e := by rw [← he]; omega
      have he1 : 0 ≤ e ∧ e ≤ 10000 := by rw [← he]; omega
      have hown2 : (w9.setCell ⟨g, k * 3 + 2, none⟩ (.int .i64 e)).ownsRow w5.heap.size 35 3 (.slice (some ⟨g, 0, none⟩) n cap9) n ((wideL sl k c4 e).flatMap Scn.cells) := by
        have h1 := (hown.stored (k * 3 + 2) (.int .i64 e)).1
        have hkl : k < sl.length := (List.getElem?_eq_some_iff.1 hc4).1
        rw [flat_set1 (k := 3) (enc := Scn.cells) (fun _ => rfl) sl k 2 { c4 with error := e } (.int .i64 e) hkl (by omega) (by rw [(List.getElem?_eq_some_iff.1 hc4).2]; rfl)] at h1
        exact h1
      have Hb10 := hide (hb9.setCell (p := ⟨g, k * 3 + 2, none⟩) (show w0.heap.size ≤ g by have := HBW.out.size; omega) (.int .i64 e))
      have Hw10 := hide (EncAt.of_own (k := 3) (enc := Scn.cells) (fun _ => rfl) (by omega) hown2)
      have Hok := hide (wide_ok HO.out.1 hc4 he1.1 he1.2)
      have Hwl : Hid ((wideL sl k c4 e).length = n) := hide (by unfold wideL; rw [List.length_set]; exact Hn.out)
      have Hwat := hide (wide_at hc4 he0)
      have hk32 : (k : Int) = (k : Int) := rfl
      have hne : w.heap.size ≠ g := by have := HBW.out.size; have := block_lt (HY.out _ (Below.refl _ _)).1; simp at this; omega
      obtain ⟨r0, r1, r2, r3, r4, r5⟩ := HY.out _ hb9
      clear hown hgr hb9 hS9 hc4 hown2 hk32
      go_wp2_with (go_at_call 13; refine Stop.out ?_)
      refine Stop.go (true_c (some ⟨b2, o2, none⟩) n cap sl p m cap2 ts r _ _ Hn.out (HS.out.keep (Keeps.of_below (bseq HB0.out Hb10.out))) HO.out.1 Hm.out (HT.out.keep (Keeps.of_below (bseq HB0.out Hb10.out))) HO.out.2 (Hst.out.keep (Keeps.of_below (bseq HB0.out Hb10.out))) Hrl.out ?_)
      intro v w11 hb11 hiff
      have HB11 := hide (bseq Hb10.out hb11)
      have Hif := hide hiff
      obtain ⟨q0, q1, q2, q3, q4, q5⟩ := HY.out _ HB11.out
      have Hw11 := hide (Hw10.out.keep (Keeps.of_below hb11))
      clear hb11 hiff r0 r1 r2 r3 r4 r5
      cases v with
      | false =>
        have HF := hide (HR.out _ (bseq HB0.out HB11.out))
        go_wp2
        exact HF.out
      | true =>
        have Htw := hide (true_wide (Hif.out.1 rfl) Hwat.out)
        go_wp2_with (go_at_call 13; refine Stop.out ?_)
        refine Stop.go (true_c (some ⟨g, 0, none⟩) n cap9 (wideL sl k c4 e) p m cap2 ts r _ _ Hwl.out Hw11.out Hok.out Hm.out (HT.out.keep (Keeps.of_below (bseq HB0.out HB11.out))) HO.out.2 (Hst.out.keep (Keeps.of_below (bseq HB0.out HB11.out))) Hrl.out ?_)
        intro v2 w12 hb12 hiff2
        obtain rfl : v2 = true := hiff2.2 Htw.out
        have HF := hide (HR.out _ (bseq HB0.out (bseq HB11.out hb12)))
        clear hb12 hiff2
        go_wp2
        exact HF.out
theorem clocks_w (a0 : Option Addr) (n0 c0 : Nat) (l0 : List Scn) (a1 : Option Addr) (n1 c1 : Nat) (l1 : List Trk) (x2 x3 : Int) (x4 : Rec) (x5 : Int) (W : World) (R : Ending → World → Prop) (hl0 : l0.length = n0) (hm0 : n0 ≤ maxLen) (hi0 : ScnsAt W a0 l0) (hz0 : n0 ≤ c0) (hw0 : True) (hl1 : l1.length = n1) (hm1 : n1 ≤ maxLen) (hi1 : TrksAt W a1 l1) (hz1 : n1 ≤ c1) (hw1 : True)
    (hw2 : (Lit.int .u8 x2).wf = true) (hw3 : (Lit.int .i16 x3).wf = true) (hw4 : RecAt W x4) (hw5 : (Lit.int .u8 x5).wf = true)
    (hR : ∀ w', Below W.heap.size W w' → R (.returned (.bool true)) w') : Calls Try.prog 7 #[.slice a0 n0 c0, .slice a1 n1 c1, .int .u8 x2, .int .i16 x3, .agg x4.cells.toArray, .int .u8 x5] W R :=
  clocks_c a0 n0 c0 l0 a1 n1 c1 l1 x2 x3 x5 x4 W R hm0 hm1 hl0 hi0 hl1 hi1 hw2 hw3 hw5 hw4.1 hw4.2 hR

set_option maxRecDepth 100000 in
theorem scannerClocks_holds_lifted (os : Os) (started : os.Started) (H : Type) (enc : TypeId × Value → H) :
    ReturnsInHanded {} Try.checked os 7 .any (Rows.scannerClocksSpec.pre6 enc Try.prog Try.f7 Rows.scannerClocksRow.domain false) (Rows.scannerClocksSpec.post enc Try.prog Try.f7 false true false false) := by
  refine returnsInHanded_of_change (C := Try.checked) Try.own started (by kernel_rfl) Try.func7
    (ChangeSpec.witness6 (enc := enc) (C := Try.checked) false ⟨#[], #[.slice none 0 0, .slice none 0 0, .int .u8 0, .int .i16 0, .agg #[.int .i64 0, .int .i64 0, .int .i64 0, .int .i64 0, .string ⟨#[]⟩, .slice none 0 0], .int .u8 0], []⟩ 8 (by kernel_rfl) (by kernel_rfl) (by kernel_rfl) (by kernel_rfl)) ?_
  intro W base args ds gs before hval0 hW hcnd _
  have hval : ∀ (j : Nat) t v, Try.f7.params[j]? = some t → args[j]? = some v → Value.okWide Try.prog W .any base t v := hval0
  have hW' := hW
  obtain ⟨p, q, hA0, hV, rfl, hfz, hnd⟩ := hW
  have hA : DataW.TrodAll enc Try.prog W 0 (fun _ => true) true Try.f7.params.toList args.toList ds p := hA0
  have hA1 := hA
  rw [Try.params7] at hA hval
  obtain ⟨v0, vs0, d0, ds0, p0, q0, hargs, rfl, rfl, h0, r0⟩ := trodAll_cons hA
  obtain ⟨v1, vs1, d1, ds1, p1, q1, rfl, rfl, rfl, h1, r1⟩ := trodAll_cons r0
  obtain ⟨v2, vs2, d2, ds2, p2, q2, rfl, rfl, rfl, h2, r2⟩ := trodAll_cons r1
  obtain ⟨v3, vs3, d3, ds3, p3, q3, rfl, rfl, rfl, h3, r3⟩ := trodAll_cons r2
  obtain ⟨v4, vs4, d4, ds4, p4, q4, rfl, rfl, rfl, h4, r4⟩ := trodAll_cons r3
  obtain ⟨v5, vs5, d5, ds5, p5, q5, rfl, rfl, rfl, h5, r5⟩ := trodAll_cons r4
  obtain ⟨rfl, rfl, rfl⟩ := trodAll_nil r5
  obtain rfl : args = #[v0, v1, v2, v3, v4, v5] := by cases args; simp_all
  obtain ⟨rfl, rfl⟩ := trodVars_none hV
  obtain ⟨a0, n0, c0, l0, rfl, hl0, hm0, hi0, hz0, hw0⟩ := open_scns (hval 0 22 v0 rfl rfl) h0
  obtain ⟨a1, n1, c1, l1, rfl, hl1, hm1, hi1, hz1, hw1⟩ := open_trks (hval 1 23 v1 rfl rfl) h1
  obtain ⟨x2, rfl, _, _, hw2⟩ := open_int Try.underlying5 (hval 2 5 v2 rfl rfl) h2
  obtain ⟨x3, rfl, _, _, hw3⟩ := open_int Try.underlying53 (hval 3 53 v3 rfl rfl) h3
  obtain ⟨x4, rfl, hw4⟩ := open_rec (hval 4 31 v4 rfl rfl) h4
  obtain ⟨x5, rfl, _, _, hw5⟩ := open_int Try.underlying5 (hval 5 5 v5 rfl rfl) h5
  refine clocks_w a0 n0 c0 l0 a1 n1 c1 l1 x2 x3 x4 x5 W _ hl0 hm0 hi0 hz0 hw0 hl1 hm1 hi1 hz1 hw1 hw2 hw3 hw4 hw5 fun W' bel => ?_
  exact ⟨_, rfl, law_post Try.laidOut bel rfl hW' hA1 (by kernel_rfl) rfl Try.underlying4 rfl rfl rfl⟩

theorem scannerClocks_holds : Rows.ScannerClocksSaid :=
  OpenClaim.holds_of_wide 7 Try.f7 rfl rfl rfl rfl rfl rfl rfl ⟨rfl, rfl, rfl, rfl, rfl⟩ rfl rfl rfl rfl rfl (by kernel_rfl) Try.func7 (by kernel_rfl)
    (of_decide_eq_true (by kernel_rfl)) (by unfold Func.isWrapper; rw [if_neg (of_decide_eq_false (by kernel_rfl))]; exact ⟨rfl, rfl⟩)
    (fun os started H enc _ => scannerClocks_holds_lifted os started H enc)

end Go.Proofs.Ytihdpkeclmpehaa
