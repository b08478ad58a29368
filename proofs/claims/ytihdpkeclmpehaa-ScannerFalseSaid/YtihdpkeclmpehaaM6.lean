/- ScannerFalse: the delivered records that are not true, each counted once, are no more than the slips that misread, drift or invent. Conditions: those that the law tests itself (scanners and tracks well-formed and few: at most 8 tracks, at most 20 slips); at any other input the law asks its fixed examples alone. Parts of this text: Plain: slips that change nothing. Plain: the records' numbers, times and scanners; each arrival has a record. Plain: wider errors, a further track, and false deliveries. Plain: deliveries that are missed, repeated or delayed alone. Plain: how often each record is delivered. Plain: where the contents of delivered records come from; a list of different bad ones is short. How often a record is in a list. Slices that came in, with the form's reach: each slice's bytes lie within it. ScannerFalse. -/
import Derived.Test.YtihdpkeclmpehaaA7
import Derived.Test.YtihdpkeclmpehaaA17
import Derived.Test.YtihdpkeclmpehaaA22
import Derived.Test.YtihdpkeclmpehaaA18
import Derived.Test.YtihdpkeclmpehaaA23
import Derived.SizedLaws
set_option linter.unusedVariables false
set_option linter.unusedSimpArgs false
set_option maxRecDepth 100000
namespace Go.Proofs.Ytihdpkeclmpehaa

theorem sortK_id {α : Type} (key : α → Int) : ∀ l : List α, l.Pairwise (fun a b => key a ≤ key b) → sortK key l = l
  | [], _ => rfl
  | x :: l, h => by
    obtain ⟨h1, h2⟩ := List.pairwise_cons.1 h
    rw [sortK, sortK_id key l h2]
    cases l with
    | nil => rfl
    | cons y l => rw [insK, if_pos (h1 y (by simp))]
theorem startP_sorted (rs : List RP) : (startP rs).Pairwise (fun a b => a.number ≤ b.number) := by
  unfold startP
  rw [List.pairwise_map]
  have : ∀ (l : List RP) (k : Nat), (l.zipIdx k).Pairwise (fun a b => ((a.2 : Nat) : Int) ≤ ((b.2 : Nat) : Int)) := by
    intro l
    induction l with
    | nil => intro k; exact List.Pairwise.nil
    | cons x t ih =>
      intro k
      rw [List.zipIdx_cons, List.pairwise_cons]
      refine ⟨fun b hb => ?_, ih (k + 1)⟩
      have := (List.mem_zipIdx hb).1
      show ((k : Nat) : Int) ≤ ((b.2 : Nat) : Int)
      omega
  exact this rs 0
theorem startP_out (rs : List RP) : (startP rs).flatMap outP = rs := by
  unfold startP
  rw [List.flatMap_map]
  have : ∀ (l : List RP) (k : Nat), (l.zipIdx k).flatMap (fun x => outP ⟨x.1, ((x.2 : Nat) : Int), 1, false⟩) = l := by
    intro l
    induction l with
    | nil => intro k; rfl
    | cons x t ih =>
      intro k
      rw [List.zipIdx_cons, List.flatMap_cons, ih (k + 1)]
      rfl
  exact this rs 0
/-- A slip that is passed over. -/
def overP (n : Nat) (s : SP) : Prop := s.kind < 1 ∨ 6 < s.kind ∨ (s.kind ≠ 3 ∧ (s.index < 0 ∨ (n : Int) ≤ s.index))
theorem step_over {x : List DP × List DP} {s : SP} (h : overP x.1.length s) : stepP x s = x := by
  have h3 : ¬ s.kind = 3 := by rcases h with h | h | h <;> first | omega | exact h.1
  unfold stepP
  rw [if_neg h3]
  by_cases hc : cntP x.1.length s
  · rw [if_pos hc]
    have hid : ∀ d, chgP s d = d := by
      intro d
      rcases h with h | h | ⟨_, h⟩
      · unfold chgP; rw [if_neg (by omega), if_neg (by omega), if_neg (by omega), if_neg (by omega), if_neg (by omega)]
      · unfold chgP; rw [if_neg (by omega), if_neg (by omega), if_neg (by omega), if_neg (by omega), if_neg (by omega)]
      · obtain ⟨c1, c2, _⟩ := hc
        omega
    have : x.1.modify s.index.toNat (chgP s) = x.1 := by
      rw [show chgP s = id from funext hid]
      exact List.modify_id _ _
    rw [this]
  · rw [if_neg hc]
theorem steps_over : ∀ (ss : List SP) (x : List DP × List DP), (∀ s ∈ ss, overP x.1.length s) → ss.foldl stepP x = x
  | [], _, _ => rfl
  | s :: ss, x, h => by
    rw [List.foldl_cons, step_over (h s (by simp))]
    exact steps_over ss x (fun t ht => h t (List.mem_cons_of_mem _ ht))
theorem startP_length (rs : List RP) : (startP rs).length = rs.length := by simp [startP]
/-- Without slips that count the records are delivered as they are. -/
theorem deliver_over {l : List Scn} {ts : List Tk} {ss : List SP} (h : ∀ s ∈ ss, overP (recordsP l ts).length s) : deliverP l ts ss = recordsP l ts := by
  unfold deliverP slipP
  rw [steps_over ss _ (fun s hs => by rw [startP_length]; exact h s hs), List.append_nil, sortK_id _ _ (startP_sorted _), startP_out]
end Go.Proofs.Ytihdpkeclmpehaa

namespace Go.Proofs.Ytihdpkeclmpehaa

theorem numberP_at : ∀ (l seen : List RP) (i : Nat) (q : RP), l[i]? = some q → (numberP seen l)[i]? = some { q with number := (((seen ++ l.take i).filter fun x => decide (x.scanner = q.scanner)).length : Nat) }
  | [], _, _, _, h => by simp at h
  | x :: l, seen, 0, q, h => by
    simp at h; subst h
    rw [numberP]; simp
  | x :: l, seen, i + 1, q, h => by
    have := numberP_at l (seen ++ [x]) i q (by simpa using h)
    rw [numberP, List.getElem?_cons_succ, this, List.take_succ_cons, List.append_assoc, List.singleton_append]
theorem numberP_map {β : Type} (f : RP → β) (hf : ∀ (q : RP) (n : Int), f { q with number := n } = f q) : ∀ (l seen : List RP), (numberP seen l).map f = l.map f
  | [], _ => rfl
  | x :: l, seen => by rw [numberP, List.map_cons, List.map_cons, hf, numberP_map f hf l]
def cntS (l : List RP) (s : Int) : Nat := (l.filter fun x => decide (x.scanner = s)).length
theorem cntS_map : ∀ (l k : List RP) (s : Int), l.map RP.scanner = k.map RP.scanner → cntS l s = cntS k s
  | [], [], _, _ => rfl
  | [], y :: k, _, h => by simp at h
  | x :: l, [], _, h => by simp at h
  | x :: l, y :: k, s, h => by
    rw [List.map_cons, List.map_cons] at h
    injection h with h1 h2
    have := cntS_map l k s h2
    unfold cntS at this ⊢
    rw [List.filter_cons, List.filter_cons, h1]
    split <;> simp [this]
/-- A record's number: how many of its scanner lie before it. -/
theorem rec_number {l : List Scn} {ts : List Tk} {i : Nat} {r : RP} (h : (recordsP l ts)[i]? = some r) : r.number = (cntS ((recordsP l ts).take i) r.scanner : Int) := by
  unfold recordsP at h ⊢
  obtain ⟨S, hS⟩ : ∃ S, sortK RP.time ((obsP ts).filterMap (noteP l)) = S := ⟨_, rfl⟩
  rw [hS] at h ⊢
  have hi := (List.getElem?_eq_some_iff.1 h).1
  rw [numberP_len] at hi
  have h2 := numberP_at S [] i S[i] (List.getElem?_eq_getElem hi)
  rw [h] at h2
  injection h2 with h2
  rw [h2]
  show ((cntS ([] ++ S.take i) _ : Nat) : Int) = _
  rw [List.nil_append, cntS_map (S.take i) ((numberP [] S).take i) _ (by rw [List.map_take, List.map_take, numberP_map RP.scanner (fun _ _ => rfl)])]
theorem insK_mem {α : Type} (key : α → Int) (x : α) (l : List α) : ∀ y ∈ insK key x l, y = x ∨ y ∈ l := by
  induction l with
  | nil => intro y hy; exact .inl (List.mem_singleton.1 hy)
  | cons z l ih =>
    intro y hy
    rw [insK] at hy
    split at hy
    · rcases List.mem_cons.1 hy with h | h
      · exact .inl h
      · exact .inr h
    · rcases List.mem_cons.1 hy with h | h
      · exact .inr (by simp [h])
      · rcases ih y h with h | h
        · exact .inl h
        · exact .inr (List.mem_cons_of_mem _ h)
theorem insK_pw {α : Type} (key : α → Int) (x : α) : ∀ l : List α, l.Pairwise (fun a b => key a ≤ key b) → (insK key x l).Pairwise (fun a b => key a ≤ key b)
  | [], _ => by rw [insK]; exact List.pairwise_singleton _ _
  | y :: l, h => by
    obtain ⟨h1, h2⟩ := List.pairwise_cons.1 h
    rw [insK]
    split
    · rename_i hxy
      exact List.pairwise_cons.2 ⟨fun z hz => by rcases List.mem_cons.1 hz with e | e; · rw [e]; exact hxy
                                                 · exact Int.le_trans hxy (h1 z e), h⟩
    · rename_i hxy
      exact List.pairwise_cons.2 ⟨fun z hz => by rcases insK_mem key x l z hz with e | e; · rw [e]; omega
                                                 · exact h1 z e, insK_pw key x l h2⟩
theorem sortK_pw {α : Type} (key : α → Int) : ∀ l : List α, (sortK key l).Pairwise (fun a b => key a ≤ key b)
  | [] => List.Pairwise.nil
  | x :: l => insK_pw key x _ (sortK_pw key l)
/-- The records' times do not decrease. -/
theorem rec_sorted (l : List Scn) (ts : List Tk) : (recordsP l ts).Pairwise (fun a b => a.time ≤ b.time) := by
  have h := sortK_pw RP.time ((obsP ts).filterMap (noteP l))
  have h2 : ((recordsP l ts).map RP.time).Pairwise (· ≤ ·) := by
    unfold recordsP
    rw [numberP_map RP.time (fun _ _ => rfl), List.pairwise_map]
    exact h
  rwa [List.pairwise_map] at h2
theorem rec_scan {l : List Scn} {ts : List Tk} {r : RP} (h : r ∈ recordsP l ts) : ∃ (i : Nat) (c : Scn), r.scanner = (i : Int) ∧ l[i]? = some c ∧ scanP l c.office = some i := by
  obtain ⟨o, ho, i, hsc, _, e1, _⟩ := rec_obs h
  obtain ⟨c, hc, hoff⟩ := scanP_some hsc
  exact ⟨i, c, e1, hc, by rw [hoff]; exact hsc⟩
theorem numberP_of {l : List RP} {seen : List RP} {q : RP} (h : q ∈ l) : ∃ n : Int, { q with number := n } ∈ numberP seen l := by
  obtain ⟨i, hi⟩ := List.getElem?_of_mem h
  exact ⟨_, List.mem_of_getElem? (numberP_at l seen i q hi)⟩
/-- An observation that counts has a record. -/
theorem obs_rec {l : List Scn} {ts : List Tk} {o : Ob} (ho : o ∈ obsP ts) {i : Nat} (hs : scanP l o.office = some i) (ht : o.time ≤ 1000000) : ∃ n : Int, (⟨i, n, o.kind, o.time, o.label, o.contents⟩ : RP) ∈ recordsP l ts := by
  have hn : noteP l o = some ⟨i, 0, o.kind, o.time, o.label, o.contents⟩ := by
    unfold noteP
    rw [hs]
    show (if 1000000 < o.time then none else some _) = _
    rw [if_neg (by omega)]
  have hm : (⟨i, 0, o.kind, o.time, o.label, o.contents⟩ : RP) ∈ sortK RP.time ((obsP ts).filterMap (noteP l)) := (sortK_perm _ _).mem_iff.2 (List.mem_filterMap.2 ⟨o, ho, hn⟩)
  obtain ⟨n, h⟩ := numberP_of (seen := []) hm
  exact ⟨n, h⟩
/-- Each arrival at an office with a scanner has a record. -/
theorem arrive_rec {l : List Scn} {ts : List Tk} {i j k : Nat} {t : Tk} {s : Stp} (ht : ts[i]? = some t) (hs : t.stops[j]? = some s) (hk : scanP l s.office = some k) (h6 : s.arrive ≤ 1000000) : ∃ n : Int, (⟨k, n, 1, s.arrive, labelP t s.arrive, []⟩ : RP) ∈ recordsP l ts :=
  obs_rec (o := ⟨s.office, 1, s.arrive, labelP t s.arrive, []⟩) (obs_mem ht hs (by unfold obsStop; exact List.mem_cons_self ..)) hk h6
end Go.Proofs.Ytihdpkeclmpehaa

namespace Go.Proofs.Ytihdpkeclmpehaa

theorem SeesP.mono {o a b a' b' : Int} {t : Tk} {s : ByteArray} (h : SeesP o a b t s) (ha : a' ≤ a) (hb : b ≤ b') : SeesP o a' b' t s := by
  obtain ⟨j, st, m, h1, h2, h3, h4, h5, h6, h7⟩ := h
  exact ⟨j, st, m, h1, h2, h3, by omega, by omega, h6, h7⟩
theorem HasP.mono {o a b a' b' x y : Int} (h : HasP o a b x y) (ha : a' ≤ a) (hb : b ≤ b') : HasP o a' b' x y := ⟨h.1, by have := h.2.1; omega, by have := h.2.2; omega⟩
/-- A true record stays true if errors are declared greater. -/
theorem true_wide {l l' : List Scn} {ts : List Tk} {r : RP} (h : TrueP l ts r) (hw : ∀ (i : Nat) (c : Scn), l[i]? = some c → ∃ c' : Scn, l'[i]? = some c' ∧ c'.office = c.office ∧ c.error ≤ c'.error) : TrueP l' ts r := by
  obtain ⟨h1, h2, h3, c, hc, h4⟩ := h
  obtain ⟨c', hc', ho, he⟩ := hw _ c hc
  refine ⟨h1, h2, h3, c', hc', ?_⟩
  rw [ho]
  rcases h4 with ⟨k, kc, h | ⟨a, b, hcp, h⟩⟩ | ⟨k, a, b, hcp, h, hcon⟩
  · obtain ⟨t, ht, hs⟩ := h
    exact .inl ⟨k, kc, .inl ⟨t, ht, hs.mono (by omega) (by omega)⟩⟩
  · refine .inl ⟨k, kc, .inr ⟨a, b, hcp, ?_⟩⟩
    rcases h with h | h
    · exact .inl (h.mono (by omega) (by omega))
    · exact .inr (h.mono (by omega) (by omega))
  · exact .inr ⟨k, a, b, hcp, h.mono (by omega) (by omega), hcon⟩
theorem firstP_more {ts : List Tk} {s : ByteArray} {p : Nat × Nat} (h : firstP ts s = some p) (us : List Tk) : firstP (ts ++ us) s = some p := by
  induction ts generalizing p with
  | nil => rw [firstP] at h; cases h
  | cons t ts ih =>
    rw [List.cons_append, firstP]
    rw [firstP] at h
    cases hf : t.seals.findIdx? (fun x => decide (x = s)) with
    | some j => rw [hf] at h; exact h
    | none =>
      rw [hf] at h
      simp only at h ⊢
      obtain ⟨q, hq, rfl⟩ := Option.map_eq_some_iff.1 h
      rw [ih hq]; rfl
theorem ContP.more {ts : List Tk} {s : ByteArray} {a b : Stp} (h : ContP ts s a b) (us : List Tk) : ContP (ts ++ us) s a b := by
  obtain ⟨i, j, t, h1, h2, h3, h4⟩ := h
  exact ⟨i, j, t, firstP_more h1 us, by rw [List.getElem?_append_left (List.getElem?_eq_some_iff.1 h2).1]; exact h2, h3, h4⟩
/-- A true scan stays true with further tracks. -/
theorem true_more {l : List Scn} {ts us : List Tk} {r : RP} (h : TrueP l ts r) (hk : r.kind = 1) : TrueP l (ts ++ us) r := by
  obtain ⟨h1, h2, h3, c, hc, h4⟩ := h
  refine ⟨h1, h2, h3, c, hc, ?_⟩
  rcases h4 with ⟨k, kc, h | ⟨a, b, hcp, h⟩⟩ | ⟨k, _⟩
  · obtain ⟨t, ht, hs⟩ := h
    exact .inl ⟨k, kc, .inl ⟨t, List.mem_append_left _ ht, hs⟩⟩
  · exact .inl ⟨k, kc, .inr ⟨a, b, hcp.more us, h⟩⟩
  · omega
/-- A recorded scan is recorded with further tracks. -/
theorem rec_more {l : List Scn} {ts us : List Tk} {r : RP} (h : r ∈ recordsP l ts) (hk : r.kind = 1) : ∃ q ∈ recordsP l (ts ++ us), q.kind = 1 ∧ q.scanner = r.scanner ∧ q.time = r.time ∧ q.label = r.label := by
  obtain ⟨o, ho, i, hsc, htm, e1, e2, e3, e4, e5⟩ := rec_obs h
  obtain ⟨k, t, j, s, ht, hs, hcs⟩ := obs_cases ho
  have ht' : (ts ++ us)[k]? = some t := by rw [List.getElem?_append_left (List.getElem?_eq_some_iff.1 ht).1]; exact ht
  have hmem : o ∈ obsP (ts ++ us) := by
    refine obs_mem ht' hs ?_
    unfold obsStop
    rcases hcs with rfl | ⟨e, n, he, hn, hf, rfl | rfl⟩
    · exact List.mem_cons_self ..
    · exact absurd (show (2 : Int) = 1 from e2.symm.trans hk) (by decide)
    · refine List.mem_cons_of_mem _ ?_
      rw [he]
      simp only
      rw [hn]
      simp only
      rw [if_pos (firstP_more hf us)]
      simp
  obtain ⟨n, hn⟩ := obs_rec (l := l) hmem hsc htm
  exact ⟨_, hn, by rw [← hk, e2], e1.symm, e3.symm, e4.symm⟩
def tellsB (s : SP) : Bool := decide (s.kind = 2 ∨ s.kind = 4 ∨ s.kind = 3)
/-- What is delivered is a record, or one of a few others. -/
theorem steps_told (rs : List RP) : ∀ (ss : List SP) (x : List DP × List DP) (T : List RP), (∀ d ∈ x.1 ++ x.2, d.r ∈ rs ∨ d.r ∈ T) → ∃ T' : List RP, T'.length ≤ T.length + (ss.filter tellsB).length ∧ ∀ d ∈ (ss.foldl stepP x).1 ++ (ss.foldl stepP x).2, d.r ∈ rs ∨ d.r ∈ T'
  | [], x, T, h => ⟨T, by simp, h⟩
  | s :: ss, x, T, h => by
    rw [List.foldl_cons]
    obtain ⟨T1, hT1, h1⟩ : ∃ T1 : List RP, T1.length ≤ T.length + (if tellsB s then 1 else 0) ∧ ∀ d ∈ (stepP x s).1 ++ (stepP x s).2, d.r ∈ rs ∨ d.r ∈ T1 := by
      unfold stepP
      by_cases h3 : s.kind = 3
      · rw [if_pos h3]
        refine ⟨T ++ [s.record], by simp [tellsB, h3], fun d hd => ?_⟩
        rw [← List.append_assoc] at hd
        rcases List.mem_append.1 hd with hd | hd
        · rcases h d hd with e | e
          · exact .inl e
          · exact .inr (List.mem_append_left _ e)
        · rw [List.mem_singleton.1 hd]; exact .inr (by simp)
      · rw [if_neg h3]
        by_cases hc : cntP x.1.length s
        · rw [if_pos hc]
          have hlt : s.index.toNat < x.1.length := by obtain ⟨a, b, _⟩ := hc; omega
          by_cases ht : s.kind = 2 ∨ s.kind = 4
          · refine ⟨T ++ [(chgP s x.1[s.index.toNat]).r], by rcases ht with h | h <;> simp [tellsB, h], fun d hd => ?_⟩
            rcases List.mem_append.1 hd with hd | hd
            · obtain ⟨j, hj⟩ := List.getElem?_of_mem hd
              rw [List.getElem?_modify] at hj
              by_cases hji : s.index.toNat = j
              · subst hji
                rw [List.getElem?_eq_getElem hlt] at hj
                simp at hj
                rw [← hj]; exact .inr (by simp)
              · simp [hji] at hj
                rcases h d (List.mem_append_left _ (List.mem_of_getElem? hj)) with e | e
                · exact .inl e
                · exact .inr (List.mem_append_left _ e)
            · rcases h d (List.mem_append_right _ hd) with e | e
              · exact .inl e
              · exact .inr (List.mem_append_left _ e)
          · refine ⟨T, by omega, fun d hd => ?_⟩
            have hr : ∀ d, (chgP s d).r = d.r := by
              intro d
              unfold chgP
              have n2 : ¬ s.kind = 2 := fun e => ht (.inl e)
              have n4 : ¬ s.kind = 4 := fun e => ht (.inr e)
              rw [if_neg n2, if_neg n4]
              split
              · rfl
              · split
                · rfl
                · split <;> rfl
            rcases List.mem_append.1 hd with hd | hd
            · obtain ⟨j, hj⟩ := List.getElem?_of_mem hd
              rw [List.getElem?_modify] at hj
              by_cases hji : s.index.toNat = j
              · subst hji
                rw [List.getElem?_eq_getElem hlt] at hj
                simp at hj
                rw [← hj, hr]
                exact h _ (List.mem_append_left _ (List.getElem_mem hlt))
              · simp [hji] at hj
                exact h d (List.mem_append_left _ (List.mem_of_getElem? hj))
            · exact h d (List.mem_append_right _ hd)
        · rw [if_neg hc]
          exact ⟨T, by omega, h⟩
    obtain ⟨T2, hT2, h2⟩ := steps_told rs ss (stepP x s) T1 h1
    refine ⟨T2, ?_, h2⟩
    rw [List.filter_cons]
    cases hs : tellsB s <;> simp [hs] at hT1 ⊢ <;> omega
/-- At most so many different delivered records are not true as slips misread, drift or invent. -/
theorem false_few {l : List Scn} {ts : List Tk} (hl : ScnsOk l) (hts : TksOk ts) (ss : List SP) : ∃ T : List RP, T.length ≤ (ss.filter tellsB).length ∧ ∀ r ∈ deliverP l ts ss, TrueP l ts r ∨ r ∈ T := by
  obtain ⟨T, hT, h⟩ := steps_told (recordsP l ts) ss (startP (recordsP l ts), []) [] (fun d hd => by
    rw [List.append_nil] at hd
    unfold startP at hd
    obtain ⟨x, hx, rfl⟩ := List.mem_map.1 hd
    exact .inl (List.fst_mem_of_mem_zipIdx hx))
  refine ⟨T, by simpa using hT, fun r hr => ?_⟩
  unfold deliverP at hr
  obtain ⟨d, hd, hr⟩ := List.mem_flatMap.1 hr
  have hd' := (sortK_perm _ _).mem_iff.1 hd
  have hrr : r = d.r := by
    unfold outP at hr
    split at hr
    · cases hr
    · exact List.eq_of_mem_replicate hr
  rcases h d hd' with e | e
  · left; rw [hrr]; exact rec_true hl hts e
  · right; rw [hrr]; exact e
end Go.Proofs.Ytihdpkeclmpehaa

namespace Go.Proofs.Ytihdpkeclmpehaa

theorem cntS_take_succ {l : List RP} {i : Nat} {r : RP} (h : l[i]? = some r) : cntS (l.take (i + 1)) r.scanner = cntS (l.take i) r.scanner + 1 := by
  unfold cntS
  rw [List.take_add_one, h, List.filter_append]
  simp
theorem cntS_mono (l : List RP) (s : Int) {i j : Nat} (h : i ≤ j) : cntS (l.take i) s ≤ cntS (l.take j) s := by
  unfold cntS
  have : l.take i = (l.take j).take i := by rw [List.take_take, Nat.min_eq_left h]
  rw [this]
  exact (List.Sublist.filter _ (List.take_sublist _ _)).length_le
/-- No two records are equal. -/
theorem rec_distinct {l : List Scn} {ts : List Tk} {i j : Nat} {r : RP} (hi : (recordsP l ts)[i]? = some r) (hj : (recordsP l ts)[j]? = some r) : i = j := by
  have key : ∀ {a b : Nat}, (recordsP l ts)[a]? = some r → (recordsP l ts)[b]? = some r → a < b → False := by
    intro a b ha hb hab
    have h1 := rec_number ha
    have h2 := rec_number hb
    have h3 := cntS_take_succ ha
    have h4 := cntS_mono (recordsP l ts) r.scanner (show a + 1 ≤ b by omega)
    omega
  rcases Nat.lt_trichotomy i j with h | h | h
  · exact (key hi hj h).elim
  · exact h
  · exact (key hj hi h).elim
/-- What the law keeps of the slips: how often more, and whether missed. -/
def keepS (n : Nat) (x : List Int × List Bool) (s : SP) : List Int × List Bool :=
  if cntP n s then (if s.kind = 5 then x.1.modify s.index.toNat (· + 1) else x.1, x.2.modify s.index.toNat (fun b => b || decide (s.kind = 1))) else x
def threeB (s : SP) : Prop := s.kind = 1 ∨ s.kind = 5 ∨ s.kind = 6
theorem modify_map {α β : Type} (f : α → β) (g : α → α) (k : β → β) (h : ∀ a, f (g a) = k (f a)) (l : List α) (i : Nat) : (l.modify i g).map f = (l.map f).modify i k := by
  apply List.ext_getElem?
  intro j
  rw [List.getElem?_map, List.getElem?_modify, List.getElem?_modify, List.getElem?_map]
  cases l[j]? with
  | none => rfl
  | some a => by_cases hij : i = j <;> simp [hij, h]
theorem modify_id' {α : Type} (l : List α) (i : Nat) : l.modify i (fun a => a) = l := List.modify_id _ _
theorem steps_three (n : Nat) : ∀ (ss : List SP) (x : List DP × List DP) (y : List Int × List Bool), (∀ s ∈ ss, threeB s) → x.1.length = n → x.2 = [] → x.1.map DP.times = y.1.map (1 + ·) → x.1.map DP.missed = y.2 →
    (ss.foldl stepP x).2 = [] ∧ (ss.foldl stepP x).1.map DP.r = x.1.map DP.r ∧ (ss.foldl stepP x).1.map DP.times = (ss.foldl (keepS n) y).1.map (1 + ·) ∧ (ss.foldl stepP x).1.map DP.missed = (ss.foldl (keepS n) y).2
  | [], x, y, _, _, h2, h3, h4 => ⟨h2, rfl, h3, h4⟩
  | s :: ss, x, y, hs, h1, h2, h3, h4 => by
    have h := hs s (by simp)
    rw [List.foldl_cons, List.foldl_cons]
    have hst : (stepP x s).2 = [] ∧ (stepP x s).1.map DP.r = x.1.map DP.r ∧ (stepP x s).1.map DP.times = (keepS n y s).1.map (1 + ·) ∧ (stepP x s).1.map DP.missed = (keepS n y s).2 := by
      have n3 : ¬ s.kind = 3 := by rcases h with h | h | h <;> omega
      unfold stepP keepS
      rw [if_neg n3, h1]
      by_cases hc : cntP n s
      · rw [if_pos hc, if_pos hc]
        refine ⟨h2, ?_, ?_, ?_⟩
        · show (x.1.modify _ _).map DP.r = _
          rw [modify_map DP.r (chgP s) (fun a => a) (fun d => by rcases h with h | h | h <;> simp [chgP, h]), modify_id']
        · show (x.1.modify _ _).map DP.times = (if s.kind = 5 then _ else _ : List Int).map _
          by_cases h5 : s.kind = 5
          · rw [if_pos h5, modify_map DP.times (chgP s) (· + 1) (fun d => by simp [chgP, h5]), modify_map (1 + ·) (· + 1) (· + 1) (fun a => by omega), h3]
          · rw [if_neg h5, modify_map DP.times (chgP s) (fun a => a) (fun d => by rcases h with h | h | h <;> first | (exact absurd h h5) | simp [chgP, h]), modify_id', h3]
        · show (x.1.modify _ _).map DP.missed = _
          rw [modify_map DP.missed (chgP s) (fun b => b || decide (s.kind = 1)) (fun d => by rcases h with h | h | h <;> simp [chgP, h]), h4]
      · rw [if_neg hc, if_neg hc]
        exact ⟨h2, rfl, h3, h4⟩
    obtain ⟨a1, a2, a3, a4⟩ := hst
    obtain ⟨b1, b2, b3, b4⟩ := steps_three n ss (stepP x s) (keepS n y s) (fun t ht => hs t (List.mem_cons_of_mem _ ht)) (by rw [stepP_len]; exact h1) a1 a3 a4
    exact ⟨b1, b2.trans a2, b3, b4⟩
end Go.Proofs.Ytihdpkeclmpehaa

namespace Go.Proofs.Ytihdpkeclmpehaa

def countR (l : List RP) (r : RP) : Nat := (l.filter fun x => decide (x = r)).length
def lenD (d : DP) : Nat := if d.missed then 0 else d.times.toNat
theorem out_len (d : DP) : (outP d).length = lenD d := by
  unfold outP lenD
  split <;> simp
theorem out_count (d : DP) (r : RP) : countR (outP d) r = if d.r = r then lenD d else 0 := by
  unfold countR outP lenD
  cases d.missed with
  | true => simp
  | false =>
    simp only [Bool.false_eq_true, if_false]
    by_cases h : d.r = r
    · rw [if_pos h, List.filter_replicate, if_pos (by simpa using h), List.length_replicate]
    · rw [if_neg h, List.filter_replicate, if_neg (by simpa using h)]; rfl
theorem out_flat_count (r : RP) : ∀ l : List DP, countR (l.flatMap outP) r = (l.map fun d => if d.r = r then lenD d else 0).sum
  | [] => rfl
  | d :: l => by
    have h1 := out_count d r
    have h2 := out_flat_count r l
    unfold countR at h1 h2 ⊢
    rw [List.flatMap_cons, List.filter_append, List.length_append, List.map_cons, List.sum_cons, h1, h2]
theorem out_flat_len : ∀ l : List DP, (l.flatMap outP).length = (l.map lenD).sum
  | [] => rfl
  | d :: l => by rw [List.flatMap_cons, List.length_append, List.map_cons, List.sum_cons, out_len, out_flat_len l]
theorem sum_one {f : DP → Nat} {r : RP} : ∀ (l : List DP) (i : Nat) (d : DP), l[i]? = some d → d.r = r → (∀ j e, l[j]? = some e → e.r = r → j = i) → (l.map fun d => if d.r = r then f d else 0).sum = f d
  | [], i, d, h, _, _ => by simp at h
  | x :: l, 0, d, h, hr, hu => by
    simp at h; subst h
    rw [List.map_cons, List.sum_cons, if_pos hr]
    have : (l.map fun d => if d.r = r then f d else 0).sum = 0 := by
      have hz : ∀ e ∈ l, e.r ≠ r := fun e he hh => by
        obtain ⟨j, hj⟩ := List.getElem?_of_mem he
        have := hu (j + 1) e (by simpa using hj) hh
        omega
      clear hu
      induction l with
      | nil => rfl
      | cons y t ih => rw [List.map_cons, List.sum_cons, if_neg (hz y (by simp)), ih (fun e he => hz e (List.mem_cons_of_mem _ he))]
    omega
  | x :: l, i + 1, d, h, hr, hu => by
    have hx : x.r ≠ r := fun hh => by have := hu 0 x rfl hh; omega
    rw [List.map_cons, List.sum_cons, if_neg hx, Nat.zero_add]
    exact sum_one l i d (by simpa using h) hr (fun j e hj he => by have := hu (j + 1) e (by simpa using hj) he; omega)
theorem countR_perm {a b : List RP} (h : a.Perm b) (r : RP) : countR a r = countR b r := (h.filter _).length_eq
theorem flatMap_perm {a b : List DP} (h : a.Perm b) : (a.flatMap outP).Perm (b.flatMap outP) := h.flatMap_right _
theorem startP_r (rs : List RP) : (startP rs).map DP.r = rs := by
  unfold startP
  rw [List.map_map]
  show (rs.zipIdx.map fun x => x.1) = rs
  exact List.zipIdx_map_fst ..
theorem startP_const {β : Type} (f : DP → β) (b : β) (hf : ∀ r n, f ⟨r, n, 1, false⟩ = b) (rs : List RP) : (startP rs).map f = List.replicate rs.length b := by
  unfold startP
  rw [List.map_map]
  apply List.ext_getElem?
  intro j
  rw [List.getElem?_map, List.getElem?_zipIdx, List.getElem?_replicate]
  by_cases hj : j < rs.length
  · rw [if_pos hj, List.getElem?_eq_getElem hj]; simp [hf]
  · rw [if_neg hj, List.getElem?_eq_none (by omega)]; rfl
/-- With slips that miss, repeat or delay alone: the deliveries, and how often each record comes. -/
theorem deliver_three {l : List Scn} {ts : List Tk} {ss : List SP} (h : ∀ s ∈ ss, threeB s) : ∃ dl : List DP, dl.map DP.r = recordsP l ts ∧
    dl.map DP.times = (ss.foldl (keepS (recordsP l ts).length) (List.replicate (recordsP l ts).length 0, List.replicate (recordsP l ts).length false)).1.map (1 + ·) ∧
    dl.map DP.missed = (ss.foldl (keepS (recordsP l ts).length) (List.replicate (recordsP l ts).length 0, List.replicate (recordsP l ts).length false)).2 ∧
    (deliverP l ts ss).length = (dl.map lenD).sum ∧ ∀ (i : Nat) (d : DP), dl[i]? = some d → countR (deliverP l ts ss) d.r = lenD d := by
  obtain ⟨h1, h2, h3, h4⟩ := steps_three (recordsP l ts).length ss (startP (recordsP l ts), []) (List.replicate (recordsP l ts).length 0, List.replicate (recordsP l ts).length false) h (startP_length _) rfl
    (by rw [startP_const DP.times 1 (fun _ _ => rfl), List.map_replicate]; rfl) (startP_const DP.missed false (fun _ _ => rfl) _)
  obtain ⟨dl, hdl⟩ : ∃ dl, (ss.foldl stepP (startP (recordsP l ts), [])).1 = dl := ⟨_, rfl⟩
  rw [hdl] at h2 h3 h4
  have hr : dl.map DP.r = recordsP l ts := h2.trans (startP_r _)
  have hp : (deliverP l ts ss).Perm (dl.flatMap outP) := by
    unfold deliverP slipP
    rw [h1, hdl, List.append_nil]
    exact flatMap_perm (sortK_perm _ _)
  refine ⟨dl, hr, h3, h4, by rw [hp.length_eq, out_flat_len], fun i d hd => ?_⟩
  rw [countR_perm hp, out_flat_count]
  refine sum_one dl i d hd rfl (fun j e hj he => ?_)
  have e1 : (recordsP l ts)[i]? = some d.r := by rw [← hr, List.getElem?_map, hd]; rfl
  have e2 : (recordsP l ts)[j]? = some d.r := by rw [← hr, List.getElem?_map, hj]; show some e.r = _; rw [he]
  exact rec_distinct e2 e1
end Go.Proofs.Ytihdpkeclmpehaa

namespace Go.Proofs.Ytihdpkeclmpehaa

theorem chg_cont (s : SP) (d : DP) : (chgP s d).r.contents = d.r.contents := by
  unfold chgP
  split
  · rfl
  · split
    · rfl
    · split
      · rfl
      · split
        · rfl
        · split <;> rfl
theorem steps_cont (Q : List ByteArray → Prop) : ∀ (ss : List SP) (x : List DP × List DP), (∀ s ∈ ss, s.kind = 3 → Q s.record.contents) → (∀ d ∈ x.1 ++ x.2, Q d.r.contents) → ∀ d ∈ (ss.foldl stepP x).1 ++ (ss.foldl stepP x).2, Q d.r.contents
  | [], x, _, h => h
  | s :: ss, x, hs, h => by
    rw [List.foldl_cons]
    refine steps_cont Q ss _ (fun t ht => hs t (List.mem_cons_of_mem _ ht)) ?_
    intro d hd
    unfold stepP at hd
    by_cases h3 : s.kind = 3
    · rw [if_pos h3, ← List.append_assoc] at hd
      rcases List.mem_append.1 hd with hd | hd
      · exact h d hd
      · rw [List.mem_singleton.1 hd]; exact hs s (by simp) h3
    · rw [if_neg h3] at hd
      by_cases hc : cntP x.1.length s
      · rw [if_pos hc] at hd
        rcases List.mem_append.1 hd with hd | hd
        · obtain ⟨j, hj⟩ := List.getElem?_of_mem hd
          rw [List.getElem?_modify] at hj
          cases hx : x.1[j]? with
          | none => rw [hx] at hj; cases hj
          | some e =>
            rw [hx] at hj
            have he : Q e.r.contents := h e (List.mem_append_left _ (List.mem_of_getElem? hx))
            by_cases hji : s.index.toNat = j
            · simp [hji] at hj; rw [← hj, chg_cont]; exact he
            · simp [hji] at hj; rw [← hj]; exact he
        · exact h d (List.mem_append_right _ hd)
      · rw [if_neg hc] at hd; exact h d hd
theorem deliver_cont {l : List Scn} {ts : List Tk} {ss : List SP} (Q : List ByteArray → Prop) (h1 : ∀ r ∈ recordsP l ts, Q r.contents) (h2 : ∀ s ∈ ss, s.kind = 3 → Q s.record.contents) : ∀ r ∈ deliverP l ts ss, Q r.contents := by
  intro r hr
  have hst := steps_cont Q ss (startP (recordsP l ts), []) h2 (fun d hd => by
    rw [List.append_nil] at hd
    unfold startP at hd
    obtain ⟨x, hx, rfl⟩ := List.mem_map.1 hd
    exact h1 _ (List.fst_mem_of_mem_zipIdx hx))
  unfold deliverP at hr
  obtain ⟨d, hd, hr⟩ := List.mem_flatMap.1 hr
  have hd' := (sortK_perm _ _).mem_iff.1 hd
  have hrr : r = d.r := by
    unfold outP at hr
    split at hr
    · cases hr
    · exact List.eq_of_mem_replicate hr
  rw [hrr]; exact hst d hd'
theorem nodup_len {α : Type} [DecidableEq α] : ∀ (l T : List α), l.Nodup → (∀ x ∈ l, x ∈ T) → l.length ≤ T.length
  | [], T, _, _ => Nat.zero_le _
  | x :: l, T, hn, h => by
    have hx := h x (by simp)
    have h1 := nodup_len l (T.erase x) (List.nodup_cons.1 hn).2 (fun y hy => by
      have hne : y ≠ x := fun e => (List.nodup_cons.1 hn).1 (by rw [← e]; exact hy)
      exact (List.mem_erase_of_ne hne).2 (h y (List.mem_cons_of_mem _ hy)))
    rw [List.length_erase_of_mem hx] at h1
    have := List.length_pos_of_mem hx
    rw [List.length_cons]; omega
/-- Different delivered records that are not true: as many at most as slips that tell something else. -/
theorem bad_few {l : List Scn} {ts : List Tk} (hl : ScnsOk l) (hts : TksOk ts) (ss : List SP) {bad : List RP} (hn : bad.Nodup) (hb : ∀ r ∈ bad, r ∈ deliverP l ts ss ∧ ¬ TrueP l ts r) : bad.length ≤ (ss.filter tellsB).length := by
  obtain ⟨T, hT, h⟩ := false_few hl hts ss
  refine Nat.le_trans (nodup_len bad T hn fun r hr => ?_) hT
  rcases h r (hb r hr).1 with e | e
  · exact absurd e (hb r hr).2
  · exact e
theorem count0 {bad : List RP} {r : RP} : countR bad r = 0 ↔ r ∉ bad := by
  unfold countR
  rw [List.length_eq_zero_iff, List.filter_eq_nil_iff]
  constructor
  · intro h hm; exact h r hm (by simp)
  · intro h x hx e; rw [decide_eq_true_eq] at e; exact h (e ▸ hx)
theorem chg_times (s : SP) (d : DP) : (chgP s d).times ≤ d.times + 1 := by
  unfold chgP
  split
  · show d.times ≤ d.times + 1; omega
  · split
    · show d.times ≤ d.times + 1; omega
    · split
      · show d.times ≤ d.times + 1; omega
      · split
        · show d.times + 1 ≤ d.times + 1; omega
        · split
          · show d.times ≤ d.times + 1; omega
          · omega
theorem steps_times : ∀ (ss : List SP) (x : List DP × List DP) (B : Int), 1 ≤ B → (∀ d ∈ x.1 ++ x.2, d.times ≤ B) →
    ((ss.foldl stepP x).1 ++ (ss.foldl stepP x).2).length ≤ (x.1 ++ x.2).length + ss.length ∧ ∀ d ∈ (ss.foldl stepP x).1 ++ (ss.foldl stepP x).2, d.times ≤ B + ss.length
  | [], x, B, _, h => ⟨Nat.le_refl _, fun d hd => by have := h d hd; simp; omega⟩
  | s :: ss, x, B, hB, h => by
    rw [List.foldl_cons]
    have hst : ((stepP x s).1 ++ (stepP x s).2).length ≤ (x.1 ++ x.2).length + 1 ∧ ∀ d ∈ (stepP x s).1 ++ (stepP x s).2, d.times ≤ B + 1 := by
      unfold stepP
      by_cases h3 : s.kind = 3
      · rw [if_pos h3]
        refine ⟨by simp; omega, fun d hd => ?_⟩
        rw [← List.append_assoc] at hd
        rcases List.mem_append.1 hd with hd | hd
        · have := h d hd; omega
        · rw [List.mem_singleton.1 hd]; show (1 : Int) ≤ B + 1; omega
      · rw [if_neg h3]
        by_cases hc : cntP x.1.length s
        · rw [if_pos hc]
          refine ⟨by simp, fun d hd => ?_⟩
          rcases List.mem_append.1 hd with hd | hd
          · obtain ⟨j, hj⟩ := List.getElem?_of_mem hd
            rw [List.getElem?_modify] at hj
            cases hx : x.1[j]? with
            | none => rw [hx] at hj; cases hj
            | some e =>
              rw [hx] at hj
              have he := h e (List.mem_append_left _ (List.mem_of_getElem? hx))
              by_cases hji : s.index.toNat = j
              · simp [hji] at hj; rw [← hj]; have := chg_times s e; omega
              · simp [hji] at hj; rw [← hj]; omega
          · have := h d (List.mem_append_right _ hd); omega
        · rw [if_neg hc]
          exact ⟨by omega, fun d hd => by have := h d hd; omega⟩
    obtain ⟨h1, h2⟩ := steps_times ss (stepP x s) (B + 1) (by omega) hst.2
    refine ⟨?_, fun d hd => ?_⟩
    · rw [List.length_cons]; have := hst.1; omega
    · have := h2 d hd
      rw [List.length_cons]; omega
theorem sum_le {B : Nat} : ∀ l : List DP, (∀ d ∈ l, lenD d ≤ B) → (l.map lenD).sum ≤ l.length * B
  | [], _ => by simp
  | d :: l, h => by
    have h1 := sum_le l (fun e he => h e (List.mem_cons_of_mem _ he))
    have h2 := h d (by simp)
    rw [List.map_cons, List.sum_cons, List.length_cons, Nat.add_mul]; omega
theorem deliver_few {l : List Scn} {ts : List Tk} {ss : List SP} (hr : (recordsP l ts).length ≤ 480) (hs : ss.length ≤ 20) : (deliverP l ts ss).length ≤ 10500 := by
  obtain ⟨h1, h2⟩ := steps_times ss (startP (recordsP l ts), []) 1 (by omega) (fun d hd => by
    rw [List.append_nil] at hd
    unfold startP at hd
    obtain ⟨x, hx, rfl⟩ := List.mem_map.1 hd
    exact Int.le_refl _)
  have h3 : (startP (recordsP l ts)).length ≤ 480 := by unfold startP; simpa using hr
  unfold deliverP
  rw [out_flat_len]
  have hp := sortK_perm DP.number ((ss.foldl stepP (startP (recordsP l ts), [])).1 ++ (ss.foldl stepP (startP (recordsP l ts), [])).2)
  have hb := sum_le (B := 21) (sortK DP.number ((ss.foldl stepP (startP (recordsP l ts), [])).1 ++ (ss.foldl stepP (startP (recordsP l ts), [])).2)) (fun d hd => by
    have := h2 d (hp.mem_iff.1 hd)
    unfold lenD
    split
    · omega
    · omega)
  have hl := hp.length_eq
  simp only [List.append_nil] at h1
  refine Nat.le_trans hb ?_
  rw [hl]
  have : ((ss.foldl stepP (startP (recordsP l ts), [])).1 ++ (ss.foldl stepP (startP (recordsP l ts), [])).2).length ≤ 500 := by omega
  omega
end Go.Proofs.Ytihdpkeclmpehaa

namespace Go.Proofs.Ytihdpkeclmpehaa
open Go.RowKit

theorem countR_take {rl : List Rec} {i : Nat} {x : Rec} (h : rl[i]? = some x) (q : RP) : countR ((rl.take (i + 1)).map Rec.rp) q = countR ((rl.take i).map Rec.rp) q + if x.rp = q then 1 else 0 := by
  rw [List.take_add_one, h, List.map_append]
  show countR (_ ++ [x.rp]) q = _
  unfold countR
  rw [List.filter_append, List.length_append, List.filter_cons]
  by_cases hq : x.rp = q <;> simp [hq]
theorem equal_agg (x y : Rec) (w : World) (R) (hl : x.contents.length ≤ maxLen) (h : StrsAt w x.cp x.contents) (k : StrsAt w y.cp y.contents) (hR : ∀ w', Below w.heap.size w w' → R (.returned (.bool (decide (x.rp = y.rp)))) w') :
    Calls Try.prog 38 #[.agg #[.int .i64 x.scanner, .int .i64 x.number, .int .i64 x.kind, .int .i64 x.time, .string x.label, .slice x.cp x.contents.length x.cc], .agg #[.int .i64 y.scanner, .int .i64 y.number, .int .i64 y.kind, .int .i64 y.time, .string y.label, .slice y.cp y.contents.length y.cc]] w R := by
  rw [← x.val_eq, ← y.val_eq]
  exact equal_c x y w R hl h k hR
set_option maxRecDepth 100000 in
set_option maxHeartbeats 2000000 in
theorem count_c (q : Option Addr) (k c : Nat) (rl : List Rec) (r : Rec) (w : World) (R) (hk : rl.length = k) (hk4 : k ≤ 1000000000) (h : RecsAt w q rl) (hc : ∀ x ∈ rl, x.contents.length ≤ maxLen) (hs : StrsAt w r.cp r.contents)
    (hR : ∀ w', Below w.heap.size w w' → R (.returned (.int .i64 (countR (rl.map Rec.rp) r.rp : Int))) w') : Calls Try.prog 19 #[.slice q k c, .agg r.cells.toArray] w R := by
  have HR := hide hR; have H := hide h; have Hk := hide hk; have HC := hide hc; have Hs := hide hs
  have hcl := hide (show Rec.cells r = [.int .i64 r.scanner, .int .i64 r.number, .int .i64 r.kind, .int .i64 r.time, .string r.label, .slice r.cp r.contents.length r.cc] from rfl)
  rw [hcl.out]
  obtain ⟨w1, hw1⟩ : ∃ w1, w.alloc (.cells #[.int .i64 r.scanner, .int .i64 r.number, .int .i64 r.kind, .int .i64 r.time, .string r.label, .slice r.cp r.contents.length r.cc] 31) = w1 := ⟨_, rfl⟩
  have HB1 := hide (show Below w.heap.size w w1 from hw1 ▸ balloc (Below.refl _ _) _)
  have kx : Blk w1 w.heap.size #[.int .i64 r.scanner, .int .i64 r.number, .int .i64 r.kind, .int .i64 r.time, .string r.label, .slice r.cp r.contents.length r.cc] 31 := hw1 ▸ Blk.new _ _ _
  have HY : Hid (∀ w', Below w1.heap.size w1 w' → w'.cell? ⟨w.heap.size, 0, none⟩ = some (.int .i64 r.scanner) ∧ w'.cell? ⟨w.heap.size, 1, none⟩ = some (.int .i64 r.number) ∧ w'.cell? ⟨w.heap.size, 2, none⟩ = some (.int .i64 r.kind) ∧ w'.cell? ⟨w.heap.size, 3, none⟩ = some (.int .i64 r.time) ∧ w'.cell? ⟨w.heap.size, 4, none⟩ = some (.string r.label) ∧ w'.cell? ⟨w.heap.size, 5, none⟩ = some (.slice r.cp r.contents.length r.cc)) :=
    hide (fun w' h => ⟨cell_later h (kx.cell (k := 0) rfl), cell_later h (kx.cell (k := 1) rfl), cell_later h (kx.cell (k := 2) rfl), cell_later h (kx.cell (k := 3) rfl), cell_later h (kx.cell (k := 4) rfl), cell_later h (kx.cell (k := 5) rfl)⟩)
  clear hR h hk hc hs kx
  go_enter Try.func19, Try.ntmps19
  go_wp2
  go_loopw [5, 6] (fun sn si wr => ∃ i n : Nat, i ≤ k ∧ sn = .int .i64 n ∧ si = .int .i64 i ∧ Hid (countR ((rl.take i).map Rec.rp) r.rp = n) ∧ Hid (Below w1.heap.size w1 wr)) (fun _ si _ => k - (intOf si).toNat)
  case atStart => exact ⟨0, 0, Nat.zero_le _, rfl, rfl, hide rfl, hide (Below.refl _ _)⟩
  case round =>
    clear hw1
    obtain ⟨i, n, hi, rfl, rfl, Hn, HB⟩ := hrel
    have hni : n ≤ k := by rw [← Hn.out]; refine Nat.le_trans (List.length_filter_le _ _) ?_; rw [List.length_map, List.length_take]; omega
    obtain ⟨y0, y1, y2, y3, y4, y5⟩ := HY.out _ HB.out
    by_cases hlt : i < k
    · obtain ⟨b1, o1, x, rfl, hx, hsx, x0, x1, x2, x3, x4, x5⟩ := (H.out.keep (Keeps.of_below (bseq HB1.out HB.out))).rec_ (i := i) (by rw [Hk.out]; exact hlt)
      have Hx := hide hx; have Hsx := hide hsx
      have hcx := HC.out x (List.mem_of_getElem? hx)
      have hiI : (i : Int) < (k : Int) := by omega
      have KB : Hid (∀ w', Below wr.heap.size wr w' → (Below wr.heap.size wr w' ∧ w'.cell? ⟨b1, o1 + i * 6, none⟩ = some (.int .i64 x.scanner) ∧ w'.cell? ⟨b1, o1 + i * 6 + 1, none⟩ = some (.int .i64 x.number) ∧ w'.cell? ⟨b1, o1 + i * 6 + 2, none⟩ = some (.int .i64 x.kind) ∧ w'.cell? ⟨b1, o1 + i * 6 + 3, none⟩ = some (.int .i64 x.time) ∧
          w'.cell? ⟨b1, o1 + i * 6 + 4, none⟩ = some (.string x.label) ∧ w'.cell? ⟨b1, o1 + i * 6 + 5, none⟩ = some (.slice x.cp x.contents.length x.cc) ∧
          w'.cell? ⟨w.heap.size, 0, none⟩ = some (.int .i64 r.scanner) ∧ w'.cell? ⟨w.heap.size, 1, none⟩ = some (.int .i64 r.number) ∧ w'.cell? ⟨w.heap.size, 2, none⟩ = some (.int .i64 r.kind) ∧ w'.cell? ⟨w.heap.size, 3, none⟩ = some (.int .i64 r.time) ∧ w'.cell? ⟨w.heap.size, 4, none⟩ = some (.string r.label) ∧ w'.cell? ⟨w.heap.size, 5, none⟩ = some (.slice r.cp r.contents.length r.cc))) :=
        hide (fun w' h => ⟨h, cell_later h x0, cell_later h x1, cell_later h x2, cell_later h x3, cell_later h x4, cell_later h x5, cell_later h y0, cell_later h y1, cell_later h y2, cell_later h y3, cell_later h y4, cell_later h y5⟩)
      obtain ⟨v, hv⟩ : ∃ v, decide (x.rp = r.rp) = v := ⟨_, rfl⟩
      have Hv := hide hv
      have HBw := hide (bseq HB1.out HB.out)
      clear hx hsx x0 x1 x2 x3 x4 x5 y0 y1 y2 y3 y4 y5 hv
      go_wp2
      go_region_held3 (fun w' => Below wr.heap.size wr w' ∧ w'.cell? ⟨b1, o1 + i * 6, none⟩ = some (.int .i64 x.scanner) ∧ w'.cell? ⟨b1, o1 + i * 6 + 1, none⟩ = some (.int .i64 x.number) ∧ w'.cell? ⟨b1, o1 + i * 6 + 2, none⟩ = some (.int .i64 x.kind) ∧ w'.cell? ⟨b1, o1 + i * 6 + 3, none⟩ = some (.int .i64 x.time) ∧
          w'.cell? ⟨b1, o1 + i * 6 + 4, none⟩ = some (.string x.label) ∧ w'.cell? ⟨b1, o1 + i * 6 + 5, none⟩ = some (.slice x.cp x.contents.length x.cc) ∧
          w'.cell? ⟨w.heap.size, 0, none⟩ = some (.int .i64 r.scanner) ∧ w'.cell? ⟨w.heap.size, 1, none⟩ = some (.int .i64 r.number) ∧ w'.cell? ⟨w.heap.size, 2, none⟩ = some (.int .i64 r.kind) ∧ w'.cell? ⟨w.heap.size, 3, none⟩ = some (.int .i64 r.time) ∧ w'.cell? ⟨w.heap.size, 4, none⟩ = some (.string r.label) ∧ w'.cell? ⟨w.heap.size, 5, none⟩ = some (.slice r.cp r.contents.length r.cc))
        (first | exact KB.out _ b6 | exact KB.out _ (Below.refl _ _).drew)
        ((go_at_call 38
          refine equal_agg x r _ _ hcx (Hsx.out.keep (Keeps.drew _)) ((Hs.out.keep (Keeps.of_below HBw.out)).keep (Keeps.drew _)) ?_
          rw [Hv.out]
          intro w6 hb6
          have b6 : Below wr.heap.size wr w6 := bseq (Below.refl wr.heap.size wr).drew hb6))
      rename_i hS
      clear hS KB
      have HB6 := hide (bseq HB.out b6)
      have hct := countR_take Hx.out r.rp
      rw [Hn.out] at hct
      have Hct := hide hct
      clear b6 hb6 hct
      cases v with
      | true =>
        have HE2 : Hid (countR ((rl.take (i + 1)).map Rec.rp) r.rp = n + 1) := hide (by rw [Hct.out, if_pos (of_decide_eq_true Hv.out)])
        clear Hct
        go_wp2
        go_roundw
        case rel => exact ⟨i + 1, n + 1, by omega, by go_num, by go_num, HE2, HB6⟩
        case measure => simp [intOf]; omega
      | false =>
        have HE2 : Hid (countR ((rl.take (i + 1)).map Rec.rp) r.rp = n) := hide (by rw [Hct.out, if_neg (of_decide_eq_false Hv.out), Nat.add_zero])
        clear Hct
        go_wp2
        go_roundw
        case rel => exact ⟨i + 1, n, by omega, by go_num, by go_num, HE2, HB6⟩
        case measure => simp [intOf]; omega
    · obtain rfl : i = k := by omega
      have HF := hide (HR.out _ (bseq HB1.out HB.out))
      rw [List.take_of_length_le (by rw [Hk.out]; exact Nat.le_refl _)] at Hn
      rw [Hn.out] at HF
      go_wp2
      exact HF.out
end Go.Proofs.Ytihdpkeclmpehaa

namespace Go.Proofs.Ytihdpkeclmpehaa
open Go.ChangeShapes Go.WideShapes Go.ChangeAt Go.RowKit Go.Deep

/-- What the form reads at type t, within its reach, reads as r says. -/
def OpensW {α : Type} (P : Program) (t : TypeId) (r : Rep α) : Prop :=
  P.cellsOf t = r.size ∧ ∀ {H : Type} (enc : TypeId × Value → H) (w : World) (fuel : Nat) (cs : List Value) (x : DataW H × List MemPlace),
    DataW.trod enc P w 0 (fun _ => true) true fuel t cs = some x → (∀ n ∈ x.1.weights P t, n ≤ reachBytes) → ∃ a, r.rd w cs a
theorem Opens.w {α : Type} {P : Program} {t : TypeId} {r : Rep α} (h : Opens P t r) : OpensW P t r := ⟨h.1, fun enc w fuel cs x hx _ => h.2 enc w fuel cs x hx⟩
/-- A slice value whose bytes lie within the reach. -/
def Rep.sliceB {α : Type} (k : Nat) (r : Rep α) : Rep (List α) where
  size := 1
  rd := fun w cs l => ∃ p cap, cs = [.slice p l.length cap] ∧ l.length ≤ cap ∧ cap ≤ maxLen ∧ r.els w p l ∧ cap * k ≤ reachBytes
  len := by rintro w cs a ⟨p, cap, rfl, _⟩; rfl
  keep := by
    rintro w w' cs a hk ⟨p, cap, h1, h2, h3, h4, h5⟩
    exact ⟨p, cap, h1, h2, h3, Rep.els_keep hk h4, h5⟩
theorem weightsAll_mem {H : Type} {P : Program} {e : TypeId} {d : DataW H} {n : Nat} : ∀ {l : List (DataW H)}, d ∈ l → n ∈ d.weights P e → n ∈ DataW.weightsAll P e l
  | [], h, _ => by cases h
  | x :: l, h, hn => by
    rw [DataW.weightsAll, List.mem_append]
    rcases List.mem_cons.1 h with rfl | h
    · exact .inl hn
    · exact .inr (weightsAll_mem h hn)
theorem opensW_slice {α : Type} {P : Program} {t e : TypeId} {k : Nat} {r : Rep α} (ht : P.underlying t = some (.slice e)) (hc : P.cellsOf t = 1) (hk : P.bytesOf e = k) (hr : OpensW P e r) (h1 : 0 < r.size) : OpensW P t (Rep.sliceB k r) :=
  ⟨hc, fun {H} enc w fuel cs x h hw => by
    rcases open_slice ht h with ⟨rfl, _⟩ | ⟨a, len, cap, m, n, D, Pl, rfl, _, hl, hm, hmm, hx, hi⟩
    · exact ⟨[], none, 0, rfl, Nat.le_refl _, by decide, fun h => absurd h (by simp), by simp⟩
    · rw [if_pos rfl] at hmm
      subst hmm
      have hcap : m * k ≤ reachBytes := by
        refine hw _ ?_
        rw [hx]
        simp only [DataW.weights, ht, List.mem_cons, List.length_map, List.length_range]
        left
        rw [hk, show len + (m - len) = m by omega]
      have hwi : ∀ i, i < len → ∀ q ∈ (D i).weights P e, q ≤ reachBytes := fun i hil q hq => by
        refine hw _ ?_
        rw [hx]
        simp only [DataW.weights, ht, List.mem_cons, List.mem_append]
        right; left
        exact weightsAll_mem (List.mem_map_of_mem (List.mem_range.2 hil)) hq
      have each : ∀ i, i < len → ∃ y cs', r.rd w cs' y ∧ cs'.length = r.size ∧ ∀ j u, cs'[j]? = some u → w.cell? (a.add (i * r.size + j)) = some u := by
        intro i hil
        obtain ⟨cs', hcs', ht'⟩ := hi i (by omega)
        rw [hr.1] at hcs'
        obtain ⟨_, hlen, hat⟩ := World.cells?_some hcs'
        obtain ⟨y, hy⟩ := hr.2 enc w n cs' _ ht' (hwi i hil)
        refine ⟨y, cs', hy, hlen, fun j u hu => ?_⟩
        have hj : j < r.size := by have := (List.getElem?_eq_some_iff.1 hu).1; omega
        have := hat j hj
        rw [Go.Deep.add_add] at this
        rw [this, hu]
      have build : ∀ k, k ≤ len → ∃ l : List α, l.length = k ∧ ∀ i (y : α), l[i]? = some y → ∃ cs', r.rd w cs' y ∧ ∀ j u, cs'[j]? = some u → w.cell? (a.add (i * r.size + j)) = some u := by
        intro k
        induction k with
        | zero => intro _; exact ⟨[], rfl, fun i y hy => by simp at hy⟩
        | succ k ih =>
          intro hk
          obtain ⟨l, hl', hall⟩ := ih (by omega)
          obtain ⟨y, cs', h2, _, h3⟩ := each k (by omega)
          refine ⟨l ++ [y], by simp [hl'], fun i z hz => ?_⟩
          rw [List.getElem?_append] at hz
          split at hz
          · exact hall i z hz
          · have hik : i = k := by have := (List.getElem?_eq_some_iff.1 hz).1; simp at this; omega
            subst hik
            rw [show i - l.length = 0 by omega] at hz
            simp at hz
            subst hz
            exact ⟨cs', h2, h3⟩
      obtain ⟨l, hll, hall⟩ := build len (Nat.le_refl _)
      refine ⟨l, some a, m, by rw [hll], by omega, hm, fun h0 => ?_, hcap⟩
      obtain ⟨cs', hcs', hcl, hc3⟩ : ∃ cs' : List Value, r.rd w cs' (l[0]'(by omega)) ∧ cs'.length = r.size ∧ ∀ j u, cs'[j]? = some u → w.cell? (a.add (0 * r.size + j)) = some u := by
        obtain ⟨cs', h2, h3⟩ := hall 0 _ (List.getElem?_eq_getElem h0)
        exact ⟨cs', h2, r.len h2, h3⟩
      have h00 := hc3 0 (cs'[0]'(by omega)) (List.getElem?_eq_getElem (by omega))
      rw [Nat.zero_mul, Nat.add_zero, Addr.add_zero'] at h00
      have hx := addr_plain' h00
      refine ⟨a.block, a.off, by rw [← hx], fun i y hy => ?_⟩
      obtain ⟨cs', h2, h3⟩ := hall i y hy
      refine ⟨cs', h2, fun j u hu => ?_⟩
      have := h3 j u hu
      rw [hx, Addr.add_lit] at this
      simpa [Nat.add_assoc] using this⟩
structure OpensFW {α : Type} (P : Program) (fs : List Field) (off : Nat) (r : Rep α) : Prop where
  run : ∀ {H : Type} (enc : TypeId × Value → H) (w : World) (n : Nat) (cs : List Value) (xs : List (DataW H × List MemPlace)), cs.length = off + r.size → xs.length = fs.length →
    (∀ (i : Nat) (f : Field), fs[i]? = some f → DataW.trod enc P w 0 (fun _ => true) true n f.type ((cs.drop f.offset).take (P.cellsOf f.type)) = xs[i]?) →
    (∀ q ∈ DataW.weightsEach P (fs.map (·.type)) (xs.map (·.1)), q ≤ reachBytes) → ∃ a, r.rd w (cs.drop off) a
theorem opensFW_nil {P : Program} {off : Nat} : OpensFW P [] off Rep.unit := ⟨fun enc w n cs xs hl _ _ _ => ⟨(), by
  show cs.drop off = []
  rw [List.drop_eq_nil_iff]
  have : Rep.unit.size = 0 := rfl
  omega⟩⟩
theorem opensFW_cons {α β : Type} {P : Program} {f : Field} {fs : List Field} {off : Nat} {r : Rep α} {s : Rep β} (hf : f.offset = off) (hr : OpensW P f.type r) (hs : OpensFW P fs (off + r.size) s) :
    OpensFW P (f :: fs) off (r.pair s) := ⟨fun {H} enc w n cs xs hl hx h hw => by
  have hsz : (r.pair s).size = r.size + s.size := rfl
  obtain ⟨y, xs', rfl⟩ : ∃ y xs', xs = y :: xs' := by
    cases xs with
    | nil => simp at hx
    | cons y xs' => exact ⟨y, xs', rfl⟩
  have h0 := h 0 f rfl
  rw [hf, hr.1] at h0
  simp only [List.map_cons, DataW.weightsEach, List.mem_append] at hw
  obtain ⟨a, ha⟩ := hr.2 enc w n _ y h0 (fun q hq => hw q (.inl hq))
  obtain ⟨b, hb⟩ := hs.run enc w n cs xs' (by omega) (by simpa using hx) (fun i g hg => by
    have := h (i + 1) g (by simpa using hg)
    simpa using this) (fun q hq => hw q (.inr hq))
  refine ⟨(a, b), (cs.drop off).take r.size, cs.drop (off + r.size), ?_, ha, hb⟩
  rw [← List.drop_drop, List.take_append_drop]⟩
theorem opensW_struct {α : Type} {P : Program} {t : TypeId} {fs : Array Field} {r : Rep α} (ht : P.underlying t = some (.struct fs)) (hc : P.cellsOf t = r.size) (hf : OpensFW P fs.toList 0 r) : OpensW P t r :=
  ⟨hc, fun enc w fuel cs x h hw => by
    obtain ⟨xs, n, _, hx, hl, hxl, hall⟩ := DataW.trod_struct ht h
    have := hf.run enc w n cs xs (by rw [hl, hc, Nat.zero_add]) (by simpa using hxl) (fun i f hif => hall i f (by simpa using hif)) (fun q hq => hw q (by
      rw [hx]
      simp only [DataW.weights, ht]
      exact hq))
    simpa using this⟩
theorem openW_slc {α : Type} {H : Type} {enc : TypeId × Value → H} {P : Program} {w : World} {r' : Reach} {b0 : Nat} {t e : TypeId} {k : Nat} {r : Rep α} {v : Value} {d : DataW H} {p : List MemPlace} (ht : P.underlying t = some (.slice e)) (ho : OpensW P t (Rep.sliceB k r))
    (hv : Value.okWide P w r' b0 t v) (h : DataW.Trod enc P w 0 (fun _ => true) true t v d p) (hw : ∀ n ∈ d.weights P t, n ≤ reachBytes) :
    ∃ a n cap l, v = .slice a n cap ∧ l.length = n ∧ n ≤ maxLen ∧ r.els w a l ∧ n ≤ cap ∧ cap * k ≤ reachBytes := by
  obtain ⟨a, n, cap, rfl⟩ := okWide_slice ht hv
  obtain ⟨fuel, hf⟩ := h
  obtain ⟨l, q, c, hcs, h1, h2, h3, h4⟩ := ho.2 enc w fuel _ _ hf hw
  simp [Value.cells] at hcs
  obtain ⟨rfl, rfl, rfl⟩ := hcs
  exact ⟨_, _, _, l, rfl, rfl, Nat.le_trans h1 h2, h3, h1, h4⟩
theorem opensW_ss : OpensW Try.prog 29 (Rep.sliceB 16 Rep.str) := opensW_slice Try.underlying29 (by kernel_rfl) (by kernel_rfl) opens_s.w (by decide)
def repRecB : Rep RecT := I1.pair (I1.pair (I1.pair (I1.pair (Rep.str.pair ((Rep.sliceB 16 Rep.str).pair Rep.unit)))))
theorem opensW_rec : OpensW Try.prog 31 repRecB := opensW_struct Try.underlying31 (by kernel_rfl) (opensFW_cons rfl opens_i.w (opensFW_cons rfl opens_i.w (opensFW_cons rfl opens_i.w (opensFW_cons rfl opens_i.w (opensFW_cons rfl opens_s.w (opensFW_cons rfl opensW_ss opensFW_nil))))))
def repSlB : Rep SlT := I1.pair (I1.pair (I1.pair (Rep.str.pair (repRecB.pair Rep.unit))))
theorem opensW_sl : OpensW Try.prog 47 repSlB := opensW_struct Try.underlying47 (by kernel_rfl) (opensFW_cons rfl opens_i.w (opensFW_cons rfl opens_i.w (opensFW_cons rfl opens_i.w (opensFW_cons rfl opens_s.w (opensFW_cons rfl opensW_rec opensFW_nil)))))
theorem opensW_sls : OpensW Try.prog 45 (Rep.sliceB 112 repSlB) := opensW_slice Try.underlying45 (by kernel_rfl) (by kernel_rfl) opensW_sl (by decide)
theorem opensW_trks : OpensW Try.prog 23 (Rep.sliceB 152 repTrk) := opensW_slice Try.underlying23 (by kernel_rfl) (by kernel_rfl) opens_trk.w (by decide)
theorem recB_rd {w : World} {cs : List Value} {x : RecT} (h : repRecB.rd w cs x) : ∃ r : Rec, cs = r.cells ∧ RecAt w r ∧ r.contents.length * 16 ≤ reachBytes := by
  obtain ⟨c1, d1, rfl, ⟨rfl, h1⟩, c2, d2, rfl, ⟨rfl, h2⟩, c3, d3, rfl, ⟨rfl, h3⟩, c4, d4, rfl, ⟨rfl, h4⟩, c5, d5, rfl, ⟨rfl, h5⟩, c6, d6, rfl, ⟨p6, k6, rfl, a6, b6, e6, f6⟩, rfl⟩ := h
  exact ⟨⟨x.1, x.2.1, x.2.2.1, x.2.2.2.1, x.2.2.2.2.1, p6, x.2.2.2.2.2.1, k6⟩, rfl, ⟨strsAt_els e6, Nat.le_trans a6 b6⟩, Nat.le_trans (Nat.mul_le_mul_right 16 a6) f6⟩
theorem slB_rd {w : World} {cs : List Value} {x : SlT} (h : repSlB.rd w cs x) : ∃ s : Sl, cs = s.cells ∧ RecAt w s.r ∧ s.r.contents.length * 16 ≤ reachBytes := by
  obtain ⟨c1, d1, rfl, ⟨rfl, h1⟩, c2, d2, rfl, ⟨rfl, h2⟩, c3, d3, rfl, ⟨rfl, h3⟩, c4, d4, rfl, ⟨rfl, h4⟩, c5, d5, rfl, h5, rfl⟩ := h
  obtain ⟨r, rfl, hr⟩ := recB_rd h5
  exact ⟨⟨x.1, x.2.1, x.2.2.1, x.2.2.2.1, r⟩, by rw [List.append_nil]; rfl, hr⟩
section
variable {H : Type} {enc : TypeId × Value → H} {w : World} {r' : Reach} {b0 : Nat} {v : Value} {d : DataW H} {p : List MemPlace}
theorem openW_sls (hv : Value.okWide Try.prog w r' b0 45 v) (h : DataW.Trod enc Try.prog w 0 (fun _ => true) true 45 v d p) (hw : ∀ n ∈ d.weights Try.prog 45, n ≤ reachBytes) :
    ∃ a n cap l, v = .slice a n cap ∧ l.length = n ∧ n ≤ maxLen ∧ SlsAt w a l ∧ n ≤ cap ∧ ∀ s ∈ l, s.r.contents.length ≤ maxLen ∧ s.r.contents.length * 16 ≤ reachBytes := by
  obtain ⟨a, n, cap, l, h1, h2, h3, h4, h5, _⟩ := openW_slc Try.underlying45 opensW_sls hv h hw
  obtain ⟨m, hm, hE, hQ⟩ := encAt_els (k := 10) (enc := Sl.cells) (fun w s => RecAt w s.r ∧ s.r.contents.length * 16 ≤ reachBytes) rfl (fun h => slB_rd h) h4
  exact ⟨a, n, cap, m, h1, by omega, h3, ⟨hE, fun s hs => (hQ s hs).1.1⟩, h5, fun s hs => ⟨(hQ s hs).1.2, (hQ s hs).2⟩⟩
theorem openW_trks (hv : Value.okWide Try.prog w r' b0 23 v) (h : DataW.Trod enc Try.prog w 0 (fun _ => true) true 23 v d p) (hw : ∀ n ∈ d.weights Try.prog 23, n ≤ reachBytes) :
    ∃ a n cap l, v = .slice a n cap ∧ l.length = n ∧ n ≤ maxLen ∧ TrksAt w a l ∧ n ≤ cap ∧ cap * 152 ≤ reachBytes := by
  obtain ⟨a, n, cap, l, h1, h2, h3, h4, h5, h6⟩ := openW_slc Try.underlying23 opensW_trks hv h hw
  obtain ⟨m, hm, hE, hQ⟩ := encAt_els (k := 10) (enc := Trk.cells) TrkAt rfl (fun h => trk_rd h) h4
  exact ⟨a, n, cap, m, h1, by omega, h3, ⟨hE, hQ⟩, h5, h6⟩
end
end Go.Proofs.Ytihdpkeclmpehaa

namespace Go.Proofs.Ytihdpkeclmpehaa
open Go.ChangeShapes Go.WideShapes Go.ChangeAt Go.RowKit Go.Deep

/-- Records that are kept in a row of the call's own. -/
structure BadI (w0 : World) (v : Value) (bl : List Rec) (W : World) : Prop where
  own : W.ownsRow w0.heap.size 31 6 v bl.length (bl.flatMap Rec.cells)
  below : Below w0.heap.size w0 W
theorem BadI.zero (w0 : World) : BadI w0 (.slice none 0 0) [] w0 := ⟨World.ownsRow_nil _ _ _ _, Below.refl _ _⟩
theorem BadI.next {w0 W W' : World} {v : Value} {bl : List Rec} (h : BadI w0 v bl W) (hb : Below W.heap.size W W') : BadI w0 v bl W' := ⟨own_below h.own hb, bseq h.below hb⟩
theorem BadI.push {w0 W W' w3 : World} {v v' : Value} {bl : List Rec} {s : Rec} (h : BadI w0 v bl W) (hb : Below W.heap.size W W') (hgr : W'.grownBy w3 v.ownBlock) (hown : w3.ownsRow w0.heap.size 31 6 v' (bl.length + 1) (bl.flatMap Rec.cells ++ s.cells)) : BadI w0 v' (bl ++ [s]) w3 :=
  ⟨by simpa using hown, (bseq h.below hb).grown hgr (bseq h.below hb).size (fun k hk => (own_lt h.own hk).1)⟩
theorem BadI.at_ {w0 W : World} {v : Value} {bl rl : List Rec} {q : Option Addr} (h : BadI w0 v bl W) (hS : RecsAt w0 q rl) (hsub : ∀ s ∈ bl, s ∈ rl) : ∃ p c, v = .slice p bl.length c ∧ RecsAt W p bl := by
  have hown := h.own
  have hstr : ∀ s ∈ bl, StrsAt W s.cp s.contents := fun s hs => (hS.2 s (hsub s hs)).keep (Keeps.of_below h.below)
  rcases hown.2 with ⟨hv, h0⟩ | ⟨g', cap', cur, hv, _⟩
  · have hol : bl = [] := List.length_eq_zero_iff.1 h0
    subst hol
    exact ⟨none, 0, by rw [hv]; rfl, ⟨fun h => by simp at h, by simp⟩⟩
  · subst hv
    exact ⟨_, _, rfl, EncAt.of_own (fun _ => rfl) (by omega) hown, hstr⟩
def mostP (ss : List Sl) : Nat := ((ss.map Sl.sp).filter tellsB).length
theorem most_take {ss : List Sl} {i : Nat} {s : Sl} (h : ss[i]? = some s) : mostP (ss.take (i + 1)) = mostP (ss.take i) + if s.kind = 2 ∨ s.kind = 4 ∨ s.kind = 3 then 1 else 0 := by
  unfold mostP
  rw [List.take_add_one, h, List.map_append, List.filter_append, List.length_append]
  congr 1
  show (List.filter tellsB [s.sp]).length = _
  have : tellsB s.sp = decide (s.kind = 2 ∨ s.kind = 4 ∨ s.kind = 3) := rfl
  rw [List.filter_cons, this]
  by_cases hk : s.kind = 2 ∨ s.kind = 4 ∨ s.kind = 3
  · rw [if_pos (by simpa using hk), if_pos hk]; rfl
  · rw [if_neg (by simpa using hk), if_neg hk]; rfl
set_option maxRecDepth 100000 in
set_option maxHeartbeats 4000000 in
theorem false_c (sp : Option Addr) (n cap : Nat) (sl : List Scn) (p : Option Addr) (m cap2 : Nat) (ts : List Trk) (q : Option Addr) (k cap3 : Nat) (ss : List Sl) (w : World) (R) (hn : n ≤ maxLen) (hm : m ≤ maxLen) (hk : k ≤ maxLen) (hsl : sl.length = n) (hS : ScnsAt w sp sl) (hts : ts.length = m) (hT : TrksAt w p ts) (hss : ss.length = k) (hSl : SlsAt w q ss) (hcl : ∀ s ∈ ss, s.kind = 3 → s.r.contents.length ≤ 8796093022208)
    (hR : ∀ w', Below w.heap.size w w' → R (.returned (.bool true)) w') : Calls Try.prog 8 #[.slice sp n cap, .slice p m cap2, .slice q k cap3] w R := by
  have HR := hide hR; have HS := hide hS; have HT := hide hT; have Hn := hide hsl; have Hm := hide hts; have HSl := hide hSl; have Hk := hide hss; have Hcl := hide hcl
  clear hR hS hT hsl hts hSl hss hcl
  go_enter Try.func8, Try.ntmps8
  go_wp2_with (go_at_call 10; refine Stop.out ?_)
  refine Stop.go (head_c _ _ ?_)
  intro w1 hb1
  have HB1 := hide hb1
  clear hb1
  go_wp2_with (go_at_call 11; refine Stop.out ?_)
  refine Stop.go (right_c sp n cap sl p m cap2 ts w1 _ hn hm Hn.out (HS.out.keep (Keeps.of_below HB1.out)) Hm.out (HT.out.keep (Keeps.of_below HB1.out)) ?_)
  intro b w2 hb2 hok
  have HB2 := hide (bseq HB1.out hb2)
  clear hb2
  cases b with
  | false =>
    clear hok
    go_wp2
    exact HR.out _ HB2.out
  | true =>
    have HO := hide (hok rfl)
    clear hok
    by_cases hk20 : k ≤ 20
    rotate_left
    · have hk20' : (20 : Int) < (k : Int) := by omega
      go_wp2
      exact HR.out _ HB2.out
    have hk20' : ¬ (20 : Int) < (k : Int) := by omega
    go_wp2
    clear hk20'
    go_loopw [8, 9] (fun v si wr => ∃ i x : Nat, i ≤ k ∧ x ≤ i ∧ v = .int .i64 x ∧ si = .int .i64 i ∧ Hid (mostP (ss.take i) = x) ∧ Hid (Below w2.heap.size w2 wr)) (fun _ si _ => k - (intOf si).toNat)
    case atStart => exact ⟨0, 0, Nat.zero_le _, Nat.le_refl _, rfl, rfl, hide rfl, hide (Below.refl _ _)⟩
    case round =>
      obtain ⟨i, x, hi, hx, rfl, rfl, HX, HB⟩ := hrel
      by_cases hlt : i < k
      · obtain ⟨b, o, s, rfl, hs, hst, x0, x1, x2, x3, x4, x5, x6, x7, x8, x9⟩ := (HSl.out.keep (Keeps.of_below (bseq HB2.out HB.out))).sl (i := i) (by rw [Hk.out]; exact hlt)
        have hmt := most_take hs
        rw [HX.out] at hmt
        have hiI : (i : Int) < (k : Int) := by omega
        clear hs hst x1 x2 x3 x4 x5 x6 x7 x8 x9
        by_cases k2 : s.kind = 2
        · rw [if_pos (Or.inl k2)] at hmt
          have HE := hide hmt
          have e2 : (s.kind == 2) = true := by simp [k2]
          clear hmt k2
          go_wp2
          go_roundw
          case rel => exact ⟨i + 1, x + 1, by omega, by omega, by go_num, by go_num, HE, HB⟩
          case measure => simp [intOf]; omega
        by_cases k4 : s.kind = 4
        · rw [if_pos (Or.inr (Or.inl k4))] at hmt
          have HE := hide hmt
          have e2 : (s.kind == 2) = false := by simp [k2]
          have e4 : (s.kind == 4) = true := by simp [k4]
          clear hmt k4 k2
          go_wp2
          go_roundw
          case rel => exact ⟨i + 1, x + 1, by omega, by omega, by go_num, by go_num, HE, HB⟩
          case measure => simp [intOf]; omega
        by_cases k3 : s.kind = 3
        · rw [if_pos (Or.inr (Or.inr k3))] at hmt
          have HE := hide hmt
          have e2 : (s.kind == 2) = false := by simp [k2]
          have e4 : (s.kind == 4) = false := by simp [k4]
          have e3 : (s.kind == 3) = true := by simp [k3]
          clear hmt k4 k2 k3
          go_wp2
          go_roundw
          case rel => exact ⟨i + 1, x + 1, by omega, by omega, by go_num, by go_num, HE, HB⟩
          case measure => simp [intOf]; omega
        · rw [if_neg (by rintro (h | h | h); exact k2 h; exact k4 h; exact k3 h), Nat.add_zero] at hmt
          have HE := hide hmt
          have e2 : (s.kind == 2) = false := by simp [k2]
          have e4 : (s.kind == 4) = false := by simp [k4]
          have e3 : (s.kind == 3) = false := by simp [k3]
          clear hmt k4 k2 k3
          go_wp2
          go_roundw
          case rel => exact ⟨i + 1, x, by omega, by omega, by go_num, by go_num, HE, HB⟩
          case measure => simp [intOf]; omega
      · obtain rfl : i = k := by omega
        rw [List.take_of_length_le (by rw [Hk.out]; exact Nat.le_refl _)] at HX
        have HB3 := hide (bseq HB2.out HB.out)
        go_wp2_with (go_at_call 18; refine Stop.out ?_)
        refine Stop.go (deliver_c sp n cap sl p m cap2 ts q i cap3 ss wr _ Hn.out (HS.out.keep (Keeps.of_below HB3.out)) HO.out.1 Hm.out (HT.out.keep (Keeps.of_below HB3.out)) HO.out.2 Hk.out hk20 (HSl.out.keep (Keeps.of_below HB3.out)) Hcl.out ?_)
        intro w5 q5 c5 rl hb5 hr5 hp5
        have HB5 := hide (bseq HB3.out hb5); have HR5 := hide hr5; have HP5 := hide hp5
        have hN : rl.length ≤ 10500 := by
          have := deliver_few (l := sl) (ts := ts.map Trk.tk) (ss := ss.map Sl.sp) (recs_len HO.out.2) (by rw [List.length_map, Hk.out]; exact hk20)
          rw [← hp5, List.length_map] at this; exact this
        have HC5 := hide (show ∀ x ∈ rl, x.contents.length ≤ maxLen from few_of hp5 (deliver_cont (fun c => c.length ≤ maxLen) (fun r hr => Nat.le_trans (rec_few HO.out.2 hr) (by unfold maxLen; omega)) (fun s hs h3 => by
          obtain ⟨t, ht, rfl⟩ := List.mem_map.1 hs
          exact Nat.le_trans (Hcl.out t ht h3) (by unfold maxLen; omega))))
        obtain ⟨N, hNe⟩ : ∃ N, rl.length = N := ⟨_, rfl⟩
        have HN := hide hNe
        rw [hNe] at hN
        rw [hNe]
        clear hb5 hr5 hp5 hNe
        go_wp2
        go_loopw [11, 12] (fun v si wr => ∃ (j : Nat) (bl : List Rec), j ≤ N ∧ bl.length ≤ j ∧ si = .int .i64 j ∧ Hid (BadI w5 v bl wr) ∧ Hid ((bl.map Rec.rp).Nodup ∧ ∀ r ∈ bl, r ∈ rl ∧ ¬ TrueP sl (ts.map Trk.tk) r.rp)) (fun _ si _ => N - (intOf si).toNat)
        case atStart => exact ⟨0, [], Nat.zero_le _, Nat.le_refl _, rfl, hide (BadI.zero _), hide ⟨List.nodup_nil, by simp⟩⟩
        case round =>
          obtain ⟨j, bl, hj, hbl, rfl, HBI, HNd⟩ := hrel
          obtain ⟨bp, bc, rfl, hbr⟩ := HBI.out.at_ HR5.out (fun s hs => (HNd.out.2 s hs).1)
          have HBr := hide hbr
          clear hbr
          by_cases hlj : j < N
          · obtain ⟨b, o, r, rfl, hr, hst, x0, x1, x2, x3, x4, x5⟩ := (HR5.out.keep (Keeps.of_below HBI.out.below)).rec_ (i := j) (by rw [HN.out]; exact hlj)
            have hmem := List.mem_of_getElem? hr
            have hcl := HC5.out r hmem
            have Hmem := hide hmem; have Hst := hide hst
            have HBw := hide (bseq HB5.out HBI.out.below)
            have hjI : (j : Int) < (N : Int) := by omega
            have KX : Hid (∀ w', Below wr.heap.size wr w' → w'.cell? ⟨b, o + j * 6, none⟩ = some (.int .i64 r.scanner) ∧ w'.cell? ⟨b, o + j * 6 + 1, none⟩ = some (.int .i64 r.number) ∧ w'.cell? ⟨b, o + j * 6 + 2, none⟩ = some (.int .i64 r.kind) ∧ w'.cell? ⟨b, o + j * 6 + 3, none⟩ = some (.int .i64 r.time) ∧
              w'.cell? ⟨b, o + j * 6 + 4, none⟩ = some (.string r.label) ∧ w'.cell? ⟨b, o + j * 6 + 5, none⟩ = some (.slice r.cp r.contents.length r.cc)) :=
              hide (fun w' h => ⟨cell_later h x0, cell_later h x1, cell_later h x2, cell_later h x3, cell_later h x4, cell_later h x5⟩)
            clear hr hmem hst
            go_wp2_with (go_at_call 13; refine Stop.out ?_)
            refine Stop.go (true_c sp n cap sl p m cap2 ts r _ _ Hn.out (HS.out.keep (Keeps.of_below HBw.out)) HO.out.1 Hm.out (HT.out.keep (Keeps.of_below HBw.out)) HO.out.2 Hst.out hcl ?_)
            intro v w6 hb6 hiff
            have HB6 := hide hb6; have Hiff := hide hiff
            obtain ⟨x0, x1, x2, x3, x4, x5⟩ := KX.out _ hb6
            clear hb6 hiff
            cases v with
            | true =>
              have HBI2 := hide (HBI.out.next HB6.out)
              clear x0 x1 x2 x3 x4 x5
              go_wp2
              go_roundw
              case rel => exact ⟨j + 1, bl, by omega, by omega, by go_num, HBI2, HNd⟩
              case measure => simp [intOf]; omega
            | false =>
              have Hnt := hide (show ¬ TrueP sl (ts.map Trk.tk) r.rp from fun e => by have := Hiff.out.2 e; cases this)
              obtain ⟨B, hB⟩ : ∃ B, bl.length = B := ⟨_, rfl⟩
              have HBl := hide hB
              rw [hB]
              rw [hB] at hbl
              clear hB
              go_wp2_with (go_at_call 19; refine Stop.out ?_)
              refine Stop.go (count_c bp B bc bl r _ _ HBl.out (by omega) (HBr.out.keep (Keeps.of_below HB6.out)) (fun x hx => HC5.out x (HNd.out.2 x hx).1) (Hst.out.keep (Keeps.of_below HB6.out)) ?_)
              intro w7 hb7
              have HB7 := hide (bseq HB6.out hb7)
              obtain ⟨x0, x1, x2, x3, x4, x5⟩ := KX.out _ HB7.out
              clear hb7
              obtain ⟨cn, hcn⟩ : ∃ cn, countR (bl.map Rec.rp) r.rp = cn := ⟨_, rfl⟩
              rw [hcn]
              have Hcn := hide hcn
              clear hcn
              by_cases hc0 : cn = 0
              rotate_left
              · have c0 : ((cn : Int) == 0) = false := by simp; omega
                have HBI2 := hide (HBI.out.next HB7.out)
                rw [HBl.out] at HBI2
                clear x0 x1 x2 x3 x4 x5 hc0
                go_wp2
                go_roundw
                case rel => exact ⟨j + 1, bl, by omega, by rw [HBl.out]; omega, by go_num, HBI2, HNd⟩
                case measure => simp [intOf]; omega
              · subst hc0
                have Hnm := hide (count0.1 Hcn.out)
                have HBI2 := hide (HBI.out.next HB7.out)
                rw [HBl.out] at HBI2
                obtain ⟨i31, hi0, hz0, hz1, hz2⟩ := info_parts Try.info31
                have HT31 := hide (And.intro hi0 (And.intro hz0 (And.intro hz1 hz2)))
                clear hi0 hz0 hz1 hz2
                go_wp2_with (at_builtin; refine Stop.out ?_)
                refine Stop.go ?_
                obtain ⟨hi0, hz0, hz1, hz2⟩ := HT31.out
                have hsz := HBI2.out.below.size
                refine wpList_append_where rfl (.tmp 81) (.tmp 86) 26 rfl w5.heap.size 31 i31 _ 6 72 Try.underlying26 hi0 hz0 hz1 hz2 rfl (by omega) (.slice bp B bc) B (bl.flatMap Rec.cells) rfl (own_below (by have := HBI2.out.own; rw [HBl.out] at this; exact this) (balloc (Below.refl _ _) _)) ⟨w7.heap.size, 0, none⟩ 1 1 r.cells rfl rfl (fun j u hu => by rw [Addr.add_lit, Nat.zero_add]; exact (Blk.new w7 _ 31).cell (by simpa [Rec.cells] using hu)) (rec_one _) (by unfold maxLen; omega) (by omega) (Nat.le_trans hsz (by simp)) ?_
                clear hi0 hz0 hz1 hz2
                intro v9 w9 hown hgr hw
                have HP := hide (HBI2.out.push (balloc (Below.refl _ _) _) hgr (by rw [HBl.out]; exact hown))
                have HNd2 : Hid (((bl ++ [r]).map Rec.rp).Nodup ∧ ∀ x ∈ bl ++ [r], x ∈ rl ∧ ¬ TrueP sl (ts.map Trk.tk) x.rp) := hide ⟨by
                  rw [List.map_append, List.nodup_append]
                  refine ⟨HNd.out.1, by simp, fun a ha b hb e => ?_⟩
                  rw [List.mem_singleton.1 hb] at e
                  exact Hnm.out (e ▸ ha), fun x hx => by
                  rcases List.mem_append.1 hx with hx | hx
                  · exact HNd.out.2 x hx
                  · rw [List.mem_singleton.1 hx]; exact ⟨Hmem.out, Hnt.out⟩⟩
                clear hown hgr hw x0 x1 x2 x3 x4 x5
                go_wp2_with fail
                go_roundw
                case rel => exact ⟨j + 1, bl ++ [r], by omega, by rw [List.length_append, HBl.out, List.length_singleton]; omega, by go_num, HP, HNd2⟩
                case measure => simp [intOf]; omega
          · obtain rfl : j = N := by omega
            have hfew := bad_few HO.out.1 HO.out.2 (ss.map Sl.sp) (bad := bl.map Rec.rp) HNd.out.1 (fun y hy => by
              obtain ⟨z, hz, rfl⟩ := List.mem_map.1 hy
              have h1 := HNd.out.2 z hz
              exact ⟨by rw [← HP5.out]; exact List.mem_map_of_mem h1.1, h1.2⟩)
            have hx2 : mostP ss = x := HX.out
            unfold mostP at hx2
            rw [hx2, List.length_map] at hfew
            have hle : (bl.length : Int) ≤ (x : Int) := by omega
            have HF := hide (HR.out _ (bseq HB5.out HBI.out.below))
            clear hfew hx2
            go_wp2
            exact HF.out
theorem false_w (a0 : Option Addr) (n0 c0 : Nat) (l0 : List Scn) (a1 : Option Addr) (n1 c1 : Nat) (l1 : List Trk) (a2 : Option Addr) (n2 c2 : Nat) (l2 : List Sl) (W : World) (R : Ending → World → Prop) (hl0 : l0.length = n0) (hm0 : n0 ≤ maxLen) (hi0 : ScnsAt W a0 l0) (hz0 : n0 ≤ c0) (hw0 : True) (hl1 : l1.length = n1) (hm1 : n1 ≤ maxLen) (hi1 : TrksAt W a1 l1) (hz1 : n1 ≤ c1) (hw1 : True) (hl2 : l2.length = n2) (hm2 : n2 ≤ maxLen) (hi2 : SlsAt W a2 l2) (hz2 : n2 ≤ c2) (hw2 : ∀ s ∈ l2, s.r.contents.length ≤ maxLen ∧ s.r.contents.length * 16 ≤ reachBytes)
    (hR : ∀ w', Below W.heap.size W w' → R (.returned (.bool true)) w') : Calls Try.prog 8 #[.slice a0 n0 c0, .slice a1 n1 c1, .slice a2 n2 c2] W R :=
  false_c a0 n0 c0 l0 a1 n1 c1 l1 a2 n2 c2 l2 W R hm0 hm1 hm2 hl0 hi0 hl1 hi1 hl2 hi2 (fun s hs _ => by have := (hw2 s hs).2; unfold reachBytes at this; omega) hR

set_option maxRecDepth 100000 in
theorem scannerFalse_holds_lifted (os : Os) (started : os.Started) (H : Type) (enc : TypeId × Value → H) :
    ReturnsInHanded {} Try.checked os 8 .any (Rows.scannerFalseSpec.pre6 enc Try.prog Try.f8 Rows.scannerFalseRow.domain false) (Rows.scannerFalseSpec.post enc Try.prog Try.f8 false true false false) := by
  refine returnsInHanded_of_change_sized (C := Try.checked) Try.own started (by kernel_rfl) Try.func8
    (ChangeSpec.witness6 (enc := enc) (C := Try.checked) false ⟨#[], #[.slice none 0 0, .slice none 0 0, .slice none 0 0], []⟩ 8 (by kernel_rfl) (by kernel_rfl) (by kernel_rfl) (by kernel_rfl)) ?_
  intro W base args ds gs before hval0 hW hcnd hsz0 _
  have hsz : (DataW.weightsEach Try.prog (Try.f8.params.toList ++ Rows.scannerFalseSpec.plain.varTypes Try.prog) (ds ++ gs)).all (· ≤ reachBytes) = true := hsz0
  have hval : ∀ (j : Nat) t v, Try.f8.params[j]? = some t → args[j]? = some v → Value.okWide Try.prog W .any base t v := hval0
  have hW' := hW
  obtain ⟨p, q, hA0, hV, rfl, hfz, hnd⟩ := hW
  have hA : DataW.TrodAll enc Try.prog W 0 (fun _ => true) true Try.f8.params.toList args.toList ds p := hA0
  have hA1 := hA
  rw [Try.params8] at hA hval hsz
  obtain ⟨v0, vs0, d0, ds0, p0, q0, hargs, rfl, rfl, h0, r0⟩ := trodAll_cons hA
  obtain ⟨v1, vs1, d1, ds1, p1, q1, rfl, rfl, rfl, h1, r1⟩ := trodAll_cons r0
  obtain ⟨v2, vs2, d2, ds2, p2, q2, rfl, rfl, rfl, h2, r2⟩ := trodAll_cons r1
  obtain ⟨rfl, rfl, rfl⟩ := trodAll_nil r2
  obtain rfl : args = #[v0, v1, v2] := by cases args; simp_all
  obtain ⟨rfl, rfl⟩ := trodVars_none hV
  obtain ⟨a0, n0, c0, l0, rfl, hl0, hm0, hi0, hz0, hw0⟩ := open_scns (hval 0 22 v0 rfl rfl) h0
  obtain ⟨a1, n1, c1, l1, rfl, hl1, hm1, hi1, hz1, hw1⟩ := open_trks (hval 1 23 v1 rfl rfl) h1
  obtain ⟨a2, n2, c2, l2, rfl, hl2, hm2, hi2, hz2, hw2⟩ := openW_sls (hval 2 45 v2 rfl rfl) h2 (fun n hn => by have := List.all_eq_true.1 hsz n (DataW.weights_mem_each (j := 2) (t := 45) rfl rfl n hn); simpa using this)
  refine false_w a0 n0 c0 l0 a1 n1 c1 l1 a2 n2 c2 l2 W _ hl0 hm0 hi0 hz0 hw0 hl1 hm1 hi1 hz1 hw1 hl2 hm2 hi2 hz2 hw2 fun W' bel => ?_
  exact ⟨_, rfl, law_post Try.laidOut bel rfl hW' hA1 (by kernel_rfl) rfl Try.underlying4 rfl rfl rfl⟩

theorem scannerFalse_holds : Rows.ScannerFalseSaid :=
  OpenClaim.holds_of_wide 8 Try.f8 rfl rfl rfl rfl rfl rfl rfl ⟨rfl, rfl, rfl, rfl, rfl⟩ rfl rfl rfl rfl rfl (by kernel_rfl) Try.func8 (by kernel_rfl)
    (of_decide_eq_true (by kernel_rfl)) (by unfold Func.isWrapper; rw [if_neg (of_decide_eq_false (by kernel_rfl))]; exact ⟨rfl, rfl⟩)
    (fun os started H enc _ => scannerFalse_holds_lifted os started H enc)

end Go.Proofs.Ytihdpkeclmpehaa
