/- ScannerDelivery: if slips only miss, repeat or delay, a record is delivered not at all if one misses it, otherwise once and once more for each slip that repeats it, and nothing else is delivered. Conditions: those that the law tests itself (scanners and tracks well-formed and few: at most 8 tracks, at most 20 slips); at any other input the law asks its fixed examples alone. Parts of this text: Plain: slips that change nothing. Plain: the records' numbers, times and scanners; each arrival has a record. Plain: wider errors, a further track, and false deliveries. Plain: deliveries that are missed, repeated or delayed alone. Plain: how often each record is delivered. How often a record is in a list. ScannerDelivery. -/
import Derived.Test.YtihdpkeclmpehaaA7
import Derived.Test.YtihdpkeclmpehaaA17
import Derived.Test.YtihdpkeclmpehaaA22
import Derived.Test.YtihdpkeclmpehaaA18
import Derived.Test.YtihdpkeclmpehaaA23
set_option linter.unusedVariables false
set_option linter.unusedSimpArgs false
namespace Go.Proofs.Ytihdpkeclmpehaa

theorem sortK_id {α : Type} (key : α → Int) : ∀ l : List α, l.Pairwise (fun a b => key a ≤ key b) → sortK key l = l
  | [], _ => rfl
  | x :: l, h => by
    obtain ⟨h1, h2⟩ := List.pairwise_cons.1 h
    rw [sortK, sortK_id key l h2]
    cases l with
    | nil => rfl
    | cons y l => rw [insK, if_pos (h1 y (by simp))]
theorem startP_sorted (rs : List RP) : (startP rs).Pairwise (fun a b => a.number ≤ b.number) := by
  unfold startP
  rw [List.pairwise_map]
  have : ∀ (l : List RP) (k : Nat), (l.zipIdx k).Pairwise (fun a b => ((a.2 : Nat) : Int) ≤ ((b.2 : Nat) : Int)) := by
    intro l
    induction l with
    | nil => intro k; exact List.Pairwise.nil
    | cons x t ih =>
      intro k
      rw [List.zipIdx_cons, List.pairwise_cons]
      refine ⟨fun b hb => ?_, ih (k + 1)⟩
      have := (List.mem_zipIdx hb).1
      show ((k : Nat) : Int) ≤ ((b.2 : Nat) : Int)
      omega
  exact this rs 0
theorem startP_out (rs : List RP) : (startP rs).flatMap outP = rs := by
  unfold startP
  rw [List.flatMap_map]
  have : ∀ (l : List RP) (k : Nat), (l.zipIdx k).flatMap (fun x => outP ⟨x.1, ((x.2 : Nat) : Int), 1, false⟩) = l := by
    intro l
    induction l with
    | nil => intro k; rfl
    | cons x t ih =>
      intro k
      rw [List.zipIdx_cons, List.flatMap_cons, ih (k + 1)]
      rfl
  exact this rs 0
/-- A slip that is passed over. -/
def overP (n : Nat) (s : SP) : Prop := s.kind < 1 ∨ 6 < s.kind ∨ (s.kind ≠ 3 ∧ (s.index < 0 ∨ (n : Int) ≤ s.index))
theorem step_over {x : List DP × List DP} {s : SP} (h : overP x.1.length s) : stepP x s = x := by
  have h3 : ¬ s.kind = 3 := by rcases h with h | h | h <;> first | omega | exact h.1
  unfold stepP
  rw [if_neg h3]
  by_cases hc : cntP x.1.length s
  · rw [if_pos hc]
    have hid : ∀ d, chgP s d = d := by
      intro d
      rcases h with h | h | ⟨_, h⟩
      · unfold chgP; rw [if_neg (by omega), if_neg (by omega), if_neg (by omega), if_neg (by omega), if_neg (by omega)]
      · unfold chgP; rw [if_neg (by omega), if_neg (by omega), if_neg (by omega), if_neg (by omega), if_neg (by omega)]
      · obtain ⟨c1, c2, _⟩ := hc
        omega
    have : x.1.modify s.index.toNat (chgP s) = x.1 := by
      rw [show chgP s = id from funext hid]
      exact List.modify_id _ _
    rw [this]
  · rw [if_neg hc]
theorem steps_over : ∀ (ss : List SP) (x : List DP × List DP), (∀ s ∈ ss, overP x.1.length s) → ss.foldl stepP x = x
  | [], _, _ => rfl
  | s :: ss, x, h => by
    rw [List.foldl_cons, step_over (h s (by simp))]
    exact steps_over ss x (fun t ht => h t (List.mem_cons_of_mem _ ht))
theorem startP_length (rs : List RP) : (startP rs).length = rs.length := by simp [startP]
/-- Without slips that count the records are delivered as they are. -/
theorem deliver_over {l : List Scn} {ts : List Tk} {ss : List SP} (h : ∀ s ∈ ss, overP (recordsP l ts).length s) : deliverP l ts ss = recordsP l ts := by
  unfold deliverP slipP
  rw [steps_over ss _ (fun s hs => by rw [startP_length]; exact h s hs), List.append_nil, sortK_id _ _ (startP_sorted _), startP_out]
end Go.Proofs.Ytihdpkeclmpehaa

namespace Go.Proofs.Ytihdpkeclmpehaa

theorem numberP_at : ∀ (l seen : List RP) (i : Nat) (q : RP), l[i]? = some q → (numberP seen l)[i]? = some { q with number := (((seen ++ l.take i).filter fun x => decide (x.scanner = q.scanner)).length : Nat) }
  | [], _, _, _, h => by simp at h
  | x :: l, seen, 0, q, h => by
    simp at h; subst h
    rw [numberP]; simp
  | x :: l, seen, i + 1, q, h => by
    have := numberP_at l (seen ++ [x]) i q (by simpa using h)
    rw [numberP, List.getElem?_cons_succ, this, List.take_succ_cons, List.append_assoc, List.singleton_append]
theorem numberP_map {β : Type} (f : RP → β) (hf : ∀ (q : RP) (n : Int), f { q with number := n } = f q) : ∀ (l seen : List RP), (numberP seen l).map f = l.map f
  | [], _ => rfl
  | x :: l, seen => by rw [numberP, List.map_cons, List.map_cons, hf, numberP_map f hf l]
def cntS (l : List RP) (s : Int) : Nat := (l.filter fun x => decide (x.scanner = s)).length
theorem cntS_map : ∀ (l k : List RP) (s : Int), l.map RP.scanner = k.map RP.scanner → cntS l s = cntS k s
  | [], [], _, _ => rfl
  | [], y :: k, _, h => by simp at h
  | x :: l, [], _, h => by simp at h
  | x :: l, y :: k, s, h => by
    rw [List.map_cons, List.map_cons] at h
    injection h with h1 h2
    have := cntS_map l k s h2
    unfold cntS at this ⊢
    rw [List.filter_cons, List.filter_cons, h1]
    split <;> simp [this]
/-- A record's number: how many of its scanner lie before it. -/
theorem rec_number {l : List Scn} {ts : List Tk} {i : Nat} {r : RP} (h : (recordsP l ts)[i]? = some r) : r.number = (cntS ((recordsP l ts).take i) r.scanner : Int) := by
  unfold recordsP at h ⊢
  obtain ⟨S, hS⟩ : ∃ S, sortK RP.time ((obsP ts).filterMap (noteP l)) = S := ⟨_, rfl⟩
  rw [hS] at h ⊢
  have hi := (List.getElem?_eq_some_iff.1 h).1
  rw [numberP_len] at hi
  have h2 := numberP_at S [] i S[i] (List.getElem?_eq_getElem hi)
  rw [h] at h2
  injection h2 with h2
  rw [h2]
  show ((cntS ([] ++ S.take i) _ : Nat) : Int) = _
  rw [List.nil_append, cntS_map (S.take i) ((numberP [] S).take i) _ (by rw [List.map_take, List.map_take, numberP_map RP.scanner (fun _ _ => rfl)])]
theorem insK_mem {α : Type} (key : α → Int) (x : α) (l : List α) : ∀ y ∈ insK key x l, y = x ∨ y ∈ l := by
  induction l with
  | nil => intro y hy; exact .inl (List.mem_singleton.1 hy)
  | cons z l ih =>
    intro y hy
    rw [insK] at hy
    split at hy
    · rcases List.mem_cons.1 hy with h | h
      · exact .inl h
      · exact .inr h
    · rcases List.mem_cons.1 hy with h | h
      · exact .inr (by simp [h])
      · rcases ih y h with h | h
        · exact .inl h
        · exact .inr (List.mem_cons_of_mem _ h)
theorem insK_pw {α : Type} (key : α → Int) (x : α) : ∀ l : List α, l.Pairwise (fun a b => key a ≤ key b) → (insK key x l).Pairwise (fun a b => key a ≤ key b)
  | [], _ => by rw [insK]; exact List.pairwise_singleton _ _
  | y :: l, h => by
    obtain ⟨h1, h2⟩ := List.pairwise_cons.1 h
    rw [insK]
    split
    · rename_i hxy
      exact List.pairwise_cons.2 ⟨fun z hz => by rcases List.mem_cons.1 hz with e | e; · rw [e]; exact hxy
                                                 · exact Int.le_trans hxy (h1 z e), h⟩
    · rename_i hxy
      exact List.pairwise_cons.2 ⟨fun z hz => by rcases insK_mem key x l z hz with e | e; · rw [e]; omega
                                                 · exact h1 z e, insK_pw key x l h2⟩
theorem sortK_pw {α : Type} (key : α → Int) : ∀ l : List α, (sortK key l).Pairwise (fun a b => key a ≤ key b)
  | [] => List.Pairwise.nil
  | x :: l => insK_pw key x _ (sortK_pw key l)
/-- The records' times do not decrease. -/
theorem rec_sorted (l : List Scn) (ts : List Tk) : (recordsP l ts).Pairwise (fun a b => a.time ≤ b.time) := by
  have h := sortK_pw RP.time ((obsP ts).filterMap (noteP l))
  have h2 : ((recordsP l ts).map RP.time).Pairwise (· ≤ ·) := by
    unfold recordsP
    rw [numberP_map RP.time (fun _ _ => rfl), List.pairwise_map]
    exact h
  rwa [List.pairwise_map] at h2
theorem rec_scan {l : List Scn} {ts : List Tk} {r : RP} (h : r ∈ recordsP l ts) : ∃ (i : Nat) (c : Scn), r.scanner = (i : Int) ∧ l[i]? = some c ∧ scanP l c.office = some i := by
  obtain ⟨o, ho, i, hsc, _, e1, _⟩ := rec_obs h
  obtain ⟨c, hc, hoff⟩ := scanP_some hsc
  exact ⟨i, c, e1, hc, by rw [hoff]; exact hsc⟩
theorem numberP_of {l : List RP} {seen : List RP} {q : RP} (h : q ∈ l) : ∃ n : Int, { q with number := n } ∈ numberP seen l := by
  obtain ⟨i, hi⟩ := List.getElem?_of_mem h
  exact ⟨_, List.mem_of_getElem? (numberP_at l seen i q hi)⟩
/-- An observation that counts has a record. -/
theorem obs_rec {l : List Scn} {ts : List Tk} {o : Ob} (ho : o ∈ obsP ts) {i : Nat} (hs : scanP l o.office = some i) (ht : o.time ≤ 1000000) : ∃ n : Int, (⟨i, n, o.kind, o.time, o.label, o.contents⟩ : RP) ∈ recordsP l ts := by
  have hn : noteP l o = some ⟨i, 0, o.kind, o.time, o.label, o.contents⟩ := by
    unfold noteP
    rw [hs]
    show (if 1000000 < o.time then none else some _) = _
    rw [if_neg (by omega)]
  have hm : (⟨i, 0, o.kind, o.time, o.label, o.contents⟩ : RP) ∈ sortK RP.time ((obsP ts).filterMap (noteP l)) := (sortK_perm _ _).mem_iff.2 (List.mem_filterMap.2 ⟨o, ho, hn⟩)
  obtain ⟨n, h⟩ := numberP_of (seen := []) hm
  exact ⟨n, h⟩
/-- Each arrival at an office with a scanner has a record. -/
theorem arrive_rec {l : List Scn} {ts : List Tk} {i j k : Nat} {t : Tk} {s : Stp} (ht : ts[i]? = some t) (hs : t.stops[j]? = some s) (hk : scanP l s.office = some k) (h6 : s.arrive ≤ 1000000) : ∃ n : Int, (⟨k, n, 1, s.arrive, labelP t s.arrive, []⟩ : RP) ∈ recordsP l ts :=
  obs_rec (o := ⟨s.office, 1, s.arrive, labelP t s.arrive, []⟩) (obs_mem ht hs (by unfold obsStop; exact List.mem_cons_self ..)) hk h6
end Go.Proofs.Ytihdpkeclmpehaa

namespace Go.Proofs.Ytihdpkeclmpehaa

theorem SeesP.mono {o a b a' b' : Int} {t : Tk} {s : ByteArray} (h : SeesP o a b t s) (ha : a' ≤ a) (hb : b ≤ b') : SeesP o a' b' t s := by
  obtain ⟨j, st, m, h1, h2, h3, h4, h5, h6, h7⟩ := h
  exact ⟨j, st, m, h1, h2, h3, by omega, by omega, h6, h7⟩
theorem HasP.mono {o a b a' b' x y : Int} (h : HasP o a b x y) (ha : a' ≤ a) (hb : b ≤ b') : HasP o a' b' x y := ⟨h.1, by have := h.2.1; omega, by have := h.2.2; omega⟩
/-- A true record stays true if errors are declared greater. -/
theorem true_wide {l l' : List Scn} {ts : List Tk} {r : RP} (h : TrueP l ts r) (hw : ∀ (i : Nat) (c : Scn), l[i]? = some c → ∃ c' : Scn, l'[i]? = some c' ∧ c'.office = c.office ∧ c.error ≤ c'.error) : TrueP l' ts r := by
  obtain ⟨h1, h2, h3, c, hc, h4⟩ := h
  obtain ⟨c', hc', ho, he⟩ := hw _ c hc
  refine ⟨h1, h2, h3, c', hc', ?_⟩
  rw [ho]
  rcases h4 with ⟨k, kc, h | ⟨a, b, hcp, h⟩⟩ | ⟨k, a, b, hcp, h, hcon⟩
  · obtain ⟨t, ht, hs⟩ := h
    exact .inl ⟨k, kc, .inl ⟨t, ht, hs.mono (by omega) (by omega)⟩⟩
  · refine .inl ⟨k, kc, .inr ⟨a, b, hcp, ?_⟩⟩
    rcases h with h | h
    · exact .inl (h.mono (by omega) (by omega))
    · exact .inr (h.mono (by omega) (by omega))
  · exact .inr ⟨k, a, b, hcp, h.mono (by omega) (by omega), hcon⟩
theorem firstP_more {ts : List Tk} {s : ByteArray} {p : Nat × Nat} (h : firstP ts s = some p) (us : List Tk) : firstP (ts ++ us) s = some p := by
  induction ts generalizing p with
  | nil => rw [firstP] at h; cases h
  | cons t ts ih =>
    rw [List.cons_append, firstP]
    rw [firstP] at h
    cases hf : t.seals.findIdx? (fun x => decide (x = s)) with
    | some j => rw [hf] at h; exact h
    | none =>
      rw [hf] at h
      simp only at h ⊢
      obtain ⟨q, hq, rfl⟩ := Option.map_eq_some_iff.1 h
      rw [ih hq]; rfl
theorem ContP.more {ts : List Tk} {s : ByteArray} {a b : Stp} (h : ContP ts s a b) (us : List Tk) : ContP (ts ++ us) s a b := by
  obtain ⟨i, j, t, h1, h2, h3, h4⟩ := h
  exact ⟨i, j, t, firstP_more h1 us, by rw [List.getElem?_append_left (List.getElem?_eq_some_iff.1 h2).1]; exact h2, h3, h4⟩
/-- A true scan stays true with further tracks. -/
theorem true_more {l : List Scn} {ts us : List Tk} {r : RP} (h : TrueP l ts r) (hk : r.kind = 1) : TrueP l (ts ++ us) r := by
  obtain ⟨h1, h2, h3, c, hc, h4⟩ := h
  refine ⟨h1, h2, h3, c, hc, ?_⟩
  rcases h4 with ⟨k, kc, h | ⟨a, b, hcp, h⟩⟩ | ⟨k, _⟩
  · obtain ⟨t, ht, hs⟩ := h
    exact .inl ⟨k, kc, .inl ⟨t, List.mem_append_left _ ht, hs⟩⟩
  · exact .inl ⟨k, kc, .inr ⟨a, b, hcp.more us, h⟩⟩
  · omega
/-- A recorded scan is recorded with further tracks. -/
theorem rec_more {l : List Scn} {ts us : List Tk} {r : RP} (h : r ∈ recordsP l ts) (hk : r.kind = 1) : ∃ q ∈ recordsP l (ts ++ us), q.kind = 1 ∧ q.scanner = r.scanner ∧ q.time = r.time ∧ q.label = r.label := by
  obtain ⟨o, ho, i, hsc, htm, e1, e2, e3, e4, e5⟩ := rec_obs h
  obtain ⟨k, t, j, s, ht, hs, hcs⟩ := obs_cases ho
  have ht' : (ts ++ us)[k]? = some t := by rw [List.getElem?_append_left (List.getElem?_eq_some_iff.1 ht).1]; exact ht
  have hmem : o ∈ obsP (ts ++ us) := by
    refine obs_mem ht' hs ?_
    unfold obsStop
    rcases hcs with rfl | ⟨e, n, he, hn, hf, rfl | rfl⟩
    · exact List.mem_cons_self ..
    · exact absurd (show (2 : Int) = 1 from e2.symm.trans hk) (by decide)
    · refine List.mem_cons_of_mem _ ?_
      rw [he]
      simp only
      rw [hn]
      simp only
      rw [if_pos (firstP_more hf us)]
      simp
  obtain ⟨n, hn⟩ := obs_rec (l := l) hmem hsc htm
  exact ⟨_, hn, by rw [← hk, e2], e1.symm, e3.symm, e4.symm⟩
def tellsB (s : SP) : Bool := decide (s.kind = 2 ∨ s.kind = 4 ∨ s.kind = 3)
/-- What is delivered is a record, or one of a few others. -/
theorem steps_told (rs : List RP) : ∀ (ss : List SP) (x : List DP × List DP) (T : List RP), (∀ d ∈ x.1 ++ x.2, d.r ∈ rs ∨ d.r ∈ T) → ∃ T' : List RP, T'.length ≤ T.length + (ss.filter tellsB).length ∧ ∀ d ∈ (ss.foldl stepP x).1 ++ (ss.foldl stepP x).2, d.r ∈ rs ∨ d.r ∈ T'
  | [], x, T, h => ⟨T, by simp, h⟩
  | s :: ss, x, T, h => by
    rw [List.foldl_cons]
    obtain ⟨T1, hT1, h1⟩ : ∃ T1 : List RP, T1.length ≤ T.length + (if tellsB s then 1 else 0) ∧ ∀ d ∈ (stepP x s).1 ++ (stepP x s).2, d.r ∈ rs ∨ d.r ∈ T1 := by
      unfold stepP
      by_cases h3 : s.kind = 3
      · rw [if_pos h3]
        refine ⟨T ++ [s.record], by simp [tellsB, h3], fun d hd => ?_⟩
        rw [← List.append_assoc] at hd
        rcases List.mem_append.1 hd with hd | hd
        · rcases h d hd with e | e
          · exact .inl e
          · exact .inr (List.mem_append_left _ e)
        · rw [List.mem_singleton.1 hd]; exact .inr (by simp)
      · rw [if_neg h3]
        by_cases hc : cntP x.1.length s
        · rw [if_pos hc]
          have hlt : s.index.toNat < x.1.length := by obtain ⟨a, b, _⟩ := hc; omega
          by_cases ht : s.kind = 2 ∨ s.kind = 4
          · refine ⟨T ++ [(chgP s x.1[s.index.toNat]).r], by rcases ht with h | h <;> simp [tellsB, h], fun d hd => ?_⟩
            rcases List.mem_append.1 hd with hd | hd
            · obtain ⟨j, hj⟩ := List.getElem?_of_mem hd
              rw [List.getElem?_modify] at hj
              by_cases hji : s.index.toNat = j
              · subst hji
                rw [List.getElem?_eq_getElem hlt] at hj
                simp at hj
                rw [← hj]; exact .inr (by simp)
              · simp [hji] at hj
                rcases h d (List.mem_append_left _ (List.mem_of_getElem? hj)) with e | e
                · exact .inl e
                · exact .inr (List.mem_append_left _ e)
            · rcases h d (List.mem_append_right _ hd) with e | e
              · exact .inl e
              · exact .inr (List.mem_append_left _ e)
          · refine ⟨T, by omega, fun d hd => ?_⟩
            have hr : ∀ d, (chgP s d).r = d.r := by
              intro d
              unfold chgP
              have n2 : ¬ s.kind = 2 := fun e => ht (.inl e)
              have n4 : ¬ s.kind = 4 := fun e => ht (.inr e)
              rw [if_neg n2, if_neg n4]
              split
              · rfl
              · split
                · rfl
                · split <;> rfl
            rcases List.mem_append.1 hd with hd | hd
            · obtain ⟨j, hj⟩ := List.getElem?_of_mem hd
              rw [List.getElem?_modify] at hj
              by_cases hji : s.index.toNat = j
              · subst hji
                rw [List.getElem?_eq_getElem hlt] at hj
                simp at hj
                rw [← hj, hr]
                exact h _ (List.mem_append_left _ (List.getElem_mem hlt))
              · simp [hji] at hj
                exact h d (List.mem_append_left _ (List.mem_of_getElem? hj))
            · exact h d (List.mem_append_right _ hd)
        · rw [if_neg hc]
          exact ⟨T, by omega, h⟩
    obtain ⟨T2, hT2, h2⟩ := steps_told rs ss (stepP x s) T1 h1
    refine ⟨T2, ?_, h2⟩
    rw [List.filter_cons]
    cases hs : tellsB s <;> simp [hs] at hT1 ⊢ <;> omega
/-- At most so many different delivered records are not true as slips misread, drift or invent. -/
theorem false_few {l : List Scn} {ts : List Tk} (hl : ScnsOk l) (hts : TksOk ts) (ss : List SP) : ∃ T : List RP, T.length ≤ (ss.filter tellsB).length ∧ ∀ r ∈ deliverP l ts ss, TrueP l ts r ∨ r ∈ T := by
  obtain ⟨T, hT, h⟩ := steps_told (recordsP l ts) ss (startP (recordsP l ts), []) [] (fun d hd => by
    rw [List.append_nil] at hd
    unfold startP at hd
    obtain ⟨x, hx, rfl⟩ := List.mem_map.1 hd
    exact .inl (List.fst_mem_of_mem_zipIdx hx))
  refine ⟨T, by simpa using hT, fun r hr => ?_⟩
  unfold deliverP at hr
  obtain ⟨d, hd, hr⟩ := List.mem_flatMap.1 hr
  have hd' := (sortK_perm _ _).mem_iff.1 hd
  have hrr : r = d.r := by
    unfold outP at hr
    split at hr
    · cases hr
    · exact List.eq_of_mem_replicate hr
  rcases h d hd' with e | e
  · left; rw [hrr]; exact rec_true hl hts e
  · right; rw [hrr]; exact e
end Go.Proofs.Ytihdpkeclmpehaa

namespace Go.Proofs.Ytihdpkeclmpehaa

theorem cntS_take_succ {l : List RP} {i : Nat} {r : RP} (h : l[i]? = some r) : cntS (l.take (i + 1)) r.scanner = cntS (l.take i) r.scanner + 1 := by
  unfold cntS
  rw [List.take_add_one, h, List.filter_append]
  simp
theorem cntS_mono (l : List RP) (s : Int) {i j : Nat} (h : i ≤ j) : cntS (l.take i) s ≤ cntS (l.take j) s := by
  unfold cntS
  have : l.take i = (l.take j).take i := by rw [List.take_take, Nat.min_eq_left h]
  rw [this]
  exact (List.Sublist.filter _ (List.take_sublist _ _)).length_le
/-- No two records are equal. -/
theorem rec_distinct {l : List Scn} {ts : List Tk} {i j : Nat} {r : RP} (hi : (recordsP l ts)[i]? = some r) (hj : (recordsP l ts)[j]? = some r) : i = j := by
  have key : ∀ {a b : Nat}, (recordsP l ts)[a]? = some r → (recordsP l ts)[b]? = some r → a < b → False := by
    intro a b ha hb hab
    have h1 := rec_number ha
    have h2 := rec_number hb
    have h3 := cntS_take_succ ha
    have h4 := cntS_mono (recordsP l ts) r.scanner (show a + 1 ≤ b by omega)
    omega
  rcases Nat.lt_trichotomy i j with h | h | h
  · exact (key hi hj h).elim
  · exact h
  · exact (key hj hi h).elim
/-- What the law keeps of the slips: how often more, and whether missed. -/
def keepS (n : Nat) (x : List Int × List Bool) (s : SP) : List Int × List Bool :=
  if cntP n s then (if s.kind = 5 then x.1.modify s.index.toNat (· + 1) else x.1, x.2.modify s.index.toNat (fun b => b || decide (s.kind = 1))) else x
def threeB (s : SP) : Prop := s.kind = 1 ∨ s.kind = 5 ∨ s.kind = 6
theorem modify_map {α β : Type} (f : α → β) (g : α → α) (k : β → β) (h : ∀ a, f (g a) = k (f a)) (l : List α) (i : Nat) : (l.modify i g).map f = (l.map f).modify i k := by
  apply List.ext_getElem?
  intro j
  rw [List.getElem?_map, List.getElem?_modify, List.getElem?_modify, List.getElem?_map]
  cases l[j]? with
  | none => rfl
  | some a => by_cases hij : i = j <;> simp [hij, h]
theorem modify_id' {α : Type} (l : List α) (i : Nat) : l.modify i (fun a => a) = l := List.modify_id _ _
theorem steps_three (n : Nat) : ∀ (ss : List SP) (x : List DP × List DP) (y : List Int × List Bool), (∀ s ∈ ss, threeB s) → x.1.length = n → x.2 = [] → x.1.map DP.times = y.1.map (1 + ·) → x.1.map DP.missed = y.2 →
    (ss.foldl stepP x).2 = [] ∧ (ss.foldl stepP x).1.map DP.r = x.1.map DP.r ∧ (ss.foldl stepP x).1.map DP.times = (ss.foldl (keepS n) y).1.map (1 + ·) ∧ (ss.foldl stepP x).1.map DP.missed = (ss.foldl (keepS n) y).2
  | [], x, y, _, _, h2, h3, h4 => ⟨h2, rfl, h3, h4⟩
  | s :: ss, x, y, hs, h1, h2, h3, h4 => by
    have h := hs s (by simp)
    rw [List.foldl_cons, List.foldl_cons]
    have hst : (stepP x s).2 = [] ∧ (stepP x s).1.map DP.r = x.1.map DP.r ∧ (stepP x s).1.map DP.times = (keepS n y s).1.map (1 + ·) ∧ (stepP x s).1.map DP.missed = (keepS n y s).2 := by
      have n3 : ¬ s.kind = 3 := by rcases h with h | h | h <;> omega
      unfold stepP keepS
      rw [if_neg n3, h1]
      by_cases hc : cntP n s
      · rw [if_pos hc, if_pos hc]
        refine ⟨h2, ?_, ?_, ?_⟩
        · show (x.1.modify _ _).map DP.r = _
          rw [modify_map DP.r (chgP s) (fun a => a) (fun d => by rcases h with h | h | h <;> simp [chgP, h]), modify_id']
        · show (x.1.modify _ _).map DP.times = (if s.kind = 5 then _ else _ : List Int).map _
          by_cases h5 : s.kind = 5
          · rw [if_pos h5, modify_map DP.times (chgP s) (· + 1) (fun d => by simp [chgP, h5]), modify_map (1 + ·) (· + 1) (· + 1) (fun a => by omega), h3]
          · rw [if_neg h5, modify_map DP.times (chgP s) (fun a => a) (fun d => by rcases h with h | h | h <;> first | (exact absurd h h5) | simp [chgP, h]), modify_id', h3]
        · show (x.1.modify _ _).map DP.missed = _
          rw [modify_map DP.missed (chgP s) (fun b => b || decide (s.kind = 1)) (fun d => by rcases h with h | h | h <;> simp [chgP, h]), h4]
      · rw [if_neg hc, if_neg hc]
        exact ⟨h2, rfl, h3, h4⟩
    obtain ⟨a1, a2, a3, a4⟩ := hst
    obtain ⟨b1, b2, b3, b4⟩ := steps_three n ss (stepP x s) (keepS n y s) (fun t ht => hs t (List.mem_cons_of_mem _ ht)) (by rw [stepP_len]; exact h1) a1 a3 a4
    exact ⟨b1, b2.trans a2, b3, b4⟩
end Go.Proofs.Ytihdpkeclmpehaa

namespace Go.Proofs.Ytihdpkeclmpehaa

def countR (l : List RP) (r : RP) : Nat := (l.filter fun x => decide (x = r)).length
def lenD (d : DP) : Nat := if d.missed then 0 else d.times.toNat
theorem out_len (d : DP) : (outP d).length = lenD d := by
  unfold outP lenD
  split <;> simp
theorem out_count (d : DP) (r : RP) : countR (outP d) r = if d.r = r then lenD d else 0 := by
  unfold countR outP lenD
  cases d.missed with
  | true => simp
  | false =>
    simp only [Bool.false_eq_true, if_false]
    by_cases h : d.r = r
    · rw [if_pos h, List.filter_replicate, if_pos (by simpa using h), List.length_replicate]
    · rw [if_neg h, List.filter_replicate, if_neg (by simpa using h)]; rfl
theorem out_flat_count (r : RP) : ∀ l : List DP, countR (l.flatMap outP) r = (l.map fun d => if d.r = r then lenD d else 0).sum
  | [] => rfl
  | d :: l => by
    have h1 := out_count d r
    have h2 := out_flat_count r l
    unfold countR at h1 h2 ⊢
    rw [List.flatMap_cons, List.filter_append, List.length_append, List.map_cons, List.sum_cons, h1, h2]
theorem out_flat_len : ∀ l : List DP, (l.flatMap outP).length = (l.map lenD).sum
  | [] => rfl
  | d :: l => by rw [List.flatMap_cons, List.length_append, List.map_cons, List.sum_cons, out_len, out_flat_len l]
theorem sum_one {f : DP → Nat} {r : RP} : ∀ (l : List DP) (i : Nat) (d : DP), l[i]? = some d → d.r = r → (∀ j e, l[j]? = some e → e.r = r → j = i) → (l.map fun d => if d.r = r then f d else 0).sum = f d
  | [], i, d, h, _, _ => by simp at h
  | x :: l, 0, d, h, hr, hu => by
    simp at h; subst h
    rw [List.map_cons, List.sum_cons, if_pos hr]
    have : (l.map fun d => if d.r = r then f d else 0).sum = 0 := by
      have hz : ∀ e ∈ l, e.r ≠ r := fun e he hh => by
        obtain ⟨j, hj⟩ := List.getElem?_of_mem he
        have := hu (j + 1) e (by simpa using hj) hh
        omega
      clear hu
      induction l with
      | nil => rfl
      | cons y t ih => rw [List.map_cons, List.sum_cons, if_neg (hz y (by simp)), ih (fun e he => hz e (List.mem_cons_of_mem _ he))]
    omega
  | x :: l, i + 1, d, h, hr, hu => by
    have hx : x.r ≠ r := fun hh => by have := hu 0 x rfl hh; omega
    rw [List.map_cons, List.sum_cons, if_neg hx, Nat.zero_add]
    exact sum_one l i d (by simpa using h) hr (fun j e hj he => by have := hu (j + 1) e (by simpa using hj) he; omega)
theorem countR_perm {a b : List RP} (h : a.Perm b) (r : RP) : countR a r = countR b r := (h.filter _).length_eq
theorem flatMap_perm {a b : List DP} (h : a.Perm b) : (a.flatMap outP).Perm (b.flatMap outP) := h.flatMap_right _
theorem startP_r (rs : List RP) : (startP rs).map DP.r = rs := by
  unfold startP
  rw [List.map_map]
  show (rs.zipIdx.map fun x => x.1) = rs
  exact List.zipIdx_map_fst ..
theorem startP_const {β : Type} (f : DP → β) (b : β) (hf : ∀ r n, f ⟨r, n, 1, false⟩ = b) (rs : List RP) : (startP rs).map f = List.replicate rs.length b := by
  unfold startP
  rw [List.map_map]
  apply List.ext_getElem?
  intro j
  rw [List.getElem?_map, List.getElem?_zipIdx, List.getElem?_replicate]
  by_cases hj : j < rs.length
  · rw [if_pos hj, List.getElem?_eq_getElem hj]; simp [hf]
  · rw [if_neg hj, List.getElem?_eq_none (by omega)]; rfl
/-- With slips that miss, repeat or delay alone: the deliveries, and how often each record comes. -/
theorem deliver_three {l : List Scn} {ts : List Tk} {ss : List SP} (h : ∀ s ∈ ss, threeB s) : ∃ dl : List DP, dl.map DP.r = recordsP l ts ∧
    dl.map DP.times = (ss.foldl (keepS (recordsP l ts).length) (List.replicate (recordsP l ts).length 0, List.replicate (recordsP l ts).length false)).1.map (1 + ·) ∧
    dl.map DP.missed = (ss.foldl (keepS (recordsP l ts).length) (List.replicate (recordsP l ts).length 0, List.replicate (recordsP l ts).length false)).2 ∧
    (deliverP l ts ss).length = (dl.map lenD).sum ∧ ∀ (i : Nat) (d : DP), dl[i]? = some d → countR (deliverP l ts ss) d.r = lenD d := by
  obtain ⟨h1, h2, h3, h4⟩ := steps_three (recordsP l ts).length ss (startP (recordsP l ts), []) (List.replicate (recordsP l ts).length 0, List.replicate (recordsP l ts).length false) h (startP_length _) rfl
    (by rw [startP_const DP.times 1 (fun _ _ => rfl), List.map_replicate]; rfl) (startP_const DP.missed false (fun _ _ => rfl) _)
  obtain ⟨dl, hdl⟩ : ∃ dl, (ss.foldl stepP (startP (recordsP l ts), [])).1 = dl := ⟨_, rfl⟩
  rw [hdl] at h2 h3 h4
  have hr : dl.map DP.r = recordsP l ts := h2.trans (startP_r _)
  have hp : (deliverP l ts ss).Perm (dl.flatMap outP) := by
    unfold deliverP slipP
    rw [h1, hdl, List.append_nil]
    exact flatMap_perm (sortK_perm _ _)
  refine ⟨dl, hr, h3, h4, by rw [hp.length_eq, out_flat_len], fun i d hd => ?_⟩
  rw [countR_perm hp, out_flat_count]
  refine sum_one dl i d hd rfl (fun j e hj he => ?_)
  have e1 : (recordsP l ts)[i]? = some d.r := by rw [← hr, List.getElem?_map, hd]; rfl
  have e2 : (recordsP l ts)[j]? = some d.r := by rw [← hr, List.getElem?_map, hj]; show some e.r = _; rw [he]
  exact rec_distinct e2 e1
end Go.Proofs.Ytihdpkeclmpehaa

namespace Go.Proofs.Ytihdpkeclmpehaa
open Go.RowKit

theorem countR_take {rl : List Rec} {i : Nat} {x : Rec} (h : rl[i]? = some x) (q : RP) : countR ((rl.take (i + 1)).map Rec.rp) q = countR ((rl.take i).map Rec.rp) q + if x.rp = q then 1 else 0 := by
  rw [List.take_add_one, h, List.map_append]
  show countR (_ ++ [x.rp]) q = _
  unfold countR
  rw [List.filter_append, List.length_append, List.filter_cons]
  by_cases hq : x.rp = q <;> simp [hq]
theorem equal_agg (x y : Rec) (w : World) (R) (hl : x.contents.length ≤ maxLen) (h : StrsAt w x.cp x.contents) (k : StrsAt w y.cp y.contents) (hR : ∀ w', Below w.heap.size w w' → R (.returned (.bool (decide (x.rp = y.rp)))) w') :
    Calls Try.prog 38 #[.agg #[.int .i64 x.scanner, .int .i64 x.number, .int .i64 x.kind, .int .i64 x.time, .string x.label, .slice x.cp x.contents.length x.cc], .agg #[.int .i64 y.scanner, .int .i64 y.number, .int .i64 y.kind, .int .i64 y.time, .string y.label, .slice y.cp y.contents.length y.cc]] w R := by
  rw [← x.val_eq, ← y.val_eq]
  exact equal_c x y w R hl h k hR
set_option maxRecDepth 100000 in
set_option maxHeartbeats 2000000 in
theorem count_c (q : Option Addr) (k c : Nat) (rl : List Rec) (r : Rec) (w : World) (R) (hk : rl.length = k) (hk4 : k ≤ 1000000000) (h : RecsAt w q rl) (hc : ∀ x ∈ rl, x.contents.length ≤ maxLen) (hs : StrsAt w r.cp r.contents)
    (hR : ∀ w', Below w.heap.size w w' → R (.returned (.int .i64 (countR (rl.map Rec.rp) r.rp : Int))) w') : Calls Try.prog 19 #[.slice q k c, .agg r.cells.toArray] w R := by
  have HR := hide hR; have H := hide h; have Hk := hide hk; have HC := hide hc; have Hs := hide hs
  have hcl := hide (show Rec.cells r = [.int .i64 r.scanner, .int .i64 r.number, .int .i64 r.kind, .int .i64 r.time, .string r.label, .slice r.cp r.contents.length r.cc] from rfl)
  rw [hcl.out]
  obtain ⟨w1, hw1⟩ : ∃ w1, w.alloc (.cells #[.int .i64 r.scanner, .int .i64 r.number, .int .i64 r.kind, .int .i64 r.time, .string r.label, .slice r.cp r.contents.length r.cc] 31) = w1 := ⟨_, rfl⟩
  have HB1 := hide (show Below w.heap.size w w1 from hw1 ▸ balloc (Below.refl _ _) _)
  have kx : Blk w1 w.heap.size #[.int .i64 r.scanner, .int .i64 r.number, .int .i64 r.kind, .int .i64 r.time, .string r.label, .slice r.cp r.contents.length r.cc] 31 := hw1 ▸ Blk.new _ _ _
  have HY : Hid (∀ w', Below w1.heap.size w1 w' → w'.cell? ⟨w.heap.size, 0, none⟩ = some (.int .i64 r.scanner) ∧ w'.cell? ⟨w.heap.size, 1, none⟩ = some (.int .i64 r.number) ∧ w'.cell? ⟨w.heap.size, 2, none⟩ = some (.int .i64 r.kind) ∧ w'.cell? ⟨w.heap.size, 3, none⟩ = some (.int .i64 r.time) ∧ w'.cell? ⟨w.heap.size, 4, none⟩ = some (.string r.label) ∧ w'.cell? ⟨w.heap.size, 5, none⟩ = some (.slice r.cp r.contents.length r.cc)) :=
    hide (fun w' h => ⟨cell_later h (kx.cell (k := 0) rfl), cell_later h (kx.cell (k := 1) rfl), cell_later h (kx.cell (k := 2) rfl), cell_later h (kx.cell (k := 3) rfl), cell_later h (kx.cell (k := 4) rfl), cell_later h (kx.cell (k := 5) rfl)⟩)
  clear hR h hk hc hs kx
  go_enter Try.func19, Try.ntmps19
  go_wp2
  go_loopw [5, 6] (fun sn si wr => ∃ i n : Nat, i ≤ k ∧ sn = .int .i64 n ∧ si = .int .i64 i ∧ Hid (countR ((rl.take i).map Rec.rp) r.rp = n) ∧ Hid (Below w1.heap.size w1 wr)) (fun _ si _ => k - (intOf si).toNat)
  case atStart => exact ⟨0, 0, Nat.zero_le _, rfl, rfl, hide rfl, hide (Below.refl _ _)⟩
  case round =>
    clear hw1
    obtain ⟨i, n, hi, rfl, rfl, Hn, HB⟩ := hrel
    have hni : n ≤ k := by rw [← Hn.out]; refine Nat.le_trans (List.length_filter_le _ _) ?_; rw [List.length_map, List.length_take]; omega
    obtain ⟨y0, y1, y2, y3, y4, y5⟩ := HY.out _ HB.out
    by_cases hlt : i < k
    · obtain ⟨b1, o1, x, rfl, hx, hsx, x0, x1, x2, x3, x4, x5⟩ := (H.out.keep (Keeps.of_below (bseq HB1.out HB.out))).rec_ (i := i) (by rw [Hk.out]; exact hlt)
      have Hx := hide hx; have Hsx := hide hsx
      have hcx := HC.out x (List.mem_of_getElem? hx)
      have hiI : (i : Int) < (k : Int) := by omega
      have KB : Hid (∀ w', Below wr.heap.size wr w' → (Below wr.heap.size wr w' ∧ w'.cell? ⟨b1, o1 + i * 6, none⟩ = some (.int .i64 x.scanner) ∧ w'.cell? ⟨b1, o1 + i * 6 + 1, none⟩ = some (.int .i64 x.number) ∧ w'.cell? ⟨b1, o1 + i * 6 + 2, none⟩ = some (.int .i64 x.kind) ∧ w'.cell? ⟨b1, o1 + i * 6 + 3, none⟩ = some (.int .i64 x.time) ∧
          w'.cell? ⟨b1, o1 + i * 6 + 4, none⟩ = some (.string x.label) ∧ w'.cell? ⟨b1, o1 + i * 6 + 5, none⟩ = some (.slice x.cp x.contents.length x.cc) ∧
          w'.cell? ⟨w.heap.size, 0, none⟩ = some (.int .i64 r.scanner) ∧ w'.cell? ⟨w.heap.size, 1, none⟩ = some (.int .i64 r.number) ∧ w'.cell? ⟨w.heap.size, 2, none⟩ = some (.int .i64 r.kind) ∧ w'.cell? ⟨w.heap.size, 3, none⟩ = some (.int .i64 r.time) ∧ w'.cell? ⟨w.heap.size, 4, none⟩ = some (.string r.label) ∧ w'.cell? ⟨w.heap.size, 5, none⟩ = some (.slice r.cp r.contents.length r.cc))) :=
        hide (fun w' h => ⟨h, cell_later h x0, cell_later h x1, cell_later h x2, cell_later h x3, cell_later h x4, cell_later h x5, cell_later h y0, cell_later h y1, cell_later h y2, cell_later h y3, cell_later h y4, cell_later h y5⟩)
      obtain ⟨v, hv⟩ : ∃ v, decide (x.rp = r.rp) = v := ⟨_, rfl⟩
      have Hv := hide hv
      have HBw := hide (bseq HB1.out HB.out)
      clear hx hsx x0 x1 x2 x3 x4 x5 y0 y1 y2 y3 y4 y5 hv
      go_wp2
      go_region_held3 (fun w' => Below wr.heap.size wr w' ∧ w'.cell? ⟨b1, o1 + i * 6, none⟩ = some (.int .i64 x.scanner) ∧ w'.cell? ⟨b1, o1 + i * 6 + 1, none⟩ = some (.int .i64 x.number) ∧ w'.cell? ⟨b1, o1 + i * 6 + 2, none⟩ = some (.int .i64 x.kind) ∧ w'.cell? ⟨b1, o1 + i * 6 + 3, none⟩ = some (.int .i64 x.time) ∧
          w'.cell? ⟨b1, o1 + i * 6 + 4, none⟩ = some (.string x.label) ∧ w'.cell? ⟨b1, o1 + i * 6 + 5, none⟩ = some (.slice x.cp x.contents.length x.cc) ∧
          w'.cell? ⟨w.heap.size, 0, none⟩ = some (.int .i64 r.scanner) ∧ w'.cell? ⟨w.heap.size, 1, none⟩ = some (.int .i64 r.number) ∧ w'.cell? ⟨w.heap.size, 2, none⟩ = some (.int .i64 r.kind) ∧ w'.cell? ⟨w.heap.size, 3, none⟩ = some (.int .i64 r.time) ∧ w'.cell? ⟨w.heap.size, 4, none⟩ = some (.string r.label) ∧ w'.cell? ⟨w.heap.size, 5, none⟩ = some (.slice r.cp r.contents.length r.cc))
        (first | exact KB.out _ b6 | exact KB.out _ (Below.refl _ _).drew)
        ((go_at_call 38
          refine equal_agg x r _ _ hcx (Hsx.out.keep (Keeps.drew _)) ((Hs.out.keep (Keeps.of_below HBw.out)).keep (Keeps.drew _)) ?_
          rw [Hv.out]
          intro w6 hb6
          have b6 : Below wr.heap.size wr w6 := bseq (Below.refl wr.heap.size wr).drew hb6))
      rename_i hS
      clear hS KB
      have HB6 := hide (bseq HB.out b6)
      have hct := countR_take Hx.out r.rp
      rw [Hn.out] at hct
      have Hct := hide hct
      clear b6 hb6 hct
      cases v with
      | true =>
        have HE2 : Hid (countR ((rl.take (i + 1)).map Rec.rp) r.rp = n + 1) := hide (by rw [Hct.out, if_pos (of_decide_eq_true Hv.out)])
        clear Hct
        go_wp2
        go_roundw
        case rel => exact ⟨i + 1, n + 1, by omega, by go_num, by go_num, HE2, HB6⟩
        case measure => simp [intOf]; omega
      | false =>
        have HE2 : Hid (countR ((rl.take (i + 1)).map Rec.rp) r.rp = n) := hide (by rw [Hct.out, if_neg (of_decide_eq_false Hv.out), Nat.add_zero])
        clear Hct
        go_wp2
        go_roundw
        case rel => exact ⟨i + 1, n, by omega, by go_num, by go_num, HE2, HB6⟩
        case measure => simp [intOf]; omega
    · obtain rfl : i = k := by omega
      have HF := hide (HR.out _ (bseq HB1.out HB.out))
      rw [List.take_of_length_le (by rw [Hk.out]; exact Nat.le_refl _)] at Hn
      rw [Hn.out] at HF
      go_wp2
      exact HF.out
end Go.Proofs.Ytihdpkeclmpehaa

namespace Go.Proofs.Ytihdpkeclmpehaa
open Go.ChangeShapes Go.WideShapes Go.ChangeAt Go.RowKit Go.Deep

theorem Try.info47 : (Try.prog.info? 47).map (fun i => (i.zero, i.size, i.bytes)) = some (some (.agg #[.int .i64 0, .int .i64 0, .int .i64 0, .string ⟨#[]⟩, .int .i64 0, .int .i64 0, .int .i64 0, .int .i64 0, .string ⟨#[]⟩, .slice none 0 0]), 10, 112) := by kernel_rfl
theorem sl_one (s : Sl) : ∀ u ∈ s.cells, u.oneCell' = true := by
  intro u hu
  simp only [Sl.cells, List.mem_cons, List.not_mem_nil, or_false] at hu
  rcases hu with rfl | rfl | rfl | rfl | rfl | rfl | rfl | rfl | rfl | rfl <;> rfl
theorem Try.info4' : (Try.prog.info? 4).map (fun i => (i.zero, i.size, i.bytes)) = some (some (.bool false), 1, 1) := by kernel_rfl
theorem mk51 (w : World) (n : Nat) (hn : n ≤ 100000) : ∃ w', Sem.run Try.prog (Instr.makeSlice 51 (.int .i64 (n : Int)) (.int .i64 (n : Int))) w = .ok (.slice (some ⟨w.heap.size, 0, none⟩) n n) w' ∧
    w'.ownsRow w.heap.size 4 1 (.slice (some ⟨w.heap.size, 0, none⟩) n n) n ((List.replicate n false).map Value.bool) ∧ Below w.heap.size w w' := by
  obtain ⟨i, hi, hz, hs, hb⟩ := info_parts Try.info4'
  obtain ⟨w', h1, h2, h3⟩ := run_makeSlice_full (P := Try.prog) w w.heap.size 51 4 i (.bool false) 1 Try.underlying51 hi hz hs .i64 .i64 n (by omega) (by rw [hb]; omega) (by unfold maxLen; omega) (Nat.le_refl _)
  rw [show (madeCells (Value.cells (.bool false)) (n * 1)).toList = (List.replicate n false).map Value.bool by rw [List.map_replicate, Nat.mul_one]; exact toList_madeCells_one (.bool false) n] at h2
  exact ⟨w', h1, h2, (Below.refl _ _).grown h3 (Nat.le_refl _) (fun k hk => by cases hk)⟩
/-- The slips that miss, repeat or delay, and what is kept of them. -/
def thrB (s : Sl) : Bool := decide (s.kind = 1 ∨ s.kind = 5 ∨ s.kind = 6)
def olF (ss : List Sl) (i : Nat) : List Sl := (ss.take i).filter thrB
def yF (N : Nat) (ss : List Sl) (i : Nat) : List Int × List Bool := ((olF ss i).map Sl.sp).foldl (keepS N) (List.replicate N 0, List.replicate N false)
theorem olF_succ {ss : List Sl} {i : Nat} {s : Sl} (h : ss[i]? = some s) : olF ss (i + 1) = olF ss i ++ if thrB s then [s] else [] := by
  unfold olF
  rw [List.take_add_one, h, List.filter_append]
  cases hp : thrB s <;> simp [hp]
theorem yF_skip {N : Nat} {ss : List Sl} {i : Nat} {s : Sl} (h : ss[i]? = some s) (ht : thrB s = false) : olF ss (i + 1) = olF ss i ∧ yF N ss (i + 1) = yF N ss i := by
  have h1 := olF_succ h
  rw [ht, if_neg (by decide), List.append_nil] at h1
  exact ⟨h1, by unfold yF; rw [h1]⟩
theorem yF_step {N : Nat} {ss : List Sl} {i : Nat} {s : Sl} (h : ss[i]? = some s) (ht : thrB s = true) : olF ss (i + 1) = olF ss i ++ [s] ∧ yF N ss (i + 1) = keepS N (yF N ss i) s.sp := by
  have h1 := olF_succ h
  rw [ht, if_pos rfl] at h1
  exact ⟨h1, by unfold yF; rw [h1, List.map_append, List.foldl_append]; rfl⟩
theorem modify_set {α : Type} (f : α → α) : ∀ (l : List α) (i : Nat) (a : α), l[i]? = some a → l.modify i f = l.set i (f a) := by
  intro l i a h
  apply List.ext_getElem?
  intro j
  rw [List.getElem?_modify, List.getElem?_set]
  obtain ⟨hl, he⟩ := List.getElem?_eq_some_iff.1 h
  by_cases hij : i = j
  · subst hij; simp [hl, he]
  · simp [hij]
theorem keepS_out {N : Nat} {y : List Int × List Bool} {s : SP} (h : ¬ cntP N s) : keepS N y s = y := by unfold keepS; rw [if_neg h]
theorem keepS_in {N : Nat} {y : List Int × List Bool} {s : SP} {j : Nat} {t : Int} {b : Bool} (h : cntP N s) (hj : s.index = (j : Int)) (ht : y.1[j]? = some t) (hb : y.2[j]? = some b) :
    keepS N y s = (if s.kind = 5 then y.1.set j (t + 1) else y.1, y.2.set j (b || decide (s.kind = 1))) := by
  unfold keepS
  rw [if_pos h, hj, Int.toNat_natCast, modify_set _ _ _ _ ht, modify_set _ _ _ _ hb]
/-- The slips that are kept, the counts and the marks, as they lie in memory. -/
structure TI (w3 : World) (N cg mg : Nat) (v : Value) (ol : List Sl) (y : List Int × List Bool) (i : Nat) (W : World) : Prop where
  own : W.ownsRow w3.heap.size 47 10 v ol.length (ol.flatMap Sl.cells)
  tm : W.ownsRow w3.heap.size 3 1 (.slice (some ⟨cg, 0, none⟩) N N) N (y.1.map (Value.int .i64))
  ms : W.ownsRow w3.heap.size 4 1 (.slice (some ⟨mg, 0, none⟩) N N) N (y.2.map Value.bool)
  below : Below w3.heap.size w3 W
  bd : ∀ t ∈ y.1, 0 ≤ t ∧ t ≤ (i : Int)
section
variable {w3 W W' : World} {N cg mg i : Nat} {v : Value} {ol : List Sl} {y : List Int × List Bool}
theorem TI.next (h : TI w3 N cg mg v ol y i W) (hb : Below W.heap.size W W') : TI w3 N cg mg v ol y i W' := ⟨own_below h.own hb, own_below h.tm hb, own_below h.ms hb, bseq h.below hb, h.bd⟩
theorem TI.up (h : TI w3 N cg mg v ol y i W) : TI w3 N cg mg v ol y (i + 1) W := ⟨h.own, h.tm, h.ms, h.below, fun t ht => by have := h.bd t ht; omega⟩
theorem TI.len1 (h : TI w3 N cg mg v ol y i W) : y.1.length = N := by have := h.tm.1; simpa using this
theorem TI.len2 (h : TI w3 N cg mg v ol y i W) : y.2.length = N := by have := h.ms.1; simpa using this
theorem own_off {W W' : World} {base e size n : Nat} {u : Value} {xs : List Value} {r : Option Nat} (h : W.ownsRow base e size u n xs) (hg : W.grownBy W' r) (hne : ∀ k, u.ownBlock = some k → r ≠ some k) : W'.ownsRow base e size u n xs :=
  own_same h (fun k hk => hg.block k (own_lt h hk).2 (fun e => hne k hk e.symm))
theorem TI.push {W1 W9 : World} {v' : Value} {s : Sl} (h : TI w3 N cg mg v ol y i W) (hb : Below W.heap.size W W1) (hgr : W1.grownBy W9 v.ownBlock) (hown : W9.ownsRow w3.heap.size 47 10 v' (ol.length + 1) (ol.flatMap Sl.cells ++ s.cells)) : TI w3 N cg mg v' (ol ++ [s]) y i W9 := by
  have h1 := h.next hb
  exact ⟨by simpa using hown, own_off h1.tm hgr (fun k hk => own_ne h1.tm h1.own (by decide) hk), own_off h1.ms hgr (fun k hk => own_ne h1.ms h1.own (by decide) hk), h1.below.grown hgr h1.below.size (fun k hk => (own_lt h1.own hk).1), h.bd⟩
theorem own_other {W : World} {base base' e e' size size' n n' : Nat} {u u' : Value} {xs xs' : List Value} {g j : Nat} {x : Value} (h : W.ownsRow base e size u n xs) (h' : W.ownsRow base' e' size' u' n' xs') (hne : e ≠ e') (hg : u'.ownBlock = some g) : (W.setCell ⟨g, j, none⟩ x).ownsRow base e size u n xs :=
  own_same h (fun k hk => Below.heap_setCell _ _ _ _ (fun e2 => own_ne h h' hne hk (by rw [hg, e2])))
theorem TI.miss (h : TI w3 N cg mg v ol y i W) (j : Nat) (b : Bool) : TI w3 N cg mg v ol (y.1, y.2.set j b) i (W.setCell ⟨mg, j, none⟩ (.bool b)) := by
  refine ⟨own_other h.own h.ms (by decide) rfl, own_other h.tm h.ms (by decide) rfl, ?_, h.below.setCell (p := ⟨mg, j, none⟩) (own_lt h.ms rfl).1 _, h.bd⟩
  have := (h.ms.stored j (.bool b)).1
  rw [List.map_set]
  exact this
theorem TI.time (h : TI w3 N cg mg v ol y i W) (j : Nat) (t : Int) (ht : y.1[j]? = some t) : TI w3 N cg mg v ol (y.1.set j (t + 1), y.2) (i + 1) (W.setCell ⟨cg, j, none⟩ (.int .i64 (t + 1))) := by
  refine ⟨own_other h.own h.tm (by decide) rfl, owni_set h.tm j (t + 1), own_other h.ms h.tm (by decide) rfl, h.below.setCell (p := ⟨cg, j, none⟩) (own_lt h.tm rfl).1 _, fun x hx => ?_⟩
  have h0 := h.bd t (List.mem_of_getElem? ht)
  rcases List.mem_or_eq_of_mem_set hx with hx | rfl
  · have := h.bd x hx; omega
  · omega
theorem TI.cellM (h : TI w3 N cg mg v ol y i W) {j : Nat} {b : Bool} (hb : y.2[j]? = some b) : W.cell? ⟨mg, j, none⟩ = some (.bool b) := by
  have := h.ms.cells (g := mg) rfl j (.bool b) (by rw [List.getElem?_map, hb]; rfl)
  rw [Addr.add_lit, Nat.zero_add] at this; exact this
theorem TI.cellT (h : TI w3 N cg mg v ol y i W) {j : Nat} {t : Int} (ht : y.1[j]? = some t) : W.cell? ⟨cg, j, none⟩ = some (.int .i64 t) := by
  have := h.tm.cells (g := cg) rfl j (.int .i64 t) (by rw [List.getElem?_map, ht]; rfl)
  rw [Addr.add_lit, Nat.zero_add] at this; exact this
theorem TI.slips (h : TI w3 N cg mg v ol y i W) {w0 : World} {q : Option Addr} {ss : List Sl} (hS : SlsAt w0 q ss) (hb : Below w0.heap.size w0 W) (hsub : ∀ s ∈ ol, s ∈ ss) : ∃ p c, v = .slice p ol.length c ∧ SlsAt W p ol := by
  have hown := h.own
  have hstr : ∀ s ∈ ol, StrsAt W s.r.cp s.r.contents := fun s hs => (hS.2 s (hsub s hs)).keep (Keeps.of_below hb)
  rcases hown.2 with ⟨hv, h0⟩ | ⟨g', cap', cur, hv, _⟩
  · have hol : ol = [] := List.length_eq_zero_iff.1 h0
    subst hol
    exact ⟨none, 0, by rw [hv]; rfl, ⟨fun h => by simp at h, by simp⟩⟩
  · subst hv
    exact ⟨_, _, rfl, EncAt.of_own (fun _ => rfl) (by omega) hown, hstr⟩
end
theorem deliver_mem {l : List Scn} {ts : List Tk} {ss : List SP} (h : ∀ s ∈ ss, threeB s) : ∀ r ∈ deliverP l ts ss, r ∈ recordsP l ts := by
  obtain ⟨T, hT, h2⟩ := steps_told (recordsP l ts) ss (startP (recordsP l ts), []) [] (fun d hd => by
    rw [List.append_nil] at hd
    unfold startP at hd
    obtain ⟨x, hx, rfl⟩ := List.mem_map.1 hd
    exact .inl (List.fst_mem_of_mem_zipIdx hx))
  have h0 : ss.filter tellsB = [] := by
    rw [List.filter_eq_nil_iff]
    intro s hs
    have := h s hs
    unfold threeB at this
    unfold tellsB
    simp; omega
  rw [h0] at hT
  obtain rfl : T = [] := List.length_eq_zero_iff.1 (by simpa using hT)
  intro r hr
  unfold deliverP at hr
  obtain ⟨d, hd, hr⟩ := List.mem_flatMap.1 hr
  have hd' := (sortK_perm _ _).mem_iff.1 hd
  have hrr : r = d.r := by
    unfold outP at hr
    split at hr
    · cases hr
    · exact List.eq_of_mem_replicate hr
  rcases h2 d hd' with e | e
  · rw [hrr]; exact e
  · cases e
theorem sum_take {l : List DP} {i : Nat} {d : DP} (h : l[i]? = some d) : ((l.take (i + 1)).map lenD).sum = ((l.take i).map lenD).sum + lenD d := by
  rw [List.take_add_one, h, List.map_append, List.sum_append]; simp
theorem sum_bd {B : Nat} : ∀ l : List DP, (∀ d ∈ l, lenD d ≤ B) → (l.map lenD).sum ≤ l.length * B
  | [], _ => by simp
  | d :: l, h => by
    have h1 := sum_bd l (fun e he => h e (List.mem_cons_of_mem _ he))
    have h2 := h d (by simp)
    rw [List.map_cons, List.sum_cons, List.length_cons, Nat.add_mul]; omega
set_option maxRecDepth 100000 in
set_option maxHeartbeats 4000000 in
theorem delivery_c (sp : Option Addr) (n cap : Nat) (sl : List Scn) (p : Option Addr) (m cap2 : Nat) (ts : List Trk) (q : Option Addr) (k cap3 : Nat) (ss : List Sl) (w : World) (R) (hn : n ≤ maxLen) (hm : m ≤ maxLen) (hk : k ≤ maxLen) (hsl : sl.length = n) (hS : ScnsAt w sp sl) (hts : ts.length = m) (hT : TrksAt w p ts) (hss : ss.length = k) (hSl : SlsAt w q ss)
    (hR : ∀ w', Below w.heap.size w w' → R (.returned (.bool true)) w') : Calls Try.prog 6 #[.slice sp n cap, .slice p m cap2, .slice q k cap3] w R := by
  have HR := hide hR; have HS := hide hS; have HT := hide hT; have Hn := hide hsl; have Hm := hide hts; have HSl := hide hSl; have Hk := hide hss
  clear hR hS hT hsl hts hSl hss
  go_enter Try.func6, Try.ntmps6
  go_wp2_with (go_at_call 10; refine Stop.out ?_)
  refine Stop.go (head_c _ _ ?_)
  intro w1 hb1
  have HB1 := hide hb1
  clear hb1
  go_wp2_with (go_at_call 11; refine Stop.out ?_)
  refine Stop.go (right_c sp n cap sl p m cap2 ts w1 _ hn hm Hn.out (HS.out.keep (Keeps.of_below HB1.out)) Hm.out (HT.out.keep (Keeps.of_below HB1.out)) ?_)
  intro b w2 hb2 hok
  have HB2 := hide (bseq HB1.out hb2)
  clear hb2
  cases b with
  | false =>
    clear hok
    go_wp2
    exact HR.out _ HB2.out
  | true =>
    have HO := hide (hok rfl)
    clear hok
    by_cases hk20 : k ≤ 20
    rotate_left
    · have hk20' : (20 : Int) < (k : Int) := by omega
      go_wp2
      exact HR.out _ HB2.out
    have hk20' : ¬ (20 : Int) < (k : Int) := by omega
    go_wp2_with (go_at_call 12; refine Stop.out ?_)
    refine Stop.go (records_c sp n cap sl p m cap2 ts w2 _ Hn.out (HS.out.keep (Keeps.of_below HB2.out)) HO.out.1 Hm.out (HT.out.keep (Keeps.of_below HB2.out)) HO.out.2 ?_)
    intro w3 qr c rl hb3 hrs hrp
    have HB3 := hide (bseq HB2.out hb3)
    have HRs := hide hrs; have HRp := hide hrp
    have hN : rl.length ≤ 480 := by have := recs_len (l := sl) HO.out.2; rw [← hrp, List.length_map] at this; exact this
    obtain ⟨N, hNe⟩ : ∃ N, rl.length = N := ⟨_, rfl⟩
    have HN := hide hNe
    rw [hNe] at hN
    rw [hNe]
    obtain ⟨w4, hmk, hcnt, hb4⟩ := mk32 w3 N (by omega)
    obtain ⟨w5, hmk2, hmis, hb5⟩ := mk51 w4 N (by omega)
    have HI0 : Hid (TI w3 N w3.heap.size w4.heap.size (.slice none 0 0) (olF ss 0) (yF N ss 0) 0 w5) := hide ⟨World.ownsRow_nil _ _ _ _, own_below hcnt hb5, own_mono hmis hb4.size, bseq hb4 hb5, fun t ht => by
      have : t = 0 := List.eq_of_mem_replicate (n := N) ht
      subst this; simp⟩
    clear hb3 hrs hrp hNe hcnt hb4 hmis hb5 hk20'
    go_wp2
    go_loopw [9, 12] (fun v si wr => ∃ i : Nat, i ≤ k ∧ si = .int .i64 i ∧ Hid (TI w3 N w3.heap.size w4.heap.size v (olF ss i) (yF N ss i) i wr)) (fun _ si _ => k - (intOf si).toNat)
    case atStart => exact ⟨0, Nat.zero_le _, rfl, HI0⟩
    case round =>
      clear HI0 hmk hmk2
      obtain ⟨i, hi, rfl, HO2⟩ := hrel
      by_cases hlt : i < k
      · obtain ⟨b, o, s, rfl, hs, hst, x0, x1, x2, x3, x4, x5, x6, x7, x8, x9⟩ := (HSl.out.keep (Keeps.of_below (bseq HB3.out HO2.out.below))).sl (i := i) (by rw [Hk.out]; exact hlt)
        have Hs := hide hs
        obtain ⟨wb, hwb⟩ : ∃ wb, wr.alloc (.cells s.cells.toArray 47) = wb := ⟨_, rfl⟩
        have hbb : Below wr.heap.size wr wb := hwb ▸ balloc (Below.refl _ _) _
        have HBb := hide hbb
        have kb : Blk wb wr.heap.size s.cells.toArray 47 := hwb ▸ Blk.new _ _ _
        have HKb := hide kb
        have y0 : wb.cell? ⟨wr.heap.size, 0, none⟩ = some (.int .i64 s.kind) := kb.cell (k := 0) rfl
        have y1 : wb.cell? ⟨wr.heap.size, 1, none⟩ = some (.int .i64 s.index) := kb.cell (k := 1) rfl
        have y2 : wb.cell? ⟨wr.heap.size, 2, none⟩ = some (.int .i64 s.by_) := kb.cell (k := 2) rfl
        have y3 : wb.cell? ⟨wr.heap.size, 3, none⟩ = some (.string s.label) := kb.cell (k := 3) rfl
        have y4 : wb.cell? ⟨wr.heap.size, 4, none⟩ = some (.int .i64 s.r.scanner) := kb.cell (k := 4) rfl
        have y5 : wb.cell? ⟨wr.heap.size, 5, none⟩ = some (.int .i64 s.r.number) := kb.cell (k := 5) rfl
        have y6 : wb.cell? ⟨wr.heap.size, 6, none⟩ = some (.int .i64 s.r.kind) := kb.cell (k := 6) rfl
        have y7 : wb.cell? ⟨wr.heap.size, 7, none⟩ = some (.int .i64 s.r.time) := kb.cell (k := 7) rfl
        have y8 : wb.cell? ⟨wr.heap.size, 8, none⟩ = some (.string s.r.label) := kb.cell (k := 8) rfl
        have y9 : wb.cell? ⟨wr.heap.size, 9, none⟩ = some (.slice s.r.cp s.r.contents.length s.r.cc) := kb.cell (k := 9) rfl
        unfold Sl.cells at hwb
        have hol : (olF ss i).length ≤ 20 := Nat.le_trans (List.length_filter_le _ _) (by rw [List.length_take]; omega)
        have hne1 : w3.heap.size ≠ w4.heap.size := by
          obtain ⟨_, a1⟩ := own_blk HO2.out.tm
          obtain ⟨_, a2⟩ := own_blk HO2.out.ms
          exact a1.ne a2 (by decide)
        have hlt1 : w3.heap.size < wr.heap.size := (own_lt HO2.out.tm rfl).2
        have hlt2 : w4.heap.size < wr.heap.size := (own_lt HO2.out.ms rfl).2
        have hne2 : wr.heap.size ≠ w3.heap.size := by omega
        have hne3 : wr.heap.size ≠ w4.heap.size := by omega
        clear hs hst hbb kb
        by_cases hK : s.kind = 1
        · have HY := hide (yF_step (N := N) Hs.out (show thrB s = true by unfold thrB; simp [hK]))
          have q1 : (s.kind != 1) = false := by simp [hK]
          have e1 : (s.kind == 1) = true := by simp [hK]
          have e5 : (s.kind == 5) = false := by simp [hK]
          have Hin := hide (fun (j : Nat) (t : Int) (b : Bool) (hc : cntP N s.sp) (hj : s.sp.index = (j : Int)) (ht : (yF N ss i).1[j]? = some t) (hb : (yF N ss i).2[j]? = some b) => (HY.out.2.trans (keepS_in hc hj ht hb)).trans (show _ = ((yF N ss i).1, (yF N ss i).2.set j (b || true)) by have hK2 : s.sp.kind = 1 := hK; simp [hK2]))
          clear hK
          obtain ⟨i47, hi0, hz0, hz1, hz2⟩ := info_parts Try.info47
          have HT47 := hide (And.intro hi0 (And.intro hz0 (And.intro hz1 hz2)))
          clear hi0 hz0 hz1 hz2
          go_wp2_with (at_builtin; refine Stop.out ?_)
          refine Stop.go ?_
          obtain ⟨hi0, hz0, hz1, hz2⟩ := HT47.out
          have hsz := HO2.out.below.size
          refine wpList_append_where rfl (.tmp 61) (.tmp 63) 45 rfl w3.heap.size 47 i47 _ 10 112 Try.underlying45 hi0 hz0 hz1 hz2 rfl (by omega) u9 (olF ss i).length ((olF ss i).flatMap Sl.cells) rfl (own_below HO2.out.own (balloc HBb.out _)) ⟨wb.heap.size, 0, none⟩ 1 1 s.cells rfl rfl (fun j u hu => by rw [Addr.add_lit, Nat.zero_add]; exact (Blk.new wb _ 47).cell (by simpa [Sl.cells] using hu)) (sl_one _) (by unfold maxLen; omega) (by omega) (Nat.le_trans hsz (Nat.le_trans HBb.out.size (by simp))) ?_
          clear hi0 hz0 hz1 hz2
          intro v9 w9 hown hgr hw
          have hkb9 : Blk w9 wr.heap.size s.cells.toArray 47 := (hgr.block _ (by have := HKb.out.lt; simp; omega) (fun e => by have := (own_lt HO2.out.own e.symm).2; omega)).trans (((balloc (Below.refl wb.heap.size wb) _).block _ HKb.out.lt).trans HKb.out)
          have HP := hide (HO2.out.push (balloc HBb.out _) hgr hown)
          have z0 : w9.cell? ⟨wr.heap.size, 0, none⟩ = some (.int .i64 s.kind) := hkb9.cell (k := 0) rfl
          have z1 : w9.cell? ⟨wr.heap.size, 1, none⟩ = some (.int .i64 s.index) := hkb9.cell (k := 1) rfl
          have z2 : w9.cell? ⟨wr.heap.size, 2, none⟩ = some (.int .i64 s.by_) := hkb9.cell (k := 2) rfl
          rw [← HY.out.1] at HP
          clear hown hgr hw hkb9 x0 x1 x2 x3 x4 x5 x6 x7 x8 x9 y0 y1 y2 y3 y4 y5 y6 y7 y8 y9
          by_cases c1 : s.index < 0
          · have HE : Hid (TI w3 N w3.heap.size w4.heap.size v9 (olF ss (i + 1)) (yF N ss (i + 1)) (i + 1) w9) := hide (by
              rw [HY.out.2, keepS_out (fun hc : cntP N s.sp => by have hc' : 0 ≤ s.index ∧ s.index < N ∧ -1000000 ≤ s.by_ ∧ s.by_ ≤ 1000000 := hc; omega)]
              exact HP.out.up)
            clear HP
            go_wp2
            go_roundw
            case rel => exact ⟨i + 1, by omega, by go_num, HE⟩
            case measure => simp [intOf]; omega
          by_cases c2 : (N : Int) ≤ s.index
          · have HE : Hid (TI w3 N w3.heap.size w4.heap.size v9 (olF ss (i + 1)) (yF N ss (i + 1)) (i + 1) w9) := hide (by
              rw [HY.out.2, keepS_out (fun hc : cntP N s.sp => by have hc' : 0 ≤ s.index ∧ s.index < N ∧ -1000000 ≤ s.by_ ∧ s.by_ ≤ 1000000 := hc; omega)]
              exact HP.out.up)
            clear HP
            go_wp2
            go_roundw
            case rel => exact ⟨i + 1, by omega, by go_num, HE⟩
            case measure => simp [intOf]; omega
          by_cases c3 : s.by_ < -1000000
          · have HE : Hid (TI w3 N w3.heap.size w4.heap.size v9 (olF ss (i + 1)) (yF N ss (i + 1)) (i + 1) w9) := hide (by
              rw [HY.out.2, keepS_out (fun hc : cntP N s.sp => by have hc' : 0 ≤ s.index ∧ s.index < N ∧ -1000000 ≤ s.by_ ∧ s.by_ ≤ 1000000 := hc; omega)]
              exact HP.out.up)
            clear HP
            go_wp2
            go_roundw
            case rel => exact ⟨i + 1, by omega, by go_num, HE⟩
            case measure => simp [intOf]; omega
          by_cases c4 : (1000000 : Int) < s.by_
          · have HE : Hid (TI w3 N w3.heap.size w4.heap.size v9 (olF ss (i + 1)) (yF N ss (i + 1)) (i + 1) w9) := hide (by
              rw [HY.out.2, keepS_out (fun hc : cntP N s.sp => by have hc' : 0 ≤ s.index ∧ s.index < N ∧ -1000000 ≤ s.by_ ∧ s.by_ ≤ 1000000 := hc; omega)]
              exact HP.out.up)
            clear HP
            go_wp2
            go_roundw
            case rel => exact ⟨i + 1, by omega, by go_num, HE⟩
            case measure => simp [intOf]; omega
          obtain ⟨j, hj⟩ : ∃ j : Nat, s.index = (j : Int) := ⟨s.index.toNat, by omega⟩
          have hjN : j < N := by omega
          have hjI : (j : Int) < (N : Int) := by omega
          obtain ⟨t, ht⟩ : ∃ t, (yF N ss i).1[j]? = some t := ⟨_, List.getElem?_eq_getElem (by rw [HO2.out.len1]; exact hjN)⟩
          obtain ⟨b, hb⟩ : ∃ b, (yF N ss i).2[j]? = some b := ⟨_, List.getElem?_eq_getElem (by rw [HO2.out.len2]; exact hjN)⟩
          have hyy := Hin.out j t b (show 0 ≤ s.index ∧ s.index < N ∧ -1000000 ≤ s.by_ ∧ s.by_ ≤ 1000000 by omega) hj ht hb
          have hbd := HO2.out.bd t (List.mem_of_getElem? ht)
          have HYy := hide hyy
          have cM := HP.out.cellM hb
          have cT := HP.out.cellT ht
          have f1 := own_free HP.out.ms j
          have f2 := own_free HP.out.tm j
          have Ht := hide ht
          have Hj := hide hj
          rw [hj] at z1 c1 c2
          clear hyy ht hj hb
          cases b with
          | true =>
            have HM := hide (HP.out.miss j true)
            go_wp2
            go_still_tail 14, (by kernel_rfl)
            have HE : Hid (TI w3 N w3.heap.size w4.heap.size v9 (olF ss (i + 1)) (yF N ss (i + 1)) (i + 1) ((w9.setCell ⟨w4.heap.size, j, none⟩ (.bool true)).drew)) := hide (by
              rw [HYy.out]
              exact (HM.out.next (Below.refl _ _).drew).up)
            clear HM HP
            go_wp2
            go_roundw
            case rel => exact ⟨i + 1, by omega, by go_num, HE⟩
            case measure => simp [intOf]; omega
          | false =>
            have HM := hide (HP.out.miss j true)
            go_wp2
            go_still_tail 14, (by kernel_rfl)
            have HE : Hid (TI w3 N w3.heap.size w4.heap.size v9 (olF ss (i + 1)) (yF N ss (i + 1)) (i + 1) ((w9.setCell ⟨w4.heap.size, j, none⟩ (.bool true)).drew)) := hide (by
              rw [HYy.out]
              exact (HM.out.next (Below.refl _ _).drew).up)
            clear HM HP
            go_wp2
            go_roundw
            case rel => exact ⟨i + 1, by omega, by go_num, HE⟩
            case measure => simp [intOf]; omega
        rename_i hK1
        by_cases hK : s.kind = 5
        · have HY := hide (yF_step (N := N) Hs.out (show thrB s = true by unfold thrB; simp [hK]))
          have q1 : (s.kind != 1) = true := by simp [hK]
          have q5 : (s.kind != 5) = false := by simp [hK]
          have e1 : (s.kind == 1) = false := by simp [hK]
          have e5 : (s.kind == 5) = true := by simp [hK]
          have Hin := hide (fun (j : Nat) (t : Int) (b : Bool) (hc : cntP N s.sp) (hj : s.sp.index = (j : Int)) (ht : (yF N ss i).1[j]? = some t) (hb : (yF N ss i).2[j]? = some b) => (HY.out.2.trans (keepS_in hc hj ht hb)).trans (show _ = ((yF N ss i).1.set j (t + 1), (yF N ss i).2.set j (b || false)) by have hK2 : s.sp.kind = 5 := hK; simp [hK2]))
          clear hK
          obtain ⟨i47, hi0, hz0, hz1, hz2⟩ := info_parts Try.info47
          have HT47 := hide (And.intro hi0 (And.intro hz0 (And.intro hz1 hz2)))
          clear hi0 hz0 hz1 hz2
          go_wp2_with (at_builtin; refine Stop.out ?_)
          refine Stop.go ?_
          obtain ⟨hi0, hz0, hz1, hz2⟩ := HT47.out
          have hsz := HO2.out.below.size
          refine wpList_append_where rfl (.tmp 61) (.tmp 63) 45 rfl w3.heap.size 47 i47 _ 10 112 Try.underlying45 hi0 hz0 hz1 hz2 rfl (by omega) u9 (olF ss i).length ((olF ss i).flatMap Sl.cells) rfl (own_below HO2.out.own (balloc HBb.out _)) ⟨wb.heap.size, 0, none⟩ 1 1 s.cells rfl rfl (fun j u hu => by rw [Addr.add_lit, Nat.zero_add]; exact (Blk.new wb _ 47).cell (by simpa [Sl.cells] using hu)) (sl_one _) (by unfold maxLen; omega) (by omega) (Nat.le_trans hsz (Nat.le_trans HBb.out.size (by simp))) ?_
          clear hi0 hz0 hz1 hz2
          intro v9 w9 hown hgr hw
          have hkb9 : Blk w9 wr.heap.size s.cells.toArray 47 := (hgr.block _ (by have := HKb.out.lt; simp; omega) (fun e => by have := (own_lt HO2.out.own e.symm).2; omega)).trans (((balloc (Below.refl wb.heap.size wb) _).block _ HKb.out.lt).trans HKb.out)
          have HP := hide (HO2.out.push (balloc HBb.out _) hgr hown)
          have z0 : w9.cell? ⟨wr.heap.size, 0, none⟩ = some (.int .i64 s.kind) := hkb9.cell (k := 0) rfl
          have z1 : w9.cell? ⟨wr.heap.size, 1, none⟩ = some (.int .i64 s.index) := hkb9.cell (k := 1) rfl
          have z2 : w9.cell? ⟨wr.heap.size, 2, none⟩ = some (.int .i64 s.by_) := hkb9.cell (k := 2) rfl
          rw [← HY.out.1] at HP
          clear hown hgr hw hkb9 x0 x1 x2 x3 x4 x5 x6 x7 x8 x9 y0 y1 y2 y3 y4 y5 y6 y7 y8 y9
          by_cases c1 : s.index < 0
          · have HE : Hid (TI w3 N w3.heap.size w4.heap.size v9 (olF ss (i + 1)) (yF N ss (i + 1)) (i + 1) w9) := hide (by
              rw [HY.out.2, keepS_out (fun hc : cntP N s.sp => by have hc' : 0 ≤ s.index ∧ s.index < N ∧ -1000000 ≤ s.by_ ∧ s.by_ ≤ 1000000 := hc; omega)]
              exact HP.out.up)
            clear HP
            go_wp2
            go_roundw
            case rel => exact ⟨i + 1, by omega, by go_num, HE⟩
            case measure => simp [intOf]; omega
          by_cases c2 : (N : Int) ≤ s.index
          · have HE : Hid (TI w3 N w3.heap.size w4.heap.size v9 (olF ss (i + 1)) (yF N ss (i + 1)) (i + 1) w9) := hide (by
              rw [HY.out.2, keepS_out (fun hc : cntP N s.sp => by have hc' : 0 ≤ s.index ∧ s.index < N ∧ -1000000 ≤ s.by_ ∧ s.by_ ≤ 1000000 := hc; omega)]
              exact HP.out.up)
            clear HP
            go_wp2
            go_roundw
            case rel => exact ⟨i + 1, by omega, by go_num, HE⟩
            case measure => simp [intOf]; omega
          by_cases c3 : s.by_ < -1000000
          · have HE : Hid (TI w3 N w3.heap.size w4.heap.size v9 (olF ss (i + 1)) (yF N ss (i + 1)) (i + 1) w9) := hide (by
              rw [HY.out.2, keepS_out (fun hc : cntP N s.sp => by have hc' : 0 ≤ s.index ∧ s.index < N ∧ -1000000 ≤ s.by_ ∧ s.by_ ≤ 1000000 := hc; omega)]
              exact HP.out.up)
            clear HP
            go_wp2
            go_roundw
            case rel => exact ⟨i + 1, by omega, by go_num, HE⟩
            case measure => simp [intOf]; omega
          by_cases c4 : (1000000 : Int) < s.by_
          · have HE : Hid (TI w3 N w3.heap.size w4.heap.size v9 (olF ss (i + 1)) (yF N ss (i + 1)) (i + 1) w9) := hide (by
              rw [HY.out.2, keepS_out (fun hc : cntP N s.sp => by have hc' : 0 ≤ s.index ∧ s.index < N ∧ -1000000 ≤ s.by_ ∧ s.by_ ≤ 1000000 := hc; omega)]
              exact HP.out.up)
            clear HP
            go_wp2
            go_roundw
            case rel => exact ⟨i + 1, by omega, by go_num, HE⟩
            case measure => simp [intOf]; omega
          obtain ⟨j, hj⟩ : ∃ j : Nat, s.index = (j : Int) := ⟨s.index.toNat, by omega⟩
          have hjN : j < N := by omega
          have hjI : (j : Int) < (N : Int) := by omega
          obtain ⟨t, ht⟩ : ∃ t, (yF N ss i).1[j]? = some t := ⟨_, List.getElem?_eq_getElem (by rw [HO2.out.len1]; exact hjN)⟩
          obtain ⟨b, hb⟩ : ∃ b, (yF N ss i).2[j]? = some b := ⟨_, List.getElem?_eq_getElem (by rw [HO2.out.len2]; exact hjN)⟩
          have hyy := Hin.out j t b (show 0 ≤ s.index ∧ s.index < N ∧ -1000000 ≤ s.by_ ∧ s.by_ ≤ 1000000 by omega) hj ht hb
          have hbd := HO2.out.bd t (List.mem_of_getElem? ht)
          have HYy := hide hyy
          have cM := HP.out.cellM hb
          have cT := HP.out.cellT ht
          have f1 := own_free HP.out.ms j
          have f2 := own_free HP.out.tm j
          have Ht := hide ht
          have Hj := hide hj
          rw [hj] at z1 c1 c2
          clear hyy ht hj hb
          cases b with
          | true =>
            have HM := hide (HP.out.miss j true)
            go_wp2
            go_still_tail 14, (by kernel_rfl)
            have HE : Hid (TI w3 N w3.heap.size w4.heap.size v9 (olF ss (i + 1)) (yF N ss (i + 1)) (i + 1) (((w9.setCell ⟨w4.heap.size, j, none⟩ (.bool true)).drew).setCell ⟨w3.heap.size, j, none⟩ (.int .i64 (t + 1)))) := hide (by
              rw [HYy.out]
              exact (HM.out.next (Below.refl _ _).drew).time j t Ht.out)
            clear HM HP
            go_wp2
            go_roundw
            case rel => exact ⟨i + 1, by omega, by go_num, HE⟩
            case measure => simp [intOf]; omega
          | false =>
            have HM := hide (HP.out.miss j false)
            go_wp2
            go_still_tail 14, (by kernel_rfl)
            have HE : Hid (TI w3 N w3.heap.size w4.heap.size v9 (olF ss (i + 1)) (yF N ss (i + 1)) (i + 1) (((w9.setCell ⟨w4.heap.size, j, none⟩ (.bool false)).drew).setCell ⟨w3.heap.size, j, none⟩ (.int .i64 (t + 1)))) := hide (by
              rw [HYy.out]
              exact (HM.out.next (Below.refl _ _).drew).time j t Ht.out)
            clear HM HP
            go_wp2
            go_roundw
            case rel => exact ⟨i + 1, by omega, by go_num, HE⟩
            case measure => simp [intOf]; omega
        rename_i hK5
        by_cases hK : s.kind = 6
        · have HY := hide (yF_step (N := N) Hs.out (show thrB s = true by unfold thrB; simp [hK]))
          have q1 : (s.kind != 1) = true := by simp [hK]
          have q5 : (s.kind != 5) = true := by simp [hK]
          have q6 : (s.kind != 6) = false := by simp [hK]
          have e1 : (s.kind == 1) = false := by simp [hK]
          have e5 : (s.kind == 5) = false := by simp [hK]
          have Hin := hide (fun (j : Nat) (t : Int) (b : Bool) (hc : cntP N s.sp) (hj : s.sp.index = (j : Int)) (ht : (yF N ss i).1[j]? = some t) (hb : (yF N ss i).2[j]? = some b) => (HY.out.2.trans (keepS_in hc hj ht hb)).trans (show _ = ((yF N ss i).1, (yF N ss i).2.set j (b || false)) by have hK2 : s.sp.kind = 6 := hK; simp [hK2]))
          clear hK
          obtain ⟨i47, hi0, hz0, hz1, hz2⟩ := info_parts Try.info47
          have HT47 := hide (And.intro hi0 (And.intro hz0 (And.intro hz1 hz2)))
          clear hi0 hz0 hz1 hz2
          go_wp2_with (at_builtin; refine Stop.out ?_)
          refine Stop.go ?_
          obtain ⟨hi0, hz0, hz1, hz2⟩ := HT47.out
          have hsz := HO2.out.below.size
          refine wpList_append_where rfl (.tmp 61) (.tmp 63) 45 rfl w3.heap.size 47 i47 _ 10 112 Try.underlying45 hi0 hz0 hz1 hz2 rfl (by omega) u9 (olF ss i).length ((olF ss i).flatMap Sl.cells) rfl (own_below HO2.out.own (balloc HBb.out _)) ⟨wb.heap.size, 0, none⟩ 1 1 s.cells rfl rfl (fun j u hu => by rw [Addr.add_lit, Nat.zero_add]; exact (Blk.new wb _ 47).cell (by simpa [Sl.cells] using hu)) (sl_one _) (by unfold maxLen; omega) (by omega) (Nat.le_trans hsz (Nat.le_trans HBb.out.size (by simp))) ?_
          clear hi0 hz0 hz1 hz2
          intro v9 w9 hown hgr hw
          have hkb9 : Blk w9 wr.heap.size s.cells.toArray 47 := (hgr.block _ (by have := HKb.out.lt; simp; omega) (fun e => by have := (own_lt HO2.out.own e.symm).2; omega)).trans (((balloc (Below.refl wb.heap.size wb) _).block _ HKb.out.lt).trans HKb.out)
          have HP := hide (HO2.out.push (balloc HBb.out _) hgr hown)
          have z0 : w9.cell? ⟨wr.heap.size, 0, none⟩ = some (.int .i64 s.kind) := hkb9.cell (k := 0) rfl
          have z1 : w9.cell? ⟨wr.heap.size, 1, none⟩ = some (.int .i64 s.index) := hkb9.cell (k := 1) rfl
          have z2 : w9.cell? ⟨wr.heap.size, 2, none⟩ = some (.int .i64 s.by_) := hkb9.cell (k := 2) rfl
          rw [← HY.out.1] at HP
          clear hown hgr hw hkb9 x0 x1 x2 x3 x4 x5 x6 x7 x8 x9 y0 y1 y2 y3 y4 y5 y6 y7 y8 y9
          by_cases c1 : s.index < 0
          · have HE : Hid (TI w3 N w3.heap.size w4.heap.size v9 (olF ss (i + 1)) (yF N ss (i + 1)) (i + 1) w9) := hide (by
              rw [HY.out.2, keepS_out (fun hc : cntP N s.sp => by have hc' : 0 ≤ s.index ∧ s.index < N ∧ -1000000 ≤ s.by_ ∧ s.by_ ≤ 1000000 := hc; omega)]
              exact HP.out.up)
            clear HP
            go_wp2
            go_roundw
            case rel => exact ⟨i + 1, by omega, by go_num, HE⟩
            case measure => simp [intOf]; omega
          by_cases c2 : (N : Int) ≤ s.index
          · have HE : Hid (TI w3 N w3.heap.size w4.heap.size v9 (olF ss (i + 1)) (yF N ss (i + 1)) (i + 1) w9) := hide (by
              rw [HY.out.2, keepS_out (fun hc : cntP N s.sp => by have hc' : 0 ≤ s.index ∧ s.index < N ∧ -1000000 ≤ s.by_ ∧ s.by_ ≤ 1000000 := hc; omega)]
              exact HP.out.up)
            clear HP
            go_wp2
            go_roundw
            case rel => exact ⟨i + 1, by omega, by go_num, HE⟩
            case measure => simp [intOf]; omega
          by_cases c3 : s.by_ < -1000000
          · have HE : Hid (TI w3 N w3.heap.size w4.heap.size v9 (olF ss (i + 1)) (yF N ss (i + 1)) (i + 1) w9) := hide (by
              rw [HY.out.2, keepS_out (fun hc : cntP N s.sp => by have hc' : 0 ≤ s.index ∧ s.index < N ∧ -1000000 ≤ s.by_ ∧ s.by_ ≤ 1000000 := hc; omega)]
              exact HP.out.up)
            clear HP
            go_wp2
            go_roundw
            case rel => exact ⟨i + 1, by omega, by go_num, HE⟩
            case measure => simp [intOf]; omega
          by_cases c4 : (1000000 : Int) < s.by_
          · have HE : Hid (TI w3 N w3.heap.size w4.heap.size v9 (olF ss (i + 1)) (yF N ss (i + 1)) (i + 1) w9) := hide (by
              rw [HY.out.2, keepS_out (fun hc : cntP N s.sp => by have hc' : 0 ≤ s.index ∧ s.index < N ∧ -1000000 ≤ s.by_ ∧ s.by_ ≤ 1000000 := hc; omega)]
              exact HP.out.up)
            clear HP
            go_wp2
            go_roundw
            case rel => exact ⟨i + 1, by omega, by go_num, HE⟩
            case measure => simp [intOf]; omega
          obtain ⟨j, hj⟩ : ∃ j : Nat, s.index = (j : Int) := ⟨s.index.toNat, by omega⟩
          have hjN : j < N := by omega
          have hjI : (j : Int) < (N : Int) := by omega
          obtain ⟨t, ht⟩ : ∃ t, (yF N ss i).1[j]? = some t := ⟨_, List.getElem?_eq_getElem (by rw [HO2.out.len1]; exact hjN)⟩
          obtain ⟨b, hb⟩ : ∃ b, (yF N ss i).2[j]? = some b := ⟨_, List.getElem?_eq_getElem (by rw [HO2.out.len2]; exact hjN)⟩
          have hyy := Hin.out j t b (show 0 ≤ s.index ∧ s.index < N ∧ -1000000 ≤ s.by_ ∧ s.by_ ≤ 1000000 by omega) hj ht hb
          have hbd := HO2.out.bd t (List.mem_of_getElem? ht)
          have HYy := hide hyy
          have cM := HP.out.cellM hb
          have cT := HP.out.cellT ht
          have f1 := own_free HP.out.ms j
          have f2 := own_free HP.out.tm j
          have Ht := hide ht
          have Hj := hide hj
          rw [hj] at z1 c1 c2
          clear hyy ht hj hb
          cases b with
          | true =>
            have HM := hide (HP.out.miss j true)
            go_wp2
            go_still_tail 14, (by kernel_rfl)
            have HE : Hid (TI w3 N w3.heap.size w4.heap.size v9 (olF ss (i + 1)) (yF N ss (i + 1)) (i + 1) ((w9.setCell ⟨w4.heap.size, j, none⟩ (.bool true)).drew)) := hide (by
              rw [HYy.out]
              exact (HM.out.next (Below.refl _ _).drew).up)
            clear HM HP
            go_wp2
            go_roundw
            case rel => exact ⟨i + 1, by omega, by go_num, HE⟩
            case measure => simp [intOf]; omega
          | false =>
            have HM := hide (HP.out.miss j false)
            go_wp2
            go_still_tail 14, (by kernel_rfl)
            have HE : Hid (TI w3 N w3.heap.size w4.heap.size v9 (olF ss (i + 1)) (yF N ss (i + 1)) (i + 1) ((w9.setCell ⟨w4.heap.size, j, none⟩ (.bool false)).drew)) := hide (by
              rw [HYy.out]
              exact (HM.out.next (Below.refl _ _).drew).up)
            clear HM HP
            go_wp2
            go_roundw
            case rel => exact ⟨i + 1, by omega, by go_num, HE⟩
            case measure => simp [intOf]; omega
        have q1 : (s.kind != 1) = true := by simp; assumption
        have q5 : (s.kind != 5) = true := by simp; assumption
        have q6 : (s.kind != 6) = true := by simp; assumption
        have HE : Hid (TI w3 N w3.heap.size w4.heap.size u9 (olF ss (i + 1)) (yF N ss (i + 1)) (i + 1) wb) := hide (by
          have h := yF_skip (N := N) Hs.out (show thrB s = false by unfold thrB; simp; omega)
          rw [h.1, h.2]
          exact (HO2.out.next HBb.out).up)
        clear hK
        go_wp2
        go_roundw
        case rel => exact ⟨i + 1, by omega, by go_num, HE⟩
        case measure => simp [intOf]; omega
      · obtain rfl : i = k := by omega
        have hthr : ∀ x ∈ (olF ss i).map Sl.sp, threeB x := fun x hx => by
          obtain ⟨s, hs, rfl⟩ := List.mem_map.1 hx
          have h5 := (List.mem_filter.1 hs).2; unfold thrB at h5; rw [decide_eq_true_eq] at h5; exact h5
        obtain ⟨oq, oc, rfl, hos⟩ := HO2.out.slips HSl.out (bseq HB3.out HO2.out.below) (fun s hs => List.mem_of_mem_take (List.mem_filter.1 hs).1)
        have hL20 : (olF ss i).length ≤ 20 := Nat.le_trans (List.length_filter_le _ _) (by rw [List.length_take]; omega)
        have hNr : (recordsP sl (ts.map Trk.tk)).length = N := by rw [← HRp.out, List.length_map]; exact HN.out
        obtain ⟨dl, hd1, hd2, hd3, hd4, hd5⟩ := deliver_three (l := sl) (ts := ts.map Trk.tk) hthr
        rw [hNr] at hd2 hd3
        have hyf : ((olF ss i).map Sl.sp).foldl (keepS N) (List.replicate N 0, List.replicate N false) = yF N ss i := rfl
        rw [hyf] at hd2 hd3
        have hmem := deliver_mem (l := sl) (ts := ts.map Trk.tk) hthr
        obtain ⟨ol, hol⟩ : ∃ ol, olF ss i = ol := ⟨_, rfl⟩
        obtain ⟨y, hy⟩ : ∃ y, yF N ss i = y := ⟨_, rfl⟩
        rw [hol] at hos hthr hd4 hd5 hmem hL20 HO2 ⊢
        rw [hy] at hd2 hd3 HO2
        obtain ⟨L, hL⟩ : ∃ L, ol.length = L := ⟨_, rfl⟩
        rw [hL] at hL20
        rw [hL]
        have hdl : dl.length = N := by rw [← hNr, ← hd1, List.length_map]
        have hat : ∀ (j : Nat) (r : Rec), rl[j]? = some r → ∃ (d : DP) (t : Int) (b : Bool), dl[j]? = some d ∧ d.r = r.rp ∧ y.1[j]? = some t ∧ y.2[j]? = some b ∧ d.times = 1 + t ∧ d.missed = b ∧ 0 ≤ t ∧ t ≤ 20 := fun j r hr => by
          have h1 : (dl.map DP.r)[j]? = some r.rp := by rw [hd1, ← HRp.out, List.getElem?_map, hr]; rfl
          rw [List.getElem?_map] at h1
          cases hdj : dl[j]? with
          | none => rw [hdj] at h1; cases h1
          | some d =>
            rw [hdj] at h1
            have h2 : (dl.map DP.times)[j]? = some d.times := by rw [List.getElem?_map, hdj]; rfl
            have h3 : (dl.map DP.missed)[j]? = some d.missed := by rw [List.getElem?_map, hdj]; rfl
            rw [hd2, List.getElem?_map] at h2
            rw [hd3] at h3
            cases hyj : y.1[j]? with
            | none => rw [hyj] at h2; cases h2
            | some t =>
              rw [hyj] at h2
              have := HO2.out.bd t (List.mem_of_getElem? hyj)
              exact ⟨d, t, d.missed, rfl, Option.some.inj h1, rfl, h3, (Option.some.inj h2).symm, rfl, this.1, by omega⟩
        have hbig : ∀ d ∈ dl, lenD d ≤ 21 := fun d hd => by
          obtain ⟨j, hj⟩ := List.getElem?_of_mem hd
          obtain ⟨r, hr⟩ : ∃ r, rl[j]? = some r := ⟨_, List.getElem?_eq_getElem (by have := (List.getElem?_eq_some_iff.1 hj).1; rw [HN.out]; omega)⟩
          obtain ⟨d', t, b, h1, _, _, _, h2, _, h3, h4⟩ := hat j r hr
          obtain rfl : d = d' := by rw [hj] at h1; exact Option.some.inj h1
          unfold lenD
          split
          · omega
          · omega
        have hsum := sum_bd dl hbig
        have HAt := hide hat; have HBig := hide hbig
        have HD4 := hide hd4; have HD5 := hide hd5; have HMem := hide hmem; have HOs := hide hos; have HL := hide hL; have Hthr := hide hthr; have Hdl := hide hdl
        have HBr := hide (bseq HB3.out HO2.out.below)
        have hsum2 : (dl.map lenD).sum ≤ 10080 := by rw [hdl] at hsum; omega
        clear hos hthr hd1 hd2 hd3 hd4 hd5 hNr hyf hmem hol hy hL hdl hat hbig hsum
        go_wp2_with (go_at_call 18; refine Stop.out ?_)
        refine Stop.go (deliver_c sp n cap sl p m cap2 ts oq L oc ol wr _ Hn.out (HS.out.keep (Keeps.of_below HBr.out)) HO.out.1 Hm.out (HT.out.keep (Keeps.of_below HBr.out)) HO.out.2 HL.out hL20 HOs.out (fun s hs h3 => by have h4 := Hthr.out s.sp (List.mem_map_of_mem hs); have h5 : s.sp.kind = s.kind := rfl; unfold threeB at h4; omega) ?_)
        intro w7 q7 c7 rl7 hb7 hr7 hp7
        have HB7 := hide (bseq HBr.out hb7); have HR7 := hide hr7; have HP7 := hide hp7
        have HO7 := hide (HO2.out.next hb7)
        have hl7 : rl7.length = (dl.map lenD).sum := by rw [← HD4.out, ← hp7, List.length_map]
        obtain ⟨T, hT⟩ : ∃ T, (dl.map lenD).sum = T := ⟨_, rfl⟩
        rw [hT] at hl7 hsum2
        have HT7 := hide hT; have HL7 := hide hl7
        have HC7 := hide (show ∀ x ∈ rl7, x.contents.length ≤ maxLen from few_of hp7 (fun x hx => Nat.le_trans (rec_few HO.out.2 (HMem.out x hx)) (by unfold maxLen; omega)))
        have HRr7 := hide (HRs.out.keep (Keeps.of_below HO7.out.below))
        rw [hl7]
        clear hb7 hr7 hp7 hl7 hT HO2
        go_wp2
        go_loopw [15, 16] (fun st si wr2 => ∃ (j : Nat) (tot : Int), j ≤ N ∧ st = .int .i64 tot ∧ si = .int .i64 j ∧ Hid ((((dl.take j).map lenD).sum : Int) = tot) ∧ Hid (Below w7.heap.size w7 wr2)) (fun _ si _ => N - (intOf si).toNat)
        case atStart => exact ⟨0, 0, Nat.zero_le _, rfl, rfl, hide (by simp), hide (Below.refl _ _)⟩
        case round =>
          obtain ⟨j, tot, hj, rfl, rfl, HE, HBw⟩ := hrel
          have HO8 := hide (HO7.out.next HBw.out)
          by_cases hlj : j < N
          · obtain ⟨b, o, r, rfl, hr, hst, x0, x1, x2, x3, x4, x5⟩ := (HRr7.out.keep (Keeps.of_below HBw.out)).rec_ (i := j) (by rw [HN.out]; exact hlj)
            obtain ⟨d, t, b2, h1, h2, h3, h4, h5, h6, h7, h8⟩ := HAt.out j r hr
            have cM := HO8.out.cellM h4
            have cT := HO8.out.cellT h3
            have hcnt : (countR (rl7.map Rec.rp) r.rp : Int) = if b2 then 0 else 1 + t := by
              rw [HP7.out, ← h2, HD5.out j d h1]
              unfold lenD
              rw [h6, h5]
              cases b2
              · simp; omega
              · simp
            have hlen : (lenD d : Int) = if b2 then 0 else 1 + t := by
              unfold lenD
              rw [h6, h5]
              cases b2
              · simp; omega
              · simp
            have hst2 := sum_take h1
            have htot : 0 ≤ tot ∧ tot ≤ 10080 := by
              have h9 := sum_bd (dl.take j) (fun e he => HBig.out e (List.mem_of_mem_take he))
              rw [List.length_take] at h9
              have := HE.out
              rw [Hdl.out] at h9
              have : min j N = j := by omega
              rw [this] at h9
              omega
            have Hst := hide hst
            have hjI : (j : Int) < (N : Int) := by omega
            have HBx := hide (bseq HB7.out HBw.out)
            have HR8 := hide (HR7.out.keep (Keeps.of_below HBw.out))
            cases b2 with
            | true =>
              have HE2 : Hid ((((dl.take (j + 1)).map lenD).sum : Int) = tot) := hide (by rw [hst2, Int.natCast_add, HE.out, hlen]; simp)
              have g1 : ((0 : Int) != 0) = false := by decide
              have Hcnt : Hid ((countR (rl7.map Rec.rp) r.rp : Int) = 0) := hide (by rw [hcnt]; simp)
              clear hr hst h1 h2 h3 h4 h5 h6 hcnt hlen hst2
              go_wp2_with (go_at_call 19; refine Stop.out ?_)
              refine Stop.go (count_c q7 T c7 rl7 r _ _ HL7.out (by omega) HR8.out HC7.out Hst.out ?_)
              intro w8 hb8
              rw [Hcnt.out]
              have HB8 := hide (bseq HBw.out hb8)
              clear hb8
              go_wp2
              go_roundw
              case rel => exact ⟨j + 1, tot, by omega, by simp, by go_num, HE2, HB8⟩
              case measure => simp [intOf]; omega
            | false =>
              have HE2 : Hid ((((dl.take (j + 1)).map lenD).sum : Int) = tot + (1 + t)) := hide (by rw [hst2, Int.natCast_add, HE.out, hlen]; simp)
              have g1 : (1 + t != 1 + t) = false := by simp
              have Hcnt : Hid ((countR (rl7.map Rec.rp) r.rp : Int) = 1 + t) := hide (by rw [hcnt]; simp)
              clear hr hst h1 h2 h3 h4 h5 h6 hcnt hlen hst2
              go_wp2_with (go_at_call 19; refine Stop.out ?_)
              refine Stop.go (count_c q7 T c7 rl7 r _ _ HL7.out (by omega) HR8.out HC7.out Hst.out ?_)
              intro w8 hb8
              rw [Hcnt.out]
              have HB8 := hide (bseq HBw.out hb8)
              clear hb8
              go_wp2
              go_roundw
              case rel => exact ⟨j + 1, tot + (1 + t), by omega, by go_num, by go_num, HE2, HB8⟩
              case measure => simp [intOf]; omega
          · obtain rfl : j = N := by omega
            have htt : tot = (T : Int) := by
              have := HE.out
              rw [List.take_of_length_le (by rw [Hdl.out]; exact Nat.le_refl _), HT7.out] at this
              omega
            subst htt
            have HF := hide (HR.out _ (bseq HB7.out HBw.out))
            have g1 : ((T : Int) == (T : Int)) = true := by simp
            go_wp2
            exact HF.out
theorem delivery_w (a0 : Option Addr) (n0 c0 : Nat) (l0 : List Scn) (a1 : Option Addr) (n1 c1 : Nat) (l1 : List Trk) (a2 : Option Addr) (n2 c2 : Nat) (l2 : List Sl) (W : World) (R : Ending → World → Prop) (hl0 : l0.length = n0) (hm0 : n0 ≤ maxLen) (hi0 : ScnsAt W a0 l0) (hz0 : n0 ≤ c0) (hw0 : True) (hl1 : l1.length = n1) (hm1 : n1 ≤ maxLen) (hi1 : TrksAt W a1 l1) (hz1 : n1 ≤ c1) (hw1 : True) (hl2 : l2.length = n2) (hm2 : n2 ≤ maxLen) (hi2 : SlsAt W a2 l2) (hz2 : n2 ≤ c2) (hw2 : ∀ s ∈ l2, s.r.contents.length ≤ maxLen)
    (hR : ∀ w', Below W.heap.size W w' → R (.returned (.bool true)) w') : Calls Try.prog 6 #[.slice a0 n0 c0, .slice a1 n1 c1, .slice a2 n2 c2] W R :=
  delivery_c a0 n0 c0 l0 a1 n1 c1 l1 a2 n2 c2 l2 W R hm0 hm1 hm2 hl0 hi0 hl1 hi1 hl2 hi2 hR

set_option maxRecDepth 100000 in
theorem scannerDelivery_holds_lifted (os : Os) (started : os.Started) (H : Type) (enc : TypeId × Value → H) :
    ReturnsInHanded {} Try.checked os 6 .any (Rows.scannerDeliverySpec.pre6 enc Try.prog Try.f6 Rows.scannerDeliveryRow.domain false) (Rows.scannerDeliverySpec.post enc Try.prog Try.f6 false true false false) := by
  refine returnsInHanded_of_change (C := Try.checked) Try.own started (by kernel_rfl) Try.func6
    (ChangeSpec.witness6 (enc := enc) (C := Try.checked) false ⟨#[], #[.slice none 0 0, .slice none 0 0, .slice none 0 0], []⟩ 8 (by kernel_rfl) (by kernel_rfl) (by kernel_rfl) (by kernel_rfl)) ?_
  intro W base args ds gs before hval0 hW hcnd _
  have hval : ∀ (j : Nat) t v, Try.f6.params[j]? = some t → args[j]? = some v → Value.okWide Try.prog W .any base t v := hval0
  have hW' := hW
  obtain ⟨p, q, hA0, hV, rfl, hfz, hnd⟩ := hW
  have hA : DataW.TrodAll enc Try.prog W 0 (fun _ => true) true Try.f6.params.toList args.toList ds p := hA0
  have hA1 := hA
  rw [Try.params6] at hA hval
  obtain ⟨v0, vs0, d0, ds0, p0, q0, hargs, rfl, rfl, h0, r0⟩ := trodAll_cons hA
  obtain ⟨v1, vs1, d1, ds1, p1, q1, rfl, rfl, rfl, h1, r1⟩ := trodAll_cons r0
  obtain ⟨v2, vs2, d2, ds2, p2, q2, rfl, rfl, rfl, h2, r2⟩ := trodAll_cons r1
  obtain ⟨rfl, rfl, rfl⟩ := trodAll_nil r2
  obtain rfl : args = #[v0, v1, v2] := by cases args; simp_all
  obtain ⟨rfl, rfl⟩ := trodVars_none hV
  obtain ⟨a0, n0, c0, l0, rfl, hl0, hm0, hi0, hz0, hw0⟩ := open_scns (hval 0 22 v0 rfl rfl) h0
  obtain ⟨a1, n1, c1, l1, rfl, hl1, hm1, hi1, hz1, hw1⟩ := open_trks (hval 1 23 v1 rfl rfl) h1
  obtain ⟨a2, n2, c2, l2, rfl, hl2, hm2, hi2, hz2, hw2⟩ := open_sls (hval 2 45 v2 rfl rfl) h2
  refine delivery_w a0 n0 c0 l0 a1 n1 c1 l1 a2 n2 c2 l2 W _ hl0 hm0 hi0 hz0 hw0 hl1 hm1 hi1 hz1 hw1 hl2 hm2 hi2 hz2 hw2 fun W' bel => ?_
  exact ⟨_, rfl, law_post Try.laidOut bel rfl hW' hA1 (by kernel_rfl) rfl Try.underlying4 rfl rfl rfl⟩

theorem scannerDelivery_holds : Rows.ScannerDeliverySaid :=
  OpenClaim.holds_of_wide 6 Try.f6 rfl rfl rfl rfl rfl rfl rfl ⟨rfl, rfl, rfl, rfl, rfl⟩ rfl rfl rfl rfl rfl (by kernel_rfl) Try.func6 (by kernel_rfl)
    (of_decide_eq_true (by kernel_rfl)) (by unfold Func.isWrapper; rw [if_neg (of_decide_eq_false (by kernel_rfl))]; exact ⟨rfl, rfl⟩)
    (fun os started H enc _ => scannerDelivery_holds_lifted os started H enc)

end Go.Proofs.Ytihdpkeclmpehaa
