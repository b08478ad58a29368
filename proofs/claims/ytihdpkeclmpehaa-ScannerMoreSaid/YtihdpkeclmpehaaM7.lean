/- ScannerMore: with one more track behind the others, each true scan is still true, and each recorded scan is still recorded with its scanner, time and label. Conditions: those that the law tests itself (scanners and tracks well-formed and few: at most 8 tracks, the further one among them); at any other input the law asks its fixed examples alone. Parts of this text: Plain: slips that change nothing. Plain: the records' numbers, times and scanners; each arrival has a record. Plain: wider errors, a further track, and false deliveries. Plain: deliveries that are missed, repeated or delayed alone. Plain: how often each record is delivered. Plain: where the contents of delivered records come from; a list of different bad ones is short. How often a record is in a list. Rows of elements as the source of an append. Slices that came in, with the form's reach: each slice's bytes lie within it. ScannerMore: the tracks are copied and one is added: a region that draws its order. ScannerMore. -/
import Derived.Test.YtihdpkeclmpehaaA7
import Derived.Test.YtihdpkeclmpehaaA17
import Derived.Test.YtihdpkeclmpehaaA22
import Derived.Test.YtihdpkeclmpehaaA18
import Derived.Test.YtihdpkeclmpehaaA23
import Derived.SizedLaws
import Derived.Test.YtihdpkeclmpehaaA19
set_option linter.unusedVariables false
set_option linter.unusedSimpArgs false
set_option maxRecDepth 100000
namespace Go.Proofs.Ytihdpkeclmpehaa

theorem sortK_id {α : Type} (key : α → Int) : ∀ l : List α, l.Pairwise (fun a b => key a ≤ key b) → sortK key l = l
  | [], _ => rfl
  | x :: l, h => by
    obtain ⟨h1, h2⟩ := List.pairwise_cons.1 h
    rw [sortK, sortK_id key l h2]
    cases l with
    | nil => rfl
    | cons y l => rw [insK, if_pos (h1 y (by simp))]
theorem startP_sorted (rs : List RP) : (startP rs).Pairwise (fun a b => a.number ≤ b.number) := by
  unfold startP
  rw [List.pairwise_map]
  have : ∀ (l : List RP) (k : Nat), (l.zipIdx k).Pairwise (fun a b => ((a.2 : Nat) : Int) ≤ ((b.2 : Nat) : Int)) := by
    intro l
    induction l with
    | nil => intro k; exact List.Pairwise.nil
    | cons x t ih =>
      intro k
      rw [List.zipIdx_cons, List.pairwise_cons]
      refine ⟨fun b hb => ?_, ih (k + 1)⟩
      have := (List.mem_zipIdx hb).1
      show ((k : Nat) : Int) ≤ ((b.2 : Nat) : Int)
      omega
  exact this rs 0
theorem startP_out (rs : List RP) : (startP rs).flatMap outP = rs := by
  unfold startP
  rw [List.flatMap_map]
  have : ∀ (l : List RP) (k : Nat), (l.zipIdx k).flatMap (fun x => outP ⟨x.1, ((x.2 : Nat) : Int), 1, false⟩) = l := by
    intro l
    induction l with
    | nil => intro k; rfl
    | cons x t ih =>
      intro k
      rw [List.zipIdx_cons, List.flatMap_cons, ih (k + 1)]
      rfl
  exact this rs 0
/-- A slip that is passed over. -/
def overP (n : Nat) (s : SP) : Prop := s.kind < 1 ∨ 6 < s.kind ∨ (s.kind ≠ 3 ∧ (s.index < 0 ∨ (n : Int) ≤ s.index))
theorem step_over {x : List DP × List DP} {s : SP} (h : overP x.1.length s) : stepP x s = x := by
  have h3 : ¬ s.kind = 3 := by rcases h with h | h | h <;> first | omega | exact h.1
  unfold stepP
  rw [if_neg h3]
  by_cases hc : cntP x.1.length s
  · rw [if_pos hc]
    have hid : ∀ d, chgP s d = d := by
      intro d
      rcases h with h | h | ⟨_, h⟩
      · unfold chgP; rw [if_neg (by omega), if_neg (by omega), if_neg (by omega), if_neg (by omega), if_neg (by omega)]
      · unfold chgP; rw [if_neg (by omega), if_neg (by omega), if_neg (by omega), if_neg (by omega), if_neg (by omega)]
      · obtain ⟨c1, c2, _⟩ := hc
        omega
    have : x.1.modify s.index.toNat (chgP s) = x.1 := by
      rw [show chgP s = id from funext hid]
      exact List.modify_id _ _
    rw [this]
  · rw [if_neg hc]
theorem steps_over : ∀ (ss : List SP) (x : List DP × List DP), (∀ s ∈ ss, overP x.1.length s) → ss.foldl stepP x = x
  | [], _, _ => rfl
  | s :: ss, x, h => by
    rw [List.foldl_cons, step_over (h s (by simp))]
    exact steps_over ss x (fun t ht => h t (List.mem_cons_of_mem _ ht))
theorem startP_length (rs : List RP) : (startP rs).length = rs.length := by simp [startP]
/-- Without slips that count the records are delivered as they are. -/
theorem deliver_over {l : List Scn} {ts : List Tk} {ss : List SP} (h : ∀ s ∈ ss, overP (recordsP l ts).length s) : deliverP l ts ss = recordsP l ts := by
  unfold deliverP slipP
  rw [steps_over ss _ (fun s hs => by rw [startP_length]; exact h s hs), List.append_nil, sortK_id _ _ (startP_sorted _), startP_out]
end Go.Proofs.Ytihdpkeclmpehaa

namespace Go.Proofs.Ytihdpkeclmpehaa

theorem numberP_at : ∀ (l seen : List RP) (i : Nat) (q : RP), l[i]? = some q → (numberP seen l)[i]? = some { q with number := (((seen ++ l.take i).filter fun x => decide (x.scanner = q.scanner)).length : Nat) }
  | [], _, _, _, h => by simp at h
  | x :: l, seen, 0, q, h => by
    simp at h; subst h
    rw [numberP]; simp
  | x :: l, seen, i + 1, q, h => by
    have := numberP_at l (seen ++ [x]) i q (by simpa using h)
    rw [numberP, List.getElem?_cons_succ, this, List.take_succ_cons, List.append_assoc, List.singleton_append]
theorem numberP_map {β : Type} (f : RP → β) (hf : ∀ (q : RP) (n : Int), f { q with number := n } = f q) : ∀ (l seen : List RP), (numberP seen l).map f = l.map f
  | [], _ => rfl
  | x :: l, seen => by rw [numberP, List.map_cons, List.map_cons, hf, numberP_map f hf l]
def cntS (l : List RP) (s : Int) : Nat := (l.filter fun x => decide (x.scanner = s)).length
theorem cntS_map : ∀ (l k : List RP) (s : Int), l.map RP.scanner = k.map RP.scanner → cntS l s = cntS k s
  | [], [], _, _ => rfl
  | [], y :: k, _, h => by simp at h
  | x :: l, [], _, h => by simp at h
  | x :: l, y :: k, s, h => by
    rw [List.map_cons, List.map_cons] at h
    injection h with h1 h2
    have := cntS_map l k s h2
    unfold cntS at this ⊢
    rw [List.filter_cons, List.filter_cons, h1]
    split <;> simp [this]
/-- A record's number: how many of its scanner lie before it. -/
theorem rec_number {l : List Scn} {ts : List Tk} {i : Nat} {r : RP} (h : (recordsP l ts)[i]? = some r) : r.number = (cntS ((recordsP l ts).take i) r.scanner : Int) := by
  unfold recordsP at h ⊢
  obtain ⟨S, hS⟩ : ∃ S, sortK RP.time ((obsP ts).filterMap (noteP l)) = S := ⟨_, rfl⟩
  rw [hS] at h ⊢
  have hi := (List.getElem?_eq_some_iff.1 h).1
  rw [numberP_len] at hi
  have h2 := numberP_at S [] i S[i] (List.getElem?_eq_getElem hi)
  rw [h] at h2
  injection h2 with h2
  rw [h2]
  show ((cntS ([] ++ S.take i) _ : Nat) : Int) = _
  rw [List.nil_append, cntS_map (S.take i) ((numberP [] S).take i) _ (by rw [List.map_take, List.map_take, numberP_map RP.scanner (fun _ _ => rfl)])]
theorem insK_mem {α : Type} (key : α → Int) (x : α) (l : List α) : ∀ y ∈ insK key x l, y = x ∨ y ∈ l := by
  induction l with
  | nil => intro y hy; exact .inl (List.mem_singleton.1 hy)
  | cons z l ih =>
    intro y hy
    rw [insK] at hy
    split at hy
    · rcases List.mem_cons.1 hy with h | h
      · exact .inl h
      · exact .inr h
    · rcases List.mem_cons.1 hy with h | h
      · exact .inr (by simp [h])
      · rcases ih y h with h | h
        · exact .inl h
        · exact .inr (List.mem_cons_of_mem _ h)
theorem insK_pw {α : Type} (key : α → Int) (x : α) : ∀ l : List α, l.Pairwise (fun a b => key a ≤ key b) → (insK key x l).Pairwise (fun a b => key a ≤ key b)
  | [], _ => by rw [insK]; exact List.pairwise_singleton _ _
  | y :: l, h => by
    obtain ⟨h1, h2⟩ := List.pairwise_cons.1 h
    rw [insK]
    split
    · rename_i hxy
      exact List.pairwise_cons.2 ⟨fun z hz => by rcases List.mem_cons.1 hz with e | e; · rw [e]; exact hxy
                                                 · exact Int.le_trans hxy (h1 z e), h⟩
    · rename_i hxy
      exact List.pairwise_cons.2 ⟨fun z hz => by rcases insK_mem key x l z hz with e | e; · rw [e]; omega
                                                 · exact h1 z e, insK_pw key x l h2⟩
theorem sortK_pw {α : Type} (key : α → Int) : ∀ l : List α, (sortK key l).Pairwise (fun a b => key a ≤ key b)
  | [] => List.Pairwise.nil
  | x :: l => insK_pw key x _ (sortK_pw key l)
/-- The records' times do not decrease. -/
theorem rec_sorted (l : List Scn) (ts : List Tk) : (recordsP l ts).Pairwise (fun a b => a.time ≤ b.time) := by
  have h := sortK_pw RP.time ((obsP ts).filterMap (noteP l))
  have h2 : ((recordsP l ts).map RP.time).Pairwise (· ≤ ·) := by
    unfold recordsP
    rw [numberP_map RP.time (fun _ _ => rfl), List.pairwise_map]
    exact h
  rwa [List.pairwise_map] at h2
theorem rec_scan {l : List Scn} {ts : List Tk} {r : RP} (h : r ∈ recordsP l ts) : ∃ (i : Nat) (c : Scn), r.scanner = (i : Int) ∧ l[i]? = some c ∧ scanP l c.office = some i := by
  obtain ⟨o, ho, i, hsc, _, e1, _⟩ := rec_obs h
  obtain ⟨c, hc, hoff⟩ := scanP_some hsc
  exact ⟨i, c, e1, hc, by rw [hoff]; exact hsc⟩
theorem numberP_of {l : List RP} {seen : List RP} {q : RP} (h : q ∈ l) : ∃ n : Int, { q with number := n } ∈ numberP seen l := by
  obtain ⟨i, hi⟩ := List.getElem?_of_mem h
  exact ⟨_, List.mem_of_getElem? (numberP_at l seen i q hi)⟩
/-- An observation that counts has a record. -/
theorem obs_rec {l : List Scn} {ts : List Tk} {o : Ob} (ho : o ∈ obsP ts) {i : Nat} (hs : scanP l o.office = some i) (ht : o.time ≤ 1000000) : ∃ n : Int, (⟨i, n, o.kind, o.time, o.label, o.contents⟩ : RP) ∈ recordsP l ts := by
  have hn : noteP l o = some ⟨i, 0, o.kind, o.time, o.label, o.contents⟩ := by
    unfold noteP
    rw [hs]
    show (if 1000000 < o.time then none else some _) = _
    rw [if_neg (by omega)]
  have hm : (⟨i, 0, o.kind, o.time, o.label, o.contents⟩ : RP) ∈ sortK RP.time ((obsP ts).filterMap (noteP l)) := (sortK_perm _ _).mem_iff.2 (List.mem_filterMap.2 ⟨o, ho, hn⟩)
  obtain ⟨n, h⟩ := numberP_of (seen := []) hm
  exact ⟨n, h⟩
/-- Each arrival at an office with a scanner has a record. -/
theorem arrive_rec {l : List Scn} {ts : List Tk} {i j k : Nat} {t : Tk} {s : Stp} (ht : ts[i]? = some t) (hs : t.stops[j]? = some s) (hk : scanP l s.office = some k) (h6 : s.arrive ≤ 1000000) : ∃ n : Int, (⟨k, n, 1, s.arrive, labelP t s.arrive, []⟩ : RP) ∈ recordsP l ts :=
  obs_rec (o := ⟨s.office, 1, s.arrive, labelP t s.arrive, []⟩) (obs_mem ht hs (by unfold obsStop; exact List.mem_cons_self ..)) hk h6
end Go.Proofs.Ytihdpkeclmpehaa

namespace Go.Proofs.Ytihdpkeclmpehaa

theorem SeesP.mono {o a b a' b' : Int} {t : Tk} {s : ByteArray} (h : SeesP o a b t s) (ha : a' ≤ a) (hb : b ≤ b') : SeesP o a' b' t s := by
  obtain ⟨j, st, m, h1, h2, h3, h4, h5, h6, h7⟩ := h
  exact ⟨j, st, m, h1, h2, h3, by omega, by omega, h6, h7⟩
theorem HasP.mono {o a b a' b' x y : Int} (h : HasP o a b x y) (ha : a' ≤ a) (hb : b ≤ b') : HasP o a' b' x y := ⟨h.1, by have := h.2.1; omega, by have := h.2.2; omega⟩
/-- A true record stays true if errors are declared greater. -/
theorem true_wide {l l' : List Scn} {ts : List Tk} {r : RP} (h : TrueP l ts r) (hw : ∀ (i : Nat) (c : Scn), l[i]? = some c → ∃ c' : Scn, l'[i]? = some c' ∧ c'.office = c.office ∧ c.error ≤ c'.error) : TrueP l' ts r := by
  obtain ⟨h1, h2, h3, c, hc, h4⟩ := h
  obtain ⟨c', hc', ho, he⟩ := hw _ c hc
  refine ⟨h1, h2, h3, c', hc', ?_⟩
  rw [ho]
  rcases h4 with ⟨k, kc, h | ⟨a, b, hcp, h⟩⟩ | ⟨k, a, b, hcp, h, hcon⟩
  · obtain ⟨t, ht, hs⟩ := h
    exact .inl ⟨k, kc, .inl ⟨t, ht, hs.mono (by omega) (by omega)⟩⟩
  · refine .inl ⟨k, kc, .inr ⟨a, b, hcp, ?_⟩⟩
    rcases h with h | h
    · exact .inl (h.mono (by omega) (by omega))
    · exact .inr (h.mono (by omega) (by omega))
  · exact .inr ⟨k, a, b, hcp, h.mono (by omega) (by omega), hcon⟩
theorem firstP_more {ts : List Tk} {s : ByteArray} {p : Nat × Nat} (h : firstP ts s = some p) (us : List Tk) : firstP (ts ++ us) s = some p := by
  induction ts generalizing p with
  | nil => rw [firstP] at h; cases h
  | cons t ts ih =>
    rw [List.cons_append, firstP]
    rw [firstP] at h
    cases hf : t.seals.findIdx? (fun x => decide (x = s)) with
    | some j => rw [hf] at h; exact h
    | none =>
      rw [hf] at h
      simp only at h ⊢
      obtain ⟨q, hq, rfl⟩ := Option.map_eq_some_iff.1 h
      rw [ih hq]; rfl
theorem ContP.more {ts : List Tk} {s : ByteArray} {a b : Stp} (h : ContP ts s a b) (us : List Tk) : ContP (ts ++ us) s a b := by
  obtain ⟨i, j, t, h1, h2, h3, h4⟩ := h
  exact ⟨i, j, t, firstP_more h1 us, by rw [List.getElem?_append_left (List.getElem?_eq_some_iff.1 h2).1]; exact h2, h3, h4⟩
/-- A true scan stays true with further tracks. -/
theorem true_more {l : List Scn} {ts us : List Tk} {r : RP} (h : TrueP l ts r) (hk : r.kind = 1) : TrueP l (ts ++ us) r := by
  obtain ⟨h1, h2, h3, c, hc, h4⟩ := h
  refine ⟨h1, h2, h3, c, hc, ?_⟩
  rcases h4 with ⟨k, kc, h | ⟨a, b, hcp, h⟩⟩ | ⟨k, _⟩
  · obtain ⟨t, ht, hs⟩ := h
    exact .inl ⟨k, kc, .inl ⟨t, List.mem_append_left _ ht, hs⟩⟩
  · exact .inl ⟨k, kc, .inr ⟨a, b, hcp.more us, h⟩⟩
  · omega
/-- A recorded scan is recorded with further tracks. -/
theorem rec_more {l : List Scn} {ts us : List Tk} {r : RP} (h : r ∈ recordsP l ts) (hk : r.kind = 1) : ∃ q ∈ recordsP l (ts ++ us), q.kind = 1 ∧ q.scanner = r.scanner ∧ q.time = r.time ∧ q.label = r.label := by
  obtain ⟨o, ho, i, hsc, htm, e1, e2, e3, e4, e5⟩ := rec_obs h
  obtain ⟨k, t, j, s, ht, hs, hcs⟩ := obs_cases ho
  have ht' : (ts ++ us)[k]? = some t := by rw [List.getElem?_append_left (List.getElem?_eq_some_iff.1 ht).1]; exact ht
  have hmem : o ∈ obsP (ts ++ us) := by
    refine obs_mem ht' hs ?_
    unfold obsStop
    rcases hcs with rfl | ⟨e, n, he, hn, hf, rfl | rfl⟩
    · exact List.mem_cons_self ..
    · exact absurd (show (2 : Int) = 1 from e2.symm.trans hk) (by decide)
    · refine List.mem_cons_of_mem _ ?_
      rw [he]
      simp only
      rw [hn]
      simp only
      rw [if_pos (firstP_more hf us)]
      simp
  obtain ⟨n, hn⟩ := obs_rec (l := l) hmem hsc htm
  exact ⟨_, hn, by rw [← hk, e2], e1.symm, e3.symm, e4.symm⟩
def tellsB (s : SP) : Bool := decide (s.kind = 2 ∨ s.kind = 4 ∨ s.kind = 3)
/-- What is delivered is a record, or one of a few others. -/
theorem steps_told (rs : List RP) : ∀ (ss : List SP) (x : List DP × List DP) (T : List RP), (∀ d ∈ x.1 ++ x.2, d.r ∈ rs ∨ d.r ∈ T) → ∃ T' : List RP, T'.length ≤ T.length + (ss.filter tellsB).length ∧ ∀ d ∈ (ss.foldl stepP x).1 ++ (ss.foldl stepP x).2, d.r ∈ rs ∨ d.r ∈ T'
  | [], x, T, h => ⟨T, by simp, h⟩
  | s :: ss, x, T, h => by
    rw [List.foldl_cons]
    obtain ⟨T1, hT1, h1⟩ : ∃ T1 : List RP, T1.length ≤ T.length + (if tellsB s then 1 else 0) ∧ ∀ d ∈ (stepP x s).1 ++ (stepP x s).2, d.r ∈ rs ∨ d.r ∈ T1 := by
      unfold stepP
      by_cases h3 : s.kind = 3
      · rw [if_pos h3]
        refine ⟨T ++ [s.record], by simp [tellsB, h3], fun d hd => ?_⟩
        rw [← List.append_assoc] at hd
        rcases List.mem_append.1 hd with hd | hd
        · rcases h d hd with e | e
          · exact .inl e
          · exact .inr (List.mem_append_left _ e)
        · rw [List.mem_singleton.1 hd]; exact .inr (by simp)
      · rw [if_neg h3]
        by_cases hc : cntP x.1.length s
        · rw [if_pos hc]
          have hlt : s.index.toNat < x.1.length := by obtain ⟨a, b, _⟩ := hc; omega
          by_cases ht : s.kind = 2 ∨ s.kind = 4
          · refine ⟨T ++ [(chgP s x.1[s.index.toNat]).r], by rcases ht with h | h <;> simp [tellsB, h], fun d hd => ?_⟩
            rcases List.mem_append.1 hd with hd | hd
            · obtain ⟨j, hj⟩ := List.getElem?_of_mem hd
              rw [List.getElem?_modify] at hj
              by_cases hji : s.index.toNat = j
              · subst hji
                rw [List.getElem?_eq_getElem hlt] at hj
                simp at hj
                rw [← hj]; exact .inr (by simp)
              · simp [hji] at hj
                rcases h d (List.mem_append_left _ (List.mem_of_getElem? hj)) with e | e
                · exact .inl e
                · exact .inr (List.mem_append_left _ e)
            · rcases h d (List.mem_append_right _ hd) with e | e
              · exact .inl e
              · exact .inr (List.mem_append_left _ e)
          · refine ⟨T, by omega, fun d hd => ?_⟩
            have hr : ∀ d, (chgP s d).r = d.r := by
              intro d
              unfold chgP
              have n2 : ¬ s.kind = 2 := fun e => ht (.inl e)
              have n4 : ¬ s.kind = 4 := fun e => ht (.inr e)
              rw [if_neg n2, if_neg n4]
              split
              · rfl
              · split
                · rfl
                · split <;> rfl
            rcases List.mem_append.1 hd with hd | hd
            · obtain ⟨j, hj⟩ := List.getElem?_of_mem hd
              rw [List.getElem?_modify] at hj
              by_cases hji : s.index.toNat = j
              · subst hji
                rw [List.getElem?_eq_getElem hlt] at hj
                simp at hj
                rw [← hj, hr]
                exact h _ (List.mem_append_left _ (List.getElem_mem hlt))
              · simp [hji] at hj
                exact h d (List.mem_append_left _ (List.mem_of_getElem? hj))
            · exact h d (List.mem_append_right _ hd)
        · rw [if_neg hc]
          exact ⟨T, by omega, h⟩
    obtain ⟨T2, hT2, h2⟩ := steps_told rs ss (stepP x s) T1 h1
    refine ⟨T2, ?_, h2⟩
    rw [List.filter_cons]
    cases hs : tellsB s <;> simp [hs] at hT1 ⊢ <;> omega
/-- At most so many different delivered records are not true as slips misread, drift or invent. -/
theorem false_few {l : List Scn} {ts : List Tk} (hl : ScnsOk l) (hts : TksOk ts) (ss : List SP) : ∃ T : List RP, T.length ≤ (ss.filter tellsB).length ∧ ∀ r ∈ deliverP l ts ss, TrueP l ts r ∨ r ∈ T := by
  obtain ⟨T, hT, h⟩ := steps_told (recordsP l ts) ss (startP (recordsP l ts), []) [] (fun d hd => by
    rw [List.append_nil] at hd
    unfold startP at hd
    obtain ⟨x, hx, rfl⟩ := List.mem_map.1 hd
    exact .inl (List.fst_mem_of_mem_zipIdx hx))
  refine ⟨T, by simpa using hT, fun r hr => ?_⟩
  unfold deliverP at hr
  obtain ⟨d, hd, hr⟩ := List.mem_flatMap.1 hr
  have hd' := (sortK_perm _ _).mem_iff.1 hd
  have hrr : r = d.r := by
    unfold outP at hr
    split at hr
    · cases hr
    · exact List.eq_of_mem_replicate hr
  rcases h d hd' with e | e
  · left; rw [hrr]; exact rec_true hl hts e
  · right; rw [hrr]; exact e
end Go.Proofs.Ytihdpkeclmpehaa

namespace Go.Proofs.Ytihdpkeclmpehaa

theorem cntS_take_succ {l : List RP} {i : Nat} {r : RP} (h : l[i]? = some r) : cntS (l.take (i + 1)) r.scanner = cntS (l.take i) r.scanner + 1 := by
  unfold cntS
  rw [List.take_add_one, h, List.filter_append]
  simp
theorem cntS_mono (l : List RP) (s : Int) {i j : Nat} (h : i ≤ j) : cntS (l.take i) s ≤ cntS (l.take j) s := by
  unfold cntS
  have : l.take i = (l.take j).take i := by rw [List.take_take, Nat.min_eq_left h]
  rw [this]
  exact (List.Sublist.filter _ (List.take_sublist _ _)).length_le
/-- No two records are equal. -/
theorem rec_distinct {l : List Scn} {ts : List Tk} {i j : Nat} {r : RP} (hi : (recordsP l ts)[i]? = some r) (hj : (recordsP l ts)[j]? = some r) : i = j := by
  have key : ∀ {a b : Nat}, (recordsP l ts)[a]? = some r → (recordsP l ts)[b]? = some r → a < b → False := by
    intro a b ha hb hab
    have h1 := rec_number ha
    have h2 := rec_number hb
    have h3 := cntS_take_succ ha
    have h4 := cntS_mono (recordsP l ts) r.scanner (show a + 1 ≤ b by omega)
    omega
  rcases Nat.lt_trichotomy i j with h | h | h
  · exact (key hi hj h).elim
  · exact h
  · exact (key hj hi h).elim
/-- What the law keeps of the slips: how often more, and whether missed. -/
def keepS (n : Nat) (x : List Int × List Bool) (s : SP) : List Int × List Bool :=
  if cntP n s then (if s.kind = 5 then x.1.modify s.index.toNat (· + 1) else x.1, x.2.modify s.index.toNat (fun b => b || decide (s.kind = 1))) else x
def threeB (s : SP) : Prop := s.kind = 1 ∨ s.kind = 5 ∨ s.kind = 6
theorem modify_map {α β : Type} (f : α → β) (g : α → α) (k : β → β) (h : ∀ a, f (g a) = k (f a)) (l : List α) (i : Nat) : (l.modify i g).map f = (l.map f).modify i k := by
  apply List.ext_getElem?
  intro j
  rw [List.getElem?_map, List.getElem?_modify, List.getElem?_modify, List.getElem?_map]
  cases l[j]? with
  | none => rfl
  | some a => by_cases hij : i = j <;> simp [hij, h]
theorem modify_id' {α : Type} (l : List α) (i : Nat) : l.modify i (fun a => a) = l := List.modify_id _ _
theorem steps_three (n : Nat) : ∀ (ss : List SP) (x : List DP × List DP) (y : List Int × List Bool), (∀ s ∈ ss, threeB s) → x.1.length = n → x.2 = [] → x.1.map DP.times = y.1.map (1 + ·) → x.1.map DP.missed = y.2 →
    (ss.foldl stepP x).2 = [] ∧ (ss.foldl stepP x).1.map DP.r = x.1.map DP.r ∧ (ss.foldl stepP x).1.map DP.times = (ss.foldl (keepS n) y).1.map (1 + ·) ∧ (ss.foldl stepP x).1.map DP.missed = (ss.foldl (keepS n) y).2
  | [], x, y, _, _, h2, h3, h4 => ⟨h2, rfl, h3, h4⟩
  | s :: ss, x, y, hs, h1, h2, h3, h4 => by
    have h := hs s (by simp)
    rw [List.foldl_cons, List.foldl_cons]
    have hst : (stepP x s).2 = [] ∧ (stepP x s).1.map DP.r = x.1.map DP.r ∧ (stepP x s).1.map DP.times = (keepS n y s).1.map (1 + ·) ∧ (stepP x s).1.map DP.missed = (keepS n y s).2 := by
      have n3 : ¬ s.kind = 3 := by rcases h with h | h | h <;> omega
      unfold stepP keepS
      rw [if_neg n3, h1]
      by_cases hc : cntP n s
      · rw [if_pos hc, if_pos hc]
        refine ⟨h2, ?_, ?_, ?_⟩
        · show (x.1.modify _ _).map DP.r = _
          rw [modify_map DP.r (chgP s) (fun a => a) (fun d => by rcases h with h | h | h <;> simp [chgP, h]), modify_id']
        · show (x.1.modify _ _).map DP.times = (if s.kind = 5 then _ else _ : List Int).map _
          by_cases h5 : s.kind = 5
          · rw [if_pos h5, modify_map DP.times (chgP s) (· + 1) (fun d => by simp [chgP, h5]), modify_map (1 + ·) (· + 1) (· + 1) (fun a => by omega), h3]
          · rw [if_neg h5, modify_map DP.times (chgP s) (fun a => a) (fun d => by rcases h with h | h | h <;> first | (exact absurd h h5) | simp [chgP, h]), modify_id', h3]
        · show (x.1.modify _ _).map DP.missed = _
          rw [modify_map DP.missed (chgP s) (fun b => b || decide (s.kind = 1)) (fun d => by rcases h with h | h | h <;> simp [chgP, h]), h4]
      · rw [if_neg hc, if_neg hc]
        exact ⟨h2, rfl, h3, h4⟩
    obtain ⟨a1, a2, a3, a4⟩ := hst
    obtain ⟨b1, b2, b3, b4⟩ := steps_three n ss (stepP x s) (keepS n y s) (fun t ht => hs t (List.mem_cons_of_mem _ ht)) (by rw [stepP_len]; exact h1) a1 a3 a4
    exact ⟨b1, b2.trans a2, b3, b4⟩
end Go.Proofs.Ytihdpkeclmpehaa

namespace Go.Proofs.Ytihdpkeclmpehaa

def countR (l : List RP) (r : RP) : Nat := (l.filter fun x => decide (x = r)).length
def lenD (d : DP) : Nat := if d.missed then 0 else d.times.toNat
theorem out_len (d : DP) : (outP d).length = lenD d := by
  unfold outP lenD
  split <;> simp
theorem out_count (d : DP) (r : RP) : countR (outP d) r = if d.r = r then lenD d else 0 := by
  unfold countR outP lenD
  cases d.missed with
  | true => simp
  | false =>
    simp only [Bool.false_eq_true, if_false]
    by_cases h : d.r = r
    · rw [if_pos h, List.filter_replicate, if_pos (by simpa using h), List.length_replicate]
    · rw [if_neg h, List.filter_replicate, if_neg (by simpa using h)]; rfl
theorem out_flat_count (r : RP) : ∀ l : List DP, countR (l.flatMap outP) r = (l.map fun d => if d.r = r then lenD d else 0).sum
  | [] => rfl
  | d :: l => by
    have h1 := out_count d r
    have h2 := out_flat_count r l
    unfold countR at h1 h2 ⊢
    rw [List.flatMap_cons, List.filter_append, List.length_append, List.map_cons, List.sum_cons, h1, h2]
theorem out_flat_len : ∀ l : List DP, (l.flatMap outP).length = (l.map lenD).sum
  | [] => rfl
  | d :: l => by rw [List.flatMap_cons, List.length_append, List.map_cons, List.sum_cons, out_len, out_flat_len l]
theorem sum_one {f : DP → Nat} {r : RP} : ∀ (l : List DP) (i : Nat) (d : DP), l[i]? = some d → d.r = r → (∀ j e, l[j]? = some e → e.r = r → j = i) → (l.map fun d => if d.r = r then f d else 0).sum = f d
  | [], i, d, h, _, _ => by simp at h
  | x :: l, 0, d, h, hr, hu => by
    simp at h; subst h
    rw [List.map_cons, List.sum_cons, if_pos hr]
    have : (l.map fun d => if d.r = r then f d else 0).sum = 0 := by
      have hz : ∀ e ∈ l, e.r ≠ r := fun e he hh => by
        obtain ⟨j, hj⟩ := List.getElem?_of_mem he
        have := hu (j + 1) e (by simpa using hj) hh
        omega
      clear hu
      induction l with
      | nil => rfl
      | cons y t ih => rw [List.map_cons, List.sum_cons, if_neg (hz y (by simp)), ih (fun e he => hz e (List.mem_cons_of_mem _ he))]
    omega
  | x :: l, i + 1, d, h, hr, hu => by
    have hx : x.r ≠ r := fun hh => by have := hu 0 x rfl hh; omega
    rw [List.map_cons, List.sum_cons, if_neg hx, Nat.zero_add]
    exact sum_one l i d (by simpa using h) hr (fun j e hj he => by have := hu (j + 1) e (by simpa using hj) he; omega)
theorem countR_perm {a b : List RP} (h : a.Perm b) (r : RP) : countR a r = countR b r := (h.filter _).length_eq
theorem flatMap_perm {a b : List DP} (h : a.Perm b) : (a.flatMap outP).Perm (b.flatMap outP) := h.flatMap_right _
theorem startP_r (rs : List RP) : (startP rs).map DP.r = rs := by
  unfold startP
  rw [List.map_map]
  show (rs.zipIdx.map fun x => x.1) = rs
  exact List.zipIdx_map_fst ..
theorem startP_const {β : Type} (f : DP → β) (b : β) (hf : ∀ r n, f ⟨r, n, 1, false⟩ = b) (rs : List RP) : (startP rs).map f = List.replicate rs.length b := by
  unfold startP
  rw [List.map_map]
  apply List.ext_getElem?
  intro j
  rw [List.getElem?_map, List.getElem?_zipIdx, List.getElem?_replicate]
  by_cases hj : j < rs.length
  · rw [if_pos hj, List.getElem?_eq_getElem hj]; simp [hf]
  · rw [if_neg hj, List.getElem?_eq_none (by omega)]; rfl
/-- With slips that miss, repeat or delay alone: the deliveries, and how often each record comes. -/
theorem deliver_three {l : List Scn} {ts : List Tk} {ss : List SP} (h : ∀ s ∈ ss, threeB s) : ∃ dl : List DP, dl.map DP.r = recordsP l ts ∧
    dl.map DP.times = (ss.foldl (keepS (recordsP l ts).length) (List.replicate (recordsP l ts).length 0, List.replicate (recordsP l ts).length false)).1.map (1 + ·) ∧
    dl.map DP.missed = (ss.foldl (keepS (recordsP l ts).length) (List.replicate (recordsP l ts).length 0, List.replicate (recordsP l ts).length false)).2 ∧
    (deliverP l ts ss).length = (dl.map lenD).sum ∧ ∀ (i : Nat) (d : DP), dl[i]? = some d → countR (deliverP l ts ss) d.r = lenD d := by
  obtain ⟨h1, h2, h3, h4⟩ := steps_three (recordsP l ts).length ss (startP (recordsP l ts), []) (List.replicate (recordsP l ts).length 0, List.replicate (recordsP l ts).length false) h (startP_length _) rfl
    (by rw [startP_const DP.times 1 (fun _ _ => rfl), List.map_replicate]; rfl) (startP_const DP.missed false (fun _ _ => rfl) _)
  obtain ⟨dl, hdl⟩ : ∃ dl, (ss.foldl stepP (startP (recordsP l ts), [])).1 = dl := ⟨_, rfl⟩
  rw [hdl] at h2 h3 h4
  have hr : dl.map DP.r = recordsP l ts := h2.trans (startP_r _)
  have hp : (deliverP l ts ss).Perm (dl.flatMap outP) := by
    unfold deliverP slipP
    rw [h1, hdl, List.append_nil]
    exact flatMap_perm (sortK_perm _ _)
  refine ⟨dl, hr, h3, h4, by rw [hp.length_eq, out_flat_len], fun i d hd => ?_⟩
  rw [countR_perm hp, out_flat_count]
  refine sum_one dl i d hd rfl (fun j e hj he => ?_)
  have e1 : (recordsP l ts)[i]? = some d.r := by rw [← hr, List.getElem?_map, hd]; rfl
  have e2 : (recordsP l ts)[j]? = some d.r := by rw [← hr, List.getElem?_map, hj]; show some e.r = _; rw [he]
  exact rec_distinct e2 e1
end Go.Proofs.Ytihdpkeclmpehaa

namespace Go.Proofs.Ytihdpkeclmpehaa

theorem chg_cont (s : SP) (d : DP) : (chgP s d).r.contents = d.r.contents := by
  unfold chgP
  split
  · rfl
  · split
    · rfl
    · split
      · rfl
      · split
        · rfl
        · split <;> rfl
theorem steps_cont (Q : List ByteArray → Prop) : ∀ (ss : List SP) (x : List DP × List DP), (∀ s ∈ ss, s.kind = 3 → Q s.record.contents) → (∀ d ∈ x.1 ++ x.2, Q d.r.contents) → ∀ d ∈ (ss.foldl stepP x).1 ++ (ss.foldl stepP x).2, Q d.r.contents
  | [], x, _, h => h
  | s :: ss, x, hs, h => by
    rw [List.foldl_cons]
    refine steps_cont Q ss _ (fun t ht => hs t (List.mem_cons_of_mem _ ht)) ?_
    intro d hd
    unfold stepP at hd
    by_cases h3 : s.kind = 3
    · rw [if_pos h3, ← List.append_assoc] at hd
      rcases List.mem_append.1 hd with hd | hd
      · exact h d hd
      · rw [List.mem_singleton.1 hd]; exact hs s (by simp) h3
    · rw [if_neg h3] at hd
      by_cases hc : cntP x.1.length s
      · rw [if_pos hc] at hd
        rcases List.mem_append.1 hd with hd | hd
        · obtain ⟨j, hj⟩ := List.getElem?_of_mem hd
          rw [List.getElem?_modify] at hj
          cases hx : x.1[j]? with
          | none => rw [hx] at hj; cases hj
          | some e =>
            rw [hx] at hj
            have he : Q e.r.contents := h e (List.mem_append_left _ (List.mem_of_getElem? hx))
            by_cases hji : s.index.toNat = j
            · simp [hji] at hj; rw [← hj, chg_cont]; exact he
            · simp [hji] at hj; rw [← hj]; exact he
        · exact h d (List.mem_append_right _ hd)
      · rw [if_neg hc] at hd; exact h d hd
theorem deliver_cont {l : List Scn} {ts : List Tk} {ss : List SP} (Q : List ByteArray → Prop) (h1 : ∀ r ∈ recordsP l ts, Q r.contents) (h2 : ∀ s ∈ ss, s.kind = 3 → Q s.record.contents) : ∀ r ∈ deliverP l ts ss, Q r.contents := by
  intro r hr
  have hst := steps_cont Q ss (startP (recordsP l ts), []) h2 (fun d hd => by
    rw [List.append_nil] at hd
    unfold startP at hd
    obtain ⟨x, hx, rfl⟩ := List.mem_map.1 hd
    exact h1 _ (List.fst_mem_of_mem_zipIdx hx))
  unfold deliverP at hr
  obtain ⟨d, hd, hr⟩ := List.mem_flatMap.1 hr
  have hd' := (sortK_perm _ _).mem_iff.1 hd
  have hrr : r = d.r := by
    unfold outP at hr
    split at hr
    · cases hr
    · exact List.eq_of_mem_replicate hr
  rw [hrr]; exact hst d hd'
theorem nodup_len {α : Type} [DecidableEq α] : ∀ (l T : List α), l.Nodup → (∀ x ∈ l, x ∈ T) → l.length ≤ T.length
  | [], T, _, _ => Nat.zero_le _
  | x :: l, T, hn, h => by
    have hx := h x (by simp)
    have h1 := nodup_len l (T.erase x) (List.nodup_cons.1 hn).2 (fun y hy => by
      have hne : y ≠ x := fun e => (List.nodup_cons.1 hn).1 (by rw [← e]; exact hy)
      exact (List.mem_erase_of_ne hne).2 (h y (List.mem_cons_of_mem _ hy)))
    rw [List.length_erase_of_mem hx] at h1
    have := List.length_pos_of_mem hx
    rw [List.length_cons]; omega
/-- Different delivered records that are not true: as many at most as slips that tell something else. -/
theorem bad_few {l : List Scn} {ts : List Tk} (hl : ScnsOk l) (hts : TksOk ts) (ss : List SP) {bad : List RP} (hn : bad.Nodup) (hb : ∀ r ∈ bad, r ∈ deliverP l ts ss ∧ ¬ TrueP l ts r) : bad.length ≤ (ss.filter tellsB).length := by
  obtain ⟨T, hT, h⟩ := false_few hl hts ss
  refine Nat.le_trans (nodup_len bad T hn fun r hr => ?_) hT
  rcases h r (hb r hr).1 with e | e
  · exact absurd e (hb r hr).2
  · exact e
theorem count0 {bad : List RP} {r : RP} : countR bad r = 0 ↔ r ∉ bad := by
  unfold countR
  rw [List.length_eq_zero_iff, List.filter_eq_nil_iff]
  constructor
  · intro h hm; exact h r hm (by simp)
  · intro h x hx e; rw [decide_eq_true_eq] at e; exact h (e ▸ hx)
theorem chg_times (s : SP) (d : DP) : (chgP s d).times ≤ d.times + 1 := by
  unfold chgP
  split
  · show d.times ≤ d.times + 1; omega
  · split
    · show d.times ≤ d.times + 1; omega
    · split
      · show d.times ≤ d.times + 1; omega
      · split
        · show d.times + 1 ≤ d.times + 1; omega
        · split
          · show d.times ≤ d.times + 1; omega
          · omega
theorem steps_times : ∀ (ss : List SP) (x : List DP × List DP) (B : Int), 1 ≤ B → (∀ d ∈ x.1 ++ x.2, d.times ≤ B) →
    ((ss.foldl stepP x).1 ++ (ss.foldl stepP x).2).length ≤ (x.1 ++ x.2).length + ss.length ∧ ∀ d ∈ (ss.foldl stepP x).1 ++ (ss.foldl stepP x).2, d.times ≤ B + ss.length
  | [], x, B, _, h => ⟨Nat.le_refl _, fun d hd => by have := h d hd; simp; omega⟩
  | s :: ss, x, B, hB, h => by
    rw [List.foldl_cons]
    have hst : ((stepP x s).1 ++ (stepP x s).2).length ≤ (x.1 ++ x.2).length + 1 ∧ ∀ d ∈ (stepP x s).1 ++ (stepP x s).2, d.times ≤ B + 1 := by
      unfold stepP
      by_cases h3 : s.kind = 3
      · rw [if_pos h3]
        refine ⟨by simp; omega, fun d hd => ?_⟩
        rw [← List.append_assoc] at hd
        rcases List.mem_append.1 hd with hd | hd
        · have := h d hd; omega
        · rw [List.mem_singleton.1 hd]; show (1 : Int) ≤ B + 1; omega
      · rw [if_neg h3]
        by_cases hc : cntP x.1.length s
        · rw [if_pos hc]
          refine ⟨by simp, fun d hd => ?_⟩
          rcases List.mem_append.1 hd with hd | hd
          · obtain ⟨j, hj⟩ := List.getElem?_of_mem hd
            rw [List.getElem?_modify] at hj
            cases hx : x.1[j]? with
            | none => rw [hx] at hj; cases hj
            | some e =>
              rw [hx] at hj
              have he := h e (List.mem_append_left _ (List.mem_of_getElem? hx))
              by_cases hji : s.index.toNat = j
              · simp [hji] at hj; rw [← hj]; have := chg_times s e; omega
              · simp [hji] at hj; rw [← hj]; omega
          · have := h d (List.mem_append_right _ hd); omega
        · rw [if_neg hc]
          exact ⟨by omega, fun d hd => by have := h d hd; omega⟩
    obtain ⟨h1, h2⟩ := steps_times ss (stepP x s) (B + 1) (by omega) hst.2
    refine ⟨?_, fun d hd => ?_⟩
    · rw [List.length_cons]; have := hst.1; omega
    · have := h2 d hd
      rw [List.length_cons]; omega
theorem sum_le {B : Nat} : ∀ l : List DP, (∀ d ∈ l, lenD d ≤ B) → (l.map lenD).sum ≤ l.length * B
  | [], _ => by simp
  | d :: l, h => by
    have h1 := sum_le l (fun e he => h e (List.mem_cons_of_mem _ he))
    have h2 := h d (by simp)
    rw [List.map_cons, List.sum_cons, List.length_cons, Nat.add_mul]; omega
theorem deliver_few {l : List Scn} {ts : List Tk} {ss : List SP} (hr : (recordsP l ts).length ≤ 480) (hs : ss.length ≤ 20) : (deliverP l ts ss).length ≤ 10500 := by
  obtain ⟨h1, h2⟩ := steps_times ss (startP (recordsP l ts), []) 1 (by omega) (fun d hd => by
    rw [List.append_nil] at hd
    unfold startP at hd
    obtain ⟨x, hx, rfl⟩ := List.mem_map.1 hd
    exact Int.le_refl _)
  have h3 : (startP (recordsP l ts)).length ≤ 480 := by unfold startP; simpa using hr
  unfold deliverP
  rw [out_flat_len]
  have hp := sortK_perm DP.number ((ss.foldl stepP (startP (recordsP l ts), [])).1 ++ (ss.foldl stepP (startP (recordsP l ts), [])).2)
  have hb := sum_le (B := 21) (sortK DP.number ((ss.foldl stepP (startP (recordsP l ts), [])).1 ++ (ss.foldl stepP (startP (recordsP l ts), [])).2)) (fun d hd => by
    have := h2 d (hp.mem_iff.1 hd)
    unfold lenD
    split
    · omega
    · omega)
  have hl := hp.length_eq
  simp only [List.append_nil] at h1
  refine Nat.le_trans hb ?_
  rw [hl]
  have : ((ss.foldl stepP (startP (recordsP l ts), [])).1 ++ (ss.foldl stepP (startP (recordsP l ts), [])).2).length ≤ 500 := by omega
  omega
end Go.Proofs.Ytihdpkeclmpehaa

namespace Go.Proofs.Ytihdpkeclmpehaa
open Go.RowKit

theorem countR_take {rl : List Rec} {i : Nat} {x : Rec} (h : rl[i]? = some x) (q : RP) : countR ((rl.take (i + 1)).map Rec.rp) q = countR ((rl.take i).map Rec.rp) q + if x.rp = q then 1 else 0 := by
  rw [List.take_add_one, h, List.map_append]
  show countR (_ ++ [x.rp]) q = _
  unfold countR
  rw [List.filter_append, List.length_append, List.filter_cons]
  by_cases hq : x.rp = q <;> simp [hq]
theorem equal_agg (x y : Rec) (w : World) (R) (hl : x.contents.length ≤ maxLen) (h : StrsAt w x.cp x.contents) (k : StrsAt w y.cp y.contents) (hR : ∀ w', Below w.heap.size w w' → R (.returned (.bool (decide (x.rp = y.rp)))) w') :
    Calls Try.prog 38 #[.agg #[.int .i64 x.scanner, .int .i64 x.number, .int .i64 x.kind, .int .i64 x.time, .string x.label, .slice x.cp x.contents.length x.cc], .agg #[.int .i64 y.scanner, .int .i64 y.number, .int .i64 y.kind, .int .i64 y.time, .string y.label, .slice y.cp y.contents.length y.cc]] w R := by
  rw [← x.val_eq, ← y.val_eq]
  exact equal_c x y w R hl h k hR
set_option maxRecDepth 100000 in
set_option maxHeartbeats 2000000 in
theorem count_c (q : Option Addr) (k c : Nat) (rl : List Rec) (r : Rec) (w : World) (R) (hk : rl.length = k) (hk4 : k ≤ 1000000000) (h : RecsAt w q rl) (hc : ∀ x ∈ rl, x.contents.length ≤ maxLen) (hs : StrsAt w r.cp r.contents)
    (hR : ∀ w', Below w.heap.size w w' → R (.returned (.int .i64 (countR (rl.map Rec.rp) r.rp : Int))) w') : Calls Try.prog 19 #[.slice q k c, .agg r.cells.toArray] w R := by
  have HR := hide hR; have H := hide h; have Hk := hide hk; have HC := hide hc; have Hs := hide hs
  have hcl := hide (show Rec.cells r = [.int .i64 r.scanner, .int .i64 r.number, .int .i64 r.kind, .int .i64 r.time, .string r.label, .slice r.cp r.contents.length r.cc] from rfl)
  rw [hcl.out]
  obtain ⟨w1, hw1⟩ : ∃ w1, w.alloc (.cells #[.int .i64 r.scanner, .int .i64 r.number, .int .i64 r.kind, .int .i64 r.time, .string r.label, .slice r.cp r.contents.length r.cc] 31) = w1 := ⟨_, rfl⟩
  have HB1 := hide (show Below w.heap.size w w1 from hw1 ▸ balloc (Below.refl _ _) _)
  have kx : Blk w1 w.heap.size #[.int .i64 r.scanner, .int .i64 r.number, .int .i64 r.kind, .int .i64 r.time, .string r.label, .slice r.cp r.contents.length r.cc] 31 := hw1 ▸ Blk.new _ _ _
  have HY : Hid (∀ w', Below w1.heap.size w1 w' → w'.cell? ⟨w.heap.size, 0, none⟩ = some (.int .i64 r.scanner) ∧ w'.cell? ⟨w.heap.size, 1, none⟩ = some (.int .i64 r.number) ∧ w'.cell? ⟨w.heap.size, 2, none⟩ = some (.int .i64 r.kind) ∧ w'.cell? ⟨w.heap.size, 3, none⟩ = some (.int .i64 r.time) ∧ w'.cell? ⟨w.heap.size, 4, none⟩ = some (.string r.label) ∧ w'.cell? ⟨w.heap.size, 5, none⟩ = some (.slice r.cp r.contents.length r.cc)) :=
    hide (fun w' h => ⟨cell_later h (kx.cell (k := 0) rfl), cell_later h (kx.cell (k := 1) rfl), cell_later h (kx.cell (k := 2) rfl), cell_later h (kx.cell (k := 3) rfl), cell_later h (kx.cell (k := 4) rfl), cell_later h (kx.cell (k := 5) rfl)⟩)
  clear hR h hk hc hs kx
  go_enter Try.func19, Try.ntmps19
  go_wp2
  go_loopw [5, 6] (fun sn si wr => ∃ i n : Nat, i ≤ k ∧ sn = .int .i64 n ∧ si = .int .i64 i ∧ Hid (countR ((rl.take i).map Rec.rp) r.rp = n) ∧ Hid (Below w1.heap.size w1 wr)) (fun _ si _ => k - (intOf si).toNat)
  case atStart => exact ⟨0, 0, Nat.zero_le _, rfl, rfl, hide rfl, hide (Below.refl _ _)⟩
  case round =>
    clear hw1
    obtain ⟨i, n, hi, rfl, rfl, Hn, HB⟩ := hrel
    have hni : n ≤ k := by rw [← Hn.out]; refine Nat.le_trans (List.length_filter_le _ _) ?_; rw [List.length_map, List.length_take]; omega
    obtain ⟨y0, y1, y2, y3, y4, y5⟩ := HY.out _ HB.out
    by_cases hlt : i < k
    · obtain ⟨b1, o1, x, rfl, hx, hsx, x0, x1, x2, x3, x4, x5⟩ := (H.out.keep (Keeps.of_below (bseq HB1.out HB.out))).rec_ (i := i) (by rw [Hk.out]; exact hlt)
      have Hx := hide hx; have Hsx := hide hsx
      have hcx := HC.out x (List.mem_of_getElem? hx)
      have hiI : (i : Int) < (k : Int) := by omega
      have KB : Hid (∀ w', Below wr.heap.size wr w' → (Below wr.heap.size wr w' ∧ w'.cell? ⟨b1, o1 + i * 6, none⟩ = some (.int .i64 x.scanner) ∧ w'.cell? ⟨b1, o1 + i * 6 + 1, none⟩ = some (.int .i64 x.number) ∧ w'.cell? ⟨b1, o1 + i * 6 + 2, none⟩ = some (.int .i64 x.kind) ∧ w'.cell? ⟨b1, o1 + i * 6 + 3, none⟩ = some (.int .i64 x.time) ∧
          w'.cell? ⟨b1, o1 + i * 6 + 4, none⟩ = some (.string x.label) ∧ w'.cell? ⟨b1, o1 + i * 6 + 5, none⟩ = some (.slice x.cp x.contents.length x.cc) ∧
          w'.cell? ⟨w.heap.size, 0, none⟩ = some (.int .i64 r.scanner) ∧ w'.cell? ⟨w.heap.size, 1, none⟩ = some (.int .i64 r.number) ∧ w'.cell? ⟨w.heap.size, 2, none⟩ = some (.int .i64 r.kind) ∧ w'.cell? ⟨w.heap.size, 3, none⟩ = some (.int .i64 r.time) ∧ w'.cell? ⟨w.heap.size, 4, none⟩ = some (.string r.label) ∧ w'.cell? ⟨w.heap.size, 5, none⟩ = some (.slice r.cp r.contents.length r.cc))) :=
        hide (fun w' h => ⟨h, cell_later h x0, cell_later h x1, cell_later h x2, cell_later h x3, cell_later h x4, cell_later h x5, cell_later h y0, cell_later h y1, cell_later h y2, cell_later h y3, cell_later h y4, cell_later h y5⟩)
      obtain ⟨v, hv⟩ : ∃ v, decide (x.rp = r.rp) = v := ⟨_, rfl⟩
      have Hv := hide hv
      have HBw := hide (bseq HB1.out HB.out)
      clear hx hsx x0 x1 x2 x3 x4 x5 y0 y1 y2 y3 y4 y5 hv
      go_wp2
      go_region_held3 (fun w' => Below wr.heap.size wr w' ∧ w'.cell? ⟨b1, o1 + i * 6, none⟩ = some (.int .i64 x.scanner) ∧ w'.cell? ⟨b1, o1 + i * 6 + 1, none⟩ = some (.int .i64 x.number) ∧ w'.cell? ⟨b1, o1 + i * 6 + 2, none⟩ = some (.int .i64 x.kind) ∧ w'.cell? ⟨b1, o1 + i * 6 + 3, none⟩ = some (.int .i64 x.time) ∧
          w'.cell? ⟨b1, o1 + i * 6 + 4, none⟩ = some (.string x.label) ∧ w'.cell? ⟨b1, o1 + i * 6 + 5, none⟩ = some (.slice x.cp x.contents.length x.cc) ∧
          w'.cell? ⟨w.heap.size, 0, none⟩ = some (.int .i64 r.scanner) ∧ w'.cell? ⟨w.heap.size, 1, none⟩ = some (.int .i64 r.number) ∧ w'.cell? ⟨w.heap.size, 2, none⟩ = some (.int .i64 r.kind) ∧ w'.cell? ⟨w.heap.size, 3, none⟩ = some (.int .i64 r.time) ∧ w'.cell? ⟨w.heap.size, 4, none⟩ = some (.string r.label) ∧ w'.cell? ⟨w.heap.size, 5, none⟩ = some (.slice r.cp r.contents.length r.cc))
        (first | exact KB.out _ b6 | exact KB.out _ (Below.refl _ _).drew)
        ((go_at_call 38
          refine equal_agg x r _ _ hcx (Hsx.out.keep (Keeps.drew _)) ((Hs.out.keep (Keeps.of_below HBw.out)).keep (Keeps.drew _)) ?_
          rw [Hv.out]
          intro w6 hb6
          have b6 : Below wr.heap.size wr w6 := bseq (Below.refl wr.heap.size wr).drew hb6))
      rename_i hS
      clear hS KB
      have HB6 := hide (bseq HB.out b6)
      have hct := countR_take Hx.out r.rp
      rw [Hn.out] at hct
      have Hct := hide hct
      clear b6 hb6 hct
      cases v with
      | true =>
        have HE2 : Hid (countR ((rl.take (i + 1)).map Rec.rp) r.rp = n + 1) := hide (by rw [Hct.out, if_pos (of_decide_eq_true Hv.out)])
        clear Hct
        go_wp2
        go_roundw
        case rel => exact ⟨i + 1, n + 1, by omega, by go_num, by go_num, HE2, HB6⟩
        case measure => simp [intOf]; omega
      | false =>
        have HE2 : Hid (countR ((rl.take (i + 1)).map Rec.rp) r.rp = n) := hide (by rw [Hct.out, if_neg (of_decide_eq_false Hv.out), Nat.add_zero])
        clear Hct
        go_wp2
        go_roundw
        case rel => exact ⟨i + 1, n, by omega, by go_num, by go_num, HE2, HB6⟩
        case measure => simp [intOf]; omega
    · obtain rfl : i = k := by omega
      have HF := hide (HR.out _ (bseq HB1.out HB.out))
      rw [List.take_of_length_le (by rw [Hk.out]; exact Nat.le_refl _)] at Hn
      rw [Hn.out] at HF
      go_wp2
      exact HF.out
end Go.Proofs.Ytihdpkeclmpehaa

namespace Go.Proofs.Ytihdpkeclmpehaa
open Go.RowKit

theorem Src.enc {α : Type} {k : Nat} {enc : α → List Value} (hk : ∀ x, (enc x).length = k) (h0 : 0 < k) {w : World} {p : Option Addr} {l : List α} (h : EncAt k enc w p l) : Src w p l.length k (l.flatMap enc) := by
  refine ⟨flatMap_len hk l, fun hl => ?_⟩
  obtain ⟨b, o, rfl, hc⟩ := h hl
  refine ⟨_, rfl, fun j u hu => ?_⟩
  have hj : j < l.length * k := by rw [← flatMap_len hk l]; exact (List.getElem?_eq_some_iff.1 hu).1
  have hi : j / k < l.length := by rw [Nat.div_lt_iff_lt_mul h0]; exact hj
  have hr : j % k < k := Nat.mod_lt _ h0
  have e : j / k * k + j % k = j := Nat.div_add_mod' j k
  have hx : l[j / k]? = some l[j / k] := List.getElem?_eq_getElem hi
  have h1 := flatMap_at hk l (j / k) (j % k) _ hx hr
  rw [e] at h1
  rw [h1] at hu
  have := hc (j / k) _ hx (j % k) u hu
  rw [Addr.add_lit]
  rw [show o + j = o + j / k * k + j % k by omega]
  exact this
end Go.Proofs.Ytihdpkeclmpehaa

namespace Go.Proofs.Ytihdpkeclmpehaa
open Go.ChangeShapes Go.WideShapes Go.ChangeAt Go.RowKit Go.Deep

/-- What the form reads at type t, within its reach, reads as r says. -/
def OpensW {α : Type} (P : Program) (t : TypeId) (r : Rep α) : Prop :=
  P.cellsOf t = r.size ∧ ∀ {H : Type} (enc : TypeId × Value → H) (w : World) (fuel : Nat) (cs : List Value) (x : DataW H × List MemPlace),
    DataW.trod enc P w 0 (fun _ => true) true fuel t cs = some x → (∀ n ∈ x.1.weights P t, n ≤ reachBytes) → ∃ a, r.rd w cs a
theorem Opens.w {α : Type} {P : Program} {t : TypeId} {r : Rep α} (h : Opens P t r) : OpensW P t r := ⟨h.1, fun enc w fuel cs x hx _ => h.2 enc w fuel cs x hx⟩
/-- A slice value whose bytes lie within the reach. -/
def Rep.sliceB {α : Type} (k : Nat) (r : Rep α) : Rep (List α) where
  size := 1
  rd := fun w cs l => ∃ p cap, cs = [.slice p l.length cap] ∧ l.length ≤ cap ∧ cap ≤ maxLen ∧ r.els w p l ∧ cap * k ≤ reachBytes
  len := by rintro w cs a ⟨p, cap, rfl, _⟩; rfl
  keep := by
    rintro w w' cs a hk ⟨p, cap, h1, h2, h3, h4, h5⟩
    exact ⟨p, cap, h1, h2, h3, Rep.els_keep hk h4, h5⟩
theorem weightsAll_mem {H : Type} {P : Program} {e : TypeId} {d : DataW H} {n : Nat} : ∀ {l : List (DataW H)}, d ∈ l → n ∈ d.weights P e → n ∈ DataW.weightsAll P e l
  | [], h, _ => by cases h
  | x :: l, h, hn => by
    rw [DataW.weightsAll, List.mem_append]
    rcases List.mem_cons.1 h with rfl | h
    · exact .inl hn
    · exact .inr (weightsAll_mem h hn)
theorem opensW_slice {α : Type} {P : Program} {t e : TypeId} {k : Nat} {r : Rep α} (ht : P.underlying t = some (.slice e)) (hc : P.cellsOf t = 1) (hk : P.bytesOf e = k) (hr : OpensW P e r) (h1 : 0 < r.size) : OpensW P t (Rep.sliceB k r) :=
  ⟨hc, fun {H} enc w fuel cs x h hw => by
    rcases open_slice ht h with ⟨rfl, _⟩ | ⟨a, len, cap, m, n, D, Pl, rfl, _, hl, hm, hmm, hx, hi⟩
    · exact ⟨[], none, 0, rfl, Nat.le_refl _, by decide, fun h => absurd h (by simp), by simp⟩
    · rw [if_pos rfl] at hmm
      subst hmm
      have hcap : m * k ≤ reachBytes := by
        refine hw _ ?_
        rw [hx]
        simp only [DataW.weights, ht, List.mem_cons, List.length_map, List.length_range]
        left
        rw [hk, show len + (m - len) = m by omega]
      have hwi : ∀ i, i < len → ∀ q ∈ (D i).weights P e, q ≤ reachBytes := fun i hil q hq => by
        refine hw _ ?_
        rw [hx]
        simp only [DataW.weights, ht, List.mem_cons, List.mem_append]
        right; left
        exact weightsAll_mem (List.mem_map_of_mem (List.mem_range.2 hil)) hq
      have each : ∀ i, i < len → ∃ y cs', r.rd w cs' y ∧ cs'.length = r.size ∧ ∀ j u, cs'[j]? = some u → w.cell? (a.add (i * r.size + j)) = some u := by
        intro i hil
        obtain ⟨cs', hcs', ht'⟩ := hi i (by omega)
        rw [hr.1] at hcs'
        obtain ⟨_, hlen, hat⟩ := World.cells?_some hcs'
        obtain ⟨y, hy⟩ := hr.2 enc w n cs' _ ht' (hwi i hil)
        refine ⟨y, cs', hy, hlen, fun j u hu => ?_⟩
        have hj : j < r.size := by have := (List.getElem?_eq_some_iff.1 hu).1; omega
        have := hat j hj
        rw [Go.Deep.add_add] at this
        rw [this, hu]
      have build : ∀ k, k ≤ len → ∃ l : List α, l.length = k ∧ ∀ i (y : α), l[i]? = some y → ∃ cs', r.rd w cs' y ∧ ∀ j u, cs'[j]? = some u → w.cell? (a.add (i * r.size + j)) = some u := by
        intro k
        induction k with
        | zero => intro _; exact ⟨[], rfl, fun i y hy => by simp at hy⟩
        | succ k ih =>
          intro hk
          obtain ⟨l, hl', hall⟩ := ih (by omega)
          obtain ⟨y, cs', h2, _, h3⟩ := each k (by omega)
          refine ⟨l ++ [y], by simp [hl'], fun i z hz => ?_⟩
          rw [List.getElem?_append] at hz
          split at hz
          · exact hall i z hz
          · have hik : i = k := by have := (List.getElem?_eq_some_iff.1 hz).1; simp at this; omega
            subst hik
            rw [show i - l.length = 0 by omega] at hz
            simp at hz
            subst hz
            exact ⟨cs', h2, h3⟩
      obtain ⟨l, hll, hall⟩ := build len (Nat.le_refl _)
      refine ⟨l, some a, m, by rw [hll], by omega, hm, fun h0 => ?_, hcap⟩
      obtain ⟨cs', hcs', hcl, hc3⟩ : ∃ cs' : List Value, r.rd w cs' (l[0]'(by omega)) ∧ cs'.length = r.size ∧ ∀ j u, cs'[j]? = some u → w.cell? (a.add (0 * r.size + j)) = some u := by
        obtain ⟨cs', h2, h3⟩ := hall 0 _ (List.getElem?_eq_getElem h0)
        exact ⟨cs', h2, r.len h2, h3⟩
      have h00 := hc3 0 (cs'[0]'(by omega)) (List.getElem?_eq_getElem (by omega))
      rw [Nat.zero_mul, Nat.add_zero, Addr.add_zero'] at h00
      have hx := addr_plain' h00
      refine ⟨a.block, a.off, by rw [← hx], fun i y hy => ?_⟩
      obtain ⟨cs', h2, h3⟩ := hall i y hy
      refine ⟨cs', h2, fun j u hu => ?_⟩
      have := h3 j u hu
      rw [hx, Addr.add_lit] at this
      simpa [Nat.add_assoc] using this⟩
structure OpensFW {α : Type} (P : Program) (fs : List Field) (off : Nat) (r : Rep α) : Prop where
  run : ∀ {H : Type} (enc : TypeId × Value → H) (w : World) (n : Nat) (cs : List Value) (xs : List (DataW H × List MemPlace)), cs.length = off + r.size → xs.length = fs.length →
    (∀ (i : Nat) (f : Field), fs[i]? = some f → DataW.trod enc P w 0 (fun _ => true) true n f.type ((cs.drop f.offset).take (P.cellsOf f.type)) = xs[i]?) →
    (∀ q ∈ DataW.weightsEach P (fs.map (·.type)) (xs.map (·.1)), q ≤ reachBytes) → ∃ a, r.rd w (cs.drop off) a
theorem opensFW_nil {P : Program} {off : Nat} : OpensFW P [] off Rep.unit := ⟨fun enc w n cs xs hl _ _ _ => ⟨(), by
  show cs.drop off = []
  rw [List.drop_eq_nil_iff]
  have : Rep.unit.size = 0 := rfl
  omega⟩⟩
theorem opensFW_cons {α β : Type} {P : Program} {f : Field} {fs : List Field} {off : Nat} {r : Rep α} {s : Rep β} (hf : f.offset = off) (hr : OpensW P f.type r) (hs : OpensFW P fs (off + r.size) s) :
    OpensFW P (f :: fs) off (r.pair s) := ⟨fun {H} enc w n cs xs hl hx h hw => by
  have hsz : (r.pair s).size = r.size + s.size := rfl
  obtain ⟨y, xs', rfl⟩ : ∃ y xs', xs = y :: xs' := by
    cases xs with
    | nil => simp at hx
    | cons y xs' => exact ⟨y, xs', rfl⟩
  have h0 := h 0 f rfl
  rw [hf, hr.1] at h0
  simp only [List.map_cons, DataW.weightsEach, List.mem_append] at hw
  obtain ⟨a, ha⟩ := hr.2 enc w n _ y h0 (fun q hq => hw q (.inl hq))
  obtain ⟨b, hb⟩ := hs.run enc w n cs xs' (by omega) (by simpa using hx) (fun i g hg => by
    have := h (i + 1) g (by simpa using hg)
    simpa using this) (fun q hq => hw q (.inr hq))
  refine ⟨(a, b), (cs.drop off).take r.size, cs.drop (off + r.size), ?_, ha, hb⟩
  rw [← List.drop_drop, List.take_append_drop]⟩
theorem opensW_struct {α : Type} {P : Program} {t : TypeId} {fs : Array Field} {r : Rep α} (ht : P.underlying t = some (.struct fs)) (hc : P.cellsOf t = r.size) (hf : OpensFW P fs.toList 0 r) : OpensW P t r :=
  ⟨hc, fun enc w fuel cs x h hw => by
    obtain ⟨xs, n, _, hx, hl, hxl, hall⟩ := DataW.trod_struct ht h
    have := hf.run enc w n cs xs (by rw [hl, hc, Nat.zero_add]) (by simpa using hxl) (fun i f hif => hall i f (by simpa using hif)) (fun q hq => hw q (by
      rw [hx]
      simp only [DataW.weights, ht]
      exact hq))
    simpa using this⟩
theorem openW_slc {α : Type} {H : Type} {enc : TypeId × Value → H} {P : Program} {w : World} {r' : Reach} {b0 : Nat} {t e : TypeId} {k : Nat} {r : Rep α} {v : Value} {d : DataW H} {p : List MemPlace} (ht : P.underlying t = some (.slice e)) (ho : OpensW P t (Rep.sliceB k r))
    (hv : Value.okWide P w r' b0 t v) (h : DataW.Trod enc P w 0 (fun _ => true) true t v d p) (hw : ∀ n ∈ d.weights P t, n ≤ reachBytes) :
    ∃ a n cap l, v = .slice a n cap ∧ l.length = n ∧ n ≤ maxLen ∧ r.els w a l ∧ n ≤ cap ∧ cap * k ≤ reachBytes := by
  obtain ⟨a, n, cap, rfl⟩ := okWide_slice ht hv
  obtain ⟨fuel, hf⟩ := h
  obtain ⟨l, q, c, hcs, h1, h2, h3, h4⟩ := ho.2 enc w fuel _ _ hf hw
  simp [Value.cells] at hcs
  obtain ⟨rfl, rfl, rfl⟩ := hcs
  exact ⟨_, _, _, l, rfl, rfl, Nat.le_trans h1 h2, h3, h1, h4⟩
theorem opensW_ss : OpensW Try.prog 29 (Rep.sliceB 16 Rep.str) := opensW_slice Try.underlying29 (by kernel_rfl) (by kernel_rfl) opens_s.w (by decide)
def repRecB : Rep RecT := I1.pair (I1.pair (I1.pair (I1.pair (Rep.str.pair ((Rep.sliceB 16 Rep.str).pair Rep.unit)))))
theorem opensW_rec : OpensW Try.prog 31 repRecB := opensW_struct Try.underlying31 (by kernel_rfl) (opensFW_cons rfl opens_i.w (opensFW_cons rfl opens_i.w (opensFW_cons rfl opens_i.w (opensFW_cons rfl opens_i.w (opensFW_cons rfl opens_s.w (opensFW_cons rfl opensW_ss opensFW_nil))))))
def repSlB : Rep SlT := I1.pair (I1.pair (I1.pair (Rep.str.pair (repRecB.pair Rep.unit))))
theorem opensW_sl : OpensW Try.prog 47 repSlB := opensW_struct Try.underlying47 (by kernel_rfl) (opensFW_cons rfl opens_i.w (opensFW_cons rfl opens_i.w (opensFW_cons rfl opens_i.w (opensFW_cons rfl opens_s.w (opensFW_cons rfl opensW_rec opensFW_nil)))))
theorem opensW_sls : OpensW Try.prog 45 (Rep.sliceB 112 repSlB) := opensW_slice Try.underlying45 (by kernel_rfl) (by kernel_rfl) opensW_sl (by decide)
theorem opensW_trks : OpensW Try.prog 23 (Rep.sliceB 152 repTrk) := opensW_slice Try.underlying23 (by kernel_rfl) (by kernel_rfl) opens_trk.w (by decide)
theorem recB_rd {w : World} {cs : List Value} {x : RecT} (h : repRecB.rd w cs x) : ∃ r : Rec, cs = r.cells ∧ RecAt w r ∧ r.contents.length * 16 ≤ reachBytes := by
  obtain ⟨c1, d1, rfl, ⟨rfl, h1⟩, c2, d2, rfl, ⟨rfl, h2⟩, c3, d3, rfl, ⟨rfl, h3⟩, c4, d4, rfl, ⟨rfl, h4⟩, c5, d5, rfl, ⟨rfl, h5⟩, c6, d6, rfl, ⟨p6, k6, rfl, a6, b6, e6, f6⟩, rfl⟩ := h
  exact ⟨⟨x.1, x.2.1, x.2.2.1, x.2.2.2.1, x.2.2.2.2.1, p6, x.2.2.2.2.2.1, k6⟩, rfl, ⟨strsAt_els e6, Nat.le_trans a6 b6⟩, Nat.le_trans (Nat.mul_le_mul_right 16 a6) f6⟩
theorem slB_rd {w : World} {cs : List Value} {x : SlT} (h : repSlB.rd w cs x) : ∃ s : Sl, cs = s.cells ∧ RecAt w s.r ∧ s.r.contents.length * 16 ≤ reachBytes := by
  obtain ⟨c1, d1, rfl, ⟨rfl, h1⟩, c2, d2, rfl, ⟨rfl, h2⟩, c3, d3, rfl, ⟨rfl, h3⟩, c4, d4, rfl, ⟨rfl, h4⟩, c5, d5, rfl, h5, rfl⟩ := h
  obtain ⟨r, rfl, hr⟩ := recB_rd h5
  exact ⟨⟨x.1, x.2.1, x.2.2.1, x.2.2.2.1, r⟩, by rw [List.append_nil]; rfl, hr⟩
section
variable {H : Type} {enc : TypeId × Value → H} {w : World} {r' : Reach} {b0 : Nat} {v : Value} {d : DataW H} {p : List MemPlace}
theorem openW_sls (hv : Value.okWide Try.prog w r' b0 45 v) (h : DataW.Trod enc Try.prog w 0 (fun _ => true) true 45 v d p) (hw : ∀ n ∈ d.weights Try.prog 45, n ≤ reachBytes) :
    ∃ a n cap l, v = .slice a n cap ∧ l.length = n ∧ n ≤ maxLen ∧ SlsAt w a l ∧ n ≤ cap ∧ ∀ s ∈ l, s.r.contents.length ≤ maxLen ∧ s.r.contents.length * 16 ≤ reachBytes := by
  obtain ⟨a, n, cap, l, h1, h2, h3, h4, h5, _⟩ := openW_slc Try.underlying45 opensW_sls hv h hw
  obtain ⟨m, hm, hE, hQ⟩ := encAt_els (k := 10) (enc := Sl.cells) (fun w s => RecAt w s.r ∧ s.r.contents.length * 16 ≤ reachBytes) rfl (fun h => slB_rd h) h4
  exact ⟨a, n, cap, m, h1, by omega, h3, ⟨hE, fun s hs => (hQ s hs).1.1⟩, h5, fun s hs => ⟨(hQ s hs).1.2, (hQ s hs).2⟩⟩
theorem openW_trks (hv : Value.okWide Try.prog w r' b0 23 v) (h : DataW.Trod enc Try.prog w 0 (fun _ => true) true 23 v d p) (hw : ∀ n ∈ d.weights Try.prog 23, n ≤ reachBytes) :
    ∃ a n cap l, v = .slice a n cap ∧ l.length = n ∧ n ≤ maxLen ∧ TrksAt w a l ∧ n ≤ cap ∧ cap * 152 ≤ reachBytes := by
  obtain ⟨a, n, cap, l, h1, h2, h3, h4, h5, h6⟩ := openW_slc Try.underlying23 opensW_trks hv h hw
  obtain ⟨m, hm, hE, hQ⟩ := encAt_els (k := 10) (enc := Trk.cells) TrkAt rfl (fun h => trk_rd h) h4
  exact ⟨a, n, cap, m, h1, by omega, h3, ⟨hE, hQ⟩, h5, h6⟩
end
end Go.Proofs.Ytihdpkeclmpehaa

namespace Go.Proofs.Ytihdpkeclmpehaa
open Go.RowKit

noncomputable def moreReg2 : Code := (regionsOf (Try.f9.body.getD .skip)).getD 2 .skip
theorem Try.info40 : (Try.prog.info? 40).map (fun i => (i.zero, i.size, i.bytes)) = some (some (.agg #[.string ⟨#[]⟩, .int .i64 0, .int .i64 0, .int .i64 0, .int .i64 0, .slice none 0 0, .bool false, .slice none 0 0, .slice none 0 0, .slice none 0 0]), 10, 152) := by kernel_rfl
theorem keepM {wr W W' : World} {gt : Nat} {t : Trk} (h : Below wr.heap.size wr W ∧ W.cell? ⟨gt, 0, none⟩ = some (.string t.label0) ∧ W.cell? ⟨gt, 1, none⟩ = some (.int .i64 t.from0) ∧ W.cell? ⟨gt, 2, none⟩ = some (.int .i64 t.to0) ∧ W.cell? ⟨gt, 3, none⟩ = some (.int .i64 t.class0) ∧ W.cell? ⟨gt, 4, none⟩ = some (.int .i64 t.accept) ∧ W.cell? ⟨gt, 5, none⟩ = some (.slice t.sp t.stops.length t.sc) ∧ W.cell? ⟨gt, 6, none⟩ = some (.bool t.lost) ∧ W.cell? ⟨gt, 7, none⟩ = some (.slice t.np t.since.length t.nc) ∧ W.cell? ⟨gt, 8, none⟩ = some (.slice t.lp t.label.length t.lc) ∧ W.cell? ⟨gt, 9, none⟩ = some (.slice t.ep t.seals.length t.ec)) (hb : Below W.heap.size W W') : Below wr.heap.size wr W' ∧ W'.cell? ⟨gt, 0, none⟩ = some (.string t.label0) ∧ W'.cell? ⟨gt, 1, none⟩ = some (.int .i64 t.from0) ∧ W'.cell? ⟨gt, 2, none⟩ = some (.int .i64 t.to0) ∧ W'.cell? ⟨gt, 3, none⟩ = some (.int .i64 t.class0) ∧ W'.cell? ⟨gt, 4, none⟩ = some (.int .i64 t.accept) ∧ W'.cell? ⟨gt, 5, none⟩ = some (.slice t.sp t.stops.length t.sc) ∧ W'.cell? ⟨gt, 6, none⟩ = some (.bool t.lost) ∧ W'.cell? ⟨gt, 7, none⟩ = some (.slice t.np t.since.length t.nc) ∧ W'.cell? ⟨gt, 8, none⟩ = some (.slice t.lp t.label.length t.lc) ∧ W'.cell? ⟨gt, 9, none⟩ = some (.slice t.ep t.seals.length t.ec) :=
  ⟨bseq h.1 hb, cell_later hb h.2.1, cell_later hb h.2.2.1, cell_later hb h.2.2.2.1, cell_later hb h.2.2.2.2.1, cell_later hb h.2.2.2.2.2.1, cell_later hb h.2.2.2.2.2.2.1, cell_later hb h.2.2.2.2.2.2.2.1, cell_later hb h.2.2.2.2.2.2.2.2.1, cell_later hb h.2.2.2.2.2.2.2.2.2.1, cell_later hb h.2.2.2.2.2.2.2.2.2.2⟩
theorem keepN {wr W' : World} {gt : Nat} {t : Trk} (h : Hid (wr.cell? ⟨gt, 0, none⟩ = some (.string t.label0) ∧ wr.cell? ⟨gt, 1, none⟩ = some (.int .i64 t.from0) ∧ wr.cell? ⟨gt, 2, none⟩ = some (.int .i64 t.to0) ∧ wr.cell? ⟨gt, 3, none⟩ = some (.int .i64 t.class0) ∧ wr.cell? ⟨gt, 4, none⟩ = some (.int .i64 t.accept) ∧ wr.cell? ⟨gt, 5, none⟩ = some (.slice t.sp t.stops.length t.sc) ∧ wr.cell? ⟨gt, 6, none⟩ = some (.bool t.lost) ∧ wr.cell? ⟨gt, 7, none⟩ = some (.slice t.np t.since.length t.nc) ∧ wr.cell? ⟨gt, 8, none⟩ = some (.slice t.lp t.label.length t.lc) ∧ wr.cell? ⟨gt, 9, none⟩ = some (.slice t.ep t.seals.length t.ec))) (hb : Below wr.heap.size wr W') : Below wr.heap.size wr W' ∧ W'.cell? ⟨gt, 0, none⟩ = some (.string t.label0) ∧ W'.cell? ⟨gt, 1, none⟩ = some (.int .i64 t.from0) ∧ W'.cell? ⟨gt, 2, none⟩ = some (.int .i64 t.to0) ∧ W'.cell? ⟨gt, 3, none⟩ = some (.int .i64 t.class0) ∧ W'.cell? ⟨gt, 4, none⟩ = some (.int .i64 t.accept) ∧ W'.cell? ⟨gt, 5, none⟩ = some (.slice t.sp t.stops.length t.sc) ∧ W'.cell? ⟨gt, 6, none⟩ = some (.bool t.lost) ∧ W'.cell? ⟨gt, 7, none⟩ = some (.slice t.np t.since.length t.nc) ∧ W'.cell? ⟨gt, 8, none⟩ = some (.slice t.lp t.label.length t.lc) ∧ W'.cell? ⟨gt, 9, none⟩ = some (.slice t.ep t.seals.length t.ec) :=
  ⟨hb, cell_later hb h.out.1, cell_later hb h.out.2.1, cell_later hb h.out.2.2.1, cell_later hb h.out.2.2.2.1, cell_later hb h.out.2.2.2.2.1, cell_later hb h.out.2.2.2.2.2.1, cell_later hb h.out.2.2.2.2.2.2.1, cell_later hb h.out.2.2.2.2.2.2.2.1, cell_later hb h.out.2.2.2.2.2.2.2.2.1, cell_later hb h.out.2.2.2.2.2.2.2.2.2⟩
theorem own0 {wr W : World} {g : Nat} (h : Below wr.heap.size wr W) (hg : W.heap.size = g) : (W.alloc (.cells #[] 40)).ownsRow wr.heap.size 40 10 (.slice (some ⟨g, 0, none⟩) 0 0) 0 [] := hg ▸ World.ownsRow_lit _ #[] 0 h.size (by decide) rfl
theorem ne0 {k g : Nat} (h : k ≠ g) : (Value.slice (some ⟨k, 0, none⟩) 0 0).ownBlock ≠ some g := fun hk => by cases hk; exact h rfl
theorem blk1 {wr W : World} {g : Nat} (h : Below wr.heap.size wr W) (t : Trk) (hg : W.heap.size = g) : Blk (W.alloc (.cells #[.string t.label0, .int .i64 t.from0, .int .i64 t.to0, .int .i64 t.class0, .int .i64 t.accept, .slice t.sp t.stops.length t.sc, .bool t.lost, .slice t.np t.since.length t.nc, .slice t.lp t.label.length t.lc, .slice t.ep t.seals.length t.ec] 40)) g t.cells.toArray 40 := hg ▸ Blk.new _ _ _
theorem src_blk {W : World} {g : Nat} {t : Trk} (h : Blk W g t.cells.toArray 40) : Src W (some ⟨g, 0, none⟩) 1 10 t.cells := ⟨rfl, fun _ => ⟨_, rfl, fun j u hu => by
  rw [Addr.add_lit, Nat.zero_add]
  exact h.cell (k := j) (by simpa using hu)⟩⟩
theorem grown_below {wr W w9 : World} {v : Value} {n : Nat} {xs : List Value} (h : Below wr.heap.size wr W) (ho : W.ownsRow wr.heap.size 40 10 v n xs) (hgr : W.grownBy w9 v.ownBlock) : Below wr.heap.size wr w9 := h.grown hgr h.size (fun k hk => (own_lt ho hk).1)
theorem ite_of {c : Bool} {A B : Prop} (h : c = true) (a : A) : if c = true then A else B := by rw [if_pos h]; exact a
theorem trk_one1 (t : Trk) : ∀ u ∈ t.cells, u.oneCell' = true := by
  intro u hu
  simp only [Trk.cells, List.mem_cons, List.not_mem_nil, or_false] at hu
  rcases hu with rfl | rfl | rfl | rfl | rfl | rfl | rfl | rfl | rfl | rfl <;> rfl
theorem trk_one (l : List Trk) : ∀ u ∈ l.flatMap Trk.cells, u.oneCell' = true := by
  intro u hu
  obtain ⟨x, _, hx⟩ := List.mem_flatMap.1 hu
  exact trk_one1 x u hx
set_option maxRecDepth 100000 in
set_option maxHeartbeats 4000000 in
theorem more_reg2 (Q : Exit → Act → World → Prop) (p : Option Addr) (m cap gt : Nat) (ts : List Trk) (t : Trk) (wr : World) (hm : m * 152 ≤ 140737488351232) (Hm : Hid (ts.length = m)) (HT : Hid (TrksAt wr p ts)) (HS : Hid (wr.cell? ⟨gt, 0, none⟩ = some (.string t.label0) ∧ wr.cell? ⟨gt, 1, none⟩ = some (.int .i64 t.from0) ∧ wr.cell? ⟨gt, 2, none⟩ = some (.int .i64 t.to0) ∧ wr.cell? ⟨gt, 3, none⟩ = some (.int .i64 t.class0) ∧ wr.cell? ⟨gt, 4, none⟩ = some (.int .i64 t.accept) ∧ wr.cell? ⟨gt, 5, none⟩ = some (.slice t.sp t.stops.length t.sc) ∧ wr.cell? ⟨gt, 6, none⟩ = some (.bool t.lost) ∧ wr.cell? ⟨gt, 7, none⟩ = some (.slice t.np t.since.length t.nc) ∧ wr.cell? ⟨gt, 8, none⟩ = some (.slice t.lp t.label.length t.lc) ∧ wr.cell? ⟨gt, 9, none⟩ = some (.slice t.ep t.seals.length t.ec))) {u0 u2 u3 u4 u5 u7 u8 u9 u10 u11 u12 u13 u14 u15 u16 u17 u18 u19 u20 u21 u22 u23 u24 u25 u26 u27 u28 u29 u30 u31 u32 u33 u34 u35 u36 u37 u38 u39 u40 u41 u42 u43 u44 u45 u46 u47 u48 u49 u50 u51 u52 u53 u54 u55 u56 u57 u58 u59 u60 u61 u62 u63 u64 u65 u66 u67 u68 u69 u70 u71 u72 u73 u74 u75 u76 u77 u78 u79 u80 u81 u82 u83 u84 u85 u86 u87 u88 u89 u90 u91 u92 u93 u94 u95 u96 u97 u98 u99 u100 u101 u102 u103 u104 u105 u106 u107 u108 u109 u110 u111 u112 u113 u114 u115 u116 u117 u118 u119 u120 : Value}
    (HN : Hid (∀ v W v17 v18 v19 v20 v21 v22, W.ownsRow wr.heap.size 40 10 v (m + 1) ((ts ++ [t]).flatMap Trk.cells) → Below wr.heap.size wr W → Q .normal { tmps := #[u0, .slice p m cap, u2, u3, u4, u5, .pointer (some ⟨gt, 0, none⟩), u7, u8, u9, v, u11, u12, u13, u14, u15, u16, v17, v18, v19, v20, v21, v22, u23, u24, u25, u26, u27, u28, u29, u30, u31, u32, u33, u34, u35, u36, u37, u38, u39, u40, u41, u42, u43, u44, u45, u46, u47, u48, u49, u50, u51, u52, u53, u54, u55, u56, u57, u58, u59, u60, u61, u62, u63, u64, u65, u66, u67, u68, u69, u70, u71, u72, u73, u74, u75, u76, u77, u78, u79, u80, u81, u82, u83, u84, u85, u86, u87, u88, u89, u90, u91, u92, u93, u94, u95, u96, u97, u98, u99, u100, u101, u102, u103, u104, u105, u106, u107, u108, u109, u110, u111, u112, u113, u114, u115, u116, u117, u118, u119, u120], defers := [] } W)) :
    moreReg2.wp Try.prog Q { tmps := #[u0, .slice p m cap, u2, u3, u4, u5, .pointer (some ⟨gt, 0, none⟩), u7, u8, u9, u10, u11, u12, u13, u14, u15, u16, u17, u18, u19, u20, u21, u22, u23, u24, u25, u26, u27, u28, u29, u30, u31, u32, u33, u34, u35, u36, u37, u38, u39, u40, u41, u42, u43, u44, u45, u46, u47, u48, u49, u50, u51, u52, u53, u54, u55, u56, u57, u58, u59, u60, u61, u62, u63, u64, u65, u66, u67, u68, u69, u70, u71, u72, u73, u74, u75, u76, u77, u78, u79, u80, u81, u82, u83, u84, u85, u86, u87, u88, u89, u90, u91, u92, u93, u94, u95, u96, u97, u98, u99, u100, u101, u102, u103, u104, u105, u106, u107, u108, u109, u110, u111, u112, u113, u114, u115, u116, u117, u118, u119, u120], defers := [] } wr := by
  have HSrc : Hid (Src wr p m 10 (ts.flatMap Trk.cells)) := hide (by have h := Src.enc (k := 10) (enc := Trk.cells) (fun _ => rfl) (by omega) HT.out.1; rw [Hm.out] at h; exact h)
  obtain ⟨i40, hi0, hz0, hz1, hz2⟩ := info_parts Try.info40
  have hm2 : (m + 1) * 152 ≤ 140737488355328 := by omega
  simp only [moreReg2, Try.f9, Option.getD, regionsOf, List.append_eq, List.nil_append, List.append_nil, List.cons_append, List.getD, List.getElem?_cons_succ, List.getElem?_cons_zero]
  refine wp_region_noPanic ?_
  refine wp_region_held_drew (S := fun W => Below wr.heap.size wr W ∧ W.cell? ⟨gt, 0, none⟩ = some (.string t.label0) ∧ W.cell? ⟨gt, 1, none⟩ = some (.int .i64 t.from0) ∧ W.cell? ⟨gt, 2, none⟩ = some (.int .i64 t.to0) ∧ W.cell? ⟨gt, 3, none⟩ = some (.int .i64 t.class0) ∧ W.cell? ⟨gt, 4, none⟩ = some (.int .i64 t.accept) ∧ W.cell? ⟨gt, 5, none⟩ = some (.slice t.sp t.stops.length t.sc) ∧ W.cell? ⟨gt, 6, none⟩ = some (.bool t.lost) ∧ W.cell? ⟨gt, 7, none⟩ = some (.slice t.np t.since.length t.nc) ∧ W.cell? ⟨gt, 8, none⟩ = some (.slice t.lp t.label.length t.lc) ∧ W.cell? ⟨gt, 9, none⟩ = some (.slice t.ep t.seals.length t.ec)) (by kernel_rfl) (keepN HS (Below.refl _ _).drew) (fun hHeld => ?_)
  refine wpAnyH_take (i := 1) (v := ?v1) rfl (by kernel_rfl) (by kernel_rfl) (by kernel_rfl) (fun _ _ _ h => h) (Or.inl ⟨by rfl, ?hy1⟩) hHeld ?rest1
  case hy1 => (intro w0 hSw; (try dsimp only at hSw); go_simp; all_goals with_reducible rfl)
  try simp only [Act.put, List.getElem_toArray, List.getElem_cons_zero, List.getElem_cons_succ, List.setIfInBounds_toArray, List.set_cons_zero, List.set_cons_succ]
  refine wpAnyH_take (i := 3) (v := ?v3) rfl (by kernel_rfl) (by kernel_rfl) (by kernel_rfl) (fun _ _ _ h => h) (Or.inl ⟨by rfl, ?hy3⟩) hHeld ?rest3
  case hy3 => (intro w0 hSw; (try dsimp only at hSw); go_simp; all_goals with_reducible rfl)
  try simp only [Act.put, List.getElem_toArray, List.getElem_cons_zero, List.getElem_cons_succ, List.setIfInBounds_toArray, List.set_cons_zero, List.set_cons_succ]
  refine wpAnyH_ready (rs := [0, 4]) (by kernel_rfl) (by simp) ?_
  refine AllReadyH.cons rfl (fun K hK => ?_) (AllReadyH.cons rfl (fun K hK => ?_) AllReadyH.nil)
  · go_simp
    refine hK.out _ _ (keepM hHeld (balloc (Below.refl _ _) _)) (fun hHeld' => ?_)
    have hOwn := own0 (g := wr.heap.size) hHeld.1 (by simp)
    clear hK K hHeld
    have hHeld := hHeld'
    clear hHeld'
    try simp only [Act.put, List.getElem_toArray, List.getElem_cons_zero, List.getElem_cons_succ, List.setIfInBounds_toArray, List.set_cons_zero, List.set_cons_succ]
    refine wpAnyH_ready (rs := [2, 4]) (by kernel_rfl) (by simp) ?_
    refine AllReadyH.cons rfl (fun K hK => ?_) (AllReadyH.cons rfl (fun K hK => ?_) AllReadyH.nil)
    · refine ite_of (by kernel_rfl) ?_
      refine wp_app _ (.tmp 17) (.tmp 18) 23 rfl wr.heap.size 40 i40 _ 10 152 Try.underlying23 hi0 hz0 hz1 hz2 rfl (by omega) _ 0 [] rfl hOwn p m cap (ts.flatMap Trk.cells) rfl (HSrc.out.keep (Keeps.of_below hHeld.1)) (trk_one ts) (by unfold maxLen; omega) (by omega) hHeld.1.size ?_
      intro v9 w9 hOwn9 hgr
      have hb9 := grown_below hHeld.1 hOwn hgr
      refine hK.out _ _ (keepN HS hb9) (fun hHeld' => ?_)
      rw [Nat.zero_add, List.nil_append] at hOwn9
      clear hOwn hgr hb9
      have hOwn := hOwn9
      clear hOwn9
      clear hK K hHeld
      have hHeld := hHeld'
      clear hHeld'
      try simp only [Act.put, List.getElem_toArray, List.getElem_cons_zero, List.getElem_cons_succ, List.setIfInBounds_toArray, List.set_cons_zero, List.set_cons_succ]
      refine wpAnyH_ready (rs := [4]) (by kernel_rfl) (by simp) ?_
      refine AllReadyH.cons rfl (fun K hK => ?_) AllReadyH.nil
      go_simp
      refine hK.out _ _ (keepM hHeld (balloc (Below.refl _ _) _)) (fun hHeld' => ?_)
      skip
      have hOwn := own_below hOwn (balloc (Below.refl _ _) (.cells #[.string t.label0, .int .i64 t.from0, .int .i64 t.to0, .int .i64 t.class0, .int .i64 t.accept, .slice t.sp t.stops.length t.sc, .bool t.lost, .slice t.np t.since.length t.nc, .slice t.lp t.label.length t.lc, .slice t.ep t.seals.length t.ec] 40))
      have hBk := blk1 (g := _) hHeld.1 t (by first | rfl | simp)
      clear hK K hHeld
      have hHeld := hHeld'
      clear hHeld'
      try simp only [Act.put, List.getElem_toArray, List.getElem_cons_zero, List.getElem_cons_succ, List.setIfInBounds_toArray, List.set_cons_zero, List.set_cons_succ]
      refine wpAnyH_ready (rs := [5]) (by kernel_rfl) (by simp) ?_
      refine AllReadyH.cons rfl (fun K hK => ?_) AllReadyH.nil
      refine ite_of (by kernel_rfl) ?_
      refine wp_app _ (.tmp 19) (.tmp 21) 23 rfl wr.heap.size 40 i40 _ 10 152 Try.underlying23 hi0 hz0 hz1 hz2 rfl (by omega) _ m _ rfl hOwn _ 1 1 t.cells rfl (src_blk hBk) (trk_one1 t) (by unfold maxLen; omega) (by omega) hHeld.1.size ?_
      intro v9 w9 hOwn9 hgr
      have hb9 := grown_below hHeld.1 hOwn hgr
      refine hK.out _ _ (keepN HS hb9) (fun hHeld' => ?_)
      rw [show ts.flatMap Trk.cells ++ t.cells = (ts ++ [t]).flatMap Trk.cells by simp] at hOwn9
      clear hOwn hgr hb9 hBk
      have hOwn := hOwn9
      clear hOwn9
      clear hK K hHeld
      have hHeld := hHeld'
      clear hHeld'
      try simp only [Act.put, List.getElem_toArray, List.getElem_cons_zero, List.getElem_cons_succ, List.setIfInBounds_toArray, List.set_cons_zero, List.set_cons_succ]
      refine wpAnyH_take (i := 6) (v := ?v6aa) rfl (by kernel_rfl) (by kernel_rfl) (by kernel_rfl) (fun _ _ _ h => h) (Or.inl ⟨by rfl, ?hy6aa⟩) hHeld ?rest6aa
      case hy6aa => (intro w0 hSw; (try dsimp only at hSw); go_simp; all_goals with_reducible rfl)
      try simp only [Act.put, List.getElem_toArray, List.getElem_cons_zero, List.getElem_cons_succ, List.setIfInBounds_toArray, List.set_cons_zero, List.set_cons_succ]
      refine wpAnyH_done (by kernel_rfl) ?_ _
      refine NoPanic.normal ?_
      exact HN.out _ _ _ _ _ _ _ _ hOwn hHeld.1
    · go_simp
      refine hK.out _ _ (keepM hHeld (balloc (Below.refl _ _) _)) (fun hHeld' => ?_)
      have hNe := ne0 (k := wr.heap.size) (g := wr.heap.size + 1) (by omega)
      have hOwn := own_below hOwn (balloc (Below.refl _ _) (.cells #[.string t.label0, .int .i64 t.from0, .int .i64 t.to0, .int .i64 t.class0, .int .i64 t.accept, .slice t.sp t.stops.length t.sc, .bool t.lost, .slice t.np t.since.length t.nc, .slice t.lp t.label.length t.lc, .slice t.ep t.seals.length t.ec] 40))
      have hBk := blk1 (g := wr.heap.size + 1) hHeld.1 t (by first | rfl | simp)
      clear hK K hHeld
      have hHeld := hHeld'
      clear hHeld'
      try simp only [Act.put, List.getElem_toArray, List.getElem_cons_zero, List.getElem_cons_succ, List.setIfInBounds_toArray, List.set_cons_zero, List.set_cons_succ]
      refine wpAnyH_ready (rs := [2]) (by kernel_rfl) (by simp) ?_
      refine AllReadyH.cons rfl (fun K hK => ?_) AllReadyH.nil
      refine ite_of (by kernel_rfl) ?_
      refine wp_app _ (.tmp 17) (.tmp 18) 23 rfl wr.heap.size 40 i40 _ 10 152 Try.underlying23 hi0 hz0 hz1 hz2 rfl (by omega) _ 0 [] rfl hOwn p m cap (ts.flatMap Trk.cells) rfl (HSrc.out.keep (Keeps.of_below hHeld.1)) (trk_one ts) (by unfold maxLen; omega) (by omega) hHeld.1.size ?_
      intro v9 w9 hOwn9 hgr
      have hb9 := grown_below hHeld.1 hOwn hgr
      refine hK.out _ _ (keepN HS hb9) (fun hHeld' => ?_)
      have hBk := (hgr.block _ hBk.lt (fun e => hNe e.symm)).trans hBk
      rw [Nat.zero_add, List.nil_append] at hOwn9
      clear hOwn hgr hb9
      have hOwn := hOwn9
      clear hOwn9
      clear hK K hHeld
      have hHeld := hHeld'
      clear hHeld'
      try simp only [Act.put, List.getElem_toArray, List.getElem_cons_zero, List.getElem_cons_succ, List.setIfInBounds_toArray, List.set_cons_zero, List.set_cons_succ]
      refine wpAnyH_ready (rs := [5]) (by kernel_rfl) (by simp) ?_
      refine AllReadyH.cons rfl (fun K hK => ?_) AllReadyH.nil
      refine ite_of (by kernel_rfl) ?_
      refine wp_app _ (.tmp 19) (.tmp 21) 23 rfl wr.heap.size 40 i40 _ 10 152 Try.underlying23 hi0 hz0 hz1 hz2 rfl (by omega) _ m _ rfl hOwn _ 1 1 t.cells rfl (src_blk hBk) (trk_one1 t) (by unfold maxLen; omega) (by omega) hHeld.1.size ?_
      intro v9 w9 hOwn9 hgr
      have hb9 := grown_below hHeld.1 hOwn hgr
      refine hK.out _ _ (keepN HS hb9) (fun hHeld' => ?_)
      rw [show ts.flatMap Trk.cells ++ t.cells = (ts ++ [t]).flatMap Trk.cells by simp] at hOwn9
      clear hOwn hgr hb9 hBk
      have hOwn := hOwn9
      clear hOwn9
      clear hK K hHeld
      have hHeld := hHeld'
      clear hHeld'
      try simp only [Act.put, List.getElem_toArray, List.getElem_cons_zero, List.getElem_cons_succ, List.setIfInBounds_toArray, List.set_cons_zero, List.set_cons_succ]
      refine wpAnyH_take (i := 6) (v := ?v6ab) rfl (by kernel_rfl) (by kernel_rfl) (by kernel_rfl) (fun _ _ _ h => h) (Or.inl ⟨by rfl, ?hy6ab⟩) hHeld ?rest6ab
      case hy6ab => (intro w0 hSw; (try dsimp only at hSw); go_simp; all_goals with_reducible rfl)
      try simp only [Act.put, List.getElem_toArray, List.getElem_cons_zero, List.getElem_cons_succ, List.setIfInBounds_toArray, List.set_cons_zero, List.set_cons_succ]
      refine wpAnyH_done (by kernel_rfl) ?_ _
      refine NoPanic.normal ?_
      exact HN.out _ _ _ _ _ _ _ _ hOwn hHeld.1
  · go_simp
    refine hK.out _ _ (keepM hHeld (balloc (Below.refl _ _) _)) (fun hHeld' => ?_)
    have hBk := blk1 (g := wr.heap.size) hHeld.1 t (by first | rfl | simp)
    clear hK K hHeld
    have hHeld := hHeld'
    clear hHeld'
    try simp only [Act.put, List.getElem_toArray, List.getElem_cons_zero, List.getElem_cons_succ, List.setIfInBounds_toArray, List.set_cons_zero, List.set_cons_succ]
    refine wpAnyH_ready (rs := [0]) (by kernel_rfl) (by simp) ?_
    refine AllReadyH.cons rfl (fun K hK => ?_) AllReadyH.nil
    go_simp
    refine hK.out _ _ (keepM hHeld (balloc (Below.refl _ _) _)) (fun hHeld' => ?_)
    have hOwn := own0 (g := wr.heap.size + 1) hHeld.1 (by simp)
    have hNe := ne0 (k := wr.heap.size + 1) (g := wr.heap.size) (by omega)
    have hBk := hBk.next (balloc (Below.refl _ _) (.cells #[] 40))
    clear hK K hHeld
    have hHeld := hHeld'
    clear hHeld'
    try simp only [Act.put, List.getElem_toArray, List.getElem_cons_zero, List.getElem_cons_succ, List.setIfInBounds_toArray, List.set_cons_zero, List.set_cons_succ]
    refine wpAnyH_ready (rs := [2]) (by kernel_rfl) (by simp) ?_
    refine AllReadyH.cons rfl (fun K hK => ?_) AllReadyH.nil
    refine ite_of (by kernel_rfl) ?_
    refine wp_app _ (.tmp 17) (.tmp 18) 23 rfl wr.heap.size 40 i40 _ 10 152 Try.underlying23 hi0 hz0 hz1 hz2 rfl (by omega) _ 0 [] rfl hOwn p m cap (ts.flatMap Trk.cells) rfl (HSrc.out.keep (Keeps.of_below hHeld.1)) (trk_one ts) (by unfold maxLen; omega) (by omega) hHeld.1.size ?_
    intro v9 w9 hOwn9 hgr
    have hb9 := grown_below hHeld.1 hOwn hgr
    refine hK.out _ _ (keepN HS hb9) (fun hHeld' => ?_)
    have hBk := (hgr.block _ hBk.lt (fun e => hNe e.symm)).trans hBk
    rw [Nat.zero_add, List.nil_append] at hOwn9
    clear hOwn hgr hb9
    have hOwn := hOwn9
    clear hOwn9
    clear hK K hHeld
    have hHeld := hHeld'
    clear hHeld'
    try simp only [Act.put, List.getElem_toArray, List.getElem_cons_zero, List.getElem_cons_succ, List.setIfInBounds_toArray, List.set_cons_zero, List.set_cons_succ]
    refine wpAnyH_ready (rs := [5]) (by kernel_rfl) (by simp) ?_
    refine AllReadyH.cons rfl (fun K hK => ?_) AllReadyH.nil
    refine ite_of (by kernel_rfl) ?_
    refine wp_app _ (.tmp 19) (.tmp 21) 23 rfl wr.heap.size 40 i40 _ 10 152 Try.underlying23 hi0 hz0 hz1 hz2 rfl (by omega) _ m _ rfl hOwn _ 1 1 t.cells rfl (src_blk hBk) (trk_one1 t) (by unfold maxLen; omega) (by omega) hHeld.1.size ?_
    intro v9 w9 hOwn9 hgr
    have hb9 := grown_below hHeld.1 hOwn hgr
    refine hK.out _ _ (keepN HS hb9) (fun hHeld' => ?_)
    rw [show ts.flatMap Trk.cells ++ t.cells = (ts ++ [t]).flatMap Trk.cells by simp] at hOwn9
    clear hOwn hgr hb9 hBk
    have hOwn := hOwn9
    clear hOwn9
    clear hK K hHeld
    have hHeld := hHeld'
    clear hHeld'
    try simp only [Act.put, List.getElem_toArray, List.getElem_cons_zero, List.getElem_cons_succ, List.setIfInBounds_toArray, List.set_cons_zero, List.set_cons_succ]
    refine wpAnyH_take (i := 6) (v := ?v6b) rfl (by kernel_rfl) (by kernel_rfl) (by kernel_rfl) (fun _ _ _ h => h) (Or.inl ⟨by rfl, ?hy6b⟩) hHeld ?rest6b
    case hy6b => (intro w0 hSw; (try dsimp only at hSw); go_simp; all_goals with_reducible rfl)
    try simp only [Act.put, List.getElem_toArray, List.getElem_cons_zero, List.getElem_cons_succ, List.setIfInBounds_toArray, List.set_cons_zero, List.set_cons_succ]
    refine wpAnyH_done (by kernel_rfl) ?_ _
    refine NoPanic.normal ?_
    exact HN.out _ _ _ _ _ _ _ _ hOwn hHeld.1
end Go.Proofs.Ytihdpkeclmpehaa

namespace Go.Proofs.Ytihdpkeclmpehaa
open Go.ChangeShapes Go.WideShapes Go.ChangeAt Go.RowKit Go.Deep

/-- What is asked of a scan that is still recorded. -/
def mt (x y : Rec) : Bool := decide (y.kind = 1 ∧ y.scanner = x.scanner ∧ y.time = x.time ∧ y.label = x.label)
theorem any_take {l : List Rec} {i : Nat} {y : Rec} (h : l[i]? = some y) (f : Rec → Bool) : (l.take (i + 1)).any f = ((l.take i).any f || f y) := by
  rw [List.take_add_one, h, List.any_append]; simp
theorem TrksAt.more {W w0 : World} {base g m c : Nat} {p : Option Addr} {ts : List Trk} {t : Trk} (ho : W.ownsRow base 40 10 (.slice (some ⟨g, 0, none⟩) m c) m ((ts ++ [t]).flatMap Trk.cells)) (h1 : TrksAt w0 p ts) (h2 : TrkAt w0 t) (hk : Keeps w0 W) : TrksAt W (some ⟨g, 0, none⟩) (ts ++ [t]) :=
  ⟨EncAt.of_own (fun _ => rfl) (by omega) ho, fun x hx => by
    rcases List.mem_append.1 hx with hx | hx
    · exact (h1.2 x hx).keep hk
    · rw [List.mem_singleton.1 hx]; exact h2.keep hk⟩
set_option maxRecDepth 100000 in
set_option maxHeartbeats 4000000 in
theorem more_c (sp : Option Addr) (n cap : Nat) (sl : List Scn) (p : Option Addr) (m cap2 : Nat) (ts : List Trk) (t : Trk) (r : Rec) (w : World) (R) (hn : n ≤ maxLen) (hm : m ≤ maxLen) (hm2 : m * 152 ≤ 140737488351232) (hsl : sl.length = n) (hS : ScnsAt w sp sl) (hts : ts.length = m) (hT : TrksAt w p ts) (ht : TrkAt w t) (hst : StrsAt w r.cp r.contents) (hrl : r.contents.length ≤ maxLen)
    (hR : ∀ w', Below w.heap.size w w' → R (.returned (.bool true)) w') : Calls Try.prog 9 #[.slice sp n cap, .slice p m cap2, .agg t.cells.toArray, .agg r.cells.toArray] w R := by
  have HR := hide hR; have HS := hide hS; have HT := hide hT; have Hn := hide hsl; have Hm := hide hts; have Ht := hide ht; have Hst := hide hst; have Hrl := hide hrl
  have hcl := hide (show Rec.cells r = [.int .i64 r.scanner, .int .i64 r.number, .int .i64 r.kind, .int .i64 r.time, .string r.label, .slice r.cp r.contents.length r.cc] from rfl)
  have hct := hide (show Trk.cells t = [.string t.label0, .int .i64 t.from0, .int .i64 t.to0, .int .i64 t.class0, .int .i64 t.accept, .slice t.sp t.stops.length t.sc, .bool t.lost, .slice t.np t.since.length t.nc, .slice t.lp t.label.length t.lc, .slice t.ep t.seals.length t.ec] from rfl)
  rw [hcl.out, hct.out]
  obtain ⟨wA, hwA⟩ : ∃ wA, w.alloc (.cells #[.string t.label0, .int .i64 t.from0, .int .i64 t.to0, .int .i64 t.class0, .int .i64 t.accept, .slice t.sp t.stops.length t.sc, .bool t.lost, .slice t.np t.since.length t.nc, .slice t.lp t.label.length t.lc, .slice t.ep t.seals.length t.ec] 40) = wA := ⟨_, rfl⟩
  obtain ⟨w0, hw0⟩ : ∃ w0, wA.alloc (.cells #[.int .i64 r.scanner, .int .i64 r.number, .int .i64 r.kind, .int .i64 r.time, .string r.label, .slice r.cp r.contents.length r.cc] 31) = w0 := ⟨_, rfl⟩
  have HBA := hide (show Below w.heap.size w wA from hwA ▸ balloc (Below.refl _ _) _)
  have hBA0 : Below wA.heap.size wA w0 := hw0 ▸ balloc (Below.refl _ _) _
  have HB0 := hide (bseq HBA.out hBA0)
  have kt : Blk wA w.heap.size #[.string t.label0, .int .i64 t.from0, .int .i64 t.to0, .int .i64 t.class0, .int .i64 t.accept, .slice t.sp t.stops.length t.sc, .bool t.lost, .slice t.np t.since.length t.nc, .slice t.lp t.label.length t.lc, .slice t.ep t.seals.length t.ec] 40 := hwA ▸ Blk.new _ _ _
  have kt0 := kt.next hBA0
  have kr : Blk w0 wA.heap.size #[.int .i64 r.scanner, .int .i64 r.number, .int .i64 r.kind, .int .i64 r.time, .string r.label, .slice r.cp r.contents.length r.cc] 31 := hw0 ▸ Blk.new _ _ _
  have HYt : Hid (∀ w', Below w0.heap.size w0 w' → w'.cell? ⟨w.heap.size, 0, none⟩ = some (.string t.label0) ∧ w'.cell? ⟨w.heap.size, 1, none⟩ = some (.int .i64 t.from0) ∧ w'.cell? ⟨w.heap.size, 2, none⟩ = some (.int .i64 t.to0) ∧ w'.cell? ⟨w.heap.size, 3, none⟩ = some (.int .i64 t.class0) ∧ w'.cell? ⟨w.heap.size, 4, none⟩ = some (.int .i64 t.accept) ∧ w'.cell? ⟨w.heap.size, 5, none⟩ = some (.slice t.sp t.stops.length t.sc) ∧ w'.cell? ⟨w.heap.size, 6, none⟩ = some (.bool t.lost) ∧ w'.cell? ⟨w.heap.size, 7, none⟩ = some (.slice t.np t.since.length t.nc) ∧ w'.cell? ⟨w.heap.size, 8, none⟩ = some (.slice t.lp t.label.length t.lc) ∧ w'.cell? ⟨w.heap.size, 9, none⟩ = some (.slice t.ep t.seals.length t.ec)) :=
    hide (fun w' h => ⟨cell_later h (kt0.cell (k := 0) rfl), cell_later h (kt0.cell (k := 1) rfl), cell_later h (kt0.cell (k := 2) rfl), cell_later h (kt0.cell (k := 3) rfl), cell_later h (kt0.cell (k := 4) rfl), cell_later h (kt0.cell (k := 5) rfl), cell_later h (kt0.cell (k := 6) rfl), cell_later h (kt0.cell (k := 7) rfl), cell_later h (kt0.cell (k := 8) rfl), cell_later h (kt0.cell (k := 9) rfl)⟩)
  have HYr : Hid (∀ w', Below w0.heap.size w0 w' → w'.cell? ⟨wA.heap.size, 0, none⟩ = some (.int .i64 r.scanner) ∧ w'.cell? ⟨wA.heap.size, 1, none⟩ = some (.int .i64 r.number) ∧ w'.cell? ⟨wA.heap.size, 2, none⟩ = some (.int .i64 r.kind) ∧ w'.cell? ⟨wA.heap.size, 3, none⟩ = some (.int .i64 r.time) ∧ w'.cell? ⟨wA.heap.size, 4, none⟩ = some (.string r.label) ∧ w'.cell? ⟨wA.heap.size, 5, none⟩ = some (.slice r.cp r.contents.length r.cc)) :=
    hide (fun w' h => ⟨cell_later h (kr.cell (k := 0) rfl), cell_later h (kr.cell (k := 1) rfl), cell_later h (kr.cell (k := 2) rfl), cell_later h (kr.cell (k := 3) rfl), cell_later h (kr.cell (k := 4) rfl), cell_later h (kr.cell (k := 5) rfl)⟩)
  clear hR hS hT hsl hts ht hst hrl kt kt0 kr hBA0
  go_enter Try.func9, Try.ntmps9
  go_wp2_with (go_at_call 10; refine Stop.out ?_)
  refine Stop.go (head_c _ _ ?_)
  intro w1 hb1
  have HB1 := hide hb1
  clear hb1
  go_wp2
  refine more_reg2 _ p m cap2 w.heap.size ts t w1 hm2 Hm (hide (HT.out.keep (Keeps.of_below (bseq HB0.out HB1.out)))) (hide (HYt.out _ HB1.out)) (hide ?_)
  intro v w2 v17 v18 v19 v20 v21 v22 hown hb2
  have HB2 := hide (bseq HB1.out hb2)
  obtain ⟨g, cap9, rfl, hg1, hg2⟩ := own_form hown (by omega)
  have HT2 := hide (TrksAt.more hown HT.out Ht.out (Keeps.of_below (bseq HB0.out HB2.out)))
  have Hm1 : Hid ((ts ++ [t]).length = m + 1) := hide (by rw [List.length_append, Hm.out]; rfl)
  clear hown hb2 hg1 hg2 hw0 hwA
  go_wp2_with (go_at_call 11; refine Stop.out ?_)
  refine Stop.go (right_c sp n cap sl (some ⟨g, 0, none⟩) (m + 1) cap9 (ts ++ [t]) w2 _ hn (by unfold maxLen; omega) Hn.out (HS.out.keep (Keeps.of_below (bseq HB0.out HB2.out))) Hm1.out HT2.out ?_)
  intro b w3 hb3 hok
  have HT3 := hide (HT2.out.keep (Keeps.of_below hb3))
  have HB3 := hide (bseq HB2.out hb3)
  clear hb3
  cases b with
  | false =>
    clear hok
    go_wp2
    exact HR.out _ (bseq HB0.out HB3.out)
  | true =>
    have HO := hide (hok rfl)
    have HO1 : Hid (TksOk (ts.map Trk.tk)) := hide ⟨by have := HO.out.2.1; rw [List.length_map, Hm1.out] at this; rw [List.length_map, Hm.out]; omega, fun x hx => HO.out.2.2 x (by rw [List.map_append]; exact List.mem_append_left _ hx)⟩
    have hm7 : m ≤ 7 := by have := HO.out.2.1; rw [List.length_map, Hm1.out] at this; omega
    clear hok
    go_wp2_with (go_at_call 12; refine Stop.out ?_)
    refine Stop.go (records_c sp n cap sl p m cap2 ts w3 _ Hn.out (HS.out.keep (Keeps.of_below (bseq HB0.out HB3.out))) HO.out.1 Hm.out (HT.out.keep (Keeps.of_below (bseq HB0.out HB3.out))) HO1.out ?_)
    intro w4 qa ca ra hb4 hra hpa
    have HB4 := hide (bseq HB3.out hb4); have HT4 := hide (HT3.out.keep (Keeps.of_below hb4))
    have HRa := hide hra; have HPa := hide hpa
    have hNa : ra.length ≤ 480 := by have := recs_len (l := sl) HO1.out; rw [← hpa, List.length_map] at this; exact this
    clear hb4 hra hpa
    go_wp2_with (go_at_call 12; refine Stop.out ?_)
    refine Stop.go (records_c sp n cap sl (some ⟨g, 0, none⟩) (m + 1) cap9 (ts ++ [t]) w4 _ Hn.out (HS.out.keep (Keeps.of_below (bseq HB0.out HB4.out))) HO.out.1 Hm1.out HT4.out HO.out.2 ?_)
    intro w5 qm cm rm hb5 hrm hpm
    have HB5 := hide (bseq HB4.out hb5); have HT5 := hide (HT4.out.keep (Keeps.of_below hb5))
    have HRa5 := hide (HRa.out.keep (Keeps.of_below hb5))
    have HRm := hide hrm; have HPm := hide hpm
    have hNm : rm.length ≤ 480 := by have := recs_len (l := sl) HO.out.2; rw [← hpm, List.length_map] at this; exact this
    obtain ⟨N, hNe⟩ : ∃ N, ra.length = N := ⟨_, rfl⟩
    obtain ⟨M, hMe⟩ : ∃ M, rm.length = M := ⟨_, rfl⟩
    have HN := hide hNe; have HM := hide hMe
    rw [hNe] at hNa ⊢
    rw [hMe] at hNm ⊢
    clear hb5 hrm hpm hNe hMe HRa HT4 HT3 HT2
    have Hmore : Hid (∀ x ∈ ra, x.kind = 1 → rm.any (mt x) = true) := hide (fun x hx hk => by
      have hx2 : x.rp ∈ recordsP sl (ts.map Trk.tk) := by rw [← HPa.out]; exact List.mem_map_of_mem hx
      obtain ⟨q, hq, h1, h2, h3, h4⟩ := rec_more (us := [t.tk]) hx2 hk
      have hq2 : q ∈ rm.map Rec.rp := by rw [HPm.out, List.map_append]; exact hq
      obtain ⟨y, hy, rfl⟩ := List.mem_map.1 hq2
      rw [List.any_eq_true]
      exact ⟨y, hy, by unfold mt; rw [decide_eq_true_eq]; exact ⟨h1, h2, h3, h4⟩⟩)
    go_wp2
    go_loopw [13] (fun si wr => ∃ i : Nat, i ≤ N ∧ si = .int .i64 i ∧ Hid (Below w5.heap.size w5 wr)) (fun si _ => N - (intOf si).toNat)
    case atStart => exact ⟨0, Nat.zero_le _, rfl, hide (Below.refl _ _)⟩
    case round =>
      obtain ⟨i, hi, rfl, HBi⟩ := hrel
      by_cases hlt : i < N
      · obtain ⟨b, o, x, rfl, hx, hsx, X0, X1, X2, X3, X4, X5⟩ := (HRa5.out.keep (Keeps.of_below HBi.out)).rec_ (i := i) (by rw [HN.out]; exact hlt)
        have hmem := List.mem_of_getElem? hx
        have Hmem := hide hmem
        have hiI : (i : Int) < (N : Int) := by omega
        clear hx hsx hmem X1 X5
        by_cases hk1 : x.kind = 1
        rotate_left
        · have k1 : (x.kind != 1) = true := by simp [hk1]
          clear hk1 X0 X3 X4
          go_wp2
          go_roundw
          case rel => exact ⟨i + 1, by omega, by go_num, HBi⟩
          case measure => simp [intOf]; omega
        have k1 : (x.kind != 1) = false := by simp [hk1]
        have Hsome := hide (Hmore.out x Hmem.out hk1)
        clear hk1
        go_wp2
        go_loopw [14, 15] (fun sv sj wq => ∃ (j : Nat) (sm : Bool), j ≤ M ∧ sv = .bool sm ∧ sj = .int .i64 j ∧ Hid ((rm.take j).any (mt x) = sm) ∧ Hid (Below wr.heap.size wr wq)) (fun _ sj _ => M - (intOf sj).toNat)
        case atStart => exact ⟨0, false, Nat.zero_le _, rfl, rfl, hide (by simp), hide (Below.refl _ _)⟩
        case round =>
          obtain ⟨j, sm, hj, rfl, rfl, HS2, HBj⟩ := hrel
          by_cases hlk : j < M
          · obtain ⟨b2, o2, y, rfl, hy, hsy, y0, y1, y2, y3, y4, y5⟩ := (HRm.out.keep (Keeps.of_below (bseq HBi.out HBj.out))).rec_ (i := j) (by rw [HM.out]; exact hlk)
            have Hy := hide hy
            have HA := hide (any_take Hy.out (mt x))
            have hjI : (j : Int) < (M : Int) := by omega
            have x0 := cell_later HBj.out X0
            have x3 := cell_later HBj.out X3
            have x4 := cell_later HBj.out X4
            clear hy hsy X0 X2 X3 X4
            cases sm with
            | true =>
              have HE : Hid ((rm.take (j + 1)).any (mt x) = true) := hide (by rw [HA.out, HS2.out]; rfl)
              go_wp2
              go_quiet (fail)
              go_wp2
              go_roundw
              case rel => exact ⟨j + 1, true, by omega, by simp, by go_num, HE, hide (below_drewN' HBj.out _)⟩
              case measure => simp [intOf]; omega
            | false =>
              have HZ := hide (show (rm.take (j + 1)).any (mt x) = mt x y by rw [HA.out, HS2.out]; rfl)
              by_cases q1 : y.kind = 1
              rotate_left
              · have e1 : (y.kind == 1) = false := by simp [q1]
                have HE : Hid ((rm.take (j + 1)).any (mt x) = false) := hide (by rw [HZ.out]; unfold mt; simp [q1])
                clear q1
                go_wp2
                go_quiet (fail)
                go_wp2
                go_roundw
                case rel => exact ⟨j + 1, false, by omega, by simp, by go_num, HE, hide (below_drewN' HBj.out _)⟩
                case measure => simp [intOf]; omega
              have e1 : (y.kind == 1) = true := by simp [q1]
              by_cases q2 : y.scanner = x.scanner
              rotate_left
              · have e2 : (y.scanner == x.scanner) = false := by simp [q2]
                have HE : Hid ((rm.take (j + 1)).any (mt x) = false) := hide (by rw [HZ.out]; unfold mt; simp [q2])
                clear q1 q2
                go_wp2
                go_quiet (fail)
                go_wp2
                go_roundw
                case rel => exact ⟨j + 1, false, by omega, by simp, by go_num, HE, hide (below_drewN' HBj.out _)⟩
                case measure => simp [intOf]; omega
              have e2 : (y.scanner == x.scanner) = true := by simp [q2]
              by_cases q3 : y.time = x.time
              rotate_left
              · have e3 : (y.time == x.time) = false := by simp [q3]
                have HE : Hid ((rm.take (j + 1)).any (mt x) = false) := hide (by rw [HZ.out]; unfold mt; simp [q3])
                clear q1 q2 q3
                go_wp2
                go_quiet (fail)
                go_wp2
                go_roundw
                case rel => exact ⟨j + 1, false, by omega, by simp, by go_num, HE, hide (below_drewN' HBj.out _)⟩
                case measure => simp [intOf]; omega
              have e3 : (y.time == x.time) = true := by simp [q3]
              by_cases q4 : y.label = x.label
              rotate_left
              · have e4 := str_ne q4
                have HE : Hid ((rm.take (j + 1)).any (mt x) = false) := hide (by rw [HZ.out]; unfold mt; simp [q4])
                clear q1 q2 q3 q4
                go_wp2
                go_quiet (fail)
                go_wp2
                go_roundw
                case rel => exact ⟨j + 1, false, by omega, by simp, by go_num, HE, hide (below_drewN' HBj.out _)⟩
                case measure => simp [intOf]; omega
              have e4 := str_eq q4
              have HE : Hid ((rm.take (j + 1)).any (mt x) = true) := hide (by rw [HZ.out]; unfold mt; simp [q1, q2, q3, q4])
              clear q1 q2 q3 q4
              go_wp2
              go_quiet (fail)
              go_wp2
              go_roundw
              case rel => exact ⟨j + 1, true, by omega, by simp, by go_num, HE, hide (below_drewN' HBj.out _)⟩
              case measure => simp [intOf]; omega
          · obtain rfl : j = M := by omega
            obtain rfl : sm = true := by
              rw [← HS2.out, List.take_of_length_le (by rw [HM.out]; exact Nat.le_refl _)]
              exact Hsome.out
            have HB4 := hide (bseq HBi.out HBj.out)
            clear X0 X2 X3 X4
            go_wp2
            go_roundw
            case rel => exact ⟨i + 1, by omega, by go_num, HB4⟩
            case measure => simp [intOf]; omega
      · obtain rfl : i = N := by omega
        have HB6 := hide (bseq HB5.out HBi.out)
        obtain ⟨r0, r1, r2, r3, r4, r5⟩ := HYr.out _ HB6.out
        by_cases hk1 : r.kind = 1
        rotate_left
        · have k1 : (r.kind != 1) = true := by simp [hk1]
          have HF := hide (HR.out _ (bseq HB0.out HB6.out))
          clear hk1
          go_wp2
          exact HF.out
        have k1 : (r.kind != 1) = false := by simp [hk1]
        have Hk1 := hide hk1
        have HT6 := hide (HT5.out.keep (Keeps.of_below HBi.out))
        clear hk1
        go_wp2_with (go_at_call 13; refine Stop.out ?_)
        refine Stop.go (true_c sp n cap sl p m cap2 ts r _ _ Hn.out (HS.out.keep (Keeps.of_below (bseq HB0.out HB6.out))) HO.out.1 Hm.out (HT.out.keep (Keeps.of_below (bseq HB0.out HB6.out))) HO1.out (Hst.out.keep (Keeps.of_below (bseq HB0.out HB6.out))) Hrl.out ?_)
        intro v w7 hb7 hiff
        have HB7 := hide (bseq HB6.out hb7)
        have Hif := hide hiff
        have HT7 := hide (HT6.out.keep (Keeps.of_below hb7))
        clear r0 r1 r2 r3 r4 r5 hb7 hiff
        obtain ⟨r0, r1, r2, r3, r4, r5⟩ := HYr.out _ HB7.out
        cases v with
        | false =>
          have HF := hide (HR.out _ (bseq HB0.out HB7.out))
          clear r0 r1 r2 r3 r4 r5
          go_wp2
          exact HF.out
        | true =>
          have Htw := hide (true_more (us := [t.tk]) (Hif.out.1 rfl) Hk1.out)
          go_wp2_with (go_at_call 13; refine Stop.out ?_)
          refine Stop.go (true_c sp n cap sl (some ⟨g, 0, none⟩) (m + 1) cap9 (ts ++ [t]) r _ _ Hn.out (HS.out.keep (Keeps.of_below (bseq HB0.out HB7.out))) HO.out.1 Hm1.out HT7.out HO.out.2 (Hst.out.keep (Keeps.of_below (bseq HB0.out HB7.out))) Hrl.out ?_)
          intro v2 w8 hb8 hiff2
          obtain rfl : v2 = true := hiff2.2 (by rw [List.map_append]; exact Htw.out)
          have HF := hide (HR.out _ (bseq HB0.out (bseq HB7.out hb8)))
          clear hb8 hiff2 r0 r1 r2 r3 r4 r5
          go_wp2
          exact HF.out
theorem more_w (a0 : Option Addr) (n0 c0 : Nat) (l0 : List Scn) (a1 : Option Addr) (n1 c1 : Nat) (l1 : List Trk) (x2 : Trk) (x3 : Rec) (W : World) (R : Ending → World → Prop) (hl0 : l0.length = n0) (hm0 : n0 ≤ maxLen) (hi0 : ScnsAt W a0 l0) (hz0 : n0 ≤ c0) (hw0 : True) (hl1 : l1.length = n1) (hm1 : n1 ≤ maxLen) (hi1 : TrksAt W a1 l1) (hz1 : n1 ≤ c1) (hw1 : c1 * 152 ≤ reachBytes)
    (hw2 : TrkAt W x2) (hw3 : RecAt W x3)
    (hR : ∀ w', Below W.heap.size W w' → R (.returned (.bool true)) w') : Calls Try.prog 9 #[.slice a0 n0 c0, .slice a1 n1 c1, .agg x2.cells.toArray, .agg x3.cells.toArray] W R :=
  more_c a0 n0 c0 l0 a1 n1 c1 l1 x2 x3 W R hm0 hm1 (by unfold reachBytes at hw1; omega) hl0 hi0 hl1 hi1 hw2 hw3.1 hw3.2 hR

set_option maxRecDepth 100000 in
theorem scannerMore_holds_lifted (os : Os) (started : os.Started) (H : Type) (enc : TypeId × Value → H) :
    ReturnsInHanded {} Try.checked os 9 .any (Rows.scannerMoreSpec.pre6 enc Try.prog Try.f9 Rows.scannerMoreRow.domain false) (Rows.scannerMoreSpec.post enc Try.prog Try.f9 false true false false) := by
  refine returnsInHanded_of_change_sized (C := Try.checked) Try.own started (by kernel_rfl) Try.func9
    (ChangeSpec.witness6 (enc := enc) (C := Try.checked) false ⟨#[], #[.slice none 0 0, .slice none 0 0, .agg #[.string ⟨#[]⟩, .int .i64 0, .int .i64 0, .int .i64 0, .int .i64 0, .slice none 0 0, .bool false, .slice none 0 0, .slice none 0 0, .slice none 0 0], .agg #[.int .i64 0, .int .i64 0, .int .i64 0, .int .i64 0, .string ⟨#[]⟩, .slice none 0 0]], []⟩ 8 (by kernel_rfl) (by kernel_rfl) (by kernel_rfl) (by kernel_rfl)) ?_
  intro W base args ds gs before hval0 hW hcnd hsz0 _
  have hsz : (DataW.weightsEach Try.prog (Try.f9.params.toList ++ Rows.scannerMoreSpec.plain.varTypes Try.prog) (ds ++ gs)).all (· ≤ reachBytes) = true := hsz0
  have hval : ∀ (j : Nat) t v, Try.f9.params[j]? = some t → args[j]? = some v → Value.okWide Try.prog W .any base t v := hval0
  have hW' := hW
  obtain ⟨p, q, hA0, hV, rfl, hfz, hnd⟩ := hW
  have hA : DataW.TrodAll enc Try.prog W 0 (fun _ => true) true Try.f9.params.toList args.toList ds p := hA0
  have hA1 := hA
  rw [Try.params9] at hA hval hsz
  obtain ⟨v0, vs0, d0, ds0, p0, q0, hargs, rfl, rfl, h0, r0⟩ := trodAll_cons hA
  obtain ⟨v1, vs1, d1, ds1, p1, q1, rfl, rfl, rfl, h1, r1⟩ := trodAll_cons r0
  obtain ⟨v2, vs2, d2, ds2, p2, q2, rfl, rfl, rfl, h2, r2⟩ := trodAll_cons r1
  obtain ⟨v3, vs3, d3, ds3, p3, q3, rfl, rfl, rfl, h3, r3⟩ := trodAll_cons r2
  obtain ⟨rfl, rfl, rfl⟩ := trodAll_nil r3
  obtain rfl : args = #[v0, v1, v2, v3] := by cases args; simp_all
  obtain ⟨rfl, rfl⟩ := trodVars_none hV
  obtain ⟨a0, n0, c0, l0, rfl, hl0, hm0, hi0, hz0, hw0⟩ := open_scns (hval 0 22 v0 rfl rfl) h0
  obtain ⟨a1, n1, c1, l1, rfl, hl1, hm1, hi1, hz1, hw1⟩ := openW_trks (hval 1 23 v1 rfl rfl) h1 (fun n hn => by have := List.all_eq_true.1 hsz n (DataW.weights_mem_each (j := 1) (t := 23) rfl rfl n hn); simpa using this)
  obtain ⟨x2, rfl, hw2⟩ := open_trk (hval 2 40 v2 rfl rfl) h2
  obtain ⟨x3, rfl, hw3⟩ := open_rec (hval 3 31 v3 rfl rfl) h3
  refine more_w a0 n0 c0 l0 a1 n1 c1 l1 x2 x3 W _ hl0 hm0 hi0 hz0 hw0 hl1 hm1 hi1 hz1 hw1 hw2 hw3 fun W' bel => ?_
  exact ⟨_, rfl, law_post Try.laidOut bel rfl hW' hA1 (by kernel_rfl) rfl Try.underlying4 rfl rfl rfl⟩

theorem scannerMore_holds : Rows.ScannerMoreSaid :=
  OpenClaim.holds_of_wide 9 Try.f9 rfl rfl rfl rfl rfl rfl rfl ⟨rfl, rfl, rfl, rfl, rfl⟩ rfl rfl rfl rfl rfl (by kernel_rfl) Try.func9 (by kernel_rfl)
    (of_decide_eq_true (by kernel_rfl)) (by unfold Func.isWrapper; rw [if_neg (of_decide_eq_false (by kernel_rfl))]; exact ⟨rfl, rfl⟩)
    (fun os started H enc _ => scannerMore_holds_lifted os started H enc)

end Go.Proofs.Ytihdpkeclmpehaa
