import Derived.Test.YtkbdkkllfaljlaaC6
set_option linter.unusedVariables false
set_option linter.unusedSimpArgs false
namespace Go.Proofs.Ytkbdkkllfaljlaa
open Go.RowKit Go.Sort

/-- Streets that lie in memory, with their aliases. -/
def StsAt (w : World) (p : Option Addr) (l : List Sv) : Prop :=
  0 < l.length → ∃ b o, p = some ⟨b, o, none⟩ ∧ ∀ i x, l[i]? = some x → (∀ c v, x.cells[c]? = some v → w.cell? ⟨b, o + i * 8 + c, none⟩ = some v) ∧ StrsAt w x.ap x.al
theorem StsAt.keep {w w' : World} {p : Option Addr} {l : List Sv} (hk : Keeps w w') (h : StsAt w p l) : StsAt w' p l := fun hl => by
  obtain ⟨b, o, hp, hc⟩ := h hl
  exact ⟨b, o, hp, fun i x hx => ⟨fun c v hv => hk _ _ ((hc i x hx).1 c v hv), (hc i x hx).2.keep hk⟩⟩
/-- Has the street the number, and is it open? -/
def fits (s : Sv) (a : Av) : Bool := s.opn && !decide (a.number < s.low) && !decide (s.high < a.number)
/-- The candidates of the first streets, in their order. -/
def found (a : Av) (most : Int) : Nat → List Sv → List Cnd
  | _, [] => []
  | i, s :: t => (match costP s a with
      | some n => if fits s a && decide (n ≤ most) then [⟨i, wrap64 (a.number - s.shift), n⟩] else []
      | none => []) ++ found a most (i + 1) t

theorem StsAt.at_ {w : World} {p : Option Addr} {l : List Sv} (h : StsAt w p l) {i : Nat} {x : Sv} (hx : l[i]? = some x) : ∃ b o, p = some ⟨b, o, none⟩ ∧
    w.cell? ⟨b, o + i * 8, none⟩ = some (.string x.code) ∧ w.cell? ⟨b, o + i * 8 + 1, none⟩ = some (.string x.town) ∧ w.cell? ⟨b, o + i * 8 + 2, none⟩ = some (.string x.name) ∧ w.cell? ⟨b, o + i * 8 + 3, none⟩ = some (.slice x.ap x.al.length x.ac) ∧
    w.cell? ⟨b, o + i * 8 + 4, none⟩ = some (.int .i64 x.low) ∧ w.cell? ⟨b, o + i * 8 + 5, none⟩ = some (.int .i64 x.high) ∧ w.cell? ⟨b, o + i * 8 + 6, none⟩ = some (.int .i64 x.shift) ∧ w.cell? ⟨b, o + i * 8 + 7, none⟩ = some (.bool x.opn) ∧ StrsAt w x.ap x.al := by
  obtain ⟨b, o, hp, hc⟩ := h (by have := (List.getElem?_eq_some_iff.1 hx).1; omega)
  have h1 := (hc i x hx).1
  exact ⟨b, o, hp, h1 0 _ rfl, h1 1 _ rfl, h1 2 _ rfl, h1 3 _ rfl, h1 4 _ rfl, h1 5 _ rfl, h1 6 _ rfl, h1 7 _ rfl, (hc i x hx).2⟩
/-- The box of the address. -/
structure AB (a : Av) (w wr : World) : Prop where
  below : Below w.heap.size w wr
  lt : w.heap.size < wr.heap.size
  a0 : wr.cell? ⟨w.heap.size, 0, none⟩ = some (.string a.person)
  a1 : wr.cell? ⟨w.heap.size, 1, none⟩ = some (.string a.street)
  a2 : wr.cell? ⟨w.heap.size, 2, none⟩ = some (.int .i64 a.number)
  a3 : wr.cell? ⟨w.heap.size, 3, none⟩ = some (.string a.code)
  a4 : wr.cell? ⟨w.heap.size, 4, none⟩ = some (.string a.town)
theorem AB.later {a : Av} {w wr w' : World} (h : AB a w wr) (hb : Below wr.heap.size wr w') : AB a w w' :=
  ⟨bseq h.below hb, Nat.lt_of_lt_of_le h.lt hb.size, cell_later hb h.a0, cell_later hb h.a1, cell_later hb h.a2, cell_later hb h.a3, cell_later hb h.a4⟩
theorem AB.grown {a : Av} {w wr w' : World} {row : Option Nat} (h : AB a w wr) (hg : wr.grownBy w' row) (hrow : ∀ j, row = some j → w.heap.size + 1 ≤ j) : AB a w w' := by
  have h2 : ∀ i v, wr.cell? ⟨w.heap.size, i, none⟩ = some v → w'.cell? ⟨w.heap.size, i, none⟩ = some v := fun i v hv => (World.cell?_of_block (w := wr) (hg.block _ h.lt (fun e => Nat.lt_irrefl _ (hrow _ e.symm)))).trans hv
  exact ⟨h.below.grown hg h.below.size (fun k hk => Nat.le_of_succ_le (hrow k hk)), Nat.lt_of_lt_of_le h.lt hg.size, h2 _ _ h.a0, h2 _ _ h.a1, h2 _ _ h.a2, h2 _ _ h.a3, h2 _ _ h.a4⟩
theorem AB.new (a : Av) (w : World) : AB a w (w.alloc (.cells a.cells.toArray 24)) := by
  have h2 : ∀ i v, a.cells[i]? = some v → (w.alloc (.cells a.cells.toArray 24)).cell? ⟨w.heap.size, i, none⟩ = some v := fun i v hi => by rw [cell_new]; simpa using hi
  exact ⟨balloc (Below.refl _ _) _, by simp, h2 0 _ rfl, h2 1 _ rfl, h2 2 _ rfl, h2 3 _ rfl, h2 4 _ rfl⟩

theorem Try.info47 : (Try.prog.info? 47).map (fun i => (i.zero, i.size, i.bytes)) = some (some (.agg #[.int .i64 0, .int .i64 0, .int .i64 0]), 3, 24) := by kernel_rfl
theorem info_parts {P : Program} {e : TypeId} {z : Value} {size bytes : Nat} (h : (P.info? e).map (fun i => (i.zero, i.size, i.bytes)) = some (some z, size, bytes)) : ∃ i, P.info? e = some i ∧ i.zero = some z ∧ i.size = size ∧ i.bytes = bytes := by
  obtain ⟨i, hi, h⟩ := Option.map_eq_some_iff.1 h
  simp only [Prod.mk.injEq] at h
  exact ⟨i, hi, h.1, h.2.1, h.2.2⟩
theorem cost_open_c (s : Sv) (a : Av) (w : World) (R) (ho : s.opn = true) (hal : StrsAt w s.ap s.al) (hn : s.al.length ≤ 100000) (hR : ∀ w', Below w.heap.size w w' → R (.returned (costV s a)) w') :
    Calls Try.prog 35 #[.agg #[.string s.code, .string s.town, .string s.name, .slice s.ap s.al.length s.ac, .int .i64 s.low, .int .i64 s.high, .int .i64 s.shift, .bool true], .agg #[.string a.person, .string a.street, .int .i64 a.number, .string a.code, .string a.town]] w R := by
  have h := cost_c s a w R hal hn hR
  unfold Sv.cells at h
  rw [ho] at h
  exact h
theorem cnd_src (W : World) (x : Cnd) (t : TypeId) : ∀ j u, x.cells[j]? = some u → (W.alloc (.cells #[.int .i64 x.i, .int .i64 x.num, .int .i64 x.cost] t)).cell? ((⟨W.heap.size, 0, none⟩ : Addr).add j) = some u := by
  intro j u hj
  rcases j with _ | _ | _ | j <;> simp [Cnd.cells, Cnd.c0, Cnd.c1, Cnd.c2] at hj <;> subst hj <;> simp [Addr.add]
theorem cnd_one (x : Cnd) : ∀ u ∈ x.cells, u.oneCell' = true := by
  intro u hu
  simp [Cnd.cells, Cnd.c0, Cnd.c1, Cnd.c2] at hu
  rcases hu with rfl | rfl | rfl <;> rfl
/-- What one street adds. -/
def one (a : Av) (most : Int) (i : Nat) (s : Sv) : List Cnd := match costP s a with
  | some n => if fits s a && decide (n ≤ most) then [⟨i, wrap64 (a.number - s.shift), n⟩] else []
  | none => []
theorem found_snoc (a : Av) (most : Int) (x : Sv) : ∀ (l : List Sv) (i : Nat), found a most i (l ++ [x]) = found a most i l ++ one a most (i + l.length) x
  | [], i => by simp [found, one]
  | s :: t, i => by
    rw [List.cons_append, found, found, found_snoc a most x t (i + 1), List.append_assoc, List.length_cons, show i + 1 + t.length = i + (t.length + 1) by omega]
theorem found_len (a : Av) (most : Int) : ∀ (l : List Sv) (i : Nat), (found a most i l).length ≤ l.length
  | [], i => by simp [found]
  | s :: t, i => by
    have := found_len a most t (i + 1)
    rw [found, List.length_append, List.length_cons]
    have h : (match costP s a with | some n => if fits s a && decide (n ≤ most) then [(⟨i, wrap64 (a.number - s.shift), n⟩ : Cnd)] else [] | none => []).length ≤ 1 := by
      split
      · split <;> simp
      · simp
    omega
theorem found_ge (a : Av) (most : Int) : ∀ (l : List Sv) (i : Nat), ∀ x ∈ found a most i l, i ≤ x.i
  | [], i => by simp [found]
  | s :: t, i => by
    intro x hx
    rw [found, List.mem_append] at hx
    rcases hx with hx | hx
    · split at hx
      · split at hx
        · simp at hx; subst hx; exact Nat.le_refl _
        · simp at hx
      · simp at hx
    · have := found_ge a most t (i + 1) x hx; omega
theorem found_tags (a : Av) (most : Int) : ∀ (l : List Sv) (i : Nat), (found a most i l).Pairwise (fun x y => x.i < y.i)
  | [], i => by simp [found]
  | s :: t, i => by
    rw [found, List.pairwise_append]
    refine ⟨?_, found_tags a most t (i + 1), fun x hx y hy => ?_⟩
    · split
      · split <;> simp
      · simp
    · have h1 := found_ge a most t (i + 1) y hy
      split at hx
      · split at hx
        · simp at hx; subst hx; show i < y.i; omega
        · simp at hx
      · simp at hx

theorem insNil_c (v : Value) (f : Value) (w : World) (R) (hR : R (.returned (.tuple #[])) w) : Calls Try.prog 51 #[v, .int .i64 0, .int .i64 0, f] w R := by
  have HR := hide hR; clear hR
  go_enter Try.func51, Try.ntmps51
  go_wp2
  go_loop [8] (fun i => i = .int .i64 1) (fun _ => 0)
  case atStart => rfl
  case round =>
    subst hrel
    go_wp2
    go_end0
    exact HR.out
theorem sortNil_c (q : Option Addr) (c : Nat) (w : World) (R) (hR : R (.returned (.tuple #[])) w) : Calls Try.prog 36 #[.slice q 0 c, .func (.func 37) #[] #[]] w R := by
  have HR := hide hR; clear hR
  have H44 : ∀ R, R (.returned (.tuple #[])) w → Calls Try.prog 44 #[.slice q 0 c, .int .i64 0, .func (.func 37) #[] #[]] w R := by
    intro R hR
    have HR := hide hR; clear hR
    go_enter Try.func44, Try.ntmps44
    go_wp2
    go_loop [7, 8] (fun a b => a = .int .i64 0 ∧ b = .int .i64 20) (fun _ _ => 0)
    case atStart => exact ⟨rfl, rfl⟩
    case round =>
      obtain ⟨rfl, rfl⟩ := hrel
      go_wp2_with (go_at_call 51; refine insNil_c _ _ _ _ ?_)
      go_loop [6] (fun a => a = .int .i64 20) (fun _ => 0)
      case atStart => rfl
      case round =>
        subst hrel
        go_wp2
        go_end0
        exact HR.out
  go_enter Try.func36, Try.ntmps36
  go_wp2_with (go_at_call 44; refine H44 _ ?_)
  go_end0
  exact HR.out

set_option maxRecDepth 100000 in
set_option maxHeartbeats 4000000 in
theorem candidates_c (p : Option Addr) (n cap : Nat) (l : List Sv) (a : Av) (most : Int) (w : World) (R) (hn : l.length = n) (hl : n ≤ 100000) (h : StsAt w p l) (hal' : ∀ s ∈ l, s.al.length ≤ 100000) (hmost : (Lit.int .i64 most).wf = true)
    (hR : ∀ q c M w', Below w.heap.size w w' → w'.ownsRow w.heap.size 47 3 (.slice q M.length c) M.length (M.flatMap Cnd.cells) → (most < 0 ∨ 6 < most → M = []) → (0 ≤ most ∧ most ≤ 6 → M.Perm (found a most 0 l) ∧ Srt Cnd.key Cnd.tag M) → R (.returned (.slice q M.length c)) w') :
    Calls Try.prog 19 #[.slice p n cap, .agg a.cells.toArray, .int .i64 most] w R := by
  have HR := hide hR; clear hR
  obtain ⟨i0, hi, hz0, hz1, hz2⟩ := info_parts Try.info47
  unfold Av.cells
  by_cases hm : most < 0 ∨ 6 < most
  · have HR1 := HR.out none 0 [] _ (balloc (Below.refl w.heap.size w) (.cells a.cells.toArray 24)) (World.ownsRow_nil _ _ _ _) (fun _ => rfl) (fun h => by omega)
    have HR2 := hide HR1
    clear HR1
    rcases hm with hm | hm
    · go_enter Try.func19, Try.ntmps19
      go_wp2
      exact HR2.out
    · have hm0 : ¬ most < 0 := by omega
      go_enter Try.func19, Try.ntmps19
      go_wp2
      exact HR2.out
  · have hm0 : ¬ most < 0 := by omega
    have hm6 : ¬ 6 < most := by omega
    go_enter Try.func19, Try.ntmps19
    have A0 := hide (AB.new a w)
    unfold Av.cells at A0
    go_wp2
    generalize w.alloc _ = w1 at *
    go_loopw [7, 20] (fun v i wr => ∃ (k : Nat) (q : Option Addr) (c : Nat) (fs : List Cnd), k ≤ n ∧ i = .int .i64 k ∧ v = .slice q fs.length c ∧ Hid (fs = found a most 0 (l.take k)) ∧ Hid (wr.ownsRow (w.heap.size + 1) 47 3 (.slice q fs.length c) fs.length (fs.flatMap Cnd.cells)) ∧ Hid (AB a w wr)) (fun _ i _ => n - (intOf i).toNat)
    case atStart => exact ⟨0, none, 0, [], Nat.zero_le _, rfl, rfl, hide rfl, hide (World.ownsRow_nil _ _ _ _), A0⟩
    case round =>
      clear A0
      obtain ⟨k, q, c, fs, hk, rfl, rfl, hfs, P, A⟩ := hrel
      by_cases hlt : k < n
      · obtain ⟨x, hx⟩ : ∃ x, l[k]? = some x := ⟨l[k], List.getElem?_eq_getElem (by omega)⟩
        obtain ⟨b, o, rfl, q0, q1, q2, q3, q4, q5, q6, q7, hal⟩ := (h.keep (Keeps.of_below A.out.below)).at_ hx
        have htk := hide (show l.take (k + 1) = l.take k ++ [x] by rw [List.take_add_one, hx]; rfl)
        have hlk := hide (show (l.take k).length = k by rw [List.length_take]; omega)
        have hxl := hal' x (List.mem_of_getElem? hx)
        have Hh := hide h
        clear h hx
        obtain ⟨_, hlta, a0, a1, a2, a3, a4⟩ := A.out
        have P1 := hide (P.out.alloc (.cells #[.string x.code, .string x.town, .string x.name, .slice x.ap x.al.length x.ac, .int .i64 x.low, .int .i64 x.high, .int .i64 x.shift, .bool x.opn] 49))
        have A1 := hide (A.out.later (balloc (Below.refl _ _) (.cells #[.string x.code, .string x.town, .string x.name, .slice x.ap x.al.length x.ac, .int .i64 x.low, .int .i64 x.high, .int .i64 x.shift, .bool x.opn] 49)))
        cases ho : x.opn with
        | false =>
          have hfit : fits x a = false := by unfold fits; rw [ho]; rfl
          have hone : one a most k x = [] := by unfold one; split <;> simp [hfit]
          have hf2 := hide (show fs = found a most 0 (l.take (k + 1)) by rw [htk.out, found_snoc, ← hfs.out, Nat.zero_add, hlk.out, hone, List.append_nil])
          rw [ho] at P1 A1
          go_wp2
          go_roundw
          case rel => exact ⟨k + 1, q, c, fs, by omega, by go_num, rfl, hf2, P1, A1⟩
          case measure => simp [intOf]; omega
        | true =>
          rw [ho] at P1 A1
          by_cases hlo : a.number < x.low
          · have hfit : fits x a = false := by unfold fits; rw [ho, decide_eq_true hlo]; rfl
            have hone : one a most k x = [] := by unfold one; split <;> simp [hfit]
            have hf2 := hide (show fs = found a most 0 (l.take (k + 1)) by rw [htk.out, found_snoc, ← hfs.out, Nat.zero_add, hlk.out, hone, List.append_nil])
            go_wp2
            go_roundw
            case rel => exact ⟨k + 1, q, c, fs, by omega, by go_num, rfl, hf2, P1, A1⟩
            case measure => simp [intOf]; omega
          · by_cases hhi : x.high < a.number
            · have hfit : fits x a = false := by unfold fits; rw [ho, decide_eq_false hlo, decide_eq_true hhi]; rfl
              have hone : one a most k x = [] := by unfold one; split <;> simp [hfit]
              have hf2 := hide (show fs = found a most 0 (l.take (k + 1)) by rw [htk.out, found_snoc, ← hfs.out, Nat.zero_add, hlk.out, hone, List.append_nil])
              go_wp2
              go_roundw
              case rel => exact ⟨k + 1, q, c, fs, by omega, by go_num, rfl, hf2, P1, A1⟩
              case measure => simp [intOf]; omega
            · have hfit : fits x a = true := by unfold fits; rw [ho, decide_eq_false hlo, decide_eq_false hhi]; rfl
              have Hal := hide (hal.keep (Keeps.alloc wr (.cells #[.string x.code, .string x.town, .string x.name, .slice x.ap x.al.length x.ac, .int .i64 x.low, .int .i64 x.high, .int .i64 x.shift, .bool true] 49)))
              go_wp2_with (go_at_call 35; refine Stop.out ?_)
              refine Stop.go (cost_open_c x a _ _ ho Hal.out hxl ?_)
              intro w5 hb5
              have hq6 : w5.cell? ⟨wr.heap.size, 6, none⟩ = some (.int .i64 x.shift) := cell_later hb5 (by rw [cell_new]; rfl)
              have P5 := hide (own_later P1.out hb5)
              have A5 := hide (A1.out.later hb5)
              have hs5 : wr.heap.size < w5.heap.size := block_lt hq6
              clear P1 A1 P A Hal hal q0 q1 q2 q3 q4 q5 q6 q7 a0 a1 a2 a3 a4 hb5
              obtain ⟨_, hlt5, a0, a1, a2, a3, a4⟩ := A5.out
              cases hc : costP x a with
              | none =>
                have hone : one a most k x = [] := by unfold one; rw [hc]
                have hf2 := hide (show fs = found a most 0 (l.take (k + 1)) by rw [htk.out, found_snoc, ← hfs.out, Nat.zero_add, hlk.out, hone, List.append_nil])
                unfold costV
                rw [hc]
                go_wp2
                go_roundw
                case rel => exact ⟨k + 1, q, c, fs, by omega, by go_num, rfl, hf2, P5, A5⟩
                case measure => simp [intOf]; omega
              | some m =>
                by_cases hmm : m ≤ most
                · have hone : one a most k x = [⟨k, wrap64 (a.number - x.shift), m⟩] := by unfold one; rw [hc]; simp [hfit, hmm]
                  have hf2 := hide (show fs ++ [⟨k, wrap64 (a.number - x.shift), m⟩] = found a most 0 (l.take (k + 1)) by rw [htk.out, found_snoc, ← hfs.out, Nat.zero_add, hlk.out, hone])
                  have hfl : fs.length ≤ 100000 := by
                    have h1 := found_len a most (l.take k) 0
                    rw [← hfs.out, hlk.out] at h1; omega
                  have hbz := A5.out.below.size
                  unfold costV
                  rw [hc]
                  go_wp2_with (at_builtin; refine Stop.out ?_)
                  refine Stop.go ?_
                  generalize wrap64 (a.number - x.shift) = num at *
                  refine wpList_append_own _ rfl (.tmp 54) (.tmp 64) 31 rfl (w.heap.size + 1) 47 i0 (.agg #[.int .i64 0, .int .i64 0, .int .i64 0]) 3 24 Try.underlying31 hi hz0 hz1 hz2 rfl (by decide) (.slice q fs.length c) fs.length (fs.flatMap Cnd.cells) rfl (P5.out.alloc _) ⟨w5.heap.size, 0, none⟩ 1 1 (Cnd.cells ⟨k, num, m⟩) rfl rfl (cnd_src _ ⟨k, num, m⟩ _) (cnd_one _) (by unfold maxLen; omega) (by omega) (by simp; omega) ?_
                  intro v' w6 hown' hgrow _
                  have hP6 : Hid (w6.ownsRow (w.heap.size + 1) 47 3 v' (fs.length + 1) ((fs ++ [(⟨k, num, m⟩ : Cnd)]).flatMap Cnd.cells)) := hide (by simpa using hown')
                  have A6 := hide ((A5.out.later (balloc (Below.refl _ _) _)).grown hgrow (fun j hj => (P5.out.lt j hj).1))
                  obtain ⟨v'p, v'c, rfl, _⟩ := own_val hP6.out
                  clear hown' hgrow
                  go_wp2_with fail
                  go_roundw
                  case rel => exact ⟨k + 1, v'p, v'c, _, by omega, by go_num, by rw [List.length_append]; rfl, hf2, hide (by rw [List.length_append]; exact hP6.out), A6⟩
                  case measure => simp [intOf]; omega
                · have hone : one a most k x = [] := by unfold one; rw [hc]; simp [hmm]
                  have hf2 := hide (show fs = found a most 0 (l.take (k + 1)) by rw [htk.out, found_snoc, ← hfs.out, Nat.zero_add, hlk.out, hone, List.append_nil])
                  unfold costV
                  rw [hc]
                  go_wp2
                  go_roundw
                  case rel => exact ⟨k + 1, q, c, fs, by omega, by go_num, rfl, hf2, P5, A5⟩
                  case measure => simp [intOf]; omega
      · have hkl : l.take k = l := List.take_of_length_le (by omega)
        have hfs' := hfs.out
        rw [hkl] at hfs'
        clear hfs hkl
        have hfl : fs.length ≤ 100000 := by
          have h1 := found_len a most l 0
          rw [← hfs'] at h1; omega
        have hft := found_tags a most l 0
        rw [← hfs'] at hft
        have Hfs := hide hfs'
        have Hft := hide hft
        clear hfs' hft
        by_cases h0 : fs.length = 0
        · have he : fs = [] := List.length_eq_zero_iff.1 h0
          have HR1 := hide (HR.out q c fs wr A.out.below (own_mono P.out (by omega)) (fun h => by omega) (fun _ => by rw [← Hfs.out]; exact ⟨List.Perm.refl _, by rw [he]; exact List.Pairwise.nil⟩))
          subst he
          go_wp2_with (go_at_call 36; refine sortNil_c _ _ _ _ ?_)
          exact HR1.out
        · obtain ⟨g, cap', hq, hg1, hg2⟩ := own_form P.out (by omega)
          injection hq with hq1 hq2 hq3
          subst hq1
          subst hq3
          go_wp2_with (go_at_call 36; refine sortStable_c g fs.length c (w.heap.size + 1) fs _ _ rfl (by omega) hg2 P.out Hft.out ?_; intro w5 M hpm hsm ho5 hg5)
          have hlM := hpm.length_eq
          have hfin := HR.out (some ⟨g, 0, none⟩) c M w5 (A.out.below.grown hg5 A.out.below.size (fun j hj => by injection hj with hj; omega)) (own_mono (by rw [hlM]; exact ho5) (by omega)) (fun h => by omega) (fun _ => by rw [← Hfs.out]; exact ⟨hpm, hsm⟩)
          rw [hlM] at hfin
          exact hfin
end Go.Proofs.Ytkbdkkllfaljlaa
