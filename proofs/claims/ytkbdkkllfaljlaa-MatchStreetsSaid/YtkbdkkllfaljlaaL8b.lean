/- MatchStreets: with one more street behind the others, the candidates among the others are as before, the further street is a candidate exactly if it is one when it stands alone, at the same cost, and a closed one is none. Conditions: those that the law tests itself (sizes: 12 streets with 6 aliases each and an address, texts of at most 60 bytes); at any other input the law asks its fixed examples alone. -/
import Derived.Test.YtkbdkkllfaljlaaL8r
set_option linter.unusedVariables false
set_option linter.unusedSimpArgs false
namespace Go.Proofs.Ytkbdkkllfaljlaa
open Go.ChangeShapes Go.WideShapes Go.ChangeAt Go.RowKit Go.Sort

/-- Where an append's row lies: where it lay, or in a new block. -/
theorem app_where {P : Program} (w : World) (base : Nat) (t ty e : TypeId) (i : TypeInfo) (z : Value) (size bytes : Nat) (ht : P.underlying t = some (.slice e)) (hi : P.info? e = some i) (hz : i.zero = some z)
    (hsize : i.size = size) (hby : i.bytes = bytes) (hzs : z.cells.size = size) (hsz : 0 < size)
    (v : Value) (n : Nat) (xs : List Value) (hown : w.ownsRow base e size v n xs)
    (a : Addr) (m c : Nat) (news : List Value) (hl : news.length = m * size) (hnews : ∀ j u, news[j]? = some u → w.cell? (a.add j) = some u) (h1 : ∀ u ∈ news, u.oneCell' = true)
    (h63 : n + m ≤ maxLen) (hbytes : (n + m) * bytes ≤ 140737488355328) (v' : Value) (w' : World)
    (hr : (Builtin.append_ #[t, t] ty #[v, .slice (some a) m c]).run P w = .ok v' w') : v'.ownBlock = v.ownBlock ∨ ∀ k, v'.ownBlock = some k → w.heap.size ≤ k := by
  subst hsize
  subst hby
  rcases hown.2 with ⟨rfl, rfl⟩ | ⟨g, cap, cur, rfl, hbg, hg, hnc, hcm, hcs, htake⟩
  · have hx : xs = [] := List.eq_nil_of_length_eq_zero (by simpa using hown.1)
    subst hx
    obtain ⟨v2, w2, h2, h3, _, _⟩ := run_append_own (P := P) w w.heap.size t ty e i z i.size i.bytes ht hi hz rfl rfl hzs hsz (.slice none 0 0) 0 [] (World.ownsRow_nil _ _ _ _) a m c news hl hnews h1 h63 hbytes (Nat.le_refl _)
    rw [hr] at h2
    injection h2 with h2 h4
    subst h2
    exact .inr fun k hk => (h3.lt k hk).1
  · by_cases hroom : n + m ≤ cap
    · have hfit : n * i.size + news.length ≤ cur.size := by rw [hl, hcs, ← Nat.add_mul]; exact Nat.mul_le_mul_right _ hroom
      have h2 := run_append_room (P := P) w t ty e i ht hi g n cap cur hg a m c news hl hnews h1 hroom hfit
      rw [hr] at h2
      injection h2 with h2 _
      subst h2
      exact .inl rfl
    · have holds : ∀ j u, xs[j]? = some u → w.cell? ((⟨g, 0, none⟩ : Addr).add j) = some u := hown.cells (g := g) rfl
      have h2 := run_append_grow (P := P) w t ty e i z ht hi hz ⟨g, 0, none⟩ n cap xs hown.1 holds a m c news hl hnews (by omega) (by simp only [maxLen] at h63; omega) (growslice_fits (by omega) hbytes)
      rw [hr] at h2
      injection h2 with h2 _
      subst h2
      exact .inr fun k hk => by injection hk with hk; exact Nat.le_of_eq hk
theorem wpList_append_where {P : Program} {w : World} {ops : Array Oper} {rest : List Oper} {o : Oper} {a : Act} {Q : Exit → Act → World → Prop} (hgd : o.guard = none) (s x : Operand) (t : TypeId)
    (ho : o.op = .call { callee := .builtin .append, args := #[s, x], argTypes := #[t, t] })
    (base : Nat) (e : TypeId) (i : TypeInfo) (z : Value) (size bytes : Nat) (ht : P.underlying t = some (.slice e)) (hi : P.info? e = some i) (hz : i.zero = some z)
    (hsize : i.size = size) (hby : i.bytes = bytes) (hzs : z.cells.size = size) (hsz : 0 < size)
    (v : Value) (n : Nat) (xs : List Value) (hs : a.eval s = v) (hown : w.ownsRow base e size v n xs)
    (ad : Addr) (m c : Nat) (news : List Value) (hx : a.eval x = .slice (some ad) m c) (hl : news.length = m * size) (hnews : ∀ j u, news[j]? = some u → w.cell? (ad.add j) = some u) (h1 : ∀ u ∈ news, u.oneCell' = true)
    (h63 : n + m ≤ maxLen) (hbytes : (n + m) * bytes ≤ 140737488355328) (hbase : base ≤ w.heap.size)
    (h : ∀ v' w', w'.ownsRow base e size v' (n + m) (xs ++ news) → w.grownBy w' v.ownBlock → (v'.ownBlock = v.ownBlock ∨ ∀ k, v'.ownBlock = some k → w.heap.size ≤ k) → wpList P ops Q rest (a.put o.dst v') w') : wpList P ops Q (o :: rest) a w :=
  wpList_plain hgd fun K hK => by
    obtain ⟨v', w', hr, h2, h3, h4⟩ := run_append_own (P := P) w base t o.type e i z size bytes ht hi hz hsize hby hzs hsz v n xs hown ad m c news hl hnews h1 h63 hbytes hbase
    have hw := app_where w base t o.type e i z size bytes ht hi hz hsize hby hzs hsz v n xs hown ad m c news hl hnews h1 h63 hbytes v' w' hr
    unfold Oper.wp execOp
    simp only [ho, resolve, invoke, builtin, Sem.run_bind, Sem.run_pure, Result.andThen_ok, List.map_toArray, List.map_cons, List.map_nil, hs, hx, hr]
    exact hK _ _ (h v' w' h2 h3 hw)
theorem Bx.new (s : Sv) (a : Av) (w : World) : Bx s a w.heap.size (w.heap.size + 1) ((w.alloc (.cells s.cells.toArray 49)).alloc (.cells a.cells.toArray 24)) := by
  have h1 : ∀ i v, s.cells[i]? = some v → ((w.alloc (.cells s.cells.toArray 49)).alloc (.cells a.cells.toArray 24)).cell? ⟨w.heap.size, i, none⟩ = some v := fun i v hi => Keeps.alloc _ _ _ _ (by rw [cell_new]; simpa using hi)
  have h2 : ∀ i v, a.cells[i]? = some v → ((w.alloc (.cells s.cells.toArray 49)).alloc (.cells a.cells.toArray 24)).cell? ⟨w.heap.size + 1, i, none⟩ = some v := fun i v hi => by
    have := cell_new (w := w.alloc (.cells s.cells.toArray 49)) (cs := a.cells.toArray) (t := 24) (i := i)
    rw [show (w.alloc (.cells s.cells.toArray 49)).heap.size = w.heap.size + 1 by simp] at this
    rw [this]; simpa using hi
  exact ⟨h1 0 _ rfl, h1 1 _ rfl, h1 2 _ rfl, h1 3 _ rfl, h1 4 _ rfl, h1 5 _ rfl, h1 6 _ rfl, h1 7 _ rfl, h2 0 _ rfl, h2 1 _ rfl, h2 2 _ rfl, h2 3 _ rfl, h2 4 _ rfl⟩
theorem StsAt.lit1 {w : World} {t : TypeId} {s : Sv} (h : StrsAt w s.ap s.al) : StsAt (w.alloc (.cells s.cells.toArray t)) (some ⟨w.heap.size, 0, none⟩) [s] :=
  StsAt.one (fun c v hv => by rw [cell_new]; simpa using hv) (h.keep (Keeps.alloc _ _))
def restL (n : Nat) (N : List Cnd) (k : Nat) : List Cnd := (N.take k).filter (fun x => !isOwn n x)
def ownL (n : Nat) (N : List Cnd) (k : Nat) : List Cnd := ((N.take k).filter (isOwn n)).map zeroI
/-- The two rows of the loop. -/
structure Rows2 (n : Nat) (w6 : World) (N : List Cnd) (k : Nat) (v u : Value) (wr : World) : Prop where
  rest : wr.ownsRow w6.heap.size 47 3 v (restL n N k).length ((restL n N k).flatMap Cnd.cells)
  own : wr.ownsRow w6.heap.size 47 3 u (ownL n N k).length ((ownL n N k).flatMap Cnd.cells)
  apart : ∀ j, v.ownBlock = some j → u.ownBlock ≠ some j
  below : Below w6.heap.size w6 wr
theorem Rows2.start (n : Nat) (w6 : World) (N : List Cnd) : Rows2 n w6 N 0 (.slice none 0 0) (.slice none 0 0) w6 :=
  ⟨World.ownsRow_nil _ _ _ _, World.ownsRow_nil _ _ _ _, fun j h => by simp [Value.ownBlock] at h, Below.refl _ _⟩
theorem grow_pair {W w' : World} {base base' e k n m : Nat} {v v' u : Value} {ys : List Value} (hB : W.ownsRow base e k u m ys) (ap : ∀ j, v.ownBlock = some j → u.ownBlock ≠ some j) (hg : W.grownBy w' v.ownBlock)
    (hw : v'.ownBlock = v.ownBlock ∨ ∀ j, v'.ownBlock = some j → W.heap.size ≤ j) : w'.ownsRow base e k u m ys ∧ ∀ j, v'.ownBlock = some j → u.ownBlock ≠ some j := by
  refine ⟨hB.kept hg ?_, fun j hj hu => ?_⟩
  · cases hu : u.ownBlock with
    | none => exact .inl rfl
    | some j => exact .inr fun e => ap j e.symm hu
  · rcases hw with h | h
    · exact ap j (by rw [← h]; exact hj) hu
    · have h1 := h j hj
      have h2 := (hB.lt j hu).2
      omega
theorem restL_yes {n : Nat} {N : List Cnd} {k : Nat} {y : Cnd} (hy : N[k]? = some y) (h : y.i ≠ n) : restL n N (k + 1) = restL n N k ++ [y] ∧ ownL n N (k + 1) = ownL n N k := by
  unfold restL ownL
  rw [List.take_add_one, hy, List.filter_append, List.filter_append]
  have : isOwn n y = false := by unfold isOwn; simpa using h
  simp [this]
theorem ownL_yes {n : Nat} {N : List Cnd} {k : Nat} {y : Cnd} (hy : N[k]? = some y) (h : y.i = n) : restL n N (k + 1) = restL n N k ∧ ownL n N (k + 1) = ownL n N k ++ [zeroI y] := by
  unfold restL ownL
  rw [List.take_add_one, hy, List.filter_append, List.filter_append]
  have : isOwn n y = true := by unfold isOwn; simpa using h
  simp [this]
theorem Rows2.own_step {n : Nat} {w6 : World} {N : List Cnd} {k : Nat} {v u u' : Value} {wr W w' : World} {y : Cnd} (P : Rows2 n w6 N k v u wr) (hW : Below wr.heap.size wr W) (hy : N[k]? = some y) (h : y.i = n)
    (hown : w'.ownsRow w6.heap.size 47 3 u' ((ownL n N k).length + 1) ((ownL n N k).flatMap Cnd.cells ++ (zeroI y).cells)) (hg : W.grownBy w' u.ownBlock) (hw : u'.ownBlock = u.ownBlock ∨ ∀ j, u'.ownBlock = some j → W.heap.size ≤ j) : Rows2 n w6 N (k + 1) v u' w' := by
  obtain ⟨e1, e2⟩ := ownL_yes hy h
  obtain ⟨g1, g2⟩ := grow_pair (base' := 0) (n := 0) (own_later P.rest hW) (fun j hj hu => P.apart j hu hj) hg hw
  refine ⟨by rw [e1]; exact g1, ?_, fun j hj hu => g2 j hu hj, ?_⟩
  · rw [e2, List.length_append, List.flatMap_append]; simpa using hown
  · exact (bseq P.below hW).grown hg (Nat.le_trans P.below.size hW.size) (fun j hj => (P.own.lt j hj).1)
theorem Rows2.rest_step {n : Nat} {w6 : World} {N : List Cnd} {k : Nat} {v u v' : Value} {wr W w' : World} {y : Cnd} (P : Rows2 n w6 N k v u wr) (hW : Below wr.heap.size wr W) (hy : N[k]? = some y) (h : y.i ≠ n)
    (hown : w'.ownsRow w6.heap.size 47 3 v' ((restL n N k).length + 1) ((restL n N k).flatMap Cnd.cells ++ y.cells)) (hg : W.grownBy w' v.ownBlock) (hw : v'.ownBlock = v.ownBlock ∨ ∀ j, v'.ownBlock = some j → W.heap.size ≤ j) : Rows2 n w6 N (k + 1) v' u w' := by
  obtain ⟨e1, e2⟩ := restL_yes hy h
  obtain ⟨g1, g2⟩ := grow_pair (base' := 0) (n := 0) (own_later P.own hW) P.apart hg hw
  refine ⟨?_, by rw [e2]; exact g1, g2, ?_⟩
  · rw [e1, List.length_append, List.flatMap_append]; simpa using hown
  · exact (bseq P.below hW).grown hg (Nat.le_trans P.below.size hW.size) (fun j hj => (P.rest.lt j hj).1)
theorem restL_len (n : Nat) (N : List Cnd) (k : Nat) : (restL n N k).length ≤ N.length := Nat.le_trans (List.length_filter_le _ _) (by rw [List.length_take]; omega)
theorem ownL_len (n : Nat) (N : List Cnd) (k : Nat) : (ownL n N k).length ≤ N.length := by
  unfold ownL; rw [List.length_map]; exact Nat.le_trans (List.length_filter_le _ _) (by rw [List.length_take]; omega)
set_option maxRecDepth 100000 in
set_option maxHeartbeats 2000000 in
theorem streets_c (p : Option Addr) (n cap : Nat) (l : List Sv) (s : Sv) (a : Av) (x : Int) (w : World) (R) (hn : l.length = n) (hl : n ≤ maxLen) (h : StsAt w p l) (hz : p = none → n = 0) (hw : ∀ s ∈ l, SWf s) (hs : StrsAt w s.ap s.al ∧ SWf s) (ha : AWf a) (hx : (Lit.int .u8 x).wf = true)
    (hR : ∀ w', Below w.heap.size w w' → R (.returned (.bool true)) w') : Calls Try.prog 10 #[.slice p n cap, .agg s.cells.toArray, .agg a.cells.toArray, .int .u8 x] w R := by
  have HR := hide hR; clear hR
  have K0 := hide (Bx.new s a w)
  have Bz := hide (show Below w.heap.size w ((w.alloc (.cells s.cells.toArray 49)).alloc (.cells a.cells.toArray 24)) from balloc (balloc (Below.refl _ _) _) _)
  have hsz : ((w.alloc (.cells s.cells.toArray 49)).alloc (.cells a.cells.toArray 24)).heap.size = w.heap.size + 2 := by simp
  have Hsz := hide hsz
  clear hsz
  unfold Sv.cells Av.cells at *
  go_enter Try.func10, Try.ntmps10
  go_wp2_with (go_at_call 11; refine Stop.out ?_)
  generalize (w.alloc (.cells [.string s.code, .string s.town, .string s.name, .slice s.ap s.al.length s.ac, .int .i64 s.low, .int .i64 s.high, .int .i64 s.shift, .bool s.opn].toArray 49)).alloc (.cells [.string a.person, .string a.street, .int .i64 a.number, .string a.code, .string a.town].toArray 24) = w0 at *
  refine Stop.go (head_c _ _ ?_)
  intro w1 hb1
  have K1 := hide (K0.out.later hb1)
  have B1 := hide (bseq Bz.out hb1)
  have hlt1 : w.heap.size + 1 < w1.heap.size := by have := hb1.size; have := Hsz.out; omega
  clear K0 Bz hb1 Hsz
  have H1 := hide (h.keep (Keeps.of_below B1.out))
  have S1 := hide (hs.1.keep (Keeps.of_below B1.out))
  clear h
  have HWs := hide hs.2
  clear hs
  cases hf : fewS l with
  | false =>
    go_wp2_with (go_at_call 12; refine few_c p n cap l _ _ hn hl H1.out ?_; rw [hf])
    exact HR.out _ B1.out
  | true =>
    obtain ⟨hn12, hfa⟩ := few_le hf
    have hnn : n ≤ 12 := by omega
    obtain ⟨s0, s1, s2, s3, s4, s5, s6, s7, a0, a1, a2, a3, a4⟩ := K1.out
    go_wp2_with (first | (go_at_call_of 12 (Value.slice p n cap); refine few_c p n cap l _ _ hn hl H1.out ?_; rw [hf]) | (go_at_call 12; refine Stop.out ?_))
    refine Stop.go (few_c (some ⟨w1.heap.size, 0, none⟩) 1 1 [s] _ _ rfl (by decide) (StsAt.lit1 S1.out) ?_)
    have K2 := hide (K1.out.later (balloc (Below.refl _ _) (.cells s.cells.toArray 49)))
    have b2 : Below w1.heap.size w1 (w1.alloc (.cells s.cells.toArray 49)) := balloc (Below.refl _ _) _
    have B2 := hide (bseq B1.out b2)
    have H2 := hide (H1.out.keep (Keeps.of_below b2))
    have S2 := hide (S1.out.keep (Keeps.of_below b2))
    have hlt2 : w.heap.size + 1 < (w1.alloc (.cells s.cells.toArray 49)).heap.size := by have := b2.size; omega
    unfold Sv.cells at K2 b2 B2 H2 S2 hlt2
    clear b2 s0 s1 s2 s3 s4 s5 s6 s7 a0 a1 a2 a3 a4 K1 B1
    generalize w1.alloc (.cells [.string s.code, .string s.town, .string s.name, .slice s.ap s.al.length s.ac, .int .i64 s.low, .int .i64 s.high, .int .i64 s.shift, .bool s.opn].toArray 49) = w2 at *
    clear H1 S1
    cases hf1 : fewS [s] with
    | false =>
      go_wp2
      exact HR.out _ B2.out
    | true =>
      obtain ⟨_, hf1a⟩ := few_le hf1
      obtain ⟨s0, s1, s2, s3, s4, s5, s6, s7, a0, a1, a2, a3, a4⟩ := K2.out
      go_wp2_with (go_at_call 13; refine Stop.out ?_)
      refine Stop.go (short_c a _ _ ?_)
      intro w3 hb
      have K3 := hide (K2.out.later hb)
      have B3 := hide (bseq B2.out hb)
      have H3 := hide (H2.out.keep (Keeps.of_below hb))
      have S3 := hide (S2.out.keep (Keeps.of_below hb))
      have hlt3 : w.heap.size + 1 < w3.heap.size := by have := hb.size; omega
      clear hb s0 s1 s2 s3 s4 s5 s6 s7 a0 a1 a2 a3 a4 K2 B2 H2 S2 hlt2 hlt1
      cases hsh : shortA a with
      | false =>
        go_wp2
        exact HR.out _ B3.out
      | true =>
        have HN := hide hn
        have Wl := hide (fun (x : Sv) (hx : x ∈ l ++ [s]) => show x.al.length ≤ 100000 by
          rcases List.mem_append.1 hx with hx | hx
          · exact (hfa x hx).1
          · exact (hf1a x hx).1)
        have hsl := (hf1a s (by simp)).1
        clear hsh hf1 hf1a hf hfa hn12 hn
        obtain ⟨m, hm6, em⟩ := tmod7 x hx
        have hx64 : IntKind.i64.wrap x = x := by
          simp [Lit.wf, show IntKind.min .u8 = 0 from rfl, show IntKind.max .u8 = 255 from rfl] at hx
          exact IntWalk.i64_in _ (by omega)
        have hm64 : IntKind.i64.wrap (m : Int) = m := IntWalk.i64_in _ (by omega)
        obtain ⟨s0, s1, s2, s3, s4, s5, s6, s7, a0, a1, a2, a3, a4⟩ := K3.out
        go_wp2_with (go_at_call 19; refine Stop.out ?_)
        refine Stop.go (candS_c p n cap l a m _ _ HN.out (by omega) H3.out (fun x hx => Wl.out x (by simp [hx])) (by omega) (by omega) ?_)
        intro q c M w4 hb hC hMl hM
        have K4 := hide (K3.out.later hb)
        have B4 := hide (bseq B3.out hb)
        have H4 := hide (H3.out.keep (Keeps.of_below hb))
        have S4 := hide (S3.out.keep (Keeps.of_below hb))
        have C4 := hide hC
        have HM := hide hM
        have hlt4 : w.heap.size + 1 < w4.heap.size := by have := hb.size; omega
        clear hb hC hM s0 s1 s2 s3 s4 s5 s6 s7 a0 a1 a2 a3 a4 K3 B3 H3 S3 hlt3
        go_wp2_with fail
        refine str_reg6 _ p n cap w.heap.size (w.heap.size + 1) l s a m w4 hnn HN H4 S4 Wl (by omega) (by omega) K4.out _ _ _ _ _ _ _ _ _ _ _ _ _ _ _ _ _ _ _ _ _ _ _ _ _ _ _ _ _ _ _ _ _ _ _ _ _ _ _ _ _ _ _ _ _ _ _ _ _ _ _ _ _ _ _ _ _ _ _ _ _ _ _ _ _ _ _ _ _ _ _ _ _ _ _ _ _ _ _ _ _ _ _ _ _ _ _ _ _ _ _ _ _ _ _ _ _ _ _ _ _ _ _ (hide ?_)
        intro pz cz N w5 v41 v42 v43 v44 v45 v46 v47 v48 v49 hb hD hNl hN
        have K5 := hide (K4.out.later hb)
        have B5 := hide (bseq B4.out hb)
        have S5 := hide (S4.out.keep (Keeps.of_below hb))
        have C5 := hide (C4.out.keep (Keeps.of_below hb))
        have D5 := hide hD
        have HNN := hide hN
        have hlt5 : w.heap.size + 1 < w5.heap.size := by have := hb.size; omega
        clear hb hD hN K4 B4 H4 S4 C4 hlt4
        obtain ⟨s0, s1, s2, s3, s4, s5, s6, s7, a0, a1, a2, a3, a4⟩ := K5.out
        go_wp2_with (go_at_call 19; refine Stop.out ?_)
        refine Stop.go (candS_c (some ⟨w5.heap.size, 0, none⟩) 1 1 [s] a m _ _ rfl (by omega) (StsAt.lit1 S5.out) (fun x hx => Wl.out x (by simp at hx; simp [hx])) (by omega) (by omega) ?_)
        intro qe ce E w6 hb hE hEl hEE
        replace hb := bseq (balloc (Below.refl w5.heap.size w5) _) hb
        have K6 := hide (K5.out.later hb)
        have B6 := hide (bseq B5.out hb)
        have C6 := hide (C5.out.keep (Keeps.of_below hb))
        have D6 := hide (D5.out.keep (Keeps.of_below hb))
        have E6 := hide hE
        have HEE := hide hEE
        have hlt6 : w.heap.size + 1 < w6.heap.size := by have := hb.size; omega
        clear hb hE hEE s0 s1 s2 s3 s4 s5 s6 s7 a0 a1 a2 a3 a4 K5 B5 S5 C5 D5 hlt5
        obtain ⟨i0, hi, hz0, hz1, hz2⟩ := info_parts Try.info47
        go_wp2_with fail
        go_loopw [14, 15, 16] (fun v u i wr => ∃ k : Nat, k ≤ N.length ∧ i = .int .i64 k ∧ Hid (Rows2 n w6 N k v u wr)) (fun _ _ i _ => N.length - (intOf i).toNat)
        case atStart => exact ⟨0, Nat.zero_le _, rfl, hide (Rows2.start n w6 N)⟩
        case round =>
          obtain ⟨k, hk, rfl, P⟩ := hrel
          obtain ⟨vp, vc, rfl, _⟩ := own_val P.out.rest
          obtain ⟨up, uc, rfl, _⟩ := own_val P.out.own
          by_cases hlt : k < N.length
          · obtain ⟨bN, oN, y, rfl, hy, hc0, hc1, hc2⟩ := (D6.out.keep (Keeps.of_below P.out.below)).at_ hlt
            have Hy := hide hy
            clear hy
            have hrl := restL_len n N k
            have hol := ownL_len n N k
            by_cases hyn : y.i = n
            · have htest : ((y.i : Int) == (n : Int)) = true := by rw [hyn]; simp
              have Hyn := hide hyn
              clear hyn
              go_wp2_with (at_builtin; refine Stop.out ?_)
              refine Stop.go ?_
              have hW : Below wr.heap.size wr ((wr.alloc (.cells #[.int .i64 0, .int .i64 y.num, .int .i64 y.cost] 47)).alloc (.cells #[.int .i64 0, .int .i64 y.num, .int .i64 y.cost] 47)) := balloc (balloc (Below.refl _ _) _) _
              have hWz : ((wr.alloc (.cells #[.int .i64 0, .int .i64 y.num, .int .i64 y.cost] 47)).alloc (.cells #[.int .i64 0, .int .i64 y.num, .int .i64 y.cost] 47)).heap.size = wr.heap.size + 2 := by simp
              have hsrc := cnd_src (wr.alloc (.cells #[.int .i64 0, .int .i64 y.num, .int .i64 y.cost] 47)) (zeroI y) 47
              rw [show (wr.alloc (.cells #[.int .i64 0, .int .i64 y.num, .int .i64 y.cost] 47)).heap.size = wr.heap.size + 1 by simp] at hsrc
              have HW := hide hW
              have hws := P.out.below.size
              refine wpList_append_where rfl (.tmp 76) (.tmp 78) 31 rfl w6.heap.size 47 i0 (.agg #[.int .i64 0, .int .i64 0, .int .i64 0]) 3 24 Try.underlying31 hi hz0 hz1 hz2 rfl (by decide) (.slice up (ownL n N k).length uc) (ownL n N k).length ((ownL n N k).flatMap Cnd.cells) rfl (own_later P.out.own hW) ⟨wr.heap.size + 1, 0, none⟩ 1 1 (zeroI y).cells rfl rfl hsrc (cnd_one _) (by unfold maxLen; omega) (by omega) (by omega) ?_
              intro u' w7 hown' hgrow hwh
              have P7 := hide (P.out.own_step HW.out Hy.out Hyn.out hown' hgrow hwh)
              clear hown' hgrow hwh hsrc hW hWz P hc0 hc1 hc2 HW
              go_wp2_with fail
              go_roundw
              case rel => exact ⟨k + 1, by omega, by go_num, P7⟩
              case measure => simp [intOf]; omega
            · have htest : ((y.i : Int) == (n : Int)) = false := by rw [beq_eq_false_iff_ne]; omega
              have Hyn := hide hyn
              clear hyn
              go_wp2_with (at_builtin; refine Stop.out ?_)
              refine Stop.go ?_
              have hW : Below wr.heap.size wr (wr.alloc (.cells #[.int .i64 (y.i : Int), .int .i64 y.num, .int .i64 y.cost] 47)) := balloc (Below.refl _ _) _
              have hsrc := cnd_src wr y 47
              have HW := hide hW
              have hws := P.out.below.size
              refine wpList_append_where rfl (.tmp 80) (.tmp 85) 31 rfl w6.heap.size 47 i0 (.agg #[.int .i64 0, .int .i64 0, .int .i64 0]) 3 24 Try.underlying31 hi hz0 hz1 hz2 rfl (by decide) (.slice vp (restL n N k).length vc) (restL n N k).length ((restL n N k).flatMap Cnd.cells) rfl (own_later P.out.rest hW) ⟨wr.heap.size, 0, none⟩ 1 1 y.cells rfl rfl hsrc (cnd_one _) (by unfold maxLen; omega) (by omega) (by simp; omega) ?_
              intro u' w7 hown' hgrow hwh
              have P7 := hide (P.out.rest_step HW.out Hy.out Hyn.out hown' hgrow hwh)
              clear hown' hgrow hwh hsrc hW P hc0 hc1 hc2 HW
              go_wp2_with fail
              go_roundw
              case rel => exact ⟨k + 1, by omega, by go_num, P7⟩
              case measure => simp [intOf]; omega
          · have hkN : N.take k = N := List.take_of_length_le (by omega)
            have e1 : restL n N k = M := by unfold restL; rw [hkN]; have := streets_rest HM.out HNN.out; rw [HN.out] at this; exact this
            have e2 : ownL n N k = E := by unfold ownL; rw [hkN]; have := streets_own HEE.out HNN.out; rw [HN.out] at this; exact this
            have R7 := hide (show CndsAt wr vp M by have h1 := CndsAt.of_own P.out.rest; rw [e1] at h1; exact h1)
            have O7 := hide (show CndsAt wr up E by have h1 := CndsAt.of_own P.out.own; rw [e2] at h1; exact h1)
            rw [e1, e2]
            have K7 := hide (K6.out.later P.out.below)
            have C7 := hide (C6.out.keep (Keeps.of_below P.out.below))
            have E7 := hide (E6.out.keep (Keeps.of_below P.out.below))
            have B7 := hide (bseq B6.out P.out.below)
            clear e1 e2 hkN P K6 C6 E6 B6 D6
            go_wp2_with (go_at_call 18; refine Stop.out ?_)
            refine Stop.go (same_c vp q M.length M.length vc c M M _ _ rfl rfl (by omega) (by omega) R7.out C7.out ?_)
            rw [decide_eq_true rfl]
            intro w8 hd
            have K8 := hide (K7.out.later hd.below)
            have B8 := hide (B7.out.trans hd.below)
            replace O7 := hide (O7.out.keep hd.keeps)
            replace E7 := hide (E7.out.keep hd.keeps)
            clear hd K7 B7 C7 R7
            go_wp2_with (go_at_call 18; refine Stop.out ?_)
            refine Stop.go (same_c up qe E.length E.length uc ce E E _ _ rfl rfl (by omega) (by omega) O7.out E7.out ?_)
            rw [decide_eq_true rfl]
            intro w9 hd
            have K9 := hide (K8.out.later hd.below)
            have B9 := hide (B8.out.trans hd.below)
            clear hd K8 B8 O7 E7
            have s7 := K9.out.s7
            cases ho : s.opn with
            | true =>
              rw [ho] at s7
              go_wp2
              exact HR.out _ B9.out
            | false =>
              rw [ho] at s7
              have hE0 := closed_none HEE.out ho
              subst hE0
              go_wp2
              exact HR.out _ B9.out

set_option maxRecDepth 100000 in
theorem streets_holds_lifted (os : Os) (started : os.Started) (H : Type) (enc : TypeId × Value → H) :
    ReturnsInHanded {} Try.checked os 10 .any (Rows.matchStreetsSpec.pre6 enc Try.prog Try.f10 Rows.matchStreetsRow.domain false) (Rows.matchStreetsSpec.post enc Try.prog Try.f10 false true false false) := by
  refine returnsInHanded_of_change (C := Try.checked) Try.own started (by kernel_rfl) Try.func10
    (ChangeSpec.witness6 (enc := enc) (C := Try.checked) false ⟨#[], #[.slice none 0 0, .agg #[.string ⟨#[]⟩, .string ⟨#[]⟩, .string ⟨#[]⟩, .slice none 0 0, .int .i64 0, .int .i64 0, .int .i64 0, .bool false], .agg #[.string ⟨#[]⟩, .string ⟨#[]⟩, .int .i64 0, .string ⟨#[]⟩, .string ⟨#[]⟩], .int .u8 0], []⟩ 8 (by kernel_rfl) (by kernel_rfl) (by kernel_rfl) (by kernel_rfl)) ?_
  intro W base args ds gs before hval0 hW hcnd _
  have hval : ∀ (j : Nat) t v, Try.f10.params[j]? = some t → args[j]? = some v → Value.okWide Try.prog W .any base t v := hval0
  have hW' := hW
  obtain ⟨p, q, hA0, hV, rfl, hfz, hnd⟩ := hW
  have hA : DataW.TrodAll enc Try.prog W 0 (fun _ => true) true Try.f10.params.toList args.toList ds p := hA0
  have hA1 := hA
  rw [Try.params10] at hA hval
  obtain ⟨v0, vs0, d0, ds0, p0, q0, hargs, rfl, rfl, h0, r0⟩ := trodAll_cons hA
  obtain ⟨v1, vs1, d1, ds1, p1, q1, rfl, rfl, rfl, h1, r1⟩ := trodAll_cons r0
  obtain ⟨v2, vs2, d2, ds2, p2, q2, rfl, rfl, rfl, h2, r2⟩ := trodAll_cons r1
  obtain ⟨v3, vs3, d3, ds3, p3, q3, rfl, rfl, rfl, h3, r3⟩ := trodAll_cons r2
  obtain ⟨rfl, rfl, rfl⟩ := trodAll_nil r3
  obtain rfl : args = #[v0, v1, v2, v3] := by cases args; simp_all
  obtain ⟨rfl, rfl⟩ := trodVars_none hV
  obtain ⟨a0, n0, c0, l0, rfl, hl0, hm0, hi0, hz0, hw0⟩ := open_sts (hval 0 22 v0 rfl rfl) h0
  obtain ⟨x1, rfl, hw1⟩ := open_st (hval 1 49 v1 rfl rfl) h1
  obtain ⟨x2, rfl, hw2⟩ := open_adr (hval 2 24 v2 rfl rfl) h2
  obtain ⟨x3, rfl, _, _, hw3⟩ := open_int Try.underlying5 (hval 3 5 v3 rfl rfl) h3
  refine streets_c a0 n0 c0 l0 x1 x2 x3 W _ hl0 hm0 hi0 hz0 hw0 hw1 hw2 hw3 fun W' bel => ?_
  exact ⟨_, rfl, law_post Try.laidOut bel rfl hW' hA1 (by kernel_rfl) rfl Try.underlying4 rfl rfl rfl⟩

theorem streets_holds : Rows.MatchStreetsSaid :=
  OpenClaim.holds_of_wide 10 Try.f10 rfl rfl rfl rfl rfl rfl rfl ⟨rfl, rfl, rfl, rfl, rfl⟩ rfl rfl rfl rfl rfl (by kernel_rfl) Try.func10 (by kernel_rfl)
    (of_decide_eq_true (by kernel_rfl)) (by unfold Func.isWrapper; rw [if_neg (of_decide_eq_false (by kernel_rfl))]; exact ⟨rfl, rfl⟩)
    (fun os started H enc _ => streets_holds_lifted os started H enc)

end Go.Proofs.Ytkbdkkllfaljlaa
