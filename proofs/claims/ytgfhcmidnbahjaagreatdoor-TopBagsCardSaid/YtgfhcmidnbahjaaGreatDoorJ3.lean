/- Networks as plain data, and what the layers below the plan compute of them, as functions on plain data. Promises, certificates and plans as functions on plain data. What a sound network abides; the plan's lines lead on to smaller bounds. -/
import Derived.Test.YtgfhcmidnbahjaaGreatDoorJ1
set_option linter.unusedVariables false
set_option linter.unusedSimpArgs false
namespace Go.Proofs.YtgfhcmidnbahjaaGreatDoor
section
open Go.RowKit
structure Cal where
 zone : Int
 wp : Option Addr
 week : List Bool
 wc : Nat
 hp : Option Addr
 hol : List Int
 hc : Nat
deriving Inhabited
structure Off where
 name : ByteArray
 operator : Int
 calendar : Int
 pockets : Int
 passes : Int
 minutes : Int
 cp : Option Addr
 codes : List ByteArray
 cc : Nat
deriving Inhabited
structure Lin where
 name : ByteArray
 src : Int
 dst : Int
 at_ : Int
 travel : Int
 load : Int
deriving Inhabited
structure Cls where
 name : ByteArray
 cut : Int
 deliver : Int
deriving Inhabited
structure Net where
 cp : Option Addr
 cals : List Cal
 cc : Nat
 np : Option Addr
 names : List ByteArray
 nc : Nat
 op : Option Addr
 oprs : List ByteArray
 oc : Nat
 fp : Option Addr
 offs : List Off
 fc : Nat
 lp : Option Addr
 lins : List Lin
 lc : Nat
 kp : Option Addr
 clss : List Cls
 kc : Nat
def incr : List Int → Bool
 | [] => true
 | x :: l => (match l with | [] => true | y :: _ => decide (x < y)) && incr l
def calOk (c : Cal) : Bool := decide (-720 ≤ c.zone) && decide (c.zone ≤ 840) && decide (c.week.length = 7) && decide (c.hol.length ≤ 40) && incr c.hol
def dayOf (c : Cal) (t : Int) : Int := (t + c.zone) / 1440
def minOf (c : Cal) (t : Int) : Int := (t + c.zone) % 1440
def timeOf (c : Cal) (d m : Int) : Int := d * 1440 + m - c.zone
def workB (c : Cal) (d : Int) : Bool := c.week.getD (d % 7).toNat false && !c.hol.contains d
def daysF (c : Cal) (d : Int) (n : Nat) : List Int := ((List.range n).map fun (i : Nat) => d + (i : Int)).filter (workB c)
def nextF (c : Cal) (d : Int) : Option Int := (daysF c d 60).head?
def countF (c : Cal) (a b : Int) : Int := if b > a + 2000 then -1 else ((daysF c (a + 1) (b - a).toNat).length : Int)
def firstF (c : Cal) (m t : Int) : Option Int := (nextF c (if m < minOf c t then dayOf c t + 1 else dayOf c t)).map fun d => timeOf c d m
def smallB (b : UInt8) : Bool := decide (97 ≤ b.toNat) && decide (b.toNat ≤ 122)
def digitB (b : UInt8) : Bool := decide (48 ≤ b.toNat) && decide (b.toNat ≤ 57)
def bigB (b : UInt8) : Bool := decide (65 ≤ b.toNat) && decide (b.toNat ≤ 90)
def kwL : List (List UInt8) := [[99, 97, 108, 101, 110, 100, 97, 114], [111, 112, 101, 114, 97, 116, 111, 114], [111, 102, 102, 105, 99, 101], [108, 105, 110, 101], [99, 108, 97, 115, 115], [122, 111, 110, 101], [119, 101, 101, 107], [104, 111, 108, 105, 100, 97, 121], [112, 111, 99, 107, 101, 116, 115], [112, 97, 115, 115, 101, 115], [109, 105, 110, 117, 116, 101, 115], [99, 111, 100, 101, 115], [97, 116], [116, 114, 97, 118, 101, 108], [108, 111, 97, 100], [99, 117, 116], [100, 101, 108, 105, 118, 101, 114]]
def nameChar (b : UInt8) : Bool := smallB b || digitB b || decide (b.toNat = 95)
def nameB (s : ByteArray) : Bool := decide (1 ≤ s.size) && decide (s.size ≤ 16) && smallB (s.data.toList.getD 0 0) && s.data.toList.all nameChar && !kwL.any fun k => k == s.data.toList
def codeB (s : ByteArray) : Bool := decide (1 ≤ s.size) && decide (s.size ≤ 8) && s.data.toList.all fun b => digitB b || bigB b
def fromB (v a b : Int) : Bool := decide (a ≤ v) && decide (v ≤ b)
def indexB (i : Int) (n : Nat) : Bool := decide (0 ≤ i) && decide (i < n)
def offOk (N : Net) (o : Off) : Bool := indexB o.operator N.oprs.length && indexB o.calendar N.cals.length && decide (o.codes.length ≤ 20) && o.codes.all codeB && fromB o.pockets 2 64 && fromB o.passes 1 4 && fromB o.minutes 1 240
def linOk (N : Net) (l : Lin) : Bool := indexB l.src N.offs.length && indexB l.dst N.offs.length && !decide (l.src = l.dst) && fromB l.at_ 0 1439 && fromB l.travel 1 5000 && fromB l.load 1 40
def clsOk (c : Cls) : Bool := fromB c.cut 0 1439 && fromB c.deliver 0 1439
def badAt (nm : Nat → ByteArray) (good : Nat → Bool) (i : Nat) : Bool := !nameB (nm i) || ((List.range i).any fun j => decide (nm j = nm i)) || !good i
def kindN (limit len : Nat) (nm : Nat → ByteArray) (good : Nat → Bool) : Nat := ((List.range (min len limit)).filter (badAt nm good)).length + if limit < len then 1 else 0
def calNm (N : Net) (i : Nat) : ByteArray := N.names.getD i ⟨#[]⟩
def oprNm (N : Net) (i : Nat) : ByteArray := N.oprs.getD i ⟨#[]⟩
def offNm (N : Net) (i : Nat) : ByteArray := (N.offs.getD i default).name
def linNm (N : Net) (i : Nat) : ByteArray := (N.lins.getD i default).name
def clsNm (N : Net) (i : Nat) : ByteArray := (N.clss.getD i default).name
def calGd (N : Net) (i : Nat) : Bool := calOk (N.cals.getD i default)
def offGd (N : Net) (i : Nat) : Bool := offOk N (N.offs.getD i default)
def linGd (N : Net) (i : Nat) : Bool := linOk N (N.lins.getD i default)
def clsGd (N : Net) (i : Nat) : Bool := clsOk (N.clss.getD i default)
def faultsN (N : Net) : Nat := (if N.names.length = N.cals.length then 0 else 1) + kindN 6 N.cals.length (calNm N) (calGd N) + kindN 6 N.oprs.length (oprNm N) (fun _ => true) +
 kindN 12 N.offs.length (offNm N) (offGd N) + kindN 40 N.lins.length (linNm N) (linGd N) + kindN 4 N.clss.length (clsNm N) (clsGd N)
abbrev Mat := Nat → Nat → Int
def updM (f : Mat) (a b : Nat) (v : Int) : Mat := fun x y => if x = a ∧ y = b then v else f x y
def noneM : Mat := fun a b => if a = b then 0 else -1
def relaxM (f : Mat) (a b : Nat) (v : Int) : Mat := if f a b = -1 ∨ v < f a b then updM f a b v else f
def linesM (N : Net) : Nat → Mat
 | 0 => noneM
 | k + 1 => relaxM (linesM N k) (N.lins.getD k default).src.toNat (N.lins.getD k default).dst.toNat (N.lins.getD k default).travel
def tripM (f : Mat) (o a b : Nat) : Mat := if f a o ≠ -1 ∧ f o b ≠ -1 then relaxM f a b (IntKind.i64.wrap (f a o + f o b)) else f
def overM (f : Mat) : Nat → Mat
 | 0 => f
 | m + 1 => tripM (overM f m) (m / 144) (m / 12 % 12) (m % 12)
def relM (N : Net) : Mat := overM (linesM N N.lins.length) 1728
def reachB (N : Net) : Bool := (List.range N.offs.length).all fun b => (List.range N.offs.length).all fun a => !decide (relM N a b = -1)
def soundB (N : Net) : Bool := decide (faultsN N = 0) && reachB N
def offOf (N : Net) (o : Int) : Off := N.offs.getD o.toNat default
def linOf (N : Net) (i : Int) : Lin := N.lins.getD i.toNat default
def clsOf (N : Net) (k : Int) : Cls := N.clss.getD k.toNat default
def calOf (N : Net) (o : Int) : Cal := N.cals.getD (offOf N o).calendar.toNat default
def readyF (N : Net) (o t : Int) : Int := t + (offOf N o).passes * (offOf N o).minutes
def leaveF (c : Cal) (at_ t : Int) : Option Int :=
 match (daysF c (dayOf c t) 61).find? fun d => decide (t ≤ timeOf c d at_) with
 | some d => if timeOf c d at_ < t + 86400 then some (timeOf c d at_) else none
 | none => none
def waitF (c : Cal) (at_ till : Int) : Nat → Int → Int → Option Int
 | 0, _, m => some m
 | k + 1, t, m => if t < till then (match leaveF c at_ t with | none => none | some l => waitF c at_ till k (l + 1) (max m (l - t))) else some m
def noneI : Int := -1099511627776
def costF (N : Net) (fr till : Int) (i : Nat) : Int :=
 match waitF (calOf N (linOf N i).src) (linOf N i).at_ till (till - fr).toNat fr 0 with
 | none => noneI
 | some w => w + (linOf N i).travel + (offOf N (linOf N i).dst).passes * (offOf N (linOf N i).dst).minutes
def infB (x : Int) : Bool := decide (x ≤ -549755813888)
def plusI (x y : Int) : Int := if infB x && infB y then noneI else max x y
def timesI (x y : Int) : Int := if infB x || infB y then noneI else x + y
def leastM (N : Net) (cost : Nat → Int) : Nat → Mat
 | 0 => fun _ _ => noneI
 | k + 1 => if cost k = noneI then leastM N cost k else updM (leastM N cost k) (linOf N k).src.toNat (linOf N k).dst.toNat (max (leastM N cost k (linOf N k).src.toNat (linOf N k).dst.toNat) (-cost k))
def starM (m : Mat) : Nat → Mat
 | 0 => fun i j => if i = j then plusI 0 (m i j) else plusI noneI (m i j)
 | k + 1 => fun i j => plusI (starM m k i j) (timesI (starM m k i k) (starM m k k j))
def boundM (N : Net) (cost : Nat → Int) : Mat := fun o d =>
 if starM (leastM N cost N.lins.length) N.offs.length o d = noneI then -1 else -(starM (leastM N cost N.lins.length) N.offs.length o d)
def bestP (N : Net) (cost : Nat → Int) (bound : Mat) (o d i : Nat) : Bool :=
 decide ((linOf N i).src = o) && !decide (cost i = noneI) && !decide (bound (linOf N i).dst.toNat d < 0) && decide (cost i + bound (linOf N i).dst.toNat d = bound o d)
def bestF (N : Net) (cost : Nat → Int) (bound : Mat) (o d : Nat) : Int :=
 match (List.range N.lins.length).find? (bestP N cost bound o d) with
 | some i => i
 | none => -1
def nextM (N : Net) (cost : Nat → Int) (bound : Mat) : Mat := fun o d => if o = d ∨ bound o d < 0 then -1 else bestF N cost bound o d
end
section
open Go.RowKit
structure Stp where
 office : Int
 arrive : Int
 depart : Int
 line : Int
deriving DecidableEq
def departF (N : Net) (i t : Int) : Except Int Int :=
 if 0 ≤ t ∧ t ≤ 2000000 then (match firstF (calOf N (linOf N i).src) (linOf N i).at_ t with | some x => .ok x | none => .error 20) else .error 1
def walkF (N : Net) (next : Mat) (tt : Nat) : Nat → Nat → Int → Except Int (List Stp)
 | 0, o, t =>
  if o = tt then .ok [⟨o, t, -1, -1⟩]
  else if next o tt = -1 then .error 170
  else match departF N (next o tt) (readyF N o t) with
   | .error e => .error e
   | .ok _ => .error 170
 | k + 1, o, t =>
  if o = tt then .ok [⟨o, t, -1, -1⟩]
  else if next o tt = -1 then .error 170
  else match departF N (next o tt) (readyF N o t) with
   | .error e => .error e
   | .ok d => match walkF N next tt k (linOf N (next o tt)).dst.toNat (d + (linOf N (next o tt)).travel) with
     | .error e => .error e
     | .ok l => .ok (⟨o, t, d, next o tt⟩ :: l)
def lastArr (l : List Stp) : Int := match l.getLast? with | some s => s.arrive | none => 0
def deliverF (N : Net) (k o : Nat) (t : Int) : Except Int Int := match firstF (calOf N o) (clsOf N k).deliver (readyF N o t) with | some x => .ok x | none => .error 20
def needF (N : Net) (next : Mat) (k o d : Nat) (cut : Int) : Except Int Int :=
 match walkF N next d 19 o cut with
 | .error e => .error e
 | .ok l => match deliverF N k d (lastArr l) with
  | .error e => .error e
  | .ok t => if 0 ≤ countF (calOf N d) (dayOf (calOf N d) cut) (dayOf (calOf N d) t) then .ok (countF (calOf N d) (dayOf (calOf N d) cut) (dayOf (calOf N d) t)) else .error 1
def cutsF (c : Cal) (cut till : Int) : Nat → Int → List Int
 | 0, _ => []
 | f + 1, t => match firstF c cut t with
  | none => []
  | some x => if till ≤ x then [] else x :: cutsF c cut till f (x + 1)
def cutsOf (N : Net) (k o : Nat) (fr till : Int) : List Int := cutsF (calOf N o) (clsOf N k).cut till (till - fr).toNat fr
def mostL (f : Int → Except Int Int) : List Int → Int → Option Int
 | [], m => some m
 | c :: l, m => match f c with | .error _ => none | .ok x => mostL f l (max m x)
def mostF (N : Net) (next : Mat) (k o d : Nat) (fr till : Int) : Int := (mostL (needF N next k o d) (cutsOf N k o (1440 * fr) (1440 * till)) (-1)).getD (-1)
def powF (b : Int) : Nat → Int
 | 0 => 1
 | k + 1 => powF b k * b
def usedL (next : Mat) (n o : Nat) : List Int := (((List.range n).filter fun d => !decide (d = o)).map (next o)).filter fun l => !decide (l = -1)
def insU (x : Int) (l : List Int) : List Int := if x ∈ l then l else l ++ [x]
def setL (l : List Int) : List Int := l.foldl (fun s x => insU x s) []
def groupsN (next : Mat) (n o : Nat) : Int := 1 + (setL (usedL next n o)).length
def sortB (N : Net) (next : Mat) : Bool := (List.range N.offs.length).all fun o => decide (groupsN next N.offs.length o ≤ powF (offOf N o).pockets (offOf N o).passes.toNat)
def legsL (N : Net) (fr : Int) : List Stp → List Int
 | [] => []
 | s :: l => if s.line = -1 then [] else (dayOf (calOf N s.office) s.depart + (2 - fr)) :: legsL N fr l
def legsF (N : Net) (next : Mat) (fr : Int) (o d : Nat) (cut : Int) : List Int := match walkF N next d 19 o cut with | .ok l => legsL N fr l | .error _ => []
def tableL (n : Nat) (f : Mat) : List Int := (List.range n).flatMap fun o => (List.range n).map fun d => f o d
abbrev Cube := Nat → Nat → Nat → Int
def headL (n c : Nat) (next : Mat) (days : Cube) (fr till : Int) : List Int :=
 [fr, till, (n : Int), (c : Int)] ++ (tableL n next).map (· + 1) ++ (List.range c).flatMap fun k => (tableL n (days k)).map (· + 1)
def proofL (N : Net) (next : Mat) (days : Cube) (fr till : Int) : List Int :=
 (List.range N.clss.length).flatMap fun k => (List.range N.offs.length).flatMap fun o => (List.range N.offs.length).flatMap fun d =>
  if days k o d = -1 then [] else (cutsOf N k o (1440 * fr) (1440 * till)).flatMap fun cut => legsF N next fr o d cut
def numsF (N : Net) (next : Mat) (days : Cube) (fr till : Int) : List Int := headL N.offs.length N.clss.length next days fr till ++ proofL N next days fr till
def sealS : List Int → Int × Int → Int × Int
 | [], s => s
 | x :: l, s => sealS l (s.1 * 3 % 65521, (s.2 + x % 65521 * (s.1 * 3 % 65521)) % 65521)
def sealF (l : List Int) : Int := (sealS l (1, 0)).2
def costsF (N : Net) (fr till : Int) : Nat → Int := costF N (1440 * fr) (1440 * till)
def boundF (N : Net) (fr till : Int) : Mat := boundM N (costsF N fr till)
def nextF' (N : Net) (fr till : Int) : Mat := nextM N (costsF N fr till) (boundF N fr till)
def daysP (N : Net) (fr till : Int) : Cube := fun k o d => mostF N (nextF' N fr till) k o d fr till
def daysOk (fr till : Int) : Bool := decide (0 ≤ fr) && decide (fr < till) && decide (till ≤ 600) && decide (till - fr ≤ 60)
def certF (N : Net) (fr till : Int) : List Int := numsF N (nextF' N fr till) (daysP N fr till) fr till
def compErr (N : Net) (fr till : Int) : Int :=
 if !(daysOk fr till && soundB N) then 1
 else if !sortB N (nextF' N fr till) then 140
 else if 40000 < (certF N fr till).length then 2
 else 0
end
section
open Go.RowKit
theorem kindN_zero {limit len : Nat} {nm : Nat → ByteArray} {good : Nat → Bool} (h : kindN limit len nm good = 0) : len ≤ limit ∧ ∀ i, i < len → badAt nm good i = false := by
 unfold kindN at h
 have h1 : ¬ limit < len := fun hh => by rw [if_pos hh] at h; omega
 rw [if_neg h1] at h
 refine ⟨by omega, fun i hi => ?_⟩
 have h2 : (List.range (min len limit)).filter (badAt nm good) = [] := List.eq_nil_of_length_eq_zero (by omega)
 rw [List.filter_eq_nil_iff] at h2
 have := h2 i (by rw [List.mem_range]; omega)
 simpa using this
theorem good_of {nm : Nat → ByteArray} {good : Nat → Bool} {i : Nat} (h : badAt nm good i = false) : good i = true := by
 unfold badAt at h
 simp only [Bool.or_eq_false_iff, Bool.not_eq_false'] at h
 exact h.2
structure Snd (N : Net) : Prop where
 ncal : N.cals.length ≤ 6
 names : N.names.length = N.cals.length
 nopr : N.oprs.length ≤ 6
 noff : N.offs.length ≤ 12
 nlin : N.lins.length ≤ 40
 ncls : N.clss.length ≤ 4
 cal : ∀ i, i < N.cals.length → calOk (N.cals.getD i default) = true
 off : ∀ i, i < N.offs.length → offOk N (N.offs.getD i default) = true
 lin : ∀ i, i < N.lins.length → linOk N (N.lins.getD i default) = true
 cls : ∀ i, i < N.clss.length → clsOk (N.clss.getD i default) = true
theorem snd_faults {N : Net} (h : faultsN N = 0) : Snd N := by
 unfold faultsN at h
 have h0 : N.names.length = N.cals.length := by
  by_cases e : N.names.length = N.cals.length
  ·exact e
  ·rw [if_neg e] at h; omega
 obtain ⟨a1, a2⟩ := kindN_zero (show kindN 6 N.cals.length (calNm N) (calGd N) = 0 by omega)
 obtain ⟨b1, b2⟩ := kindN_zero (show kindN 6 N.oprs.length (oprNm N) (fun _ => true) = 0 by omega)
 obtain ⟨c1, c2⟩ := kindN_zero (show kindN 12 N.offs.length (offNm N) (offGd N) = 0 by omega)
 obtain ⟨d1, d2⟩ := kindN_zero (show kindN 40 N.lins.length (linNm N) (linGd N) = 0 by omega)
 obtain ⟨e1, e2⟩ := kindN_zero (show kindN 4 N.clss.length (clsNm N) (clsGd N) = 0 by omega)
 exact ⟨a1, h0, b1, c1, d1, e1, fun i hi => good_of (a2 i hi), fun i hi => good_of (c2 i hi), fun i hi => good_of (d2 i hi), fun i hi => good_of (e2 i hi)⟩
theorem snd_of {N : Net} (h : soundB N = true) : Snd N := by
 unfold soundB at h
 simp only [Bool.and_eq_true, decide_eq_true_eq] at h
 exact snd_faults h.1
theorem fromB_iff {v a b : Int} : fromB v a b = true ↔ a ≤ v ∧ v ≤ b := by simp [fromB]
theorem indexB_iff {i : Int} {n : Nat} : indexB i n = true ↔ 0 ≤ i ∧ i < n := by simp [indexB]
structure OffP (N : Net) (o : Off) : Prop where
 opr : 0 ≤ o.operator ∧ o.operator < N.oprs.length
 cal : 0 ≤ o.calendar ∧ o.calendar < N.cals.length
 codes : o.codes.length ≤ 20
 pockets : 2 ≤ o.pockets ∧ o.pockets ≤ 64
 passes : 1 ≤ o.passes ∧ o.passes ≤ 4
 minutes : 1 ≤ o.minutes ∧ o.minutes ≤ 240
theorem offP_of {N : Net} {o : Off} (h : offOk N o = true) : OffP N o := by
 unfold offOk at h
 simp only [Bool.and_eq_true, fromB_iff, indexB_iff, decide_eq_true_eq] at h
 exact ⟨h.1.1.1.1.1.1, h.1.1.1.1.1.2, h.1.1.1.1.2, h.1.1.2, h.1.2, h.2⟩
structure LinP (N : Net) (l : Lin) : Prop where
 src : 0 ≤ l.src ∧ l.src < N.offs.length
 dst : 0 ≤ l.dst ∧ l.dst < N.offs.length
 ne : l.src ≠ l.dst
 at_ : 0 ≤ l.at_ ∧ l.at_ ≤ 1439
 travel : 1 ≤ l.travel ∧ l.travel ≤ 5000
 load : 1 ≤ l.load ∧ l.load ≤ 40
theorem linP_of {N : Net} {l : Lin} (h : linOk N l = true) : LinP N l := by
 unfold linOk at h
 simp only [Bool.and_eq_true, fromB_iff, indexB_iff, decide_eq_true_eq, Bool.not_eq_true', decide_eq_false_iff_not] at h
 exact ⟨h.1.1.1.1.1, h.1.1.1.1.2, h.1.1.1.2, h.1.1.2, h.1.2, h.2⟩
structure ClsP (c : Cls) : Prop where
 cut : 0 ≤ c.cut ∧ c.cut ≤ 1439
 deliver : 0 ≤ c.deliver ∧ c.deliver ≤ 1439
theorem clsP_of {c : Cls} (h : clsOk c = true) : ClsP c := by
 unfold clsOk at h
 simp only [Bool.and_eq_true, fromB_iff] at h
 exact ⟨h.1, h.2⟩
structure CalP (c : Cal) : Prop where
 zone : -720 ≤ c.zone ∧ c.zone ≤ 840
 week : c.week.length = 7
 hol : c.hol.length ≤ 40
 inc : incr c.hol = true
theorem calP_of {c : Cal} (h : calOk c = true) : CalP c := by
 unfold calOk at h
 simp only [Bool.and_eq_true, decide_eq_true_eq] at h
 exact ⟨⟨h.1.1.1.1, h.1.1.1.2⟩, h.1.1.2, h.1.2, h.2⟩
section
variable {N : Net}
theorem Snd.offP (h : Snd N) {o : Int} (h0 : 0 ≤ o) (h1 : o < N.offs.length) : OffP N (offOf N o) := offP_of (h.off o.toNat (by omega))
theorem Snd.linP (h : Snd N) {i : Int} (h0 : 0 ≤ i) (h1 : i < N.lins.length) : LinP N (linOf N i) := linP_of (h.lin i.toNat (by omega))
theorem Snd.clsP (h : Snd N) {k : Int} (h0 : 0 ≤ k) (h1 : k < N.clss.length) : ClsP (clsOf N k) := clsP_of (h.cls k.toNat (by omega))
end
theorem waitF_ge (c : Cal) (at_ till : Int) : ∀ (k : Nat) (t m w : Int), waitF c at_ till k t m = some w → m ≤ w
 | 0, t, m, w, h => by
  simp only [waitF] at h; injection h with h; omega
 | k + 1, t, m, w, h => by
  rw [waitF] at h
  split at h
  ·split at h
   ·cases h
   ·have := waitF_ge c at_ till k _ _ _ h; omega
  ·injection h with h; omega
theorem cost_pos {N : Net} (h : Snd N) {fr till : Int} {i : Nat} (hi : i < N.lins.length) (hc : costF N fr till i ≠ noneI) : 2 ≤ costF N fr till i := by
 have hl := h.linP (i := i) (by omega) (by omega)
 have ho := h.offP (o := (linOf N i).dst) hl.dst.1 hl.dst.2
 unfold costF at hc ⊢
 cases hw : waitF (calOf N (linOf N i).src) (linOf N i).at_ till (till - fr).toNat fr 0 with
 | none => rw [hw] at hc; exact absurd rfl hc
 | some w =>
  have h1 := waitF_ge _ _ _ _ _ _ _ hw
  have h2 := hl.travel
  have h3 : 1 * 1 ≤ (offOf N (linOf N i).dst).passes * (offOf N (linOf N i).dst).minutes := Int.mul_le_mul ho.passes.1 ho.minutes.1 (by decide) (by have := ho.passes.1; omega)
  show 2 ≤ w + (linOf N i).travel + (offOf N (linOf N i).dst).passes * (offOf N (linOf N i).dst).minutes
  omega
def Formed (N : Net) (next : Mat) : Prop := ∀ o d, o < N.offs.length → d < N.offs.length → next o d = -1 ∨ (0 ≤ next o d ∧ next o d < N.lins.length ∧ (linOf N (next o d)).src = o)
def Falls (N : Net) (next : Mat) (φ : Mat) : Prop := ∀ o d, o < N.offs.length → d < N.offs.length → o ≠ d → next o d ≠ -1 → φ (linOf N (next o d)).dst.toNat d < φ o d
theorem best_facts {N : Net} {cost : Nat → Int} {bound : Mat} {o d : Nat} (h : bestF N cost bound o d ≠ -1) : ∃ i, bestF N cost bound o d = (i : Nat) ∧ i < N.lins.length ∧ (linOf N i).src = o ∧ cost i ≠ noneI ∧ 0 ≤ bound (linOf N i).dst.toNat d ∧ cost i + bound (linOf N i).dst.toNat d = bound o d := by
 unfold bestF at h ⊢
 cases hf : (List.range N.lins.length).find? (bestP N cost bound o d) with
 | none => rw [hf] at h; exact absurd rfl h
 | some i =>
  have h1 := List.find?_some hf
  have h2 := List.mem_of_find?_eq_some hf
  rw [List.mem_range] at h2
  unfold bestP at h1
  simp only [Bool.and_eq_true, decide_eq_true_eq, Bool.not_eq_true', decide_eq_false_iff_not] at h1
  exact ⟨i, rfl, h2, h1.1.1.1, h1.1.1.2, by omega, h1.2⟩
theorem next_formed {N : Net} {cost : Nat → Int} {bound : Mat} : Formed N (nextM N cost bound) := fun o d ho hd => by
 unfold nextM
 split
 ·exact .inl rfl
 ·by_cases hb : bestF N cost bound o d = -1
  ·exact .inl hb
  ·obtain ⟨i, e, hi, hs, _⟩ := best_facts hb
   rw [e]
   exact .inr ⟨by omega, by omega, hs⟩
theorem next_falls {N : Net} (h : Snd N) {fr till : Int} {bound : Mat} : Falls N (nextM N (costF N fr till) bound) bound := fun o d ho hd hne hn => by
 unfold nextM at hn ⊢
 split at hn
 ·exact absurd rfl hn
 ·rename_i hc
  rw [if_neg hc]
  obtain ⟨i, e, hi, hs, hc, hb, heq⟩ := best_facts hn
  rw [e]
  have := cost_pos h hi hc
  omega
def rankF (n : Nat) (f : Nat → Int) (o : Nat) : Nat := ((List.range n).filter fun y => decide (f y < f o)).length
theorem filter_len_lt {α : Type} {p q : α → Bool} : ∀ {l : List α}, (∀ x ∈ l, p x = true → q x = true) → (∃ x ∈ l, q x = true ∧ p x = false) → (l.filter p).length < (l.filter q).length
 | [], _, ⟨x, hx, _⟩ => by cases hx
 | y :: l, h, ⟨x, hx, hq, hp⟩ => by
  have hsub : (l.filter p).length ≤ (l.filter q).length := by
   clear hx hq hp
   have h' : ∀ x ∈ l, p x = true → q x = true := fun z hz => h z (List.mem_cons_of_mem _ hz)
   clear h
   induction l with
   | nil => simp
   | cons z l ih =>
    rw [List.filter_cons, List.filter_cons]
    have := ih (fun u hu => h' u (List.mem_cons_of_mem _ hu))
    by_cases hz : p z = true
    ·rw [if_pos hz, if_pos (h' z List.mem_cons_self hz)]; simpa using this
    ·rw [if_neg hz]
     split
     ·simp only [List.length_cons]; omega
     ·exact this
  rw [List.filter_cons, List.filter_cons]
  rcases List.mem_cons.1 hx with rfl | hx
  ·rw [if_neg (by rw [hp]; simp), if_pos hq]
   simp only [List.length_cons]; omega
  ·have ih := filter_len_lt (l := l) (fun z hz => h z (List.mem_cons_of_mem _ hz)) ⟨x, hx, hq, hp⟩
   by_cases hy : p y = true
   ·rw [if_pos hy, if_pos (h y List.mem_cons_self hy)]
    simp only [List.length_cons]; omega
   ·rw [if_neg hy]
    split
    ·simp only [List.length_cons]; omega
    ·exact ih
theorem rank_lt {n : Nat} {f : Nat → Int} {o x : Nat} (hx : x < n) (h : f x < f o) : rankF n f x < rankF n f o := by
 refine filter_len_lt (fun y _ hy => ?_) ⟨x, List.mem_range.2 hx, by simpa using h, by simp⟩
 simp only [decide_eq_true_eq] at hy ⊢
 omega
theorem rank_bound {n : Nat} {f : Nat → Int} {o : Nat} (ho : o < n) : rankF n f o + 1 ≤ n := by
 have h := filter_len_lt (l := List.range n) (p := fun y => decide (f y < f o)) (q := fun _ => true) (fun _ _ _ => rfl) ⟨o, List.mem_range.2 ho, rfl, by simp⟩
 have e2 : ((List.range n).filter fun _ => true).length = n := by rw [List.filter_eq_self.2 (fun _ _ => rfl), List.length_range]
 have e : rankF n f o = ((List.range n).filter fun y => decide (f y < f o)).length := rfl
 omega
end
end Go.Proofs.YtgfhcmidnbahjaaGreatDoor
