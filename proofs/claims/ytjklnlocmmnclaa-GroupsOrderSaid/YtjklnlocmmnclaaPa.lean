/- The pure lexer: what the reference's characters and lines compute, as plain functions on lists (no program in sight). -/
namespace Go.Proofs.Ytjklnlocmmnclaa

/-- A character with its place. -/
structure Rn where
  c : UInt8
  frm : Nat
  to : Nat
deriving DecidableEq

/-- The k-th character of what is left; 0 beyond the end. -/
def hd (l : List Rn) (k : Nat) : Int := match l[k]? with | some r => (r.c.toNat : Int) | none => 0
def letterB (c : Int) : Bool := decide (97 ≤ c ∧ c ≤ 122 ∨ 65 ≤ c ∧ c ≤ 90 ∨ c = 95)
def digitB (c : Int) : Bool := decide (48 ≤ c ∧ c ≤ 57)
def whiteB (c : Int) : Bool := decide (c = 32 ∨ c = 9 ∨ 11 ≤ c ∧ c ≤ 13)

/-- A trigraph's character. -/
def trig (c : UInt8) : Option UInt8 :=
  if c = 61 then some 35 else if c = 47 then some 92 else if c = 39 then some 94 else if c = 40 then some 91 else if c = 41 then some 93
  else if c = 33 then some 124 else if c = 60 then some 123 else if c = 62 then some 125 else if c = 45 then some 126 else none

/-- What the beginning of a text is, if it is a trigraph. -/
def trigAt (l : List UInt8) : Option UInt8 :=
  match l with
  | a :: b :: c :: _ => if a = 63 ∧ b = 63 then trig c else none
  | _ => none

/-- Bytes as characters, trigraphs as one. The first number: how many bytes are still a part of what is behind; the second: the place. -/
def plainS : Nat → Nat → List UInt8 → List Rn
  | _, _, [] => []
  | k + 1, i, _ :: l => plainS k (i + 1) l
  | 0, i, b :: l =>
    match trigAt (b :: l) with
    | some c => ⟨c, i, i + 3⟩ :: plainS 2 (i + 1) l
    | none => ⟨b, i, i + 1⟩ :: plainS 0 (i + 1) l

def splicedP : List Rn → List Rn
  | [] => []
  | [r] => [r]
  | r :: s :: l => if r.c = 92 ∧ s.c = 10 then splicedP l else r :: splicedP (s :: l)

def endsNl (l : List Rn) : Bool := match l.getLast? with | some r => r.c == 10 | none => false

def charsP (s : List UInt8) : List Rn :=
  let out := splicedP (plainS 0 0 s)
  if s.length > 0 ∧ endsNl out = false then out ++ [⟨10, s.length, s.length⟩] else out

def lettersI (c0 c1 c2 : Int) : Int :=
  if c0 = 34 ∨ c0 = 39 then 0 else if c0 = 117 ∧ c1 = 56 ∧ c2 = 34 then 2
  else if (c0 = 76 ∨ c0 = 117 ∨ c0 = 85) ∧ (c1 = 34 ∨ c1 = 39) then 1 else -1
def lettersP (l : List Rn) : Int := lettersI (hd l 0) (hd l 1) (hd l 2)

/-- How many characters go to the closing quote's end; 0: it does not close. -/
def quotedL (q : Int) : List Rn → Nat
  | [] => 0
  | [r] => if (r.c.toNat : Int) = 10 then 0 else if (r.c.toNat : Int) = q then 1 else 0
  | r :: s :: l =>
    if (r.c.toNat : Int) = 10 then 0
    else if (r.c.toNat : Int) = 92 ∧ ¬ (s.c.toNat : Int) = 10 then (if quotedL q l = 0 then 0 else quotedL q l + 2)
    else if (r.c.toNat : Int) = q then 1
    else if quotedL q (s :: l) = 0 then 0 else quotedL q (s :: l) + 1

def expoB (c : Int) : Bool := decide (c = 101 ∨ c = 69 ∨ c = 112 ∨ c = 80)
def signB (c : Int) : Bool := decide (c = 43 ∨ c = 45)
def numL : List Rn → Nat
  | [] => 0
  | [r] => if letterB r.c.toNat || digitB r.c.toNat || decide ((r.c.toNat : Int) = 46) then 1 else 0
  | r :: s :: l =>
    if expoB r.c.toNat && signB s.c.toNat then 2 + numL l
    else if letterB r.c.toNat || digitB r.c.toNat || decide ((r.c.toNat : Int) = 46) then 1 + numL (s :: l) else 0
def numP (l : List Rn) : Nat :=
  if digitB (hd l 0) || decide (hd l 0 = 46) && digitB (hd l 1) then 1 + numL (l.drop 1) else 0

def identL : List Rn → Nat
  | [] => 0
  | r :: l => if letterB r.c.toNat || digitB r.c.toNat then 1 + identL l else 0

def punctsP : List (List UInt8) :=
  [[37,58,37,58], [46,46,46], [60,60,61], [62,62,61], [45,62], [43,43], [45,45], [60,60], [62,62], [60,61], [62,61], [61,61], [33,61], [38,38], [124,124],
   [42,61], [47,61], [37,61], [43,61], [45,61], [38,61], [94,61], [124,61], [35,35], [60,58], [58,62], [60,37], [37,62], [37,58],
   [91], [93], [40], [41], [123], [125], [46], [38], [42], [43], [45], [126], [33], [47], [37], [60], [62], [94], [124], [63], [58], [59], [61], [44], [35]]

def pmatch : List UInt8 → List Rn → Bool
  | [], _ => true
  | a :: p, l => decide (hd l 0 = (a.toNat : Int)) && pmatch p (l.drop 1)
def punctIn (l : List Rn) : List (List UInt8) → Nat
  | [] => 0
  | p :: ps => if pmatch p l then p.length else punctIn l ps
def punctP (l : List Rn) : Nat := punctIn l punctsP

/-- A token's kind, how many characters it has, whether its quote does not end. -/
def nextP (l : List Rn) : Int × Nat × Bool :=
  let k := lettersP l
  let e := quotedL (hd l k.toNat) (l.drop (k.toNat + 1))
  if k ≥ 0 ∧ e > 0 then (if hd l k.toNat = 34 then (4, k.toNat + 1 + e, false) else (3, k.toNat + 1 + e, false))
  else if k = 0 then (6, 1, true)
  else if letterB (hd l 0) then (1, 1 + identL (l.drop 1), false)
  else if numP l > 0 then (2, numP l, false)
  else if punctP l > 0 then (5, punctP l, false)
  else (6, 1, false)

def toNl : List Rn → Nat
  | [] => 0
  | r :: l => if (r.c.toNat : Int) = 10 then 0 else 1 + toNl l
/-- How many characters go to a comment's end, from behind its beginning. -/
def cmEnd : List Rn → Option Nat
  | [] => none
  | r :: l => if (r.c.toNat : Int) = 42 ∧ hd l 0 = 47 then some 2 else (cmEnd l).map (· + 1)
def commentP (l : List Rn) : Nat × Bool :=
  if ¬ hd l 0 = 47 then (0, false)
  else if hd l 1 = 47 then (toNl l, false)
  else if ¬ hd l 1 = 42 then (0, false)
  else match cmEnd (l.drop 2) with
    | some k => (2 + k, false)
    | none => (l.length, true)

def textP (l : List Rn) : List UInt8 := l.map (·.c)

/-- A token of the lexer. -/
structure Tk where
  kind : Int
  text : List UInt8
  space : Bool
  frm : Nat
  to : Nat
deriving DecidableEq
structure Ln where
  toks : List Tk
  frm : Nat
  to : Nat
  opn : Bool
deriving DecidableEq
structure Dg where
  code : Int
  frm : Nat
  to : Nat
deriving DecidableEq

/-- The lexer's state: the lines that are done, what is told, the line that is read, its beginning, white space behind. -/
structure St where
  out : List Ln
  dgs : List Dg
  toks : List Tk
  frm : Nat
  space : Bool

def setTo (sz : Nat) : List Ln → List Ln
  | [] => []
  | [x] => [{ x with to := sz }]
  | x :: y :: l => x :: setTo sz (y :: l)

def tokAt (l : List Rn) (space : Bool) : Tk :=
  let n := nextP l
  ⟨n.1, textP (l.take n.2.1), space, (l.head?.map (·.frm)).getD 0, ((l[n.2.1 - 1]?).map (·.to)).getD 0⟩

/-- The lexer's loop: how many characters are still a part of what is behind; what is left; the state. -/
def lx (sz : Nat) : Nat → List Rn → St → List Ln × List Dg
  | _, [], st => (setTo sz st.out, st.dgs)
  | k + 1, _ :: l, st => lx sz k l st
  | 0, r :: l, st =>
    if (r.c.toNat : Int) = 10 then lx sz 0 l ⟨st.out ++ [⟨st.toks, st.frm, r.to, false⟩], st.dgs, [], r.to, false⟩
    else if whiteB r.c.toNat then lx sz 0 l { st with space := true }
    else if (commentP (r :: l)).1 > 0 then
      (if (commentP (r :: l)).2 then (st.out ++ [⟨st.toks, st.frm, sz, true⟩], st.dgs ++ [⟨1, r.frm, ((l[0]?).map (·.to)).getD 0⟩])
       else lx sz ((commentP (r :: l)).1 - 1) l { st with space := true })
    else
      lx sz ((nextP (r :: l)).2.1 - 1) l ⟨st.out, if (nextP (r :: l)).2.2 then st.dgs ++ [⟨2, (tokAt (r :: l) st.space).frm, (tokAt (r :: l) st.space).to⟩] else st.dgs,
        st.toks ++ [tokAt (r :: l) st.space], st.frm, false⟩

def linesP (s : List UInt8) : List Ln × List Dg := lx s.length 0 (charsP s) ⟨[], [], [], 0, false⟩


/- Small facts for the walks. -/
theorem hd_drop (l : List Rn) (i k : Nat) : hd (l.drop i) k = hd l (i + k) := by unfold hd; rw [List.getElem?_drop]
theorem hd_some {l : List Rn} {k : Nat} {r : Rn} (h : l[k]? = some r) : hd l k = (r.c.toNat : Int) := by simp [hd, h]
theorem hd_none {l : List Rn} {k : Nat} (h : l.length ≤ k) : hd l k = 0 := by simp [hd, List.getElem?_eq_none h]
theorem hd_pos (l : List Rn) (k : Nat) : 0 ≤ hd l k := by
  unfold hd
  split <;> omega
theorem drop_at {l : List Rn} {k : Nat} {r : Rn} (h : l[k]? = some r) : l.drop k = r :: l.drop (k + 1) := by
  obtain ⟨hk, rfl⟩ := List.getElem?_eq_some_iff.1 h
  exact List.drop_eq_getElem_cons hk

/-- Where a constant ends, as a place; 0: it does not. -/
def quotedR (l : List Rn) (k : Nat) (q : Int) : Int := if quotedL q (l.drop k) = 0 then 0 else (k : Int) + quotedL q (l.drop k)
theorem quotedR_end {l : List Rn} {k : Nat} (q : Int) (h : l.length ≤ k) : quotedR l k q = 0 := by
  unfold quotedR; rw [List.drop_of_length_le h]; simp [quotedL]
theorem quotedR_one {l : List Rn} {k : Nat} {r : Rn} (q : Int) (h : l[k]? = some r) (hl : l.length ≤ k + 1) :
    quotedR l k q = if (r.c.toNat : Int) = 10 then 0 else if (r.c.toNat : Int) = q then (k : Int) + 1 else quotedR l (k + 1) q := by
  rw [quotedR_end q hl]
  unfold quotedR
  rw [drop_at h, List.drop_of_length_le hl]
  simp only [quotedL]
  (repeat' split) <;> first | rfl | omega
theorem quotedR_two {l : List Rn} {k : Nat} {r s : Rn} (q : Int) (h : l[k]? = some r) (hs : l[k + 1]? = some s) :
    quotedR l k q = if (r.c.toNat : Int) = 10 then 0 else if (r.c.toNat : Int) = 92 ∧ ¬ (s.c.toNat : Int) = 10 then quotedR l (k + 2) q
      else if (r.c.toNat : Int) = q then (k : Int) + 1 else quotedR l (k + 1) q := by
  unfold quotedR
  rw [drop_at h, drop_at hs, show l.drop (k + 1 + 1) = l.drop (k + 2) from rfl]
  simp only [quotedL]
  (repeat' split) <;> first | rfl | omega

/-- Where a number ends, of which one character is read. -/
def numR (l : List Rn) (k : Nat) : Int := (k : Int) + numL (l.drop k)
theorem numR_at (l : List Rn) (k : Nat) :
    numR l k = if expoB (hd l k) && signB (hd l (k + 1)) then numR l (k + 2)
      else if letterB (hd l k) || digitB (hd l k) || decide (hd l k = 46) then numR l (k + 1) else (k : Int) := by
  unfold numR
  cases h : l[k]? with
  | none =>
    have hl : l.length ≤ k := by simpa using h
    rw [hd_none hl, List.drop_of_length_le hl]
    simp [numL, expoB, letterB, digitB]
  | some r =>
    rw [hd_some h, drop_at h]
    cases hs : l[k + 1]? with
    | none =>
      have hl : l.length ≤ k + 1 := by simpa using hs
      rw [hd_none hl, List.drop_of_length_le hl]
      have h0 : signB 0 = false := by decide
      simp only [numL, h0, Bool.and_false]
      (repeat' split) <;> simp_all
    | some s =>
      rw [hd_some hs, drop_at hs, show l.drop (k + 1 + 1) = l.drop (k + 2) from rfl]
      simp only [numL]
      (repeat' split) <;> omega

/-- Where a name ends, of which one letter is read. -/
def identR (l : List Rn) (k : Nat) : Int := (k : Int) + identL (l.drop k)
theorem identR_at (l : List Rn) (k : Nat) : identR l k = if letterB (hd l k) || digitB (hd l k) then identR l (k + 1) else (k : Int) := by
  unfold identR
  cases h : l[k]? with
  | none =>
    have hl : l.length ≤ k := by simpa using h
    rw [hd_none hl, List.drop_of_length_le hl]
    simp [identL, letterB, digitB]
  | some r =>
    rw [hd_some h, drop_at h]
    simp only [identL]
    split <;> first | omega | simp_all

/-- Where a line's end stands. -/
def nlR (l : List Rn) (k : Nat) : Int := (k : Int) + toNl (l.drop k)
theorem nlR_end {l : List Rn} {k : Nat} (h : l.length ≤ k) : nlR l k = k := by unfold nlR; rw [List.drop_of_length_le h]; simp [toNl]
theorem nlR_at {l : List Rn} {k : Nat} {r : Rn} (h : l[k]? = some r) : nlR l k = if (r.c.toNat : Int) = 10 then (k : Int) else nlR l (k + 1) := by
  unfold nlR
  rw [drop_at h]
  simp only [toNl]
  split <;> first | omega | simp_all
/-- Where a comment ends, and whether it does not. -/
def cmR (l : List Rn) (k : Nat) : Int × Bool := match cmEnd (l.drop k) with | some n => ((k + n : Nat), false) | none => (l.length, true)
theorem cmR_end {l : List Rn} {k : Nat} (h : l.length ≤ k) : cmR l k = ((l.length : Int), true) := by unfold cmR; rw [List.drop_of_length_le h]; simp [cmEnd]
theorem cmR_at {l : List Rn} {k : Nat} {r : Rn} (h : l[k]? = some r) :
    cmR l k = if (r.c.toNat : Int) = 42 ∧ hd l (k + 1) = 47 then ((k : Int) + 2, false) else cmR l (k + 1) := by
  unfold cmR
  rw [drop_at h]
  simp only [cmEnd, hd_drop, Nat.add_zero]
  split
  · rename_i n hn
    split at hn
    · cases hn
      rw [if_pos ‹_›]
      simp
    · rw [if_neg ‹_›]
      simp only [Option.map_eq_some_iff] at hn
      obtain ⟨m, hm, rfl⟩ := hn
      rw [hm]
      simp only [Prod.mk.injEq, and_true]
      omega
  · rename_i hn
    split at hn
    · cases hn
    · rw [if_neg ‹_›]
      simp only [Option.map_eq_none_iff] at hn
      rw [hn]

def bytesOf (s : String) : List UInt8 := s.toUTF8.data.toList
example : ((linesP [35, 32, 100, 101, 102, 105, 110, 101, 32, 65]).1.map fun l => l.toks.map fun t => (t.kind, t.text)) = [[(5, [35]), (1, [100, 101, 102, 105, 110, 101]), (1, [65])]] := by decide +kernel
example : ((linesP [35, 32, 100, 101, 102, 105, 110, 101, 32, 65])).2 = [] := by decide +kernel
end Go.Proofs.Ytjklnlocmmnclaa
