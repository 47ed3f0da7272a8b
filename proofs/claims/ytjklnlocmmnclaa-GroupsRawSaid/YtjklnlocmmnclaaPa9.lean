/- The pure lexer: what the reference's characters and lines compute, as plain functions on lists (no program in sight). The pure lexer: a token's case laws. The pure lexer: what each round of its loop does. The pure directives: words and kinds of lines. The pure lexer: its tokens are no longer than the text. -/

namespace Go.Proofs.Ytjklnlocmmnclaa

/-- A character with its place. -/
structure Rn where
  c : UInt8
  frm : Nat
  to : Nat
deriving DecidableEq

/-- The k-th character of what is left; 0 beyond the end. -/
def hd (l : List Rn) (k : Nat) : Int := match l[k]? with | some r => (r.c.toNat : Int) | none => 0
def letterB (c : Int) : Bool := decide (97 ≤ c ∧ c ≤ 122 ∨ 65 ≤ c ∧ c ≤ 90 ∨ c = 95)
def digitB (c : Int) : Bool := decide (48 ≤ c ∧ c ≤ 57)
def whiteB (c : Int) : Bool := decide (c = 32 ∨ c = 9 ∨ 11 ≤ c ∧ c ≤ 13)

/-- A trigraph's character. -/
def trig (c : UInt8) : Option UInt8 :=
  if c = 61 then some 35 else if c = 47 then some 92 else if c = 39 then some 94 else if c = 40 then some 91 else if c = 41 then some 93
  else if c = 33 then some 124 else if c = 60 then some 123 else if c = 62 then some 125 else if c = 45 then some 126 else none

/-- What the beginning of a text is, if it is a trigraph. -/
def trigAt (l : List UInt8) : Option UInt8 :=
  match l with
  | a :: b :: c :: _ => if a = 63 ∧ b = 63 then trig c else none
  | _ => none

/-- Bytes as characters, trigraphs as one. The first number: how many bytes are still a part of what is behind; the second: the place. -/
def plainS : Nat → Nat → List UInt8 → List Rn
  | _, _, [] => []
  | k + 1, i, _ :: l => plainS k (i + 1) l
  | 0, i, b :: l =>
    match trigAt (b :: l) with
    | some c => ⟨c, i, i + 3⟩ :: plainS 2 (i + 1) l
    | none => ⟨b, i, i + 1⟩ :: plainS 0 (i + 1) l

def splicedP : List Rn → List Rn
  | [] => []
  | [r] => [r]
  | r :: s :: l => if r.c = 92 ∧ s.c = 10 then splicedP l else r :: splicedP (s :: l)

def endsNl (l : List Rn) : Bool := match l.getLast? with | some r => r.c == 10 | none => false

def charsP (s : List UInt8) : List Rn :=
  let out := splicedP (plainS 0 0 s)
  if s.length > 0 ∧ endsNl out = false then out ++ [⟨10, s.length, s.length⟩] else out

def lettersI (c0 c1 c2 : Int) : Int :=
  if c0 = 34 ∨ c0 = 39 then 0 else if c0 = 117 ∧ c1 = 56 ∧ c2 = 34 then 2
  else if (c0 = 76 ∨ c0 = 117 ∨ c0 = 85) ∧ (c1 = 34 ∨ c1 = 39) then 1 else -1
def lettersP (l : List Rn) : Int := lettersI (hd l 0) (hd l 1) (hd l 2)

/-- How many characters go to the closing quote's end; 0: it does not close. -/
def quotedL (q : Int) : List Rn → Nat
  | [] => 0
  | [r] => if (r.c.toNat : Int) = 10 then 0 else if (r.c.toNat : Int) = q then 1 else 0
  | r :: s :: l =>
    if (r.c.toNat : Int) = 10 then 0
    else if (r.c.toNat : Int) = 92 ∧ ¬ (s.c.toNat : Int) = 10 then (if quotedL q l = 0 then 0 else quotedL q l + 2)
    else if (r.c.toNat : Int) = q then 1
    else if quotedL q (s :: l) = 0 then 0 else quotedL q (s :: l) + 1

def expoB (c : Int) : Bool := decide (c = 101 ∨ c = 69 ∨ c = 112 ∨ c = 80)
def signB (c : Int) : Bool := decide (c = 43 ∨ c = 45)
def numL : List Rn → Nat
  | [] => 0
  | [r] => if letterB r.c.toNat || digitB r.c.toNat || decide ((r.c.toNat : Int) = 46) then 1 else 0
  | r :: s :: l =>
    if expoB r.c.toNat && signB s.c.toNat then 2 + numL l
    else if letterB r.c.toNat || digitB r.c.toNat || decide ((r.c.toNat : Int) = 46) then 1 + numL (s :: l) else 0
def numP (l : List Rn) : Nat :=
  if digitB (hd l 0) || decide (hd l 0 = 46) && digitB (hd l 1) then 1 + numL (l.drop 1) else 0

def identL : List Rn → Nat
  | [] => 0
  | r :: l => if letterB r.c.toNat || digitB r.c.toNat then 1 + identL l else 0

def punctsP : List (List UInt8) :=
  [[37,58,37,58], [46,46,46], [60,60,61], [62,62,61], [45,62], [43,43], [45,45], [60,60], [62,62], [60,61], [62,61], [61,61], [33,61], [38,38], [124,124],
   [42,61], [47,61], [37,61], [43,61], [45,61], [38,61], [94,61], [124,61], [35,35], [60,58], [58,62], [60,37], [37,62], [37,58],
   [91], [93], [40], [41], [123], [125], [46], [38], [42], [43], [45], [126], [33], [47], [37], [60], [62], [94], [124], [63], [58], [59], [61], [44], [35]]

def pmatch : List UInt8 → List Rn → Bool
  | [], _ => true
  | a :: p, l => decide (hd l 0 = (a.toNat : Int)) && pmatch p (l.drop 1)
def punctIn (l : List Rn) : List (List UInt8) → Nat
  | [] => 0
  | p :: ps => if pmatch p l then p.length else punctIn l ps
def punctP (l : List Rn) : Nat := punctIn l punctsP

/-- A token's kind, how many characters it has, whether its quote does not end. -/
def nextP (l : List Rn) : Int × Nat × Bool :=
  let k := lettersP l
  let e := quotedL (hd l k.toNat) (l.drop (k.toNat + 1))
  if k ≥ 0 ∧ e > 0 then (if hd l k.toNat = 34 then (4, k.toNat + 1 + e, false) else (3, k.toNat + 1 + e, false))
  else if k = 0 then (6, 1, true)
  else if letterB (hd l 0) then (1, 1 + identL (l.drop 1), false)
  else if numP l > 0 then (2, numP l, false)
  else if punctP l > 0 then (5, punctP l, false)
  else (6, 1, false)

def toNl : List Rn → Nat
  | [] => 0
  | r :: l => if (r.c.toNat : Int) = 10 then 0 else 1 + toNl l
/-- How many characters go to a comment's end, from behind its beginning. -/
def cmEnd : List Rn → Option Nat
  | [] => none
  | r :: l => if (r.c.toNat : Int) = 42 ∧ hd l 0 = 47 then some 2 else (cmEnd l).map (· + 1)
def commentP (l : List Rn) : Nat × Bool :=
  if ¬ hd l 0 = 47 then (0, false)
  else if hd l 1 = 47 then (toNl l, false)
  else if ¬ hd l 1 = 42 then (0, false)
  else match cmEnd (l.drop 2) with
    | some k => (2 + k, false)
    | none => (l.length, true)

def textP (l : List Rn) : List UInt8 := l.map (·.c)

/-- A token of the lexer. -/
structure Tk where
  kind : Int
  text : List UInt8
  space : Bool
  frm : Nat
  to : Nat
deriving DecidableEq
structure Ln where
  toks : List Tk
  frm : Nat
  to : Nat
  opn : Bool
deriving DecidableEq
structure Dg where
  code : Int
  frm : Nat
  to : Nat
deriving DecidableEq

/-- The lexer's state: the lines that are done, what is told, the line that is read, its beginning, white space behind. -/
structure St where
  out : List Ln
  dgs : List Dg
  toks : List Tk
  frm : Nat
  space : Bool

def setTo (sz : Nat) : List Ln → List Ln
  | [] => []
  | [x] => [{ x with to := sz }]
  | x :: y :: l => x :: setTo sz (y :: l)

def tokAt (l : List Rn) (space : Bool) : Tk :=
  let n := nextP l
  ⟨n.1, textP (l.take n.2.1), space, (l.head?.map (·.frm)).getD 0, ((l[n.2.1 - 1]?).map (·.to)).getD 0⟩

/-- The lexer's loop: how many characters are still a part of what is behind; what is left; the state. -/
def lx (sz : Nat) : Nat → List Rn → St → List Ln × List Dg
  | _, [], st => (setTo sz st.out, st.dgs)
  | k + 1, _ :: l, st => lx sz k l st
  | 0, r :: l, st =>
    if (r.c.toNat : Int) = 10 then lx sz 0 l ⟨st.out ++ [⟨st.toks, st.frm, r.to, false⟩], st.dgs, [], r.to, false⟩
    else if whiteB r.c.toNat then lx sz 0 l { st with space := true }
    else if (commentP (r :: l)).1 > 0 then
      (if (commentP (r :: l)).2 then (st.out ++ [⟨st.toks, st.frm, sz, true⟩], st.dgs ++ [⟨1, r.frm, ((l[0]?).map (·.to)).getD 0⟩])
       else lx sz ((commentP (r :: l)).1 - 1) l { st with space := true })
    else
      lx sz ((nextP (r :: l)).2.1 - 1) l ⟨st.out, if (nextP (r :: l)).2.2 then st.dgs ++ [⟨2, (tokAt (r :: l) st.space).frm, (tokAt (r :: l) st.space).to⟩] else st.dgs,
        st.toks ++ [tokAt (r :: l) st.space], st.frm, false⟩

def linesP (s : List UInt8) : List Ln × List Dg := lx s.length 0 (charsP s) ⟨[], [], [], 0, false⟩


/- Small facts for the walks. -/
theorem hd_drop (l : List Rn) (i k : Nat) : hd (l.drop i) k = hd l (i + k) := by unfold hd; rw [List.getElem?_drop]
theorem hd_some {l : List Rn} {k : Nat} {r : Rn} (h : l[k]? = some r) : hd l k = (r.c.toNat : Int) := by simp [hd, h]
theorem hd_none {l : List Rn} {k : Nat} (h : l.length ≤ k) : hd l k = 0 := by simp [hd, List.getElem?_eq_none h]
theorem hd_pos (l : List Rn) (k : Nat) : 0 ≤ hd l k := by
  unfold hd
  split <;> omega
theorem drop_at {l : List Rn} {k : Nat} {r : Rn} (h : l[k]? = some r) : l.drop k = r :: l.drop (k + 1) := by
  obtain ⟨hk, rfl⟩ := List.getElem?_eq_some_iff.1 h
  exact List.drop_eq_getElem_cons hk

/-- Where a constant ends, as a place; 0: it does not. -/
def quotedR (l : List Rn) (k : Nat) (q : Int) : Int := if quotedL q (l.drop k) = 0 then 0 else (k : Int) + quotedL q (l.drop k)
theorem quotedR_end {l : List Rn} {k : Nat} (q : Int) (h : l.length ≤ k) : quotedR l k q = 0 := by
  unfold quotedR; rw [List.drop_of_length_le h]; simp [quotedL]
theorem quotedR_one {l : List Rn} {k : Nat} {r : Rn} (q : Int) (h : l[k]? = some r) (hl : l.length ≤ k + 1) :
    quotedR l k q = if (r.c.toNat : Int) = 10 then 0 else if (r.c.toNat : Int) = q then (k : Int) + 1 else quotedR l (k + 1) q := by
  rw [quotedR_end q hl]
  unfold quotedR
  rw [drop_at h, List.drop_of_length_le hl]
  simp only [quotedL]
  (repeat' split) <;> first | rfl | omega
theorem quotedR_two {l : List Rn} {k : Nat} {r s : Rn} (q : Int) (h : l[k]? = some r) (hs : l[k + 1]? = some s) :
    quotedR l k q = if (r.c.toNat : Int) = 10 then 0 else if (r.c.toNat : Int) = 92 ∧ ¬ (s.c.toNat : Int) = 10 then quotedR l (k + 2) q
      else if (r.c.toNat : Int) = q then (k : Int) + 1 else quotedR l (k + 1) q := by
  unfold quotedR
  rw [drop_at h, drop_at hs, show l.drop (k + 1 + 1) = l.drop (k + 2) from rfl]
  simp only [quotedL]
  (repeat' split) <;> first | rfl | omega

/-- Where a number ends, of which one character is read. -/
def numR (l : List Rn) (k : Nat) : Int := (k : Int) + numL (l.drop k)
theorem numR_at (l : List Rn) (k : Nat) :
    numR l k = if expoB (hd l k) && signB (hd l (k + 1)) then numR l (k + 2)
      else if letterB (hd l k) || digitB (hd l k) || decide (hd l k = 46) then numR l (k + 1) else (k : Int) := by
  unfold numR
  cases h : l[k]? with
  | none =>
    have hl : l.length ≤ k := by simpa using h
    rw [hd_none hl, List.drop_of_length_le hl]
    simp [numL, expoB, letterB, digitB]
  | some r =>
    rw [hd_some h, drop_at h]
    cases hs : l[k + 1]? with
    | none =>
      have hl : l.length ≤ k + 1 := by simpa using hs
      rw [hd_none hl, List.drop_of_length_le hl]
      have h0 : signB 0 = false := by decide
      simp only [numL, h0, Bool.and_false]
      (repeat' split) <;> simp_all
    | some s =>
      rw [hd_some hs, drop_at hs, show l.drop (k + 1 + 1) = l.drop (k + 2) from rfl]
      simp only [numL]
      (repeat' split) <;> omega

/-- Where a name ends, of which one letter is read. -/
def identR (l : List Rn) (k : Nat) : Int := (k : Int) + identL (l.drop k)
theorem identR_at (l : List Rn) (k : Nat) : identR l k = if letterB (hd l k) || digitB (hd l k) then identR l (k + 1) else (k : Int) := by
  unfold identR
  cases h : l[k]? with
  | none =>
    have hl : l.length ≤ k := by simpa using h
    rw [hd_none hl, List.drop_of_length_le hl]
    simp [identL, letterB, digitB]
  | some r =>
    rw [hd_some h, drop_at h]
    simp only [identL]
    split <;> first | omega | simp_all

/-- Where a line's end stands. -/
def nlR (l : List Rn) (k : Nat) : Int := (k : Int) + toNl (l.drop k)
theorem nlR_end {l : List Rn} {k : Nat} (h : l.length ≤ k) : nlR l k = k := by unfold nlR; rw [List.drop_of_length_le h]; simp [toNl]
theorem nlR_at {l : List Rn} {k : Nat} {r : Rn} (h : l[k]? = some r) : nlR l k = if (r.c.toNat : Int) = 10 then (k : Int) else nlR l (k + 1) := by
  unfold nlR
  rw [drop_at h]
  simp only [toNl]
  split <;> first | omega | simp_all
/-- Where a comment ends, and whether it does not. -/
def cmR (l : List Rn) (k : Nat) : Int × Bool := match cmEnd (l.drop k) with | some n => ((k + n : Nat), false) | none => (l.length, true)
theorem cmR_end {l : List Rn} {k : Nat} (h : l.length ≤ k) : cmR l k = ((l.length : Int), true) := by unfold cmR; rw [List.drop_of_length_le h]; simp [cmEnd]
theorem cmR_at {l : List Rn} {k : Nat} {r : Rn} (h : l[k]? = some r) :
    cmR l k = if (r.c.toNat : Int) = 42 ∧ hd l (k + 1) = 47 then ((k : Int) + 2, false) else cmR l (k + 1) := by
  unfold cmR
  rw [drop_at h]
  simp only [cmEnd, hd_drop, Nat.add_zero]
  split
  · rename_i n hn
    split at hn
    · cases hn
      rw [if_pos ‹_›]
      simp
    · rw [if_neg ‹_›]
      simp only [Option.map_eq_some_iff] at hn
      obtain ⟨m, hm, rfl⟩ := hn
      rw [hm]
      simp only [Prod.mk.injEq, and_true]
      omega
  · rename_i hn
    split at hn
    · cases hn
    · rw [if_neg ‹_›]
      simp only [Option.map_eq_none_iff] at hn
      rw [hn]

def bytesOf (s : String) : List UInt8 := s.toUTF8.data.toList
example : ((linesP [35, 32, 100, 101, 102, 105, 110, 101, 32, 65]).1.map fun l => l.toks.map fun t => (t.kind, t.text)) = [[(5, [35]), (1, [100, 101, 102, 105, 110, 101]), (1, [65])]] := by decide +kernel
example : ((linesP [35, 32, 100, 101, 102, 105, 110, 101, 32, 65])).2 = [] := by decide +kernel
end Go.Proofs.Ytjklnlocmmnclaa
namespace Go.Proofs.Ytjklnlocmmnclaa

def nextT (l : List Rn) (i : Nat) : Int × Int × Bool := ((nextP (l.drop i)).1, (i : Int) + (nextP (l.drop i)).2.1, (nextP (l.drop i)).2.2)
def restT (l : List Rn) (i : Nat) : Int × Int × Bool :=
  if letterB (hd l i) then (1, identR l (i + 1), false)
  else if numP (l.drop i) > 0 then (2, (i : Int) + numP (l.drop i), false)
  else if punctP (l.drop i) > 0 then (5, (i : Int) + punctP (l.drop i), false)
  else (6, (i : Int) + 1, false)

theorem letters_range (l : List Rn) : lettersP l = -1 ∨ lettersP l = 0 ∨ lettersP l = 1 ∨ lettersP l = 2 := by
  unfold lettersP lettersI
  (repeat' split) <;> simp
theorem letters_zero {l : List Rn} {i : Nat} (h : lettersP (l.drop i) = 0) : i < l.length := by
  rcases Nat.lt_or_ge i l.length with h1 | h1
  · exact h1
  · unfold lettersP lettersI at h
    rw [hd_drop, hd_none (show l.length ≤ i + 0 by omega)] at h
    simp at h
theorem letters_one {l : List Rn} {i : Nat} (h : lettersP (l.drop i) = 1) : i + 1 < l.length := by
  rcases Nat.lt_or_ge (i + 1) l.length with h1 | h1
  · exact h1
  · unfold lettersP lettersI at h
    rw [hd_drop _ _ 1, hd_none h1] at h
    simp at h
    (repeat' split at h) <;> simp_all
theorem letters_two {l : List Rn} {i : Nat} (h : lettersP (l.drop i) = 2) : i + 2 < l.length := by
  rcases Nat.lt_or_ge (i + 2) l.length with h1 | h1
  · exact h1
  · unfold lettersP lettersI at h
    rw [hd_drop _ _ 2, hd_none h1] at h
    simp at h
    (repeat' split at h) <;> simp_all

theorem next_q {l : List Rn} {i k : Nat} (h : lettersP (l.drop i) = (k : Int)) (he : 0 < quotedR l (i + k + 1) (hd l (i + k))) :
    nextT l i = if hd l (i + k) = 34 then (4, quotedR l (i + k + 1) (hd l (i + k)), false) else (3, quotedR l (i + k + 1) (hd l (i + k)), false) := by
  unfold nextT nextP
  simp only [h, Int.toNat_natCast, hd_drop, List.drop_drop]
  unfold quotedR at *
  rw [show i + (k + 1) = i + k + 1 from rfl]
  split at he
  · omega
  · rename_i hne
    rw [if_pos ⟨by omega, by omega⟩, if_neg hne]
    split <;> (simp only [Prod.mk.injEq, true_and, and_true]; omega)
theorem next_bad {l : List Rn} {i : Nat} (h : lettersP (l.drop i) = 0) (he : ¬ 0 < quotedR l (i + 1) (hd l i)) : nextT l i = (6, (i : Int) + 1, true) := by
  unfold nextT nextP
  simp only [h, Int.toNat_zero, hd_drop, List.drop_drop, Nat.add_zero, Nat.zero_add]
  unfold quotedR at *
  split at he
  · rename_i hz
    rw [hz]
    simp
  · omega
theorem next_rest {l : List Rn} {i : Nat} (h : lettersP (l.drop i) = -1 ∨ ∃ k : Nat, 0 < k ∧ lettersP (l.drop i) = (k : Int) ∧ ¬ 0 < quotedR l (i + k + 1) (hd l (i + k))) : nextT l i = restT l i := by
  have hc : ¬ (lettersP (l.drop i) ≥ 0 ∧ quotedL (hd (l.drop i) (lettersP (l.drop i)).toNat) ((l.drop i).drop ((lettersP (l.drop i)).toNat + 1)) > 0) ∧ ¬ lettersP (l.drop i) = 0 := by
    rcases h with h | ⟨k, hk, h, he⟩
    · rw [h]; simp
    · rw [h]
      refine ⟨?_, by omega⟩
      simp only [Int.toNat_natCast, hd_drop, List.drop_drop]
      unfold quotedR at he
      rw [show i + (k + 1) = i + k + 1 from rfl]
      split at he <;> omega
  unfold nextT nextP restT
  simp only []
  rw [if_neg hc.1, if_neg hc.2]
  simp only [hd_drop, List.drop_drop, Nat.add_zero]
  unfold identR
  (repeat' split) <;> first | rfl | (simp only [Prod.mk.injEq, true_and, and_true]; omega)
theorem numL_le : ∀ l : List Rn, numL l ≤ l.length
  | [] => by simp [numL]
  | [r] => by simp only [numL]; split <;> simp
  | r :: s :: l => by
    have h1 := numL_le l
    have h2 := numL_le (s :: l)
    simp only [numL, List.length_cons] at *
    (repeat' split) <;> omega
theorem numP_le (l : List Rn) : numP l ≤ l.length + 1 := by
  unfold numP
  have := numL_le (l.drop 1)
  rw [List.length_drop] at this
  split <;> omega
theorem punctIn_le (l : List Rn) : ∀ (ps : List (List UInt8)), (∀ p ∈ ps, p.length ≤ 4) → punctIn l ps ≤ 4
  | [], _ => by simp [punctIn]
  | p :: ps, h => by
    have h1 := h p (by simp)
    have h2 := punctIn_le l ps (fun q hq => h q (by simp [hq]))
    simp only [punctIn]
    split <;> omega
theorem punctP_le (l : List Rn) : punctP l ≤ 4 := punctIn_le l _ (by decide)
end Go.Proofs.Ytjklnlocmmnclaa
namespace Go.Proofs.Ytjklnlocmmnclaa
theorem lx_nl {sz : Nat} {r : Rn} {l : List Rn} {st : St} (h : (r.c.toNat : Int) = 10) : lx sz 0 (r :: l) st = lx sz 0 l ⟨st.out ++ [⟨st.toks, st.frm, r.to, false⟩], st.dgs, [], r.to, false⟩ := by
  simp only [lx]; rw [if_pos h]

theorem lx_white {sz : Nat} {r : Rn} {l : List Rn} {st : St} (h : ¬ (r.c.toNat : Int) = 10) (hw : whiteB (r.c.toNat : Int) = true) : lx sz 0 (r :: l) st = lx sz 0 l { st with space := true } := by
  simp only [lx]; rw [if_neg h, if_pos hw]
theorem lx_skip {sz : Nat} : ∀ (m : Nat) (l : List Rn) (st : St), lx sz m l st = lx sz 0 (l.drop m) st
  | 0, l, st => by simp
  | m + 1, [], st => by simp [lx]
  | m + 1, r :: l, st => by
    simp only [lx, List.drop_succ_cons]
    exact lx_skip m l st
theorem toNl_le : ∀ l : List Rn, toNl l ≤ l.length
  | [] => by simp [toNl]
  | r :: l => by
    have := toNl_le l
    simp only [toNl, List.length_cons]
    split <;> omega
theorem cmEnd_le : ∀ (l : List Rn) (k : Nat), cmEnd l = some k → k ≤ l.length
  | [], k, h => by simp [cmEnd] at h
  | r :: l, k, h => by
    simp only [cmEnd] at h
    split at h
    · rename_i hh
      cases h
      have : l.length ≠ 0 := by
        intro h0
        have := List.eq_nil_of_length_eq_zero h0
        subst this
        simp [hd] at hh
      simp only [List.length_cons]
      omega
    · rw [Option.map_eq_some_iff] at h
      obtain ⟨m, hm, rfl⟩ := h
      have := cmEnd_le l m hm
      simp only [List.length_cons]
      omega
theorem hd_lt {l : List Rn} {k : Nat} (h : hd l k ≠ 0) : k < l.length := by
  rcases Nat.lt_or_ge k l.length with h1 | h1
  · exact h1
  · exact absurd (hd_none h1) h
theorem commentP_le (l : List Rn) : (commentP l).1 ≤ l.length := by
  unfold commentP
  split
  · omega
  · split
    · exact toNl_le l
    · split
      · omega
      · rename_i h1 h2 h3
        have h4 : hd l 1 = 42 := by simpa using h3
        have hl := hd_lt (l := l) (k := 1) (by rw [h4]; decide)
        split
        · rename_i k hk
          have := cmEnd_le _ _ hk
          rw [List.length_drop] at this
          simp only []
          omega
        · simp
theorem commentP_open {l : List Rn} (h : (commentP l).2 = true) : 0 < (commentP l).1 := by
  unfold commentP at *
  split at h
  · cases h
  · split at h
    · cases h
    · split at h
      · cases h
      · rename_i h1 h2 h3
        rw [if_neg h1, if_neg h2, if_neg h3]
        have h4 : hd l 1 = 42 := by simpa using h3
        have hl := hd_lt (l := l) (k := 1) (by rw [h4]; decide)
        split at h
        · cases h
        · simp only []
          omega
theorem commentP_open2 {l : List Rn} {k : Nat} (h : (commentP (l.drop k)).2 = true) : k + 1 < l.length := by
  unfold commentP at h
  split at h
  · cases h
  · split at h
    · cases h
    · split at h
      · cases h
      · rename_i h1 h2 h3
        have h4 : hd (l.drop k) 1 = 42 := by simpa using h3
        rw [hd_drop] at h4
        exact hd_lt (by rw [h4]; decide)
theorem lx_open {sz k : Nat} {rs : List Rn} {r r2 : Rn} {st : St} (hr : rs[k]? = some r) (hr2 : rs[k + 1]? = some r2) (h : ¬ (r.c.toNat : Int) = 10) (hw : whiteB (r.c.toNat : Int) = false) (ho : (commentP (rs.drop k)).2 = true) :
    lx sz 0 (rs.drop k) st = (st.out ++ [⟨st.toks, st.frm, sz, true⟩], st.dgs ++ [⟨1, r.frm, r2.to⟩]) := by
  have hd := drop_at hr
  have hc := commentP_open ho
  generalize hm : commentP (rs.drop k) = m at *
  rw [hd, drop_at hr2] at hm ⊢
  simp only [lx, hm]
  rw [if_neg h, if_neg (by rw [hw]; decide), if_pos hc, ho, if_pos rfl]
  rfl
theorem lx_cm {sz k : Nat} {rs : List Rn} {r : Rn} {st : St} (hr : rs[k]? = some r) (h : ¬ (r.c.toNat : Int) = 10) (hw : whiteB (r.c.toNat : Int) = false) (hc : 0 < (commentP (rs.drop k)).1) (ho : (commentP (rs.drop k)).2 = false) :
    lx sz 0 (rs.drop k) st = lx sz 0 (rs.drop (k + (commentP (rs.drop k)).1)) { st with space := true } := by
  have hd := drop_at hr
  generalize hm : commentP (rs.drop k) = m at *
  rw [hd] at hm ⊢
  simp only [lx, hm]
  rw [if_neg h, if_neg (by rw [hw]; decide), if_pos hc, ho, if_neg (by decide), lx_skip, List.drop_drop]
  congr 2
  omega

theorem lx_tok {sz k : Nat} {rs : List Rn} {r : Rn} {st : St} (hr : rs[k]? = some r) (h : ¬ (r.c.toNat : Int) = 10) (hw : whiteB (r.c.toNat : Int) = false) (hc : (commentP (rs.drop k)).1 = 0) (hm : 1 ≤ (nextP (rs.drop k)).2.1) :
    lx sz 0 (rs.drop k) st = lx sz 0 (rs.drop (k + (nextP (rs.drop k)).2.1)) ⟨st.out, if (nextP (rs.drop k)).2.2 then st.dgs ++ [⟨2, (tokAt (rs.drop k) st.space).frm, (tokAt (rs.drop k) st.space).to⟩] else st.dgs,
      st.toks ++ [tokAt (rs.drop k) st.space], st.frm, false⟩ := by
  have hd := drop_at hr
  generalize hm' : nextP (rs.drop k) = m at *
  generalize ht : tokAt (rs.drop k) st.space = t at *
  generalize hc' : commentP (rs.drop k) = q at *
  rw [hd] at hm' ht hc' ⊢
  simp only [lx, hm', ht, hc']
  rw [if_neg h, if_neg (by rw [hw]; decide), if_neg (by omega), lx_skip, List.drop_drop]
  congr 2
  omega
theorem tokAt_eq {k : Nat} {rs : List Rn} {r r2 : Rn} {sp : Bool} (hr : rs[k]? = some r) (hm : 1 ≤ (nextP (rs.drop k)).2.1) (hr2 : rs[k + (nextP (rs.drop k)).2.1 - 1]? = some r2) :
    tokAt (rs.drop k) sp = ⟨(nextP (rs.drop k)).1, textP ((rs.drop k).take (nextP (rs.drop k)).2.1), sp, r.frm, r2.to⟩ := by
  unfold tokAt
  simp only []
  have h1 : (rs.drop k).head? = some r := by rw [drop_at hr]; rfl
  have h2 : (rs.drop k)[(nextP (rs.drop k)).2.1 - 1]? = some r2 := by rw [List.getElem?_drop, ← hr2]; congr 1; omega
  rw [h1, h2]
  rfl

theorem quotedL_le (q : Int) : ∀ l : List Rn, quotedL q l ≤ l.length
  | [] => by simp [quotedL]
  | [r] => by simp only [quotedL]; (repeat' split) <;> simp
  | r :: s :: l => by
    have h1 := quotedL_le q l
    have h2 := quotedL_le q (s :: l)
    simp only [quotedL, List.length_cons] at *
    (repeat' split) <;> omega
theorem identL_le : ∀ l : List Rn, identL l ≤ l.length
  | [] => by simp [identL]
  | r :: l => by
    have := identL_le l
    simp only [identL, List.length_cons]
    split <;> omega
theorem pmatch_le : ∀ (p : List UInt8) (l : List Rn), (∀ c ∈ p, c ≠ 0) → pmatch p l = true → p.length ≤ l.length
  | [], _, _, _ => by simp
  | a :: p, l, h0, h => by
    simp only [pmatch, Bool.and_eq_true, decide_eq_true_eq] at h
    have ha : a ≠ 0 := h0 a (by simp)
    have hz : (a.toNat : Int) ≠ 0 := by
      intro e
      apply ha
      have : a.toNat = 0 := by omega
      exact UInt8.toNat_inj.1 this
    have hl := hd_lt (l := l) (k := 0) (by rw [h.1]; exact hz)
    have ih := pmatch_le p (l.drop 1) (fun c hc => h0 c (by simp [hc])) h.2
    rw [List.length_drop] at ih
    simp only [List.length_cons]
    omega
theorem punctIn_len (l : List Rn) : ∀ (ps : List (List UInt8)), (∀ p ∈ ps, ∀ c ∈ p, c ≠ 0) → punctIn l ps ≤ l.length
  | [], _ => by simp [punctIn]
  | p :: ps, h => by
    simp only [punctIn]
    split
    · exact pmatch_le p l (h p (by simp)) ‹_›
    · exact punctIn_len l ps fun q hq => h q (by simp [hq])
theorem punctP_len (l : List Rn) : punctP l ≤ l.length := punctIn_len l _ (by decide)
theorem hd_none' {l : List Rn} (h : l = []) (k : Nat) : hd l k = 0 := hd_none (by rw [h]; simp)
theorem numP_len {l : List Rn} (h : l ≠ []) : numP l ≤ l.length := by
  have h1 : 0 < l.length := by cases l with | nil => exact absurd rfl h | cons a b => simp
  unfold numP
  have := numL_le (l.drop 1)
  rw [List.length_drop] at this
  split <;> omega
theorem nextP_pos (l : List Rn) : 1 ≤ (nextP l).2.1 := by
  unfold nextP
  simp only []
  (repeat' split) <;> simp only [] <;> omega
theorem letters_lt {l : List Rn} (h : 0 ≤ lettersP l) : (lettersP l).toNat < l.length := by
  have hd0 := List.drop_zero (l := l)
  rcases letters_range l with h1 | h1 | h1 | h1
  · omega
  · rw [h1]
    have := letters_zero (l := l) (i := 0) (by rw [hd0]; exact h1)
    simpa using this
  · rw [h1]
    have := letters_one (l := l) (i := 0) (by rw [hd0]; exact h1)
    simpa using this
  · rw [h1]
    have := letters_two (l := l) (i := 0) (by rw [hd0]; exact h1)
    simpa using this
theorem nextP_len {l : List Rn} (h : l ≠ []) : (nextP l).2.1 ≤ l.length := by
  have h1 : 0 < l.length := by cases l with | nil => exact absurd rfl h | cons a b => simp
  have h2 := identL_le (l.drop 1)
  have h3 := numP_len h
  have h4 := punctP_len l
  have h5 := quotedL_le (hd l (lettersP l).toNat) (l.drop ((lettersP l).toNat + 1))
  rw [List.length_drop] at h2 h5
  unfold nextP
  simp only []
  split
  · rename_i hh
    have h6 := letters_lt hh.1
    split <;> simp only [] <;> omega
  · (repeat' split) <;> simp only [] <;> omega
end Go.Proofs.Ytjklnlocmmnclaa
namespace Go.Proofs.Ytjklnlocmmnclaa

def wordsP : List (List UInt8) :=
  [[105, 102], [105, 102, 100, 101, 102], [105, 102, 110, 100, 101, 102], [101, 108, 105, 102], [101, 108, 115, 101], [101, 110, 100, 105, 102],
   [105, 110, 99, 108, 117, 100, 101], [100, 101, 102, 105, 110, 101], [117, 110, 100, 101, 102], [108, 105, 110, 101], [101, 114, 114, 111, 114], [112, 114, 97, 103, 109, 97]]
/-- A word's Kind, the k-th and those behind it being looked at. -/
def kindFrom (t : List UInt8) : Nat → List (List UInt8) → Nat
  | _, [] => 14
  | k, w :: ws => if w = t then k else kindFrom t (k + 1) ws
def kindW (t : List UInt8) : Nat := kindFrom t 2 wordsP

theorem wordsP_nodup : wordsP.Nodup := by decide
theorem kindFrom_at (t : List UInt8) : ∀ (ws : List (List UInt8)) (k i : Nat), ws.Nodup → ws[i]? = some t → kindFrom t k ws = k + i
  | [], k, i, _, h => by simp at h
  | w :: ws, k, 0, _, h => by simp at h; simp [kindFrom, h]
  | w :: ws, k, i + 1, hn, h => by
    simp at h
    have hne : w ≠ t := by
      intro e
      subst e
      exact (List.nodup_cons.1 hn).1 (List.mem_of_getElem? h)
    simp only [kindFrom, if_neg hne]
    rw [kindFrom_at t ws (k + 1) i (List.nodup_cons.1 hn).2 h]
    omega
theorem kindFrom_none (t : List UInt8) : ∀ (ws : List (List UInt8)) (k : Nat), t ∉ ws → kindFrom t k ws = 14
  | [], _, _ => rfl
  | w :: ws, k, h => by
    simp only [List.mem_cons, not_or] at h
    have hne : ¬ w = t := fun e => h.1 e.symm
    simp only [kindFrom, if_neg hne]
    exact kindFrom_none t ws (k + 1) h.2

/-- A line's Kind, of what the first two tokens are. -/
def hashB (k : Int) (t : List UInt8) : Bool := decide (k = 5) && (t == [35] || t == [37, 58])
def kindP : List (Int × List UInt8) → Nat
  | [] => 0
  | [a] => if hashB a.1 a.2 then 1 else 0
  | a :: b :: _ => if hashB a.1 a.2 then (if b.1 = 1 then kindW b.2 else 14) else 0
end Go.Proofs.Ytjklnlocmmnclaa
namespace Go.Proofs.Ytjklnlocmmnclaa

def TkShort (N : Nat) (l : List Tk) : Prop := ∀ x ∈ l, x.text.length ≤ N
def LnShort (N : Nat) (l : List Ln) : Prop := ∀ x ∈ l, TkShort N x.toks
theorem setTo_short {N sz : Nat} : ∀ {l : List Ln}, LnShort N l → LnShort N (setTo sz l)
  | [], _ => by intro x hx; simp [setTo] at hx
  | [a], h => by
    intro x hx
    simp only [setTo, List.mem_singleton] at hx
    subst hx
    exact h a (by simp)
  | a :: b :: l, h => by
    intro x hx
    simp only [setTo] at hx
    rcases List.mem_cons.1 hx with rfl | hx
    · exact h x (by simp)
    · exact setTo_short (l := b :: l) (fun y hy => h y (List.mem_cons_of_mem _ hy)) x hx
theorem lx_short {N sz : Nat} : ∀ (k : Nat) (l : List Rn) (st : St), l.length ≤ N → LnShort N st.out → TkShort N st.toks → LnShort N (lx sz k l st).1
  | _, [], st, _, h1, _ => by simp only [lx]; exact setTo_short h1
  | k + 1, _ :: l, st, hl, h1, h2 => by simp only [lx]; exact lx_short k l st (by simp at hl; omega) h1 h2
  | 0, r :: l, st, hl, h1, h2 => by
    have hl' : l.length ≤ N := by simp at hl; omega
    have hpush : ∀ t : Ln, t.toks = st.toks → LnShort N (st.out ++ [t]) := fun t ht x hx => by
      rcases List.mem_append.1 hx with hx | hx
      · exact h1 x hx
      · have : x = t := by simpa using hx
        rw [this, ht]
        exact h2
    simp only [lx]
    split
    · exact lx_short 0 l _ hl' (hpush _ rfl) (by intro x hx; simp at hx)
    · split
      · exact lx_short 0 l _ hl' h1 h2
      · split
        · split
          · exact hpush _ rfl
          · exact lx_short _ l _ hl' h1 h2
        · refine lx_short _ l _ hl' h1 ?_
          intro x hx
          rcases List.mem_append.1 hx with hx | hx
          · exact h2 x hx
          · have : x = tokAt (r :: l) st.space := by simpa using hx
            rw [this]
            simp only [tokAt, textP, List.length_map, List.length_take]
            omega
theorem linesP_short (s : List UInt8) (h : (charsP s).length ≤ s.length + 1) : LnShort (s.length + 1) (linesP s).1 :=
  lx_short 0 _ _ h (by intro x hx; simp at hx) (by intro x hx; simp at hx)
end Go.Proofs.Ytjklnlocmmnclaa
