/- Conditions within conditions: the pure function; lines in memory. -/
import Derived.Test.YtjklnlocmmnclaaGd
import Derived.Test.YtjklnlocmmnclaaHb
namespace Go.Proofs.Ytjklnlocmmnclaa
open Go.RowKit

abbrev BSt := List PF × List Nat
def stepB (i kd : Nat) (ne : Bool) (s : BSt) : BSt :=
  match s.1 with
  | [] => s
  | f :: r =>
    if 2 ≤ kd ∧ kd ≤ 4 then (newF i :: f :: r, s.2)
    else if kd = 5 ∨ kd = 6 then (if r.isEmpty || f.last then (f :: r, s.2 ++ [i]) else (f.arm i (kd == 6) :: r, s.2))
    else if kd = 7 then (match r with | [] => (f :: r, s.2 ++ [i]) | g :: r' => (g.put f.item :: r', s.2))
    else if ne then (f.put (.mk kd i []) :: r, s.2) else (f :: r, s.2)
def runB : Nat → List (Nat × Bool) → BSt → BSt
  | _, [], s => s
  | i, x :: l, s => runB (i + 1) l (stepB i x.1 x.2 s)
theorem runB_snoc (x : Nat × Bool) : ∀ (l : List (Nat × Bool)) (i : Nat) (s : BSt), runB i (l ++ [x]) s = stepB (i + l.length) x.1 x.2 (runB i l s)
  | [], i, s => by simp [runB]
  | y :: l, i, s => by
    simp only [List.cons_append, runB, List.length_cons]
    rw [runB_snoc x l (i + 1)]
    congr 1
    omega
def initB : BSt := ([⟨0, [], 0, [], false⟩], [])
theorem runB_next {ks : List (Nat × Bool)} {i : Nat} {x : Nat × Bool} (h : ks[i]? = some x) : runB 0 (ks.take (i + 1)) initB = stepB i x.1 x.2 (runB 0 (ks.take i) initB) := by
  rw [take_next h, runB_snoc, List.length_take]
  have := (List.getElem?_eq_some_iff.1 h).1
  congr 1
  omega
/-- All that have not ended are ended. -/
def finB : PF → List PF → List It
  | f, [] => f.cur
  | f1, f :: r => finB (f.put f1.item) r
def opensB : PF → List PF → List Nat
  | _, [] => []
  | f1, f :: r => f1.line :: opensB f r
theorem opensB_line : ∀ (r : List PF) (f f' : PF), f.line = f'.line → opensB f r = opensB f' r
  | [], _, _, _ => rfl
  | g :: r, f, f', h => by simp only [opensB, h]

def codeAt (bads opens : List Nat) (i : Nat) : Int := if i ∈ opens then 13 else if i ∈ bads then 12 else 0
def codeL (L : Nat) (bads opens : List Nat) : List Int := (List.range L).map (codeAt bads opens)
theorem codeL_len (L : Nat) (bads opens : List Nat) : (codeL L bads opens).length = L := by simp [codeL]
theorem codeL_get {L i : Nat} (bads opens : List Nat) (h : i < L) : (codeL L bads opens)[i]? = some (codeAt bads opens i) := by simp [codeL, h]
theorem codeL_bad (L i : Nat) (bads : List Nat) : (codeL L bads []).set i 12 = codeL L (bads ++ [i]) [] := by
  apply List.ext_getElem?
  intro j
  rw [List.getElem?_set]
  by_cases hj : j < L
  · rw [codeL_get _ _ hj, codeL_get _ _ hj]
    split
    · rename_i e
      subst e
      simp [codeL_len, hj, codeAt]
    · rename_i e
      have e' : ¬ j = i := fun h => e h.symm
      simp [codeAt, e']
  · rw [List.getElem?_eq_none (by rw [codeL_len]; omega), List.getElem?_eq_none (by rw [codeL_len]; omega)]
    split
    · rw [if_neg (by rw [codeL_len]; omega)]
    · rfl
theorem codeL_open (L i : Nat) (bads opens : List Nat) : (codeL L bads opens).set i 13 = codeL L bads (opens ++ [i]) := by
  apply List.ext_getElem?
  intro j
  rw [List.getElem?_set]
  by_cases hj : j < L
  · rw [codeL_get _ _ hj, codeL_get _ _ hj]
    split
    · rename_i e
      subst e
      simp [codeL_len, hj, codeAt]
    · rename_i e
      have e' : ¬ j = i := fun h => e h.symm
      simp [codeAt, e']
  · rw [List.getElem?_eq_none (by rw [codeL_len]; omega), List.getElem?_eq_none (by rw [codeL_len]; omega)]
    split
    · rw [if_neg (by rw [codeL_len]; omega)]
    · rfl

/-- A line in memory. -/
structure LnR where
  A : Option Addr
  n : Nat
  c : Nat
  frm : Int
  to : Int
  opn : Bool
def lnrCells (r : LnR) : List Value := [.slice r.A r.n r.c, .int .i64 r.frm, .int .i64 r.to, .bool r.opn]
theorem lnrCells_len (r : LnR) : (lnrCells r).length = 4 := rfl
/-- Lines of tokens in memory. -/
def Lns (w : World) (U : Nat → Prop) (A : Option Addr) (n : Nat) (ll : List (List Tok)) : Prop :=
  ∃ rs : List LnR, Sl w U 4 A n (rs.flatMap lnrCells) ∧ rs.length = ll.length ∧ ∀ (i : Nat) (r : LnR) (l : List Tok), rs[i]? = some r → ll[i]? = some l → Toks w U r.A r.n l ∧ r.n ≤ r.c ∧ r.c ≤ maxLen
theorem Lns.below {w w' : World} {U : Nat → Prop} {A : Option Addr} {n : Nat} {ll : List (List Tok)} (h : Lns w U A n ll) (hb : Below w.heap.size w w') : Lns w' U A n ll := by
  obtain ⟨rs, h1, h2, h3⟩ := h
  exact ⟨rs, h1.below hb, h2, fun i r l hr hl => ⟨Sl.below (h3 i r l hr hl).1 hb, (h3 i r l hr hl).2⟩⟩
theorem Lns.len {w : World} {U : Nat → Prop} {A : Option Addr} {n : Nat} {ll : List (List Tok)} (h : Lns w U A n ll) : ll.length = n := by
  obtain ⟨rs, h1, h2, h3⟩ := h
  rw [← h2]
  exact Sl.len_ lnrCells_len (by decide) h1
theorem Lns.at_ {w : World} {U : Nat → Prop} {A : Option Addr} {n : Nat} {ll : List (List Tok)} (h : Lns w U A n ll) {i : Nat} (hi : i < n) :
    ∃ b off A' n' c' frm to opn l, A = some ⟨b, off, none⟩ ∧ U b ∧ b < w.heap.size ∧ ll[i]? = some l ∧ w.cell? ⟨b, off + i * 4, none⟩ = some (.slice A' n' c') ∧ w.cell? ⟨b, off + i * 4 + 1, none⟩ = some (.int .i64 frm) ∧
      w.cell? ⟨b, off + i * 4 + 2, none⟩ = some (.int .i64 to) ∧ w.cell? ⟨b, off + i * 4 + 3, none⟩ = some (.bool opn) ∧ Toks w U A' n' l ∧ n' ≤ c' ∧ c' ≤ maxLen := by
  obtain ⟨rs, h1, h2, h3⟩ := h
  obtain ⟨b, off, r, e, hu, hlt, hr, hc⟩ := Sl.elem lnrCells_len (by decide) h1 hi
  have hil : i < ll.length := by
    rw [← h2]
    exact (List.getElem?_eq_some_iff.1 hr).1
  obtain ⟨h4, h5, h6⟩ := h3 i r _ hr (List.getElem?_eq_getElem hil)
  exact ⟨b, off, r.A, r.n, r.c, r.frm, r.to, r.opn, _, e, hu, hlt, List.getElem?_eq_getElem hil, hc 0 _ rfl, hc 1 _ rfl, hc 2 _ rfl, hc 3 _ rfl, h4, h5, h6⟩

/-- A diagnostic: its code, and the token that it stands at. -/
abbrev DgT := Int × Tok
def dgtCells (d : DgT) : List Value := [.int .i64 d.1, .string d.2.f, .int .i64 d.2.a, .int .i64 d.2.b]
theorem dgtCells_len (d : DgT) : (dgtCells d).length = 4 := rfl
def noTok : Tok := ⟨0, ⟨#[]⟩, false, ⟨#[]⟩, 0, 0, false, none, 0, 0⟩
def diagAt (l : List Tok) (c : Int) : List DgT := if c = 0 then [] else [(c, l.getD 1 noTok)]
def diagL : List (List Tok) → List Int → List DgT
  | l :: ll, c :: cs => diagAt l c ++ diagL ll cs
  | _, _ => []
theorem diagL_append : ∀ (a b : List (List Tok)) (c d : List Int), a.length = c.length → diagL (a ++ b) (c ++ d) = diagL a c ++ diagL b d
  | [], b, [], d, _ => by simp [diagL]
  | x :: a, b, y :: c, d, h => by simp [diagL, diagL_append a b c d (by simpa using h)]
  | [], _, _ :: _, _, h => by simp at h
  | _ :: _, _, [], _, h => by simp at h
theorem diagL_next {ll : List (List Tok)} {cs : List Int} {i : Nat} {l : List Tok} {c : Int} (hl : ll[i]? = some l) (hc : cs[i]? = some c) : diagL (ll.take (i + 1)) (cs.take (i + 1)) = diagL (ll.take i) (cs.take i) ++ diagAt l c := by
  rw [take_next hl, take_next hc, diagL_append]
  · simp [diagL]
  · have h1 := (List.getElem?_eq_some_iff.1 hl).1
    have h2 := (List.getElem?_eq_some_iff.1 hc).1
    rw [List.length_take, List.length_take]
    omega
theorem diagL_len : ∀ (ll : List (List Tok)) (cs : List Int), (diagL ll cs).length ≤ ll.length
  | [], _ => by simp [diagL]
  | _ :: _, [] => by simp [diagL]
  | l :: ll, c :: cs => by
    have := diagL_len ll cs
    have h2 : (diagAt l c).length ≤ 1 := by unfold diagAt; split <;> simp
    simp only [diagL, List.length_append, List.length_cons]
    omega
end Go.Proofs.Ytjklnlocmmnclaa
