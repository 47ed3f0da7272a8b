/- Conditions within conditions: the lines that are left in, in order; counts. Bounds: how many lines and tokens a text has. -/
import Derived.Test.YtjklnlocmmnclaaGf9
import Derived.Test.YtjklnlocmmnclaaId
namespace Go.Proofs.Ytjklnlocmmnclaa

/-- The lines of what is read so far, in order. -/
def frFlat (f : PF) : List Int := flatAs (f.done ++ [.mk f.cl f.cur])
def stFlat : List PF → List Int
  | [] => []
  | [f] => flatIs f.cur
  | f :: g :: r => stFlat (g :: r) ++ frFlat f
theorem frFlat_put (f : PF) (x : It) : frFlat (f.put x) = frFlat f ++ flatI x := by
  simp only [frFlat, PF.put, flatAs_append, flatAs, flatA, flatIs_append, flatIs, List.append_nil, List.append_assoc, List.cons_append]
theorem frFlat_arm (f : PF) (i : Nat) (b : Bool) : frFlat (f.arm i b) = frFlat f ++ [(i : Int)] := by
  simp [frFlat, PF.arm, flatAs_append, flatAs, flatA, flatIs]
theorem frFlat_new (i : Nat) : frFlat (newF i) = [(i : Int)] := by simp [frFlat, newF, flatAs, flatA, flatIs]
theorem flatI_item (f : PF) : flatI f.item = frFlat f := by
  simp only [PF.item, flatI, frFlat]
  rw [if_neg (by simp)]
  rfl
theorem flatI_line (k i : Int) : flatI (.mk k i []) = [i] := by simp [flatI, flatAs]
theorem stFlat_put (f : PF) (x : It) : ∀ r : List PF, stFlat (f.put x :: r) = stFlat (f :: r) ++ flatI x
  | [] => by simp [stFlat, PF.put, flatIs_append, flatIs]
  | g :: r => by simp only [stFlat, frFlat_put, List.append_assoc]
theorem stFlat_arm (f g : PF) (i : Nat) (b : Bool) (r : List PF) : stFlat (f.arm i b :: g :: r) = stFlat (f :: g :: r) ++ [(i : Int)] := by simp only [stFlat, frFlat_arm, List.append_assoc]
theorem stFlat_new (f : PF) (i : Nat) (r : List PF) : stFlat (newF i :: f :: r) = stFlat (f :: r) ++ [(i : Int)] := by simp only [stFlat, frFlat_new]
theorem stFlat_pop (f g : PF) (r : List PF) : stFlat (g.put f.item :: r) = stFlat (f :: g :: r) := by
  rw [stFlat_put, flatI_item]
  simp only [stFlat]
theorem stFlat_fin : ∀ (r : List PF) (f : PF), flatIs (finB f r) = stFlat (f :: r)
  | [], f => by simp [finB, stFlat]
  | g :: r, f => by
    simp only [finB]
    rw [stFlat_fin r, stFlat_pop]

/-- Is a line out of place? -/
def badB (kd : Nat) (s : BSt) : Bool :=
  match s.1 with
  | [] => false
  | f :: r => if kd = 5 ∨ kd = 6 then r.isEmpty || f.last else if kd = 7 then r.isEmpty else false
/-- Is a line left in? -/
def keepB (kd : Nat) (ne : Bool) (s : BSt) : Bool :=
  if 2 ≤ kd ∧ kd ≤ 4 then true else if kd = 5 ∨ kd = 6 then !badB kd s else if kd = 7 then false else ne
theorem badB_none {kd : Nat} {s : BSt} (h5 : ¬ (kd = 5 ∨ kd = 6)) (h7 : ¬ kd = 7) : badB kd s = false := by
  unfold badB
  split
  · rfl
  · rw [if_neg h5, if_neg h7]
theorem keepB_56 {kd : Nat} {ne : Bool} {s : BSt} (h5 : kd = 5 ∨ kd = 6) : keepB kd ne s = !badB kd s := by
  unfold keepB
  rw [if_neg (by omega), if_pos h5]
theorem stepB_both (i kd : Nat) (ne : Bool) (s : BSt) (h : s.1 ≠ []) :
    (keepB kd ne s = true ∧ stFlat (stepB i kd ne s).1 = stFlat s.1 ++ [(i : Int)] ∨ keepB kd ne s = false ∧ stFlat (stepB i kd ne s).1 = stFlat s.1) ∧
    (badB kd s = true ∧ (stepB i kd ne s).2 = s.2 ++ [i] ∨ badB kd s = false ∧ (stepB i kd ne s).2 = s.2) := by
  obtain ⟨fs, bads⟩ := s
  match fs, h with
  | f :: r, _ =>
    by_cases h1 : 2 ≤ kd ∧ kd ≤ 4
    · have hs : stepB i kd ne (f :: r, bads) = (newF i :: f :: r, bads) := by simp only [stepB]; rw [if_pos h1]
      rw [hs]
      exact ⟨.inl ⟨by unfold keepB; rw [if_pos h1], stFlat_new f i r⟩, .inr ⟨badB_none (by omega) (by omega), rfl⟩⟩
    · by_cases h5 : kd = 5 ∨ kd = 6
      · have hb : badB kd (f :: r, bads) = (r.isEmpty || f.last) := by unfold badB; exact if_pos h5
        rw [keepB_56 h5, hb]
        cases hc : (r.isEmpty || f.last) with
        | true =>
          have hs : stepB i kd ne (f :: r, bads) = (f :: r, bads ++ [i]) := by simp only [stepB]; rw [if_neg h1, if_pos h5, if_pos hc]
          rw [hs]
          exact ⟨.inr ⟨rfl, rfl⟩, .inl ⟨rfl, rfl⟩⟩
        | false =>
          have hs : stepB i kd ne (f :: r, bads) = (f.arm i (kd == 6) :: r, bads) := by simp only [stepB]; rw [if_neg h1, if_pos h5, if_neg (by rw [hc]; simp)]
          rw [hs]
          match r, hc with
          | g :: r, _ => exact ⟨.inl ⟨rfl, stFlat_arm f g i _ r⟩, .inr ⟨rfl, rfl⟩⟩
      · by_cases h7 : kd = 7
        · subst h7
          match r with
          | [] => exact ⟨.inr ⟨rfl, rfl⟩, .inl ⟨rfl, rfl⟩⟩
          | g :: r' => exact ⟨.inr ⟨rfl, stFlat_pop f g r'⟩, .inr ⟨rfl, rfl⟩⟩
        · have hk : keepB kd ne (f :: r, bads) = ne := by unfold keepB; rw [if_neg h1, if_neg h5, if_neg h7]
          rw [hk]
          cases ne with
          | true =>
            have hs : stepB i kd true (f :: r, bads) = (f.put (.mk kd i []) :: r, bads) := by simp only [stepB]; rw [if_neg h1, if_neg h5, if_neg h7]; rfl
            rw [hs]
            exact ⟨.inl ⟨rfl, by rw [stFlat_put, flatI_line]⟩, .inr ⟨badB_none h5 h7, rfl⟩⟩
          | false =>
            have hs : stepB i kd false (f :: r, bads) = (f :: r, bads) := by simp only [stepB]; rw [if_neg h1, if_neg h5, if_neg h7]; rfl
            rw [hs]
            exact ⟨.inr ⟨rfl, rfl⟩, .inr ⟨badB_none h5 h7, rfl⟩⟩
theorem stepB_flat (i kd : Nat) (ne : Bool) (s : BSt) (h : s.1 ≠ []) : stFlat (stepB i kd ne s).1 = stFlat s.1 ++ (if keepB kd ne s then [(i : Int)] else []) := by
  rcases (stepB_both i kd ne s h).1 with ⟨h1, h2⟩ | ⟨h1, h2⟩
  · rw [h1, h2]; simp
  · rw [h1, h2]; simp
theorem stepB_bads (i kd : Nat) (ne : Bool) (s : BSt) (h : s.1 ≠ []) : (stepB i kd ne s).2 = s.2 ++ (if badB kd s then [i] else []) := by
  rcases (stepB_both i kd ne s h).2 with ⟨h1, h2⟩ | ⟨h1, h2⟩
  · rw [h1, h2]; simp
  · rw [h1, h2]; simp

/-- The state ahead of line i. -/
def stAt (ks : List (Nat × Bool)) (i : Nat) : BSt := runB 0 (ks.take i) initB
def keptB (ks : List (Nat × Bool)) (i : Nat) : Bool := match ks[i]? with | some x => keepB x.1 x.2 (stAt ks i) | none => false
def oddB (ks : List (Nat × Bool)) (i : Nat) : Bool := match ks[i]? with | some x => badB x.1 (stAt ks i) | none => false
def kept (ks : List (Nat × Bool)) : Nat → List Int
  | 0 => []
  | i + 1 => kept ks i ++ (if keptB ks i then [(i : Int)] else [])
def oddL (ks : List (Nat × Bool)) : Nat → List Nat
  | 0 => []
  | i + 1 => oddL ks i ++ (if oddB ks i then [i] else [])
theorem stAt_flat (ks : List (Nat × Bool)) : ∀ i, i ≤ ks.length → stFlat (stAt ks i).1 = kept ks i ∧ (stAt ks i).2 = oddL ks i
  | 0, _ => by simp [stAt, runB, initB, stFlat, kept, oddL, flatIs]
  | i + 1, h => by
    have hx : ks[i]? = some ks[i] := List.getElem?_eq_getElem (by omega)
    obtain ⟨h1, h2⟩ := stAt_flat ks i (by omega)
    have hne := (POk.run ks i (by omega)).ne
    unfold stAt at *
    rw [runB_next hx, stepB_flat _ _ _ _ hne, stepB_bads _ _ _ _ hne, h1, h2]
    simp only [kept, oddL, keptB, oddB, hx, stAt]
    exact ⟨trivial, trivial⟩
theorem flat_items (ll : List (List Tok)) : flatIs (itemsP ll) = kept (ksOf ll) (ksOf ll).length := by
  have h := (stAt_flat (ksOf ll) _ (Nat.le_refl _)).1
  have hne := (POk.run (ksOf ll) _ (Nat.le_refl _)).ne
  unfold stAt at h
  rw [List.take_length] at h hne
  rw [← h]
  unfold itemsP stP
  match hs : (runB 0 (ksOf ll) initB).1, hne with
  | f :: r, _ => exact stFlat_fin r f
theorem stP_bads (ll : List (List Tok)) : (stP ll).2 = oddL (ksOf ll) (ksOf ll).length := by
  have h := (stAt_flat (ksOf ll) _ (Nat.le_refl _)).2
  unfold stAt at h
  rw [List.take_length] at h
  exact h
theorem kept_lt (ks : List (Nat × Bool)) : ∀ i, ∀ x ∈ kept ks i, x < (i : Int)
  | 0, x, h => by simp [kept] at h
  | i + 1, x, h => by
    simp only [kept, List.mem_append] at h
    rcases h with h | h
    · have := kept_lt ks i x h; omega
    · split at h
      · simp at h; omega
      · simp at h
theorem kept_more (ks : List (Nat × Bool)) (i : Nat) : ∀ m, ∃ t : List Int, kept ks (i + m) = kept ks i ++ t ∧ ∀ x ∈ t, (i : Int) ≤ x
  | 0 => ⟨[], by simp, by simp⟩
  | m + 1 => by
    obtain ⟨t, h1, h2⟩ := kept_more ks i m
    refine ⟨t ++ (if keptB ks (i + m) then [((i + m : Nat) : Int)] else []), ?_, fun x hx => ?_⟩
    · rw [show i + (m + 1) = (i + m) + 1 by omega]
      simp only [kept, h1, List.append_assoc]
    · rcases List.mem_append.1 hx with hx | hx
      · exact h2 x hx
      · split at hx
        · simp at hx; omega
        · simp at hx
theorem kept_len (ks : List (Nat × Bool)) : ∀ i, (kept ks i).length ≤ i
  | 0 => by simp [kept]
  | i + 1 => by
    have := kept_len ks i
    simp only [kept, List.length_append]
    split <;> simp <;> omega
/-- What stands at the place of the next line that is left in. -/
theorem kept_at {ks : List (Nat × Bool)} {i n : Nat} (h : i < n) :
    (keptB ks i = true → (kept ks n)[(kept ks i).length]? = some (i : Int)) ∧ (keptB ks i = false → ∀ x, (kept ks n)[(kept ks i).length]? = some x → x ≠ (i : Int)) := by
  obtain ⟨t, h1, h2⟩ := kept_more ks (i + 1) (n - (i + 1))
  rw [show i + 1 + (n - (i + 1)) = n by omega] at h1
  rw [h1]
  simp only [kept]
  constructor
  · intro hk
    rw [hk]
    simp
  · intro hk x hx
    rw [hk] at hx
    simp only [Bool.false_eq_true, if_false, List.append_nil] at hx
    rw [List.getElem?_append_right (Nat.le_refl _), Nat.sub_self] at hx
    have := h2 x (List.mem_of_getElem? hx)
    omega
theorem kept_less {ks : List (Nat × Bool)} {i n : Nat} (h : i ≤ n) : (kept ks i).length ≤ (kept ks n).length := by
  obtain ⟨t, h1, _⟩ := kept_more ks i (n - i)
  rw [show i + (n - i) = n by omega] at h1
  rw [h1, List.length_append]
  omega

/- Counts. -/
def ends7 (ks : List (Nat × Bool)) : Nat → Nat
  | 0 => 0
  | i + 1 => ends7 ks i + (match ks[i]? with | some x => if x.1 = 7 then 1 else 0 | none => 0)
def odd56 (ks : List (Nat × Bool)) : Nat → Nat
  | 0 => 0
  | i + 1 => odd56 ks i + (match ks[i]? with | some x => if (x.1 = 5 ∨ x.1 = 6) ∧ keptB ks i = false then 1 else 0 | none => 0)
theorem ends7_le (ks : List (Nat × Bool)) : ∀ i, ends7 ks i ≤ i
  | 0 => by simp [ends7]
  | i + 1 => by
    have := ends7_le ks i
    simp only [ends7]
    split
    · split <;> omega
    · omega
theorem odd56_le (ks : List (Nat × Bool)) : ∀ i, odd56 ks i ≤ i
  | 0 => by simp [odd56]
  | i + 1 => by
    have := odd56_le ks i
    simp only [odd56]
    split
    · split <;> omega
    · omega
theorem count_bads (ks : List (Nat × Bool)) : ∀ i, odd56 ks i ≤ (oddL ks i).length ∧ (oddL ks i).length ≤ odd56 ks i + ends7 ks i
  | 0 => by simp [oddL, odd56, ends7]
  | i + 1 => by
    obtain ⟨h1, h2⟩ := count_bads ks i
    have ho : (oddL ks (i + 1)).length = (oddL ks i).length + (if oddB ks i = true then 1 else 0) := by
      simp only [oddL, List.length_append]
      split <;> simp
    rw [ho]
    match hx : ks[i]? with
    | none =>
      have e1 : oddB ks i = false := by unfold oddB; rw [hx]
      have e2 : odd56 ks (i + 1) = odd56 ks i := by simp only [odd56, hx, Nat.add_zero]
      have e3 : ends7 ks (i + 1) = ends7 ks i := by simp only [ends7, hx, Nat.add_zero]
      rw [e1, e2, e3]
      simp
      omega
    | some x =>
      have e1 : oddB ks i = badB x.1 (stAt ks i) := by unfold oddB; rw [hx]
      have e0 : keptB ks i = keepB x.1 x.2 (stAt ks i) := by unfold keptB; rw [hx]
      have e2 : odd56 ks (i + 1) = odd56 ks i + (if (x.1 = 5 ∨ x.1 = 6) ∧ keptB ks i = false then 1 else 0) := by simp only [odd56, hx]
      have e3 : ends7 ks (i + 1) = ends7 ks i + (if x.1 = 7 then 1 else 0) := by simp only [ends7, hx]
      rw [e1, e2, e3, e0]
      by_cases h56 : x.1 = 5 ∨ x.1 = 6
      · rw [keepB_56 h56, if_neg (show ¬ x.1 = 7 by omega)]
        cases badB x.1 (stAt ks i) with
        | true => simp [h56]; omega
        | false => simp; omega
      · rw [if_neg (fun h => h56 h.1)]
        by_cases h7 : x.1 = 7
        · rw [if_pos h7]
          cases badB x.1 (stAt ks i) with
          | true => simp; omega
          | false => simp; omega
        · rw [badB_none h56 h7]
          simp
          omega

/-- How many of the codes are that of a line out of place. -/
def elses : List DgT → Nat
  | [] => 0
  | d :: l => (if d.1 = 12 then 1 else 0) + elses l
theorem elses_append : ∀ a b : List DgT, elses (a ++ b) = elses a + elses b
  | [], b => by simp [elses]
  | x :: a, b => by simp [elses, elses_append a b]; omega
theorem elses_le : ∀ a : List DgT, elses a ≤ a.length
  | [] => by simp [elses]
  | x :: a => by
    have := elses_le a
    simp only [elses, List.length_cons]
    split <;> omega
def c12 : List Int → Nat
  | [] => 0
  | c :: l => (if c = 12 then 1 else 0) + c12 l
theorem c12_append : ∀ a b : List Int, c12 (a ++ b) = c12 a + c12 b
  | [], b => by simp [c12]
  | x :: a, b => by simp [c12, c12_append a b]; omega
theorem elses_diagL : ∀ (ll : List (List Tok)) (cs : List Int), ll.length = cs.length → elses (diagL ll cs) = c12 cs
  | [], [], _ => by simp [diagL, elses, c12]
  | l :: ll, c :: cs, h => by
    simp only [diagL, elses_append, c12]
    rw [elses_diagL ll cs (by simpa using h)]
    congr 1
    unfold diagAt
    by_cases h0 : c = 0
    · rw [if_pos h0, h0]; simp [elses]
    · rw [if_neg h0]; simp [elses]
  | [], _ :: _, h => by simp at h
  | _ :: _, [], h => by simp at h
theorem oddL_lt (ks : List (Nat × Bool)) : ∀ i, ∀ x ∈ oddL ks i, x < i
  | 0, x, h => by simp [oddL] at h
  | i + 1, x, h => by
    simp only [oddL, List.mem_append] at h
    rcases h with h | h
    · have := oddL_lt ks i x h; omega
    · split at h
      · simp at h; omega
      · simp at h
theorem oddL_mem (ks : List (Nat × Bool)) : ∀ (m i : Nat), i < m → (i ∈ oddL ks m ↔ oddB ks i = true)
  | 0, i, h => by omega
  | m + 1, i, h => by
    simp only [oddL, List.mem_append]
    by_cases him : i = m
    · subst him
      constructor
      · rintro (h1 | h1)
        · have := oddL_lt ks i i h1; omega
        · split at h1
          · assumption
          · simp at h1
      · intro h1
        right
        rw [if_pos h1]
        simp
    · have hi : i < m := by omega
      rw [← oddL_mem ks m i hi]
      constructor
      · rintro (h1 | h1)
        · exact h1
        · split at h1
          · simp at h1; omega
          · simp at h1
      · exact fun h1 => .inl h1
theorem c12_codes (ks : List (Nat × Bool)) (n : Nat) (opens : List Nat) (hd : ∀ x ∈ opens, x ∉ oddL ks n) : ∀ m, m ≤ n → c12 ((List.range m).map (codeAt (oddL ks n) opens)) = (oddL ks m).length
  | 0, _ => by simp [c12, oddL]
  | m + 1, h => by
    rw [List.range_succ, List.map_append, c12_append, c12_codes ks n opens hd m (by omega)]
    simp only [oddL, List.length_append, List.map_cons, List.map_nil, c12]
    have hm := oddL_mem ks n m (by omega)
    unfold codeAt
    by_cases hb : oddB ks m = true
    · have hin := hm.2 hb
      have hno : m ∉ opens := fun ho => hd m ho hin
      rw [if_neg hno, if_pos hin, hb]
      simp
    · have hnin : m ∉ oddL ks n := fun h1 => hb (hm.1 h1)
      rw [if_neg hnin]
      have hb' : oddB ks m = false := by simpa using hb
      rw [hb']
      split <;> simp
theorem elses_diagsP (ll : List (List Tok)) : elses (diagsP ll) = (oddL (ksOf ll) (ksOf ll).length).length := by
  have hl : (ksOf ll).length = ll.length := by simp [ksOf]
  have hP := POk.run (ksOf ll) _ (Nat.le_refl _)
  rw [List.take_length] at hP
  unfold diagsP
  rw [elses_diagL _ _ (by rw [codeL_len]), stP_bads]
  unfold codeL
  rw [← hl]
  refine c12_codes _ _ _ (fun x hx ho => ?_) _ (Nat.le_refl _)
  have hb : x ∈ (stP ll).2 := by rw [stP_bads]; exact ho
  obtain ⟨_, y, h1, h2, _⟩ := hP.bads x hb
  have ho2 : x ∈ opensOf (stP ll).1 := hx
  unfold stP at ho2
  cases hs : (runB 0 (ksOf ll) initB).1 with
  | nil => rw [hs] at ho2; simp [opensOf] at ho2
  | cons f r =>
    rw [hs] at ho2
    obtain ⟨g, hg, he⟩ := opensB_mem r f x ho2
    obtain ⟨_, z, h3, h4, h5⟩ := hP.opens g (by rw [hs]; exact hg)
    rw [he] at h3
    rw [h1] at h3
    injection h3 with h3
    rw [← h3] at h5
    omega
/-- What is not left in. -/
theorem not_kept {ll : List (List Tok)} {i : Nat} {l : List Tok} (hl : ll[i]? = some l) (hk : keptB (ksOf ll) i = false) : (kindT l = 0 ∧ l.length = 0) ∨ kindT l = 7 ∨ kindT l = 5 ∨ kindT l = 6 := by
  have hx : (ksOf ll)[i]? = some (kindT l, decide (0 < l.length)) := by simp [ksOf, hl]
  simp only [keptB, hx, keepB] at hk
  split at hk
  · cases hk
  · split at hk
    · omega
    · split at hk
      · exact .inr (.inl ‹_›)
      · left
        have hl0 : l.length = 0 := by simpa using hk
        have : l = [] := List.eq_nil_of_length_eq_zero hl0
        subst this
        exact ⟨rfl, rfl⟩
end Go.Proofs.Ytjklnlocmmnclaa
namespace Go.Proofs.Ytjklnlocmmnclaa
open Go.RowKit

theorem setTo_len {sz : Nat} : ∀ (l : List Ln), (setTo sz l).length = l.length
  | [] => rfl
  | [a] => rfl
  | a :: b :: l => by simp only [setTo, List.length_cons]; rw [setTo_len (b :: l)]; rfl
theorem lx_count {sz : Nat} : ∀ (k : Nat) (l : List Rn) (st : St), (lx sz k l st).1.length ≤ st.out.length + l.length
  | _, [], st => by simp only [lx, setTo_len]; omega
  | k + 1, _ :: l, st => by simp only [lx]; have := lx_count (sz := sz) k l st; simp; omega
  | 0, r :: l, st => by
    simp only [lx]
    split
    · refine Nat.le_trans (lx_count 0 l _) ?_
      simp; omega
    · split
      · refine Nat.le_trans (lx_count 0 l _) ?_
        simp
      · split
        · split
          · simp
          · refine Nat.le_trans (lx_count _ l _) ?_
            simp
        · refine Nat.le_trans (lx_count _ l _) ?_
          simp
def LnFew (N : Nat) (l : List Ln) : Prop := ∀ x ∈ l, x.toks.length ≤ N
theorem setTo_few {N sz : Nat} : ∀ {l : List Ln}, LnFew N l → LnFew N (setTo sz l)
  | [], _ => by intro x hx; simp [setTo] at hx
  | [a], h => by
    intro x hx
    simp only [setTo, List.mem_singleton] at hx
    subst hx
    exact h a (by simp)
  | a :: b :: l, h => by
    intro x hx
    simp only [setTo] at hx
    rcases List.mem_cons.1 hx with rfl | hx
    · exact h x (by simp)
    · exact setTo_few (l := b :: l) (fun y hy => h y (List.mem_cons_of_mem _ hy)) x hx
theorem lx_few {N sz : Nat} : ∀ (k : Nat) (l : List Rn) (st : St), LnFew N st.out → st.toks.length + l.length ≤ N → LnFew N (lx sz k l st).1
  | _, [], st, h1, _ => by simp only [lx]; exact setTo_few h1
  | k + 1, _ :: l, st, h1, h2 => by simp only [lx]; exact lx_few k l st h1 (by simp at h2; omega)
  | 0, r :: l, st, h1, h2 => by
    have hl' : st.toks.length + l.length + 1 ≤ N := by simp at h2; omega
    have hpush : ∀ t : Ln, t.toks = st.toks → LnFew N (st.out ++ [t]) := fun t ht x hx => by
      rcases List.mem_append.1 hx with hx | hx
      · exact h1 x hx
      · have : x = t := by simpa using hx
        rw [this, ht]
        omega
    simp only [lx]
    split
    · exact lx_few 0 l _ (hpush _ rfl) (by simp; omega)
    · split
      · exact lx_few 0 l _ h1 (by simp; omega)
      · split
        · split
          · exact hpush _ rfl
          · exact lx_few _ l _ h1 (by simp; omega)
        · exact lx_few _ l _ h1 (by simp; omega)
theorem llP_len (s : ByteArray) : (llP s).length ≤ s.size + 1 := by
  have h := lx_count (sz := s.data.toList.length) 0 (charsP s.data.toList) ⟨[], [], [], 0, false⟩
  have h2 := charsP_len s.data.toList
  have hsl : s.data.toList.length = s.size := by simp
  unfold llP linesP
  rw [List.length_map]
  simp only [List.length_nil] at h
  omega
theorem llP_few (s : ByteArray) : ∀ l ∈ llP s, l.length ≤ s.size + 1 := by
  have h2 := charsP_len s.data.toList
  have hsl : s.data.toList.length = s.size := by simp
  have h := lx_few (N := s.size + 1) (sz := s.data.toList.length) 0 (charsP s.data.toList) ⟨[], [], [], 0, false⟩ (by intro x hx; simp at hx) (by simp; omega)
  intro l hl
  obtain ⟨y, hy, rfl⟩ := List.mem_map.1 hl
  rw [List.length_map]
  exact h y hy
end Go.Proofs.Ytjklnlocmmnclaa
