/- The pure lexer: what each round of its loop does. -/
import Derived.Test.YtjklnlocmmnclaaPb
namespace Go.Proofs.Ytjklnlocmmnclaa
theorem lx_nl {sz : Nat} {r : Rn} {l : List Rn} {st : St} (h : (r.c.toNat : Int) = 10) : lx sz 0 (r :: l) st = lx sz 0 l ⟨st.out ++ [⟨st.toks, st.frm, r.to, false⟩], st.dgs, [], r.to, false⟩ := by
  simp only [lx]; rw [if_pos h]

theorem lx_white {sz : Nat} {r : Rn} {l : List Rn} {st : St} (h : ¬ (r.c.toNat : Int) = 10) (hw : whiteB (r.c.toNat : Int) = true) : lx sz 0 (r :: l) st = lx sz 0 l { st with space := true } := by
  simp only [lx]; rw [if_neg h, if_pos hw]
theorem lx_skip {sz : Nat} : ∀ (m : Nat) (l : List Rn) (st : St), lx sz m l st = lx sz 0 (l.drop m) st
  | 0, l, st => by simp
  | m + 1, [], st => by simp [lx]
  | m + 1, r :: l, st => by
    simp only [lx, List.drop_succ_cons]
    exact lx_skip m l st
theorem toNl_le : ∀ l : List Rn, toNl l ≤ l.length
  | [] => by simp [toNl]
  | r :: l => by
    have := toNl_le l
    simp only [toNl, List.length_cons]
    split <;> omega
theorem cmEnd_le : ∀ (l : List Rn) (k : Nat), cmEnd l = some k → k ≤ l.length
  | [], k, h => by simp [cmEnd] at h
  | r :: l, k, h => by
    simp only [cmEnd] at h
    split at h
    · rename_i hh
      cases h
      have : l.length ≠ 0 := by
        intro h0
        have := List.eq_nil_of_length_eq_zero h0
        subst this
        simp [hd] at hh
      simp only [List.length_cons]
      omega
    · rw [Option.map_eq_some_iff] at h
      obtain ⟨m, hm, rfl⟩ := h
      have := cmEnd_le l m hm
      simp only [List.length_cons]
      omega
theorem hd_lt {l : List Rn} {k : Nat} (h : hd l k ≠ 0) : k < l.length := by
  rcases Nat.lt_or_ge k l.length with h1 | h1
  · exact h1
  · exact absurd (hd_none h1) h
theorem commentP_le (l : List Rn) : (commentP l).1 ≤ l.length := by
  unfold commentP
  split
  · omega
  · split
    · exact toNl_le l
    · split
      · omega
      · rename_i h1 h2 h3
        have h4 : hd l 1 = 42 := by simpa using h3
        have hl := hd_lt (l := l) (k := 1) (by rw [h4]; decide)
        split
        · rename_i k hk
          have := cmEnd_le _ _ hk
          rw [List.length_drop] at this
          simp only []
          omega
        · simp
theorem commentP_open {l : List Rn} (h : (commentP l).2 = true) : 0 < (commentP l).1 := by
  unfold commentP at *
  split at h
  · cases h
  · split at h
    · cases h
    · split at h
      · cases h
      · rename_i h1 h2 h3
        rw [if_neg h1, if_neg h2, if_neg h3]
        have h4 : hd l 1 = 42 := by simpa using h3
        have hl := hd_lt (l := l) (k := 1) (by rw [h4]; decide)
        split at h
        · cases h
        · simp only []
          omega
theorem commentP_open2 {l : List Rn} {k : Nat} (h : (commentP (l.drop k)).2 = true) : k + 1 < l.length := by
  unfold commentP at h
  split at h
  · cases h
  · split at h
    · cases h
    · split at h
      · cases h
      · rename_i h1 h2 h3
        have h4 : hd (l.drop k) 1 = 42 := by simpa using h3
        rw [hd_drop] at h4
        exact hd_lt (by rw [h4]; decide)
theorem lx_open {sz k : Nat} {rs : List Rn} {r r2 : Rn} {st : St} (hr : rs[k]? = some r) (hr2 : rs[k + 1]? = some r2) (h : ¬ (r.c.toNat : Int) = 10) (hw : whiteB (r.c.toNat : Int) = false) (ho : (commentP (rs.drop k)).2 = true) :
    lx sz 0 (rs.drop k) st = (st.out ++ [⟨st.toks, st.frm, sz, true⟩], st.dgs ++ [⟨1, r.frm, r2.to⟩]) := by
  have hd := drop_at hr
  have hc := commentP_open ho
  generalize hm : commentP (rs.drop k) = m at *
  rw [hd, drop_at hr2] at hm ⊢
  simp only [lx, hm]
  rw [if_neg h, if_neg (by rw [hw]; decide), if_pos hc, ho, if_pos rfl]
  rfl
theorem lx_cm {sz k : Nat} {rs : List Rn} {r : Rn} {st : St} (hr : rs[k]? = some r) (h : ¬ (r.c.toNat : Int) = 10) (hw : whiteB (r.c.toNat : Int) = false) (hc : 0 < (commentP (rs.drop k)).1) (ho : (commentP (rs.drop k)).2 = false) :
    lx sz 0 (rs.drop k) st = lx sz 0 (rs.drop (k + (commentP (rs.drop k)).1)) { st with space := true } := by
  have hd := drop_at hr
  generalize hm : commentP (rs.drop k) = m at *
  rw [hd] at hm ⊢
  simp only [lx, hm]
  rw [if_neg h, if_neg (by rw [hw]; decide), if_pos hc, ho, if_neg (by decide), lx_skip, List.drop_drop]
  congr 2
  omega

theorem lx_tok {sz k : Nat} {rs : List Rn} {r : Rn} {st : St} (hr : rs[k]? = some r) (h : ¬ (r.c.toNat : Int) = 10) (hw : whiteB (r.c.toNat : Int) = false) (hc : (commentP (rs.drop k)).1 = 0) (hm : 1 ≤ (nextP (rs.drop k)).2.1) :
    lx sz 0 (rs.drop k) st = lx sz 0 (rs.drop (k + (nextP (rs.drop k)).2.1)) ⟨st.out, if (nextP (rs.drop k)).2.2 then st.dgs ++ [⟨2, (tokAt (rs.drop k) st.space).frm, (tokAt (rs.drop k) st.space).to⟩] else st.dgs,
      st.toks ++ [tokAt (rs.drop k) st.space], st.frm, false⟩ := by
  have hd := drop_at hr
  generalize hm' : nextP (rs.drop k) = m at *
  generalize ht : tokAt (rs.drop k) st.space = t at *
  generalize hc' : commentP (rs.drop k) = q at *
  rw [hd] at hm' ht hc' ⊢
  simp only [lx, hm', ht, hc']
  rw [if_neg h, if_neg (by rw [hw]; decide), if_neg (by omega), lx_skip, List.drop_drop]
  congr 2
  omega
theorem tokAt_eq {k : Nat} {rs : List Rn} {r r2 : Rn} {sp : Bool} (hr : rs[k]? = some r) (hm : 1 ≤ (nextP (rs.drop k)).2.1) (hr2 : rs[k + (nextP (rs.drop k)).2.1 - 1]? = some r2) :
    tokAt (rs.drop k) sp = ⟨(nextP (rs.drop k)).1, textP ((rs.drop k).take (nextP (rs.drop k)).2.1), sp, r.frm, r2.to⟩ := by
  unfold tokAt
  simp only []
  have h1 : (rs.drop k).head? = some r := by rw [drop_at hr]; rfl
  have h2 : (rs.drop k)[(nextP (rs.drop k)).2.1 - 1]? = some r2 := by rw [List.getElem?_drop, ← hr2]; congr 1; omega
  rw [h1, h2]
  rfl

theorem quotedL_le (q : Int) : ∀ l : List Rn, quotedL q l ≤ l.length
  | [] => by simp [quotedL]
  | [r] => by simp only [quotedL]; (repeat' split) <;> simp
  | r :: s :: l => by
    have h1 := quotedL_le q l
    have h2 := quotedL_le q (s :: l)
    simp only [quotedL, List.length_cons] at *
    (repeat' split) <;> omega
theorem identL_le : ∀ l : List Rn, identL l ≤ l.length
  | [] => by simp [identL]
  | r :: l => by
    have := identL_le l
    simp only [identL, List.length_cons]
    split <;> omega
theorem pmatch_le : ∀ (p : List UInt8) (l : List Rn), (∀ c ∈ p, c ≠ 0) → pmatch p l = true → p.length ≤ l.length
  | [], _, _, _ => by simp
  | a :: p, l, h0, h => by
    simp only [pmatch, Bool.and_eq_true, decide_eq_true_eq] at h
    have ha : a ≠ 0 := h0 a (by simp)
    have hz : (a.toNat : Int) ≠ 0 := by
      intro e
      apply ha
      have : a.toNat = 0 := by omega
      exact UInt8.toNat_inj.1 this
    have hl := hd_lt (l := l) (k := 0) (by rw [h.1]; exact hz)
    have ih := pmatch_le p (l.drop 1) (fun c hc => h0 c (by simp [hc])) h.2
    rw [List.length_drop] at ih
    simp only [List.length_cons]
    omega
theorem punctIn_len (l : List Rn) : ∀ (ps : List (List UInt8)), (∀ p ∈ ps, ∀ c ∈ p, c ≠ 0) → punctIn l ps ≤ l.length
  | [], _ => by simp [punctIn]
  | p :: ps, h => by
    simp only [punctIn]
    split
    · exact pmatch_le p l (h p (by simp)) ‹_›
    · exact punctIn_len l ps fun q hq => h q (by simp [hq])
theorem punctP_len (l : List Rn) : punctP l ≤ l.length := punctIn_len l _ (by decide)
theorem hd_none' {l : List Rn} (h : l = []) (k : Nat) : hd l k = 0 := hd_none (by rw [h]; simp)
theorem numP_len {l : List Rn} (h : l ≠ []) : numP l ≤ l.length := by
  have h1 : 0 < l.length := by cases l with | nil => exact absurd rfl h | cons a b => simp
  unfold numP
  have := numL_le (l.drop 1)
  rw [List.length_drop] at this
  split <;> omega
theorem nextP_pos (l : List Rn) : 1 ≤ (nextP l).2.1 := by
  unfold nextP
  simp only []
  (repeat' split) <;> simp only [] <;> omega
theorem letters_lt {l : List Rn} (h : 0 ≤ lettersP l) : (lettersP l).toNat < l.length := by
  have hd0 := List.drop_zero (l := l)
  rcases letters_range l with h1 | h1 | h1 | h1
  · omega
  · rw [h1]
    have := letters_zero (l := l) (i := 0) (by rw [hd0]; exact h1)
    simpa using this
  · rw [h1]
    have := letters_one (l := l) (i := 0) (by rw [hd0]; exact h1)
    simpa using this
  · rw [h1]
    have := letters_two (l := l) (i := 0) (by rw [hd0]; exact h1)
    simpa using this
theorem nextP_len {l : List Rn} (h : l ≠ []) : (nextP l).2.1 ≤ l.length := by
  have h1 : 0 < l.length := by cases l with | nil => exact absurd rfl h | cons a b => simp
  have h2 := identL_le (l.drop 1)
  have h3 := numP_len h
  have h4 := punctP_len l
  have h5 := quotedL_le (hd l (lettersP l).toNat) (l.drop ((lettersP l).toNat + 1))
  rw [List.length_drop] at h2 h5
  unfold nextP
  simp only []
  split
  · rename_i hh
    have h6 := letters_lt hh.1
    split <;> simp only [] <;> omega
  · (repeat' split) <;> simp only [] <;> omega
end Go.Proofs.Ytjklnlocmmnclaa
