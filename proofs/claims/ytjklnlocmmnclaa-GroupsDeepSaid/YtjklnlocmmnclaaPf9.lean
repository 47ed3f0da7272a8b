/- The pure lexer: what it reads depends on the bytes alone, token by token. The pure lexer: tokens that are read one by one; a line's end. The pure lexer on directives: a word behind a hash, however they are spelled and spaced. The pure lexer, line by line: texts of lines whose kinds are known. -/
import Derived.Test.YtjklnlocmmnclaaPa9
namespace Go.Proofs.Ytjklnlocmmnclaa

def cs (l : List Rn) : List UInt8 := l.map (·.c)
theorem cs_app (l m : List Rn) : cs (l ++ m) = cs l ++ cs m := by simp [cs]
theorem cs_len (l : List Rn) : (cs l).length = l.length := by simp [cs]
theorem cs_cons (r : Rn) (l : List Rn) : cs (r :: l) = r.c :: cs l := rfl
/-- The k-th byte; 0 beyond the end. -/
def byt (l : List UInt8) (k : Nat) : Int := match l[k]? with | some r => (r.toNat : Int) | none => 0
theorem hd_cs (l : List Rn) (k : Nat) : hd l k = byt (cs l) k := by
  unfold hd byt cs
  rw [List.getElem?_map]
  cases l[k]? <;> rfl

/- Plain bytes are characters. -/
theorem plain_cs : ∀ (s : List UInt8) (i : Nat), (∀ b ∈ s, b ≠ 63) → cs (plainS 0 i s) = s
  | [], _, _ => by simp [plainS, cs]
  | b :: l, i, h => by
    have hn : trigAt (b :: l) = none := by
      unfold trigAt
      split
      · rename_i e
        injection e with e1 _
        have := h b (by simp)
        rw [e1] at this
        simp [this]
      · rfl
    simp only [plainS, hn, cs_cons]
    rw [plain_cs l (i + 1) fun c hc => h c (List.mem_cons_of_mem _ hc)]
theorem spliced_id : ∀ l : List Rn, (∀ b ∈ cs l, b ≠ 92) → splicedP l = l
  | [], _ => rfl
  | [r], _ => rfl
  | r :: s :: l, h => by
    have h1 : r.c ≠ 92 := h r.c (by simp [cs])
    simp only [splicedP, h1, false_and, if_false]
    rw [spliced_id (s :: l) fun b hb => h b (by simp only [cs_cons] at *; exact List.mem_cons_of_mem _ hb)]
/-- Of plain bytes the characters are the bytes, with a line's end. -/
theorem chars_nl {s : List UInt8} (h : ∀ b ∈ s, b ≠ 63 ∧ b ≠ 92) : cs (charsP (s ++ [10])) = s ++ [10] := by
  have h1 : cs (plainS 0 0 (s ++ [10])) = s ++ [10] := plain_cs _ _ fun b hb => by
    rcases List.mem_append.1 hb with hb | hb
    · exact (h b hb).1
    · simp at hb; subst hb; decide
  have h2 : splicedP (plainS 0 0 (s ++ [10])) = plainS 0 0 (s ++ [10]) := spliced_id _ fun b hb => by
    rw [h1] at hb
    rcases List.mem_append.1 hb with hb | hb
    · exact (h b hb).2
    · simp at hb; subst hb; decide
  unfold charsP
  rw [h2]
  have h3 : endsNl (plainS 0 0 (s ++ [10])) = true := by
    unfold endsNl
    have : ((plainS 0 0 (s ++ [10])).map (·.c)).getLast? = some 10 := by rw [show (plainS 0 0 (s ++ [10])).map (·.c) = s ++ [10] from h1]; simp
    rw [List.getLast?_map] at this
    cases hl : (plainS 0 0 (s ++ [10])).getLast? with
    | none => rw [hl] at this; simp at this
    | some r => rw [hl] at this; simp at this; simp [this]
  simp only [h3]
  simpa using h1
theorem chars_add {s : List UInt8} (h : ∀ b ∈ s, b ≠ 63 ∧ b ≠ 92) (h10 : ∀ b ∈ s, b ≠ 10) (hne : s ≠ []) : cs (charsP s) = s ++ [10] := by
  have h1 : cs (plainS 0 0 s) = s := plain_cs _ _ fun b hb => (h b hb).1
  have h2 : splicedP (plainS 0 0 s) = plainS 0 0 s := spliced_id _ fun b hb => by
    rw [h1] at hb
    exact (h b hb).2
  unfold charsP
  rw [h2]
  have h3 : endsNl (plainS 0 0 s) = false := by
    unfold endsNl
    cases hl : (plainS 0 0 s).getLast? with
    | none => rfl
    | some r =>
      have hm : r ∈ plainS 0 0 s := List.mem_of_getLast? hl
      have : r.c ∈ cs (plainS 0 0 s) := List.mem_map.2 ⟨r, hm, rfl⟩
      rw [h1] at this
      simp [h10 _ this]
  have hl : s.length > 0 := List.length_pos_iff.2 hne
  simp only [h3, hl, and_self, if_true]
  rw [cs_app, h1]
  rfl

/- What a token is depends on the bytes alone. -/
theorem quotedL_cs (q : Int) : ∀ l m : List Rn, cs l = cs m → quotedL q l = quotedL q m
  | [], [], _ => rfl
  | [], _ :: _, h => by simp [cs] at h
  | _ :: _, [], h => by simp [cs] at h
  | [r], [r'], h => by simp [cs] at h; simp [quotedL, h]
  | [_], _ :: _ :: _, h => by simp [cs] at h
  | _ :: _ :: _, [_], h => by simp [cs] at h
  | r :: s :: l, r' :: s' :: m, h => by
    simp only [cs_cons, List.cons.injEq] at h
    obtain ⟨h1, h2, h3⟩ := h
    have e1 := quotedL_cs q l m h3
    have e2 := quotedL_cs q (s :: l) (s' :: m) (by simp only [cs_cons, h2, h3])
    simp only [quotedL, h1, h2, e1, e2]
theorem numL_cs : ∀ l m : List Rn, cs l = cs m → numL l = numL m
  | [], [], _ => rfl
  | [], _ :: _, h => by simp [cs] at h
  | _ :: _, [], h => by simp [cs] at h
  | [r], [r'], h => by simp [cs] at h; simp [numL, h]
  | [_], _ :: _ :: _, h => by simp [cs] at h
  | _ :: _ :: _, [_], h => by simp [cs] at h
  | r :: s :: l, r' :: s' :: m, h => by
    simp only [cs_cons, List.cons.injEq] at h
    obtain ⟨h1, h2, h3⟩ := h
    have e1 := numL_cs l m h3
    have e2 := numL_cs (s :: l) (s' :: m) (by simp only [cs_cons, h2, h3])
    simp only [numL, h1, h2, e1, e2]
theorem identL_cs : ∀ l m : List Rn, cs l = cs m → identL l = identL m
  | [], [], _ => rfl
  | [], _ :: _, h => by simp [cs] at h
  | _ :: _, [], h => by simp [cs] at h
  | r :: l, r' :: m, h => by
    simp only [cs_cons, List.cons.injEq] at h
    simp only [identL, h.1, identL_cs l m h.2]
theorem cs_drop (l : List Rn) (k : Nat) : cs (l.drop k) = (cs l).drop k := by simp [cs, List.map_drop]
theorem pmatch_cs : ∀ (p : List UInt8) (l m : List Rn), cs l = cs m → pmatch p l = pmatch p m
  | [], _, _, _ => rfl
  | a :: p, l, m, h => by
    simp only [pmatch, hd_cs, h]
    rw [pmatch_cs p (l.drop 1) (m.drop 1) (by rw [cs_drop, cs_drop, h])]
theorem punctIn_cs (l m : List Rn) (h : cs l = cs m) : ∀ ps, punctIn l ps = punctIn m ps
  | [] => rfl
  | p :: ps => by simp only [punctIn, pmatch_cs p l m h, punctIn_cs l m h ps]
theorem nextP_cs {l m : List Rn} (h : cs l = cs m) : nextP l = nextP m := by
  have hl : lettersP l = lettersP m := by simp only [lettersP, hd_cs, h]
  have hq : ∀ q k, quotedL q (l.drop k) = quotedL q (m.drop k) := fun q k => quotedL_cs q _ _ (by rw [cs_drop, cs_drop, h])
  have hi : identL (l.drop 1) = identL (m.drop 1) := identL_cs _ _ (by rw [cs_drop, cs_drop, h])
  have hn : numP l = numP m := by
    simp only [numP, hd_cs, h, numL_cs (l.drop 1) (m.drop 1) (by rw [cs_drop, cs_drop, h])]
  have hp : punctP l = punctP m := punctIn_cs l m h _
  unfold nextP
  simp only [hl, hq, hi, hn, hp, hd_cs, h]

/- A token of a line ends ahead of the line's end. -/
theorem quotedL_nl (q : Int) (n : Rn) (hn : n.c = 10) (t : List Rn) : ∀ l : List Rn, (∀ b ∈ cs l, b ≠ 10) → quotedL q (l ++ n :: t) ≤ l.length
  | [], _ => by
    cases t <;> simp [quotedL, hn]
  | [r], h => by
    have hr : r.c ≠ 10 := h _ (by simp [cs])
    have h0 := quotedL_nl q n hn t [] (by simp [cs])
    simp only [List.nil_append, List.length_nil, Nat.le_zero] at h0
    simp only [List.cons_append, List.nil_append, quotedL, hn, h0]
    (repeat' split) <;> simp_all
  | r :: s :: l, h => by
    have h1 := quotedL_nl q n hn t l (fun b hb => h b (by simp only [cs_cons]; simp [hb]))
    have h2 := quotedL_nl q n hn t (s :: l) (fun b hb => h b (by simp only [cs_cons] at *; exact List.mem_cons_of_mem _ hb))
    simp only [List.cons_append, quotedL, List.length_cons] at *
    (repeat' split) <;> omega
theorem numL_nl (n : Rn) (hn : n.c = 10) (t : List Rn) : ∀ l : List Rn, numL (l ++ n :: t) ≤ l.length
  | [] => by
    cases t <;> simp [numL, hn, letterB, digitB, expoB, signB]
  | [r] => by
    have h0 := numL_nl n hn t []
    simp only [List.nil_append, List.length_nil, Nat.le_zero] at h0
    simp only [List.cons_append, List.nil_append, numL, hn, h0, List.length_cons, List.length_nil]
    have hs : signB (((10 : UInt8).toNat : Nat) : Int) = false := by decide
    rw [hs, Bool.and_false]
    (repeat' split) <;> simp_all
  | r :: s :: l => by
    have h1 := numL_nl n hn t l
    have h2 := numL_nl n hn t (s :: l)
    simp only [List.cons_append, numL, List.length_cons] at *
    (repeat' split) <;> omega
theorem identL_nl (n : Rn) (hn : n.c = 10) (t : List Rn) : ∀ l : List Rn, identL (l ++ n :: t) ≤ l.length
  | [] => by simp [identL, hn, letterB, digitB]
  | r :: l => by
    have := identL_nl n hn t l
    simp only [List.cons_append, identL, List.length_cons]
    split <;> omega
theorem pmatch_nl (n : Rn) (hn : n.c = 10) (t : List Rn) : ∀ (p : List UInt8) (l : List Rn), (10 : UInt8) ∉ p → pmatch p (l ++ n :: t) = true → p.length ≤ l.length
  | [], _, _, _ => by simp
  | a :: p, [], h10, h => by
    simp only [List.nil_append, pmatch, hd, List.getElem?_cons_zero, hn, Bool.and_eq_true, decide_eq_true_eq] at h
    have : (10 : UInt8) = a := UInt8.toNat_inj.1 (by omega)
    exact absurd (by rw [this]; simp) h10
  | a :: p, r :: l, h10, h => by
    simp only [List.cons_append, pmatch, Bool.and_eq_true, List.drop_succ_cons, List.drop_zero] at h
    have := pmatch_nl n hn t p l (fun e => h10 (List.mem_cons_of_mem _ e)) h.2
    simp only [List.length_cons]
    omega
theorem punctIn_nl (n : Rn) (hn : n.c = 10) (t l : List Rn) : ∀ ps : List (List UInt8), (∀ p ∈ ps, (10 : UInt8) ∉ p) → punctIn (l ++ n :: t) ps ≤ l.length
  | [], _ => by simp [punctIn]
  | p :: ps, h => by
    simp only [punctIn]
    split
    · rename_i hm
      exact pmatch_nl n hn t p l (h p (by simp)) hm
    · exact punctIn_nl n hn t l ps fun q hq => h q (by simp [hq])
theorem hd_app {l m : List Rn} {k : Nat} (h : k < l.length) : hd (l ++ m) k = hd l k := by
  unfold hd
  rw [List.getElem?_append_left h]
theorem hd_at {l t : List Rn} {n : Rn} : hd (l ++ n :: t) l.length = (n.c.toNat : Int) := by
  unfold hd
  simp
theorem nextP_nl (n : Rn) (hn : n.c = 10) (t : List Rn) {l : List Rn} (hl : l ≠ []) (h : ∀ b ∈ cs l, b ≠ 10) : (nextP (l ++ n :: t)).2.1 ≤ l.length ∧ 0 < (nextP (l ++ n :: t)).2.1 := by
  have h0 : 0 < l.length := List.length_pos_iff.2 hl
  have hq : ∀ (q : Int) (k : Nat), k ≤ l.length → quotedL q ((l ++ n :: t).drop k) ≤ l.length - k := fun q k hk => by
    rw [List.drop_append_of_le_length hk]
    refine Nat.le_trans (quotedL_nl q n hn t (l.drop k) fun b hb => h b ?_) (by simp)
    rw [cs_drop] at hb
    exact List.mem_of_mem_drop hb
  have hi : identL ((l ++ n :: t).drop 1) ≤ l.length - 1 := by
    rw [List.drop_append_of_le_length (by omega)]
    exact Nat.le_trans (identL_nl n hn t _) (by simp)
  have hN : numP (l ++ n :: t) ≤ l.length := by
    unfold numP
    split
    · rw [List.drop_append_of_le_length (by omega)]
      have := numL_nl n hn t (l.drop 1)
      simp only [List.length_drop] at this
      omega
    · omega
  have hp : punctP (l ++ n :: t) ≤ l.length := punctIn_nl n hn t l _ (by decide)
  -- a constant's letters stand ahead of the line's end
  have hk : ∀ k : Nat, lettersP (l ++ n :: t) = (k : Int) → k + 1 ≤ l.length := by
    intro k hk
    have hn10 : (n.c.toNat : Int) = 10 := by rw [hn]; rfl
    unfold lettersP lettersI at hk
    by_cases h1 : l.length = 1
    · have e1 : hd (l ++ n :: t) 1 = 10 := by rw [← h1, hd_at, hn10]
      rw [e1] at hk
      (repeat' split at hk) <;> first | omega | simp_all
    · by_cases h2 : l.length = 2
      · have e1 : hd (l ++ n :: t) 2 = 10 := by rw [← h2, hd_at, hn10]
        rw [e1] at hk
        (repeat' split at hk) <;> first | omega | simp_all
      · (repeat' split at hk) <;> omega
  unfold nextP
  simp only []
  split
  · rename_i hc
    obtain ⟨k, hk'⟩ : ∃ k : Nat, lettersP (l ++ n :: t) = (k : Int) := ⟨(lettersP (l ++ n :: t)).toNat, by omega⟩
    have h1 := hk k hk'
    rw [hk'] at hc ⊢
    simp only [Int.toNat_natCast] at *
    have h2 := hq (hd (l ++ n :: t) k) (k + 1) h1
    split <;> (simp only; omega)
  · split
    · simp only; omega
    · split
      · simp only; omega
      · split
        · simp only; omega
        · split
          · simp only; omega
          · simp only; omega
end Go.Proofs.Ytjklnlocmmnclaa
namespace Go.Proofs.Ytjklnlocmmnclaa

theorem lx_skipB (sz : Nat) (st : St) (m : List Rn) : ∀ (k : Nat) (p : List Rn), p.length = k → lx sz k (p ++ m) st = lx sz 0 m st
  | 0, [], _ => rfl
  | 0, _ :: _, h => by simp at h
  | k + 1, [], h => by simp at h
  | k + 1, _ :: p, h => by
    simp only [List.cons_append, lx]
    exact lx_skipB sz st m k p (by simpa using h)
/-- A character that begins a token. -/
def tokC (c : UInt8) : Bool := c != 10 && !whiteB c.toNat && c != 47
theorem tokC_out {c : UInt8} (h : tokC c = true) : ¬ (c.toNat : Int) = 10 ∧ whiteB c.toNat = false ∧ ¬ (c.toNat : Int) = 47 := by
  unfold tokC at h
  simp only [Bool.and_eq_true, bne_iff_ne, ne_eq, Bool.not_eq_true'] at h
  refine ⟨fun e => h.1.1 (UInt8.toNat_inj.1 (by show c.toNat = 10; omega)), h.1.2, fun e => h.2 (UInt8.toNat_inj.1 (by show c.toNat = 47; omega))⟩
theorem comment_not {r : Rn} {l : List Rn} (h : ¬ (r.c.toNat : Int) = 47) : commentP (r :: l) = (0, false) := by
  unfold commentP
  rw [if_pos]
  simpa [hd] using h
/-- One token. -/
theorem lx_tokB {sz : Nat} {p m : List Rn} {st : St} {kind : Int} {b : Bool} (hne : p ≠ []) (hc : ∀ c, (cs p).head? = some c → tokC c = true) (hn : nextP (p ++ m) = (kind, p.length, b)) :
    ∃ t d, lx sz 0 (p ++ m) st = lx sz 0 m ⟨st.out, d, st.toks ++ [t], st.frm, false⟩ ∧ t.kind = kind ∧ t.text = cs p ∧ t.space = st.space ∧ (b = false → d = st.dgs) := by
  match p, hne, hc, hn with
  | r :: p, _, hc, hn =>
    obtain ⟨h1, h2, h3⟩ := tokC_out (hc r.c rfl)
    have h0 : ¬ (0 : Nat) > 0 := by omega
    simp only [List.cons_append] at hn
    refine ⟨tokAt (r :: (p ++ m)) st.space, if b then st.dgs ++ [⟨2, (tokAt (r :: (p ++ m)) st.space).frm, (tokAt (r :: (p ++ m)) st.space).to⟩] else st.dgs, ?_, ?_, ?_, ?_, ?_⟩
    · simp only [List.cons_append, lx, if_neg h1, h2, comment_not h3, h0, if_false, hn, Bool.false_eq_true]
      exact lx_skipB sz _ m _ p (by simp)
    · simp only [tokAt, hn]
    · simp only [tokAt, hn, textP]
      rw [show (r :: (p ++ m)).take (r :: p).length = r :: p by rw [← List.cons_append]; simp]
      rfl
    · simp only [tokAt]
    · intro e
      rw [e]
      rfl
/-- White space. -/
theorem lx_wh {sz : Nat} {r : Rn} {m : List Rn} {st : St} (h : r.c = 32 ∨ r.c = 9) : lx sz 0 (r :: m) st = lx sz 0 m { st with space := true } := by
  have h1 : ¬ (r.c.toNat : Int) = 10 := by rcases h with h | h <;> rw [h] <;> decide
  have h2 : whiteB r.c.toNat = true := by rcases h with h | h <;> rw [h] <;> decide
  simp only [lx, if_neg h1, h2, if_true]
def blankB (l : List UInt8) : Prop := ∀ b ∈ l, b = 32 ∨ b = 9
theorem lx_blanks (sz : Nat) (m : List Rn) : ∀ (p : List Rn) (st : St), blankB (cs p) → ∃ s, lx sz 0 (p ++ m) st = lx sz 0 m { st with space := s }
  | [], st, _ => ⟨st.space, rfl⟩
  | r :: p, st, h => by
    obtain ⟨s, hs⟩ := lx_blanks sz m p { st with space := true } (fun b hb => h b (List.mem_cons_of_mem _ hb))
    refine ⟨s, ?_⟩
    rw [List.cons_append, lx_wh (h r.c (by simp [cs])), hs]
theorem lx_endB {sz : Nat} {r : Rn} {m : List Rn} {st : St} (h : r.c = 10) : lx sz 0 (r :: m) st = lx sz 0 m ⟨st.out ++ [⟨st.toks, st.frm, r.to, false⟩], st.dgs, [], r.to, false⟩ := by
  have h1 : (r.c.toNat : Int) = 10 := by rw [h]; rfl
  simp only [lx, if_pos h1]

/- How the tokens of the directives begin. -/
theorem hd_zero (r : Rn) (l : List Rn) : hd (r :: l) 0 = (r.c.toNat : Int) := rfl
theorem hd_one (r s : Rn) (l : List Rn) : hd (r :: s :: l) 1 = (s.c.toNat : Int) := rfl
theorem hd_succ (r : Rn) (l : List Rn) (k : Nat) : hd (r :: l) (k + 1) = hd l k := by simp [hd]
theorem hd_drop1 (l : List Rn) (k : Nat) : hd (l.drop 1) k = hd l (k + 1) := by rw [hd_drop, Nat.add_comm]
theorem letters_none {l : List Rn} (h0 : hd l 0 ≠ 34 ∧ hd l 0 ≠ 39 ∧ hd l 0 ≠ 117 ∧ hd l 0 ≠ 76 ∧ hd l 0 ≠ 85) : lettersP l = -1 := by
  unfold lettersP lettersI
  rw [if_neg (by omega), if_neg (by omega), if_neg (by omega)]
/-- '#', behind which no '#' stands. -/
theorem next_hash1 {r : Rn} {m : List Rn} (h : r.c = 35) (hm : hd m 0 ≠ 35) : nextP (r :: m) = (5, 1, false) := by
  have h0 : hd (r :: m) 0 = 35 := by rw [hd_zero, h]; rfl
  have h1 : hd (r :: m) 1 ≠ 35 := by rw [hd_succ]; exact hm
  have hl : lettersP (r :: m) = -1 := letters_none (by rw [h0]; decide)
  have hp : punctP (r :: m) = 1 := by
    simp only [punctP, punctsP, punctIn, pmatch, hd_drop1, h0]
    simp [h1]
  have hn : numP (r :: m) = 0 := by simp [numP, h0, digitB]
  unfold nextP
  simp only [hl, h0, hn, hp]
  rw [if_neg (by omega), if_neg (by omega), if_neg (by decide), if_neg (by omega), if_pos (by omega)]
/-- '%:', behind which no '%' stands. -/
theorem next_hash2 {r s : Rn} {m : List Rn} (h : r.c = 37) (hs : s.c = 58) (hm : hd m 0 ≠ 37) : nextP (r :: s :: m) = (5, 2, false) := by
  have h0 : hd (r :: s :: m) 0 = 37 := by rw [hd_zero, h]; rfl
  have h1 : hd (r :: s :: m) 1 = 58 := by rw [hd_one, hs]; rfl
  have h2 : hd (r :: s :: m) 2 ≠ 37 := by rw [hd_succ, hd_succ]; exact hm
  have hl : lettersP (r :: s :: m) = -1 := letters_none (by rw [h0]; decide)
  have hp : punctP (r :: s :: m) = 2 := by
    simp only [punctP, punctsP, punctIn, pmatch, hd_drop1, h0, h1]
    simp [h2]
  have hn : numP (r :: s :: m) = 0 := by simp [numP, h0, digitB]
  unfold nextP
  simp only [hl, h0, hn, hp]
  rw [if_neg (by omega), if_neg (by omega), if_neg (by decide), if_neg (by omega), if_pos (by omega)]
def lowerB (l : List UInt8) : Prop := ∀ b ∈ l, 97 ≤ b.toNat ∧ b.toNat ≤ 122
theorem ident_lower (m : List Rn) (hm : letterB (hd m 0) = false ∧ digitB (hd m 0) = false) : ∀ p : List Rn, lowerB (cs p) → identL (p ++ m) = p.length
  | [], _ => by
    cases m with
    | nil => rfl
    | cons r m =>
      rw [hd_zero] at hm
      simp [identL, hm.1, hm.2]
  | r :: p, h => by
    have h1 := h r.c (by simp [cs])
    have : letterB (r.c.toNat : Int) = true := by unfold letterB; exact decide_eq_true (by omega)
    simp only [List.cons_append, identL, this, Bool.true_or, if_true, List.length_cons]
    rw [ident_lower m hm p (fun b hb => h b (List.mem_cons_of_mem _ hb))]
    omega
/-- A name of small letters. -/
theorem next_lower {m p : List Rn} (hm : letterB (hd m 0) = false ∧ digitB (hd m 0) = false) (hp : lowerB (cs p)) (h2 : 2 ≤ p.length) : nextP (p ++ m) = (1, p.length, false) := by
  match p, hp, h2 with
  | r :: s :: p, hp, _ =>
    have hr := hp r.c (by simp [cs])
    have hs := hp s.c (by simp [cs])
    have h0 : hd (r :: s :: p ++ m) 0 = (r.c.toNat : Int) := rfl
    have h1 : hd (r :: s :: p ++ m) 1 = (s.c.toNat : Int) := rfl
    have hl : lettersP (r :: s :: p ++ m) = -1 := by
      unfold lettersP lettersI
      rw [h0, h1, if_neg (by omega), if_neg (by omega), if_neg (by omega)]
    have hi := ident_lower m hm (s :: p) (fun b hb => hp b (by rw [cs_cons]; exact List.mem_cons_of_mem _ hb))
    have hb : letterB (hd (r :: s :: p ++ m) 0) = true := by rw [h0]; unfold letterB; exact decide_eq_true (by omega)
    have hd1 : List.drop 1 (r :: s :: p ++ m) = s :: p ++ m := rfl
    unfold nextP
    simp only [hl, hb, hd1, hi, List.length_cons]
    rw [if_neg (by omega), if_neg (by omega)]
    simp only [if_true, Prod.mk.injEq, and_true, true_and]
    omega
/-- One letter that begins no constant. -/
theorem next_letter {m : List Rn} {r : Rn} (hm : letterB (hd m 0) = false ∧ digitB (hd m 0) = false) (hr : letterB r.c.toNat = true) (hq : r.c ≠ 117 ∧ r.c ≠ 76 ∧ r.c ≠ 85) : nextP (r :: m) = (1, 1, false) := by
  have h0 : hd (r :: m) 0 = (r.c.toNat : Int) := rfl
  have hne : ∀ k : UInt8, r.c ≠ k → (r.c.toNat : Int) ≠ (k.toNat : Int) := fun k h e => h (UInt8.toNat_inj.1 (by omega))
  have hl : lettersP (r :: m) = -1 := by
    refine letters_none ?_
    rw [h0]
    refine ⟨?_, ?_, hne 117 hq.1, hne 76 hq.2.1, hne 85 hq.2.2⟩ <;> (intro e; rw [e] at hr; revert hr; decide)
  have hi : identL m = 0 := ident_lower m hm [] (by simp [cs, lowerB])
  unfold nextP
  simp only [hl, h0, hr, List.drop_succ_cons, List.drop_zero, hi]
  rw [if_neg (by omega), if_neg (by omega), if_pos trivial]

/-- What stands on a line up to its end, where no comment begins. -/
theorem lx_rest {n n' : Rn} {t t' : List Rn} (hn : n.c = 10) (hn' : n'.c = 10) : ∀ (N : Nat) (l l' : List Rn) (k : Nat) (sz sz' : Nat) (st st' : St), l.length ≤ N → cs l = cs l' → (∀ b ∈ cs l, b ≠ 10 ∧ b ≠ 47) → k ≤ l.length → cs t = cs t' →
    ∃ x x' d d' s s', x.length = x'.length ∧ lx sz k (l ++ n :: t) st = lx sz 0 (n :: t) ⟨st.out, d, st.toks ++ x, st.frm, s⟩ ∧ lx sz' k (l' ++ n' :: t') st' = lx sz' 0 (n' :: t') ⟨st'.out, d', st'.toks ++ x', st'.frm, s'⟩
  | N, [], l', k, sz, sz', st, st', _, hc, _, hk, _ => by
    have hl' : l' = [] := by
      have := congrArg List.length hc
      rw [cs_len, cs_len] at this
      exact List.length_eq_zero_iff.1 this.symm
    have hk' : k = 0 := by simpa using hk
    subst hl' hk'
    exact ⟨[], [], st.dgs, st'.dgs, st.space, st'.space, rfl, by simp, by simp⟩
  | 0, _ :: _, _, _, _, _, _, _, hN, _, _, _, _ => by simp at hN
  | N + 1, r :: l, [], k, sz, sz', st, st', _, hc, _, _, _ => by simp [cs] at hc
  | N + 1, r :: l, r' :: l', k + 1, sz, sz', st, st', hN, hc, h, hk, ht => by
    simp only [cs_cons, List.cons.injEq] at hc
    obtain ⟨x, x', d, d', s, s', e1, e2, e3⟩ := lx_rest hn hn' N l l' k sz sz' st st' (by simpa using hN) hc.2 (fun b hb => h b (List.mem_cons_of_mem _ hb)) (by simpa using hk) ht
    exact ⟨x, x', d, d', s, s', e1, by simpa only [List.cons_append, lx] using e2, by simpa only [List.cons_append, lx] using e3⟩
  | N + 1, r :: l, r' :: l', 0, sz, sz', st, st', hN, hc, h, hk, ht => by
    have hc0 := hc
    simp only [cs_cons, List.cons.injEq] at hc
    have hN' : l.length ≤ N := by simpa using hN
    have hll : l.length = l'.length := by rw [← cs_len l, ← cs_len l', hc.2]
    have hr := h r.c (by simp [cs])
    have h10 : ¬ (r.c.toNat : Int) = 10 := fun e => hr.1 (UInt8.toNat_inj.1 (by show r.c.toNat = 10; omega))
    have h47 : ¬ (r.c.toNat : Int) = 47 := fun e => hr.2 (UInt8.toNat_inj.1 (by show r.c.toNat = 47; omega))
    have h10' : ¬ (r'.c.toNat : Int) = 10 := by rw [← hc.1]; exact h10
    have h47' : ¬ (r'.c.toNat : Int) = 47 := by rw [← hc.1]; exact h47
    have hl : ∀ b ∈ cs l, b ≠ 10 ∧ b ≠ 47 := fun b hb => h b (List.mem_cons_of_mem _ hb)
    have hz : ¬ (0 : Nat) > 0 := by omega
    cases hw : whiteB r.c.toNat with
    | true =>
      have hw' : whiteB r'.c.toNat = true := by rw [← hc.1]; exact hw
      obtain ⟨x, x', d, d', s, s', e1, e2, e3⟩ := lx_rest hn hn' N l l' 0 sz sz' { st with space := true } { st' with space := true } hN' hc.2 hl (by omega) ht
      refine ⟨x, x', d, d', s, s', e1, ?_, ?_⟩
      · simp only [List.cons_append, lx, if_neg h10, hw, if_true]
        exact e2
      · simp only [List.cons_append, lx, if_neg h10', hw', if_true]
        exact e3
    | false =>
      have hw' : whiteB r'.c.toNat = false := by rw [← hc.1]; exact hw
      have hnx : nextP (r :: (l ++ n :: t)) = nextP (r' :: (l' ++ n' :: t')) := nextP_cs (by simp only [cs_cons, cs_app, hc.1, hc.2, hn, hn', ht])
      have hbd := nextP_nl n hn t (l := r :: l) (by simp) (fun b hb => (h b hb).1)
      simp only [List.cons_append, List.length_cons] at hbd
      obtain ⟨x, x', d, d', s, s', e1, e2, e3⟩ := lx_rest hn hn' N l l' ((nextP (r :: (l ++ n :: t))).2.1 - 1) sz sz'
        ⟨st.out, if (nextP (r :: (l ++ n :: t))).2.2 then st.dgs ++ [⟨2, (tokAt (r :: (l ++ n :: t)) st.space).frm, (tokAt (r :: (l ++ n :: t)) st.space).to⟩] else st.dgs, st.toks ++ [tokAt (r :: (l ++ n :: t)) st.space], st.frm, false⟩
        ⟨st'.out, if (nextP (r' :: (l' ++ n' :: t'))).2.2 then st'.dgs ++ [⟨2, (tokAt (r' :: (l' ++ n' :: t')) st'.space).frm, (tokAt (r' :: (l' ++ n' :: t')) st'.space).to⟩] else st'.dgs, st'.toks ++ [tokAt (r' :: (l' ++ n' :: t')) st'.space], st'.frm, false⟩
        hN' hc.2 hl (by omega) ht
      refine ⟨tokAt (r :: (l ++ n :: t)) st.space :: x, tokAt (r' :: (l' ++ n' :: t')) st'.space :: x', d, d', s, s', by simp [e1], ?_, ?_⟩
      · simp only [List.cons_append, lx, if_neg h10, hw, comment_not h47, hz, if_false, Bool.false_eq_true]
        simp only [List.append_assoc, List.cons_append, List.nil_append] at e2
        exact e2
      · simp only [List.cons_append, lx, if_neg h10', hw', comment_not h47', hz, if_false, Bool.false_eq_true, ← hnx]
        simp only [List.append_assoc, List.cons_append, List.nil_append, ← hnx] at e3
        exact e3
end Go.Proofs.Ytjklnlocmmnclaa
namespace Go.Proofs.Ytjklnlocmmnclaa

theorem cs_split {L : List Rn} {A B : List UInt8} (h : cs L = A ++ B) : ∃ a b, L = a ++ b ∧ cs a = A ∧ cs b = B := by
  obtain ⟨a, b, h1, h2, h3⟩ := List.map_eq_append_iff.1 h
  exact ⟨a, b, h1, h2, h3⟩
theorem cs_one {l : List Rn} {b : UInt8} (h : cs l = [b]) : ∃ r, l = [r] ∧ r.c = b := by
  match l, h with
  | [r], h => exact ⟨r, rfl, by simpa [cs] using h⟩
  | [], h => simp [cs] at h
  | _ :: _ :: _, h => simp [cs] at h
def firstK : List Ln → List Tk
  | [] => []
  | x :: _ => x.toks
/-- A line that is all. -/
theorem lx_last {sz : Nat} {n : Rn} {d : List Dg} {x : List Tk} {frm : Nat} {s : Bool} (h : n.c = 10) : firstK (lx sz 0 (n :: []) ⟨[], d, x, frm, s⟩).1 = x := by
  rw [lx_endB h]
  rfl
def hashL (dg : Bool) : List UInt8 := if dg then [37, 58] else [35]
theorem hashL_ne (dg : Bool) : hashL dg ≠ [] := by cases dg <;> simp [hashL]
theorem next_hash {dg : Bool} {p m : List Rn} (hp : cs p = hashL dg) (hm : hd m 0 ≠ 35 ∧ hd m 0 ≠ 37) : nextP (p ++ m) = (5, p.length, false) := by
  cases dg with
  | false =>
    obtain ⟨r, rfl, hr⟩ := cs_one (show cs p = [35] from hp)
    exact next_hash1 hr hm.1
  | true =>
    have hp : cs p = [37] ++ [58] := hp
    obtain ⟨a, b, rfl, ha, hb⟩ := cs_split hp
    obtain ⟨r, rfl, hr⟩ := cs_one ha
    obtain ⟨s, rfl, hs⟩ := cs_one hb
    exact next_hash2 hr hs hm.2
theorem hash_tokC {dg : Bool} {p : List Rn} (hp : cs p = hashL dg) : ∀ c, (cs p).head? = some c → tokC c = true := by
  rw [hp]
  cases dg <;> (intro c h; simp [hashL] at h; subst h; decide)
theorem ne_of_cs {p : List Rn} {l : List UInt8} (h : cs p = l) (hl : l ≠ []) : p ≠ [] := by
  rintro rfl
  exact hl h.symm
/-- What stands ahead of a hash: nothing that would be a part of it. -/
theorem hd_blank {m : List Rn} {bl w t : List UInt8} (hm : cs m = bl ++ (w ++ t)) (hb : blankB bl) (hw : lowerB w) (hne : w ≠ []) : hd m 0 ≠ 35 ∧ hd m 0 ≠ 37 := by
  rw [hd_cs, hm]
  match bl, hb with
  | b :: bl, hb =>
    rcases hb b (by simp) with rfl | rfl
    · exact ⟨show (32 : Int) ≠ 35 by decide, show (32 : Int) ≠ 37 by decide⟩
    · exact ⟨show (9 : Int) ≠ 35 by decide, show (9 : Int) ≠ 37 by decide⟩
  | [], _ =>
    match w, hw, hne with
    | c :: w, hw, _ =>
      have := hw c (by simp)
      show (c.toNat : Int) ≠ 35 ∧ (c.toNat : Int) ≠ 37
      omega
theorem words_lower : ∀ w ∈ wordsP, lowerB w ∧ 2 ≤ w.length := by
  intro w hw
  have h : wordsP.all (fun w => decide (2 ≤ w.length) && w.all fun b => decide (97 ≤ b.toNat) && decide (b.toNat ≤ 122)) = true := by decide
  have := (List.all_eq_true.1 h) w hw
  simp only [Bool.and_eq_true, decide_eq_true_eq, List.all_eq_true] at this
  exact ⟨fun b hb => this.2 b hb, this.1⟩
theorem lower_tokC {p : List Rn} (hp : lowerB (cs p)) : ∀ c, (cs p).head? = some c → tokC c = true := by
  intro c h
  have hc := hp c (List.mem_of_head? h)
  unfold tokC whiteB
  have h1 : c ≠ 10 := by rintro rfl; simp at hc
  have h2 : c ≠ 47 := by rintro rfl; simp at hc
  have h3 : ¬ ((c.toNat : Int) = 32 ∨ (c.toNat : Int) = 9 ∨ 11 ≤ (c.toNat : Int) ∧ (c.toNat : Int) ≤ 13) := by omega
  simp only [bne_iff_ne, ne_eq, h1, not_false_eq_true, decide_eq_false h3, Bool.not_false, h2, Bool.and_self, Bool.and_eq_true, and_self]
theorem stop_of {m : List Rn} {b : UInt8} {t : List UInt8} (hm : cs m = b :: t) (hb : b = 32 ∨ b = 9 ∨ b = 10) : letterB (hd m 0) = false ∧ digitB (hd m 0) = false := by
  rw [hd_cs, hm]
  rcases hb with rfl | rfl | rfl
  · exact ⟨show letterB 32 = false by decide, show digitB 32 = false by decide⟩
  · exact ⟨show letterB 9 = false by decide, show digitB 9 = false by decide⟩
  · exact ⟨show letterB 10 = false by decide, show digitB 10 = false by decide⟩

/-- What may stand behind a directive's word, as the statement has it. -/
def restB (l : List UInt8) : Prop := ∀ b ∈ l, b ≠ 10 ∧ b ≠ 47 ∧ b ≠ 63 ∧ b ≠ 92
theorem lower_rest {w : List UInt8} (h : lowerB w) : restB w := by
  intro b hb
  have := h b hb
  refine ⟨?_, ?_, ?_, ?_⟩ <;> (rintro rfl; simp at this)
theorem blank_rest {w : List UInt8} (h : blankB w) : restB w := by
  intro b hb
  rcases h b hb with rfl | rfl <;> decide
theorem hash_rest (dg : Bool) : restB (hashL dg) := by cases dg <;> (unfold restB hashL; decide)
theorem restB.app {a b : List UInt8} (ha : restB a) (hb : restB b) : restB (a ++ b) := fun c hc => (List.mem_append.1 hc).elim (ha c) (hb c)
theorem restB.q {a : List UInt8} (h : restB a) : ∀ b ∈ a, b ≠ 63 ∧ b ≠ 92 := fun b hb => ⟨(h b hb).2.2.1, (h b hb).2.2.2⟩
theorem restB.n {a : List UInt8} (h : restB a) : ∀ b ∈ a, b ≠ 10 := fun b hb => (h b hb).1
theorem restB.nc {a : List UInt8} (h : restB a) : ∀ b ∈ a, b ≠ 10 ∧ b ≠ 47 := fun b hb => ⟨(h b hb).1, (h b hb).2.1⟩
def kt2 (x : Tk) : Int × List UInt8 := (x.kind, x.text)

/-- The directive's line. -/
theorem words_line {bl w rest : List UInt8} {dg : Bool} (hb : blankB bl) (hw : w ∈ wordsP) (hr : restB rest) :
    ∃ t1 t2 x, firstK (linesP (bl ++ (hashL dg ++ (bl ++ (w ++ (32 :: (rest ++ [10]))))))).1 = t1 :: t2 :: x ∧ kt2 t1 = (5, hashL dg) ∧ kt2 t2 = (1, w) ∧ x.length = (firstK (linesP rest).1).length := by
  obtain ⟨hlo, hl2⟩ := words_lower w hw
  have hs32 : restB [32] := by unfold restB; decide
  have hall : restB (bl ++ (hashL dg ++ (bl ++ (w ++ (32 :: rest))))) := (blank_rest hb).app ((hash_rest dg).app ((blank_rest hb).app ((lower_rest hlo).app (hs32.app hr))))
  have hch := chars_nl hall.q
  have hass : bl ++ (hashL dg ++ (bl ++ (w ++ (32 :: (rest ++ [10]))))) = bl ++ (hashL dg ++ (bl ++ (w ++ (32 :: rest)))) ++ [10] := by simp
  unfold linesP
  rw [hass]
  generalize (bl ++ (hashL dg ++ (bl ++ (w ++ (32 :: rest)))) ++ [10]).length = sz
  generalize charsP (bl ++ (hashL dg ++ (bl ++ (w ++ (32 :: rest)))) ++ [10]) = L at hch
  rw [← hass] at hch
  obtain ⟨b1, L, rfl, hb1, hch⟩ := cs_split hch
  obtain ⟨h1, L, rfl, hh1, hch⟩ := cs_split hch
  have hafter := hch
  obtain ⟨b2, L, rfl, hb2, hch⟩ := cs_split hch
  obtain ⟨w1, L, rfl, hw1, hch⟩ := cs_split hch
  have hsp := hch
  rw [show (32 : UInt8) :: (rest ++ [10]) = [32] ++ (rest ++ [10]) from rfl] at hch
  obtain ⟨s1, L, rfl, hs1, hch⟩ := cs_split hch
  obtain ⟨r1, L, rfl, hr1, hch⟩ := cs_split hch
  obtain ⟨n, rfl, hn⟩ := cs_one hch
  obtain ⟨sp, rfl, hspc⟩ := cs_one hs1
  obtain ⟨s, e1⟩ := lx_blanks sz (h1 ++ (b2 ++ (w1 ++ ([sp] ++ (r1 ++ [n]))))) b1 ⟨[], [], [], 0, false⟩ (by rw [hb1]; exact hb)
  rw [e1]
  obtain ⟨t1, d1, e2, k1, x1, _, _⟩ := lx_tokB (sz := sz) (st := ⟨[], [], [], 0, s⟩) (ne_of_cs hh1 (hashL_ne dg)) (hash_tokC hh1) (next_hash hh1 (hd_blank hafter hb hlo (by rintro rfl; simp at hl2)))
  rw [e2]
  obtain ⟨s2, e3⟩ := lx_blanks sz (w1 ++ ([sp] ++ (r1 ++ [n]))) b2 ⟨[], d1, [] ++ [t1], 0, false⟩ (by rw [hb2]; exact hb)
  rw [e3]
  have hl1 : w1.length = w.length := by rw [← hw1, cs_len]
  obtain ⟨t2, d2, e4, k2, x2, _, _⟩ := lx_tokB (sz := sz) (st := ⟨[], d1, [] ++ [t1], 0, s2⟩) (ne_of_cs hw1 (by rintro rfl; simp at hl2)) (lower_tokC (by rw [hw1]; exact hlo)) (next_lower (stop_of hsp (.inl rfl)) (by rw [hw1]; exact hlo) (by omega))
  rw [e4, List.cons_append, lx_wh (.inl hspc), List.nil_append]
  refine ⟨t1, t2, ?_⟩
  have hk1 : kt2 t1 = (5, hashL dg) := by rw [kt2, k1, x1, hh1]
  have hk2 : kt2 t2 = (1, w) := by rw [kt2, k2, x2, hw1]
  by_cases h0 : rest = []
  · subst h0
    have : r1 = [] := by
      have := congrArg List.length hr1
      rw [cs_len] at this
      exact List.length_eq_zero_iff.1 this
    subst this
    refine ⟨[], ?_, hk1, hk2, rfl⟩
    rw [List.nil_append]
    exact lx_last hn
  · have hc2 := chars_add hr.q hr.n h0
    generalize rest.length = sz2
    generalize charsP rest = L2 at hc2
    obtain ⟨r2, L, rfl, hr2, hch⟩ := cs_split hc2
    obtain ⟨n2, rfl, hn2⟩ := cs_one hch
    obtain ⟨x, x', d, d', s, s', g1, g2, g3⟩ := lx_rest (t := []) (t' := []) hn hn2 _ r1 r2 0 sz sz2 ⟨[], d2, [] ++ [t1] ++ [t2], 0, true⟩ ⟨[], [], [], 0, false⟩ (Nat.le_refl _) (by rw [hr1, hr2]) (by rw [hr1]; exact hr.nc) (by omega) rfl
    refine ⟨x, ?_, hk1, hk2, ?_⟩
    · rw [g2]
      exact lx_last hn
    · rw [g3, lx_last hn2, g1]
      simp
/-- A line that begins with a token of which all is known. -/
theorem first_line {p q : List UInt8} {kind : Int} (hp : p ≠ []) (hpc : ∀ c, p.head? = some c → tokC c = true) (hr : restB (p ++ q)) (hn : ∀ a b : List Rn, cs a = p → cs b = q ++ [10] → nextP (a ++ b) = (kind, a.length, false)) :
    ∃ t x, firstK (linesP (p ++ q)).1 = t :: x ∧ kt2 t = (kind, p) := by
  have hch := chars_add hr.q hr.n (by simp [hp])
  unfold linesP
  generalize (p ++ q).length = sz
  generalize charsP (p ++ q) = L at hch
  rw [List.append_assoc] at hch
  obtain ⟨a, L, rfl, ha, hch⟩ := cs_split hch
  have hq := hch
  obtain ⟨b, L, rfl, hb, hch⟩ := cs_split hch
  obtain ⟨n, rfl, hn1⟩ := cs_one hch
  obtain ⟨t1, d1, e2, k1, x1, _, _⟩ := lx_tokB (sz := sz) (st := ⟨[], [], [], 0, false⟩) (ne_of_cs ha hp) (by rw [ha]; exact hpc) (hn a (b ++ [n]) ha hq)
  rw [e2]
  obtain ⟨x, x', d, d', s, s', g1, g2, g3⟩ := lx_rest (t := []) (t' := []) hn1 hn1 _ b b 0 sz sz ⟨[], d1, [] ++ [t1], 0, false⟩ ⟨[], d1, [] ++ [t1], 0, false⟩ (Nat.le_refl _) rfl (by rw [hb]; exact fun c hc => hr.nc c (List.mem_append_right _ hc)) (by omega) rfl
  refine ⟨t1, x, ?_, by rw [kt2, k1, x1, ha]⟩
  rw [g2]
  exact lx_last hn1
theorem lower_head {w : List UInt8} (h : lowerB w) : ∀ c, w.head? = some c → tokC c = true := fun c hc => lower_tokC (p := [⟨c, 0, 0⟩]) (by intro b hb; simp [cs] at hb; subst hb; exact h _ (List.mem_of_head? hc)) c rfl
/-- A word without a hash. -/
theorem word_line {w rest : List UInt8} (hw : w ∈ wordsP) (hr : restB rest) : ∃ t x, firstK (linesP (w ++ (32 :: rest))).1 = t :: x ∧ kt2 t = (1, w) := by
  obtain ⟨hlo, hl2⟩ := words_lower w hw
  have hs32 : restB [32] := by unfold restB; decide
  refine first_line (by rintro rfl; simp at hl2) (lower_head hlo) ((lower_rest hlo).app (hs32.app hr)) fun a b ha hb => ?_
  refine next_lower (stop_of hb (.inl rfl)) (by rw [ha]; exact hlo) ?_
  rw [← cs_len, ha]
  exact hl2
/-- Something else ahead. -/
theorem x_line {w : List UInt8} {dg : Bool} (hw : w ∈ wordsP) : ∃ t x, firstK (linesP ([120] ++ (32 :: (hashL dg ++ w)))).1 = t :: x ∧ kt2 t = (1, [120]) := by
  obtain ⟨hlo, hl2⟩ := words_lower w hw
  have hs : restB [120, 32] := by unfold restB; decide
  have hx : restB ([120] ++ (32 :: (hashL dg ++ w))) := hs.app ((hash_rest dg).app (lower_rest hlo))
  refine first_line (by simp) (by intro c hc; simp at hc; subst hc; decide) hx fun a b ha hb => ?_
  obtain ⟨r, rfl, hr⟩ := cs_one ha
  refine next_letter (stop_of hb (.inl rfl)) ?_ ?_
  · rw [hr]; decide
  · rw [hr]; decide
/-- A word that is none. -/
theorem wx_line {w : List UInt8} {dg : Bool} (hw : lowerB w) (hl2 : 2 ≤ w.length) : ∃ t1 t2, firstK (linesP (hashL dg ++ w)).1 = [t1, t2] ∧ kt2 t1 = (5, hashL dg) ∧ kt2 t2 = (1, w) := by
  have hall : restB (hashL dg ++ w) := (hash_rest dg).app (lower_rest hw)
  have hch := chars_add hall.q hall.n (by simp [hashL_ne])
  unfold linesP
  generalize (hashL dg ++ w).length = sz
  generalize charsP (hashL dg ++ w) = L at hch
  rw [List.append_assoc] at hch
  obtain ⟨h1, L, rfl, hh1, hch⟩ := cs_split hch
  have hafter := hch
  obtain ⟨w1, L, rfl, hw1, hch⟩ := cs_split hch
  obtain ⟨n, rfl, hn1⟩ := cs_one hch
  have hl1 : w1.length = w.length := by rw [← hw1, cs_len]
  obtain ⟨t1, d1, e2, k1, x1, _, _⟩ := lx_tokB (sz := sz) (st := ⟨[], [], [], 0, false⟩) (ne_of_cs hh1 (hashL_ne dg)) (hash_tokC hh1) (next_hash hh1 (hd_blank (bl := []) hafter (by simp [blankB]) hw (by rintro rfl; simp at hl2)))
  rw [e2]
  obtain ⟨t2, d2, e4, k2, x2, _, _⟩ := lx_tokB (sz := sz) (m := [n]) (st := ⟨[], d1, [] ++ [t1], 0, false⟩) (ne_of_cs hw1 (by rintro rfl; simp at hl2)) (lower_tokC (by rw [hw1]; exact hw)) (next_lower (stop_of hch (.inr (.inr rfl))) (by rw [hw1]; exact hw) (by omega))
  rw [e4, lx_last hn1]
  exact ⟨t1, t2, rfl, by rw [kt2, k1, x1, hh1], by rw [kt2, k2, x2, hw1]⟩
/-- A hash alone. -/
theorem hash_line {bl : List UInt8} {dg : Bool} (hb : blankB bl) : ∃ t1, firstK (linesP (bl ++ (hashL dg ++ bl))).1 = [t1] ∧ kt2 t1 = (5, hashL dg) := by
  have hall : restB (bl ++ (hashL dg ++ bl)) := (blank_rest hb).app ((hash_rest dg).app (blank_rest hb))
  have hch := chars_add hall.q hall.n (by simp [hashL_ne])
  unfold linesP
  generalize (bl ++ (hashL dg ++ bl)).length = sz
  generalize charsP (bl ++ (hashL dg ++ bl)) = L at hch
  rw [List.append_assoc, List.append_assoc] at hch
  obtain ⟨b1, L, rfl, hb1, hch⟩ := cs_split hch
  obtain ⟨h1, L, rfl, hh1, hch⟩ := cs_split hch
  have hafter := hch
  obtain ⟨b2, L, rfl, hb2, hch⟩ := cs_split hch
  obtain ⟨n, rfl, hn1⟩ := cs_one hch
  obtain ⟨s, e1⟩ := lx_blanks sz (h1 ++ (b2 ++ [n])) b1 ⟨[], [], [], 0, false⟩ (by rw [hb1]; exact hb)
  rw [e1]
  have hm : hd (b2 ++ [n]) 0 ≠ 35 ∧ hd (b2 ++ [n]) 0 ≠ 37 := by
    rw [hd_cs, hafter]
    match bl, hb with
    | b :: bl, hb =>
      rcases hb b (by simp) with rfl | rfl
      · exact ⟨show (32 : Int) ≠ 35 by decide, show (32 : Int) ≠ 37 by decide⟩
      · exact ⟨show (9 : Int) ≠ 35 by decide, show (9 : Int) ≠ 37 by decide⟩
    | [], _ => decide
  obtain ⟨t1, d1, e2, k1, x1, _, _⟩ := lx_tokB (sz := sz) (st := ⟨[], [], [], 0, s⟩) (ne_of_cs hh1 (hashL_ne dg)) (hash_tokC hh1) (next_hash hh1 hm)
  rw [e2]
  obtain ⟨s2, e3⟩ := lx_blanks sz [n] b2 ⟨[], d1, [] ++ [t1], 0, false⟩ (by rw [hb2]; exact hb)
  rw [e3, lx_last hn1]
  exact ⟨t1, rfl, by rw [kt2, k1, x1, hh1]⟩
end Go.Proofs.Ytjklnlocmmnclaa
namespace Go.Proofs.Ytjklnlocmmnclaa

/-- A line's kind, and whether it has tokens. -/
def kl (x : Ln) : Nat × Bool := (kindP (x.toks.map kt2), decide (0 < x.toks.length))
/-- Whole lines of these bytes have these kinds, whatever stands ahead and behind. -/
def Good (p : List UInt8) (k : List (Nat × Bool)) : Prop :=
  ∀ (sz : Nat) (L m : List Rn) (st : St), cs L = p → st.toks = [] → ∃ st', lx sz 0 (L ++ m) st = lx sz 0 m st' ∧ st'.toks = [] ∧ st'.out.map kl = st.out.map kl ++ k
theorem Good.nil : Good [] [] := by
  intro sz L m st h ht
  have : L = [] := by
    have := congrArg List.length h
    rw [cs_len] at this
    exact List.length_eq_zero_iff.1 this
  subst this
  exact ⟨st, rfl, ht, by simp⟩
theorem Good.app {p q : List UInt8} {k k' : List (Nat × Bool)} (h : Good p k) (h' : Good q k') : Good (p ++ q) (k ++ k') := by
  intro sz L m st hL ht
  obtain ⟨a, b, rfl, ha, hb⟩ := cs_split hL
  obtain ⟨s1, e1, t1, o1⟩ := h sz a (b ++ m) st ha ht
  obtain ⟨s2, e2, t2, o2⟩ := h' sz b m s1 hb t1
  exact ⟨s2, by rw [List.append_assoc, e1, e2], t2, by rw [o2, o1, List.append_assoc]⟩
def repL {α : Type} (l : List α) : Nat → List α
  | 0 => []
  | n + 1 => repL l n ++ l
theorem repL_len {α : Type} (l : List α) : ∀ n, (repL l n).length = n * l.length
  | 0 => by simp [repL]
  | n + 1 => by
    simp only [repL, List.length_append, repL_len l n, Nat.succ_mul]
theorem repL_mem {α : Type} {l : List α} {x : α} : ∀ n, x ∈ repL l n → x ∈ l
  | 0, h => by simp [repL] at h
  | n + 1, h => by
    simp only [repL, List.mem_append] at h
    exact h.elim (repL_mem n) id
theorem Good.rep {p : List UInt8} {k : List (Nat × Bool)} (h : Good p k) : ∀ n, Good (repL p n) (repL k n)
  | 0 => Good.nil
  | n + 1 => (h.rep n).app h
theorem map_setTo (sz : Nat) : ∀ l : List Ln, (setTo sz l).map kl = l.map kl
  | [] => rfl
  | [x] => rfl
  | x :: y :: l => by simp only [setTo, List.map_cons, map_setTo sz (y :: l)]
/-- A text of such lines. -/
theorem Good.lines {s : List UInt8} {k : List (Nat × Bool)} (h : Good s k) (hc : cs (charsP s) = s) : (linesP s).1.map kl = k := by
  unfold linesP
  obtain ⟨st', e, _, o⟩ := h s.length (charsP s) [] ⟨[], [], [], 0, false⟩ hc rfl
  rw [List.append_nil] at e
  rw [e]
  simp only [lx, map_setTo]
  simpa using o
/-- The line's end. -/
theorem kl_end {sz : Nat} {n : Rn} {m : List Rn} {st : St} (hn : n.c = 10) : ∃ st', lx sz 0 (n :: m) st = lx sz 0 m st' ∧ st'.toks = [] ∧ st'.out.map kl = st.out.map kl ++ [(kindP (st.toks.map kt2), decide (0 < st.toks.length))] := by
  rw [lx_endB hn]
  exact ⟨_, rfl, rfl, by simp [kl]⟩
theorem hashB_self : hashB 5 (hashL false) = true := by decide
theorem kindW_at' {i : Nat} {w : List UInt8} (h : wordsP[i]? = some w) : kindW w = 2 + i := kindFrom_at w wordsP 2 i wordsP_nodup h
/-- A directive, of which something stands behind the word. -/
theorem good_dir {w rest : List UInt8} {i : Nat} (hw : wordsP[i]? = some w) (hr : restB rest) : Good (35 :: (w ++ (32 :: (rest ++ [10])))) [(2 + i, true)] := by
  obtain ⟨hlo, hl2⟩ := words_lower w (List.mem_of_getElem? hw)
  intro sz L m st hL ht
  rw [show (35 : UInt8) :: (w ++ (32 :: (rest ++ [10]))) = [35] ++ (w ++ (32 :: (rest ++ [10]))) from rfl] at hL
  obtain ⟨h1, L, rfl, hh1, hch⟩ := cs_split hL
  have hafter := hch
  obtain ⟨w1, L, rfl, hw1, hch⟩ := cs_split hch
  have hsp := hch
  rw [show (32 : UInt8) :: (rest ++ [10]) = [32] ++ (rest ++ [10]) from rfl] at hch
  obtain ⟨s1, L, rfl, hs1, hch⟩ := cs_split hch
  obtain ⟨r1, L, rfl, hr1, hch⟩ := cs_split hch
  obtain ⟨n, rfl, hn⟩ := cs_one hch
  obtain ⟨sp, rfl, hspc⟩ := cs_one hs1
  have hl1 : w1.length = w.length := by rw [← hw1, cs_len]
  have hm1 : cs ((w1 ++ ([sp] ++ (r1 ++ [n]))) ++ m) = [] ++ (w ++ (32 :: (rest ++ [10]) ++ cs m)) := by
    rw [cs_app, hafter]
    simp
  have hm2 : cs (([sp] ++ (r1 ++ [n])) ++ m) = 32 :: (rest ++ [10] ++ cs m) := by
    rw [cs_app, hsp]
    simp
  obtain ⟨t1, d1, e1, k1, x1, _, _⟩ := lx_tokB (sz := sz) (st := st) (m := (w1 ++ ([sp] ++ (r1 ++ [n]))) ++ m) (ne_of_cs hh1 (by simp)) (hash_tokC (dg := false) hh1) (next_hash (dg := false) hh1 (hd_blank (bl := []) hm1 (by simp [blankB]) hlo (by rintro rfl; simp at hl2)))
  obtain ⟨t2, d2, e2, k2, x2, _, _⟩ := lx_tokB (sz := sz) (st := ⟨st.out, d1, st.toks ++ [t1], st.frm, false⟩) (m := ([sp] ++ (r1 ++ [n])) ++ m) (ne_of_cs hw1 (by rintro rfl; simp at hl2)) (lower_tokC (by rw [hw1]; exact hlo)) (next_lower (stop_of hm2 (.inl rfl)) (by rw [hw1]; exact hlo) (by omega))
  obtain ⟨x, x', d, d', s, s', g1, g2, g3⟩ := lx_rest (t := m) (t' := m) hn hn _ r1 r1 0 sz sz ⟨st.out, d2, st.toks ++ [t1] ++ [t2], st.frm, true⟩ ⟨st.out, d2, st.toks ++ [t1] ++ [t2], st.frm, true⟩ (Nat.le_refl _) rfl (by rw [hr1]; exact hr.nc) (by omega) rfl
  obtain ⟨st', f1, f2, f3⟩ := kl_end (sz := sz) (n := n) (m := m) (st := ⟨st.out, d, st.toks ++ [t1] ++ [t2] ++ x, st.frm, s⟩) hn
  have hk1 : kt2 t1 = (5, hashL false) := by rw [kt2, k1, x1, hh1]; rfl
  have hk2 : kt2 t2 = (1, w) := by rw [kt2, k2, x2, hw1]
  refine ⟨st', ?_, f2, ?_⟩
  · rw [List.append_assoc, e1, List.append_assoc, e2, List.append_assoc, List.cons_append, List.nil_append, lx_wh (.inl hspc), List.append_assoc]
    exact g2.trans f1
  · rw [f3, ht]
    simp only [List.nil_append, List.cons_append, List.map_cons, hk1, hk2, kindP, hashB_self, if_true, kindW_at' hw, List.length_cons]
    simp
/-- A directive, of which nothing stands behind the word. -/
theorem good_bare {w : List UInt8} {i : Nat} (hw : wordsP[i]? = some w) : Good (35 :: (w ++ [10])) [(2 + i, true)] := by
  obtain ⟨hlo, hl2⟩ := words_lower w (List.mem_of_getElem? hw)
  intro sz L m st hL ht
  rw [show (35 : UInt8) :: (w ++ [10]) = [35] ++ (w ++ [10]) from rfl] at hL
  obtain ⟨h1, L, rfl, hh1, hch⟩ := cs_split hL
  have hafter := hch
  obtain ⟨w1, L, rfl, hw1, hch⟩ := cs_split hch
  have hsp := hch
  obtain ⟨n, rfl, hn⟩ := cs_one hch
  have hl1 : w1.length = w.length := by rw [← hw1, cs_len]
  have hm1 : cs ((w1 ++ [n]) ++ m) = [] ++ (w ++ ([10] ++ cs m)) := by
    rw [cs_app, hafter]
    simp
  have hm2 : cs ([n] ++ m) = 10 :: cs m := by
    rw [cs_app, hsp]
    simp
  obtain ⟨t1, d1, e1, k1, x1, _, _⟩ := lx_tokB (sz := sz) (st := st) (m := (w1 ++ [n]) ++ m) (ne_of_cs hh1 (by simp)) (hash_tokC (dg := false) hh1) (next_hash (dg := false) hh1 (hd_blank (bl := []) hm1 (by simp [blankB]) hlo (by rintro rfl; simp at hl2)))
  obtain ⟨t2, d2, e2, k2, x2, _, _⟩ := lx_tokB (sz := sz) (st := ⟨st.out, d1, st.toks ++ [t1], st.frm, false⟩) (m := [n] ++ m) (ne_of_cs hw1 (by rintro rfl; simp at hl2)) (lower_tokC (by rw [hw1]; exact hlo)) (next_lower (stop_of hm2 (.inr (.inr rfl))) (by rw [hw1]; exact hlo) (by omega))
  obtain ⟨st', f1, f2, f3⟩ := kl_end (sz := sz) (n := n) (m := m) (st := ⟨st.out, d2, st.toks ++ [t1] ++ [t2], st.frm, false⟩) hn
  have hk1 : kt2 t1 = (5, hashL false) := by rw [kt2, k1, x1, hh1]; rfl
  have hk2 : kt2 t2 = (1, w) := by rw [kt2, k2, x2, hw1]
  refine ⟨st', ?_, f2, ?_⟩
  · rw [List.append_assoc, e1, List.append_assoc, e2]
    exact f1
  · rw [f3, ht]
    simp only [List.nil_append, List.cons_append, List.map_cons, List.map_nil, hk1, hk2, kindP, hashB_self, if_true, kindW_at' hw, List.length_cons]
    simp
/-- One letter. -/
theorem good_letter {c : UInt8} (hr : letterB c.toNat = true) (hq : c ≠ 117 ∧ c ≠ 76 ∧ c ≠ 85) (hc : tokC c = true) : Good [c, 10] [(0, true)] := by
  intro sz L m st hL ht
  rw [show [c, 10] = [c] ++ [10] from rfl] at hL
  obtain ⟨h1, L, rfl, hh1, hch⟩ := cs_split hL
  have hsp := hch
  obtain ⟨n, rfl, hn⟩ := cs_one hch
  obtain ⟨r, rfl, hrc⟩ := cs_one hh1
  have hm2 : cs ([n] ++ m) = 10 :: cs m := by
    rw [cs_app, hsp]
    simp
  obtain ⟨t1, d1, e1, k1, x1, _, _⟩ := lx_tokB (sz := sz) (st := st) (p := [r]) (m := [n] ++ m) (kind := 1) (b := false) (by simp) (by intro c' h'; rw [hh1] at h'; simp at h'; subst h'; exact hc) (next_letter (stop_of hm2 (.inr (.inr rfl))) (by rw [hrc]; exact hr) (by rw [hrc]; exact hq))
  obtain ⟨st', f1, f2, f3⟩ := kl_end (sz := sz) (n := n) (m := m) (st := ⟨st.out, d1, st.toks ++ [t1], st.frm, false⟩) hn
  refine ⟨st', ?_, f2, ?_⟩
  · rw [List.append_assoc, e1]
    exact f1
  · rw [f3, ht]
    have h5 : hashB (kt2 t1).1 (kt2 t1).2 = false := by simp [kt2, k1, hashB]
    simp only [List.nil_append, List.map_cons, List.map_nil, kindP, h5, List.length_cons]
    simp

/- The text of the law. -/
def opnL : List UInt8 := [35, 105, 102, 100, 101, 102, 32, 65, 10, 120, 10]
def elfL : List UInt8 := [35, 101, 108, 105, 102, 32, 49, 10]
def endL : List UInt8 := [35, 101, 110, 100, 105, 102, 10]
theorem good_opn : Good opnL [(3, true), (0, true)] :=
  (good_dir (w := [105, 102, 100, 101, 102]) (rest := [65]) (i := 1) rfl (by unfold restB; decide)).app (good_letter (c := 120) (by decide) (by decide) (by decide))
theorem good_elf : Good elfL [(5, true)] := good_dir (w := [101, 108, 105, 102]) (rest := [49]) (i := 3) rfl (by unfold restB; decide)
theorem good_end : Good endL [(7, true)] := good_bare (w := [101, 110, 100, 105, 102]) (i := 5) rfl
theorem good_y : Good [121, 10] [(0, true)] := good_letter (c := 121) (by decide) (by decide) (by decide)
def deepB (deep arms : Nat) : List UInt8 := repL (opnL ++ repL elfL arms) deep ++ repL endL deep ++ [121, 10]
def deepK (deep arms : Nat) : List (Nat × Bool) := repL ([(3, true), (0, true)] ++ repL [(5, true)] arms) deep ++ repL [(7, true)] deep ++ [(0, true)]
theorem good_deep (deep arms : Nat) : Good (deepB deep arms) (deepK deep arms) := (((good_opn.app (good_elf.rep arms)).rep deep).app (good_end.rep deep)).app good_y
theorem deepB_plain (deep arms : Nat) : ∀ b ∈ deepB deep arms, b ≠ 63 ∧ b ≠ 92 := by
  have h1 : ∀ b ∈ opnL, b ≠ 63 ∧ b ≠ 92 := by decide
  have h2 : ∀ b ∈ elfL, b ≠ 63 ∧ b ≠ 92 := by decide
  have h3 : ∀ b ∈ endL, b ≠ 63 ∧ b ≠ 92 := by decide
  have h4 : ∀ b ∈ ([121, 10] : List UInt8), b ≠ 63 ∧ b ≠ 92 := by decide
  intro b hb
  unfold deepB at hb
  rcases List.mem_append.1 hb with hb | hb
  · rcases List.mem_append.1 hb with hb | hb
    · rcases List.mem_append.1 (repL_mem _ hb) with hb | hb
      · exact h1 b hb
      · exact h2 b (repL_mem _ hb)
    · exact h3 b (repL_mem _ hb)
  · exact h4 b hb
theorem lines_deep (deep arms : Nat) : (linesP (deepB deep arms)).1.map kl = deepK deep arms := by
  refine (good_deep deep arms).lines ?_
  have h := deepB_plain deep arms
  have e : deepB deep arms = (repL (opnL ++ repL elfL arms) deep ++ repL endL deep ++ [121]) ++ [10] := by simp [deepB]
  rw [e] at h ⊢
  exact chars_nl fun b hb => h b (List.mem_append_left _ hb)
end Go.Proofs.Ytjklnlocmmnclaa
