/- Conditions within conditions, as the document's: the diagnostics. Walks: a line's second token's span; two lists of diagnostics. -/
import Derived.Test.YtjklnlocmmnclaaJa9
import Derived.Test.YtjklnlocmmnclaaGd9
import Derived.Test.YtjklnlocmmnclaaMc9
import Derived.Deep.QuietTactic
import Derived.BigQuiet
namespace Go.Proofs.Ytjklnlocmmnclaa
open Go.RowKit

def hitL (l : List Tok) (c : Int) (i : Nat) (xs : List Nat) : List DgT := (xs.filter (· == i)).map fun _ => (c, l.getD 1 noTok)
theorem hitL_yes {l : List Tok} {c : Int} {i j : Nat} {xs : List Nat} (h : xs[j]? = some i) : hitL l c i (xs.take (j + 1)) = hitL l c i (xs.take j) ++ [(c, l.getD 1 noTok)] := by
  unfold hitL
  rw [take_next h, List.filter_append, List.map_append]
  simp
theorem hitL_no {l : List Tok} {c : Int} {i j x : Nat} {xs : List Nat} (h : xs[j]? = some x) (hn : x ≠ i) : hitL l c i (xs.take (j + 1)) = hitL l c i (xs.take j) := by
  unfold hitL
  rw [take_next h, List.filter_append, List.map_append]
  simp [hn]
theorem hitL_len (l : List Tok) (c : Int) (i : Nat) (xs : List Nat) : (hitL l c i xs).length ≤ xs.length := by
  unfold hitL
  rw [List.length_map]
  exact List.length_filter_le _ _
def dLine (ll : List (List Tok)) (bads opens : List Nat) (i : Nat) : List DgT := match ll[i]? with | some l => hitL l 12 i bads ++ hitL l 13 i opens | none => []
def dUpto (ll : List (List Tok)) (bads opens : List Nat) : Nat → List DgT
  | 0 => []
  | i + 1 => dUpto ll bads opens i ++ dLine ll bads opens i
theorem filter_nodup (i : Nat) : ∀ xs : List Nat, xs.Nodup → xs.filter (· == i) = if i ∈ xs then [i] else []
  | [], _ => by simp
  | x :: xs, h => by
    have h1 := List.nodup_cons.1 h
    have ih := filter_nodup i xs h1.2
    by_cases hx : x = i
    · subst hx
      rw [List.filter_cons, if_pos (by simp), ih, if_neg h1.1, if_pos (by simp)]
    · rw [List.filter_cons, if_neg (by simpa using hx), ih]
      have : i ≠ x := fun e => hx e.symm
      simp [this]
theorem hitL_nodup (l : List Tok) (c : Int) (i : Nat) {xs : List Nat} (h : xs.Nodup) : hitL l c i xs = if i ∈ xs then [(c, l.getD 1 noTok)] else [] := by
  unfold hitL
  rw [filter_nodup i xs h]
  split <;> rfl
theorem dLine_eq {ll : List (List Tok)} {bads opens opens' : List Nat} {i : Nat} {l : List Tok} (hb : bads.Nodup) (ho : opens.Nodup) (hd : ∀ x ∈ opens, x ∉ bads) (hm : ∀ x, x ∈ opens ↔ x ∈ opens') (hl : ll[i]? = some l) :
    dLine ll bads opens i = diagAt l (codeAt bads opens' i) := by
  unfold dLine
  rw [hl]
  simp only [hitL_nodup l _ i hb, hitL_nodup l _ i ho]
  unfold codeAt diagAt
  by_cases h1 : i ∈ opens
  · rw [if_pos ((hm i).1 h1), if_neg (hd i h1), if_pos h1]
    simp
  · rw [if_neg (fun e => h1 ((hm i).2 e)), if_neg h1]
    by_cases h2 : i ∈ bads
    · rw [if_pos h2, if_pos h2]
      simp
    · rw [if_neg h2, if_neg h2]
      simp
theorem dUpto_eq {ll : List (List Tok)} {bads opens opens' : List Nat} (hb : bads.Nodup) (ho : opens.Nodup) (hd : ∀ x ∈ opens, x ∉ bads) (hm : ∀ x, x ∈ opens ↔ x ∈ opens') :
    ∀ i, i ≤ ll.length → dUpto ll bads opens i = diagL (ll.take i) ((codeL ll.length bads opens').take i)
  | 0, _ => by simp [dUpto, diagL]
  | i + 1, h => by
    have hl : ll[i]? = some ll[i] := List.getElem?_eq_getElem (by omega)
    rw [diagL_next hl (codeL_get _ _ (by omega))]
    simp only [dUpto]
    rw [dUpto_eq hb ho hd hm i (by omega), dLine_eq hb ho hd hm hl]
theorem oddL_nodup (ks : List (Nat × Bool)) : ∀ i, (oddL ks i).Nodup
  | 0 => by simp [oddL]
  | i + 1 => by
    simp only [oddL]
    split
    · rw [List.nodup_append]
      refine ⟨oddL_nodup ks i, by simp, fun a ha b hb => ?_⟩
      have := oddL_lt ks i a ha
      simp only [List.mem_singleton] at hb
      omega
    · simpa using oddL_nodup ks i
theorem lines_step {i kd : Nat} {ne : Bool} {s : BSt} (h : (s.1.dropLast.map (·.line)).Nodup) (hlt : ∀ f ∈ s.1.dropLast, f.line < i) : ((stepB i kd ne s).1.dropLast.map (·.line)).Nodup := by
  obtain ⟨fs, bads⟩ := s
  match fs, h, hlt with
  | [], h, _ => exact h
  | f :: r, h, hlt =>
    have hsame : ∀ f' : PF, f'.line = f.line → (((f' :: r).dropLast).map (·.line)).Nodup := fun f' e => by
      match r, h with
      | [], _ => simp
      | g :: r, h =>
        simp only [List.dropLast_cons_cons, List.map_cons] at h ⊢
        rw [e]
        exact h
    simp only [stepB]
    split
    · simp only [List.dropLast_cons_cons, List.map_cons, List.nodup_cons]
      refine ⟨fun hm => ?_, h⟩
      obtain ⟨g, hg, he⟩ := List.mem_map.1 hm
      have := hlt g hg
      simp only [newF] at he
      omega
    · split
      · split
        · exact h
        · exact hsame _ rfl
      · split
        · split
          · exact h
          · rename_i g r'
            simp only [List.dropLast_cons_cons, List.map_cons, List.nodup_cons] at h
            match r', h with
            | [], _ => simp
            | q :: r', h =>
              simp only [List.dropLast_cons_cons, List.map_cons] at h ⊢
              exact h.2
        · split
          · exact hsame _ rfl
          · exact h
theorem lines_nodup (ks : List (Nat × Bool)) : ∀ i, i ≤ ks.length → ((runB 0 (ks.take i) initB).1.dropLast.map (·.line)).Nodup
  | 0, _ => by simp [runB, initB]
  | i + 1, h => by
    have hx : ks[i]? = some ks[i] := List.getElem?_eq_getElem (by omega)
    rw [runB_next hx]
    exact lines_step (lines_nodup ks i (by omega)) (fun f hf => ((POk.run ks i (by omega)).opens f hf).1)
theorem opensB_lines : ∀ (r : List PF) (f : PF), opensB f r = (f :: r).dropLast.map (·.line)
  | [], f => by simp [opensB]
  | g :: r, f => by
    simp only [opensB, List.dropLast_cons_cons, List.map_cons]
    rw [opensB_lines r g]
theorem opensOf_lines (fs : List PF) : opensOf fs = fs.dropLast.map (·.line) := by
  cases fs with
  | nil => rfl
  | cons f r => exact opensB_lines r f
/-- What is told, line by line. -/
theorem dUpto_all (ll : List (List Tok)) : dUpto ll (stP ll).2 (opensOf (stP ll).1).reverse ll.length = diagsP ll := by
  have hl : (ksOf ll).length = ll.length := by simp [ksOf]
  have hP := POk.run (ksOf ll) _ (Nat.le_refl _)
  rw [List.take_length] at hP
  have hb : (stP ll).2.Nodup := by rw [stP_bads]; exact oddL_nodup _ _
  have ho : (opensOf (stP ll).1).reverse.Nodup := by
    rw [opensOf_lines]
    have := lines_nodup (ksOf ll) _ (Nat.le_refl _)
    rw [List.take_length] at this
    unfold List.Nodup at this ⊢
    rw [List.pairwise_reverse]
    exact this.imp fun h e => h e.symm
  have hd : ∀ x ∈ (opensOf (stP ll).1).reverse, x ∉ (stP ll).2 := fun x hx hb => by
    rw [List.mem_reverse, opensOf_lines] at hx
    obtain ⟨g, hg, rfl⟩ := List.mem_map.1 hx
    obtain ⟨_, y, h1, h2, h3⟩ := hP.opens g hg
    obtain ⟨_, z, h4, h5, _⟩ := hP.bads _ hb
    rw [h1] at h4
    injection h4 with h4
    rw [h4] at h3
    omega
  rw [dUpto_eq hb ho hd (opens' := opensOf (stP ll).1) (fun x => List.mem_reverse) _ (Nat.le_refl _)]
  unfold diagsP
  rw [List.take_length, List.take_of_length_le (by rw [codeL_len]; exact Nat.le_refl _)]
theorem dUpto_len (ll : List (List Tok)) (bads opens : List Nat) : ∀ i, (dUpto ll bads opens i).length ≤ i * (bads.length + opens.length)
  | 0 => by simp [dUpto]
  | i + 1 => by
    have := dUpto_len ll bads opens i
    have h2 : (dLine ll bads opens i).length ≤ bads.length + opens.length := by
      unfold dLine
      split
      · rename_i l _
        have h1 := hitL_len l 12 i bads
        have h2 := hitL_len l 13 i opens
        rw [List.length_append]
        omega
      · simp
    simp only [dUpto, List.length_append, Nat.add_mul]
    omega
end Go.Proofs.Ytjklnlocmmnclaa
namespace Go.Proofs.Ytjklnlocmmnclaa
open Go.RowKit

set_option maxHeartbeats 1000000 in
theorem second_any {U : Nat → Prop} (A : Option Addr) (n c : Nat) (frm to : Int) (opn : Bool) (l : List Tok) (w : World) (h : Toks w U A n l) (hn : 2 ≤ n) (hm : n ≤ 1000000) :
    Calls Try.prog 51 #[.agg #[.slice A n c, .int .i64 frm, .int .i64 to, .bool opn]] w fun e w' => e = .returned (.agg #[.string (l.getD 1 noTok).f, .int .i64 (l.getD 1 noTok).a, .int .i64 (l.getD 1 noTok).b]) ∧ Below w.heap.size w w' := by
  obtain ⟨b, off, x, rfl, _, hbl, hx, _, _, _, c3, c4, c5, _, _⟩ := Toks.at_ h (i := 1) (by omega)
  have hg : l.getD 1 noTok = x := by simp [List.getD_eq_getElem?_getD, hx]
  rw [hg]
  clear hx hg h
  have h1 : 1 < n := by omega
  go_enter Try.func51, Try.ntmps51
  go_wp2_with fail
  exact bodyPost_ret (v := .agg #[.string x.f, .int .i64 x.a, .int .i64 x.b]) (by simp [results, Try.results51, go_sem]) rfl ⟨rfl, ((Below.refl _ _).alloc (Nat.le_refl _) _).alloc (by simp) _⟩
/-- SameDiags, of alike ones. -/
theorem diags_any (A B : Option Addr) (n c cc : Nat) (ds : List DgT) {U V : Nat → Prop} (w : World) (h : Sl w U 4 A n (ds.flatMap dgtCells)) (h' : Sl w V 4 B n (ds.flatMap dgtCells)) (hn : n ≤ maxLen) :
    Calls Try.prog 28 #[.slice A n c, .slice B n cc] w fun e w' => e = .returned (.bool true) ∧ Below w.heap.size w w' := by
  unfold maxLen at hn
  go_enter Try.func28, Try.ntmps28
  go_wp2_with fail
  go_loopw [5] (fun iv wr => ∃ k : Nat, k ≤ n ∧ iv = .int .i64 k ∧ Below w.heap.size w wr) (fun iv _ => n - (intOf iv).toNat)
  case atStart => exact ⟨0, by omega, rfl, Below.refl _ _⟩
  case round =>
    obtain ⟨k, hk, rfl, hb⟩ := hrel
    by_cases hlt : k < n
    · obtain ⟨b, off, d, rfl, _, hbl, hd, hc⟩ := Sl.elem dgtCells_len (by decide) h hlt
      obtain ⟨bb, offf, dd, rfl, _, hbbl, hdd, hcc⟩ := Sl.elem dgtCells_len (by decide) h' hlt
      rw [hd] at hdd
      obtain rfl := Option.some.inj hdd
      have c0 := (hb.cell (p := ⟨b, _, none⟩) hbl).trans (hc 0 _ rfl)
      have c1 := (hb.cell (p := ⟨b, _, none⟩) hbl).trans (hc 1 _ rfl)
      have c2 := (hb.cell (p := ⟨b, _, none⟩) hbl).trans (hc 2 _ rfl)
      have c3 := (hb.cell (p := ⟨b, _, none⟩) hbl).trans (hc 3 _ rfl)
      have e0 := (hb.cell (p := ⟨bb, _, none⟩) hbbl).trans (hcc 0 _ rfl)
      have e1 := (hb.cell (p := ⟨bb, _, none⟩) hbbl).trans (hcc 1 _ rfl)
      have e2 := (hb.cell (p := ⟨bb, _, none⟩) hbbl).trans (hcc 2 _ rfl)
      have e3 := (hb.cell (p := ⟨bb, _, none⟩) hbbl).trans (hcc 3 _ rfl)
      rw [Nat.add_zero] at c0 e0
      clear hd hdd hc hcc h h'
      go_wp2_with fail
      go_quiet (fail)
      have hbq : Below w.heap.size w (wr.drewN nq) := below_drewN hb nq
      go_wp2_with fail
      go_roundw
      case rel => exact ⟨k + 1, by omega, by go_num, hbq⟩
      case measure => simp [intOf]; omega
    · obtain rfl : k = n := by omega
      go_wp2
      go_ret
      exact ⟨rfl, hb⟩
end Go.Proofs.Ytjklnlocmmnclaa
