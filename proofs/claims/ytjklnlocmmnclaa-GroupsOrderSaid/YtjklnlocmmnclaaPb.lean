/- The pure lexer: a token's case laws. -/
import Derived.Test.YtjklnlocmmnclaaPa
namespace Go.Proofs.Ytjklnlocmmnclaa

def nextT (l : List Rn) (i : Nat) : Int × Int × Bool := ((nextP (l.drop i)).1, (i : Int) + (nextP (l.drop i)).2.1, (nextP (l.drop i)).2.2)
def restT (l : List Rn) (i : Nat) : Int × Int × Bool :=
  if letterB (hd l i) then (1, identR l (i + 1), false)
  else if numP (l.drop i) > 0 then (2, (i : Int) + numP (l.drop i), false)
  else if punctP (l.drop i) > 0 then (5, (i : Int) + punctP (l.drop i), false)
  else (6, (i : Int) + 1, false)

theorem letters_range (l : List Rn) : lettersP l = -1 ∨ lettersP l = 0 ∨ lettersP l = 1 ∨ lettersP l = 2 := by
  unfold lettersP lettersI
  (repeat' split) <;> simp
theorem letters_zero {l : List Rn} {i : Nat} (h : lettersP (l.drop i) = 0) : i < l.length := by
  rcases Nat.lt_or_ge i l.length with h1 | h1
  · exact h1
  · unfold lettersP lettersI at h
    rw [hd_drop, hd_none (show l.length ≤ i + 0 by omega)] at h
    simp at h
theorem letters_one {l : List Rn} {i : Nat} (h : lettersP (l.drop i) = 1) : i + 1 < l.length := by
  rcases Nat.lt_or_ge (i + 1) l.length with h1 | h1
  · exact h1
  · unfold lettersP lettersI at h
    rw [hd_drop _ _ 1, hd_none h1] at h
    simp at h
    (repeat' split at h) <;> simp_all
theorem letters_two {l : List Rn} {i : Nat} (h : lettersP (l.drop i) = 2) : i + 2 < l.length := by
  rcases Nat.lt_or_ge (i + 2) l.length with h1 | h1
  · exact h1
  · unfold lettersP lettersI at h
    rw [hd_drop _ _ 2, hd_none h1] at h
    simp at h
    (repeat' split at h) <;> simp_all

theorem next_q {l : List Rn} {i k : Nat} (h : lettersP (l.drop i) = (k : Int)) (he : 0 < quotedR l (i + k + 1) (hd l (i + k))) :
    nextT l i = if hd l (i + k) = 34 then (4, quotedR l (i + k + 1) (hd l (i + k)), false) else (3, quotedR l (i + k + 1) (hd l (i + k)), false) := by
  unfold nextT nextP
  simp only [h, Int.toNat_natCast, hd_drop, List.drop_drop]
  unfold quotedR at *
  rw [show i + (k + 1) = i + k + 1 from rfl]
  split at he
  · omega
  · rename_i hne
    rw [if_pos ⟨by omega, by omega⟩, if_neg hne]
    split <;> (simp only [Prod.mk.injEq, true_and, and_true]; omega)
theorem next_bad {l : List Rn} {i : Nat} (h : lettersP (l.drop i) = 0) (he : ¬ 0 < quotedR l (i + 1) (hd l i)) : nextT l i = (6, (i : Int) + 1, true) := by
  unfold nextT nextP
  simp only [h, Int.toNat_zero, hd_drop, List.drop_drop, Nat.add_zero, Nat.zero_add]
  unfold quotedR at *
  split at he
  · rename_i hz
    rw [hz]
    simp
  · omega
theorem next_rest {l : List Rn} {i : Nat} (h : lettersP (l.drop i) = -1 ∨ ∃ k : Nat, 0 < k ∧ lettersP (l.drop i) = (k : Int) ∧ ¬ 0 < quotedR l (i + k + 1) (hd l (i + k))) : nextT l i = restT l i := by
  have hc : ¬ (lettersP (l.drop i) ≥ 0 ∧ quotedL (hd (l.drop i) (lettersP (l.drop i)).toNat) ((l.drop i).drop ((lettersP (l.drop i)).toNat + 1)) > 0) ∧ ¬ lettersP (l.drop i) = 0 := by
    rcases h with h | ⟨k, hk, h, he⟩
    · rw [h]; simp
    · rw [h]
      refine ⟨?_, by omega⟩
      simp only [Int.toNat_natCast, hd_drop, List.drop_drop]
      unfold quotedR at he
      rw [show i + (k + 1) = i + k + 1 from rfl]
      split at he <;> omega
  unfold nextT nextP restT
  simp only []
  rw [if_neg hc.1, if_neg hc.2]
  simp only [hd_drop, List.drop_drop, Nat.add_zero]
  unfold identR
  (repeat' split) <;> first | rfl | (simp only [Prod.mk.injEq, true_and, and_true]; omega)
theorem numL_le : ∀ l : List Rn, numL l ≤ l.length
  | [] => by simp [numL]
  | [r] => by simp only [numL]; split <;> simp
  | r :: s :: l => by
    have h1 := numL_le l
    have h2 := numL_le (s :: l)
    simp only [numL, List.length_cons] at *
    (repeat' split) <;> omega
theorem numP_le (l : List Rn) : numP l ≤ l.length + 1 := by
  unfold numP
  have := numL_le (l.drop 1)
  rw [List.length_drop] at this
  split <;> omega
theorem punctIn_le (l : List Rn) : ∀ (ps : List (List UInt8)), (∀ p ∈ ps, p.length ≤ 4) → punctIn l ps ≤ 4
  | [], _ => by simp [punctIn]
  | p :: ps, h => by
    have h1 := h p (by simp)
    have h2 := punctIn_le l ps (fun q hq => h q (by simp [hq]))
    simp only [punctIn]
    split <;> omega
theorem punctP_le (l : List Rn) : punctP l ≤ 4 := punctIn_le l _ (by decide)
end Go.Proofs.Ytjklnlocmmnclaa
