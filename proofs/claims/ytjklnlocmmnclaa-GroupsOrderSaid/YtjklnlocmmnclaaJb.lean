/- Bounds: how many lines and tokens a text has. -/
import Derived.Test.YtjklnlocmmnclaaId
import Derived.Test.YtjklnlocmmnclaaJa
namespace Go.Proofs.Ytjklnlocmmnclaa
open Go.RowKit

theorem setTo_len {sz : Nat} : ∀ (l : List Ln), (setTo sz l).length = l.length
  | [] => rfl
  | [a] => rfl
  | a :: b :: l => by simp only [setTo, List.length_cons]; rw [setTo_len (b :: l)]; rfl
theorem lx_count {sz : Nat} : ∀ (k : Nat) (l : List Rn) (st : St), (lx sz k l st).1.length ≤ st.out.length + l.length
  | _, [], st => by simp only [lx, setTo_len]; omega
  | k + 1, _ :: l, st => by simp only [lx]; have := lx_count (sz := sz) k l st; simp; omega
  | 0, r :: l, st => by
    simp only [lx]
    split
    · refine Nat.le_trans (lx_count 0 l _) ?_
      simp; omega
    · split
      · refine Nat.le_trans (lx_count 0 l _) ?_
        simp
      · split
        · split
          · simp
          · refine Nat.le_trans (lx_count _ l _) ?_
            simp
        · refine Nat.le_trans (lx_count _ l _) ?_
          simp
def LnFew (N : Nat) (l : List Ln) : Prop := ∀ x ∈ l, x.toks.length ≤ N
theorem setTo_few {N sz : Nat} : ∀ {l : List Ln}, LnFew N l → LnFew N (setTo sz l)
  | [], _ => by intro x hx; simp [setTo] at hx
  | [a], h => by
    intro x hx
    simp only [setTo, List.mem_singleton] at hx
    subst hx
    exact h a (by simp)
  | a :: b :: l, h => by
    intro x hx
    simp only [setTo] at hx
    rcases List.mem_cons.1 hx with rfl | hx
    · exact h x (by simp)
    · exact setTo_few (l := b :: l) (fun y hy => h y (List.mem_cons_of_mem _ hy)) x hx
theorem lx_few {N sz : Nat} : ∀ (k : Nat) (l : List Rn) (st : St), LnFew N st.out → st.toks.length + l.length ≤ N → LnFew N (lx sz k l st).1
  | _, [], st, h1, _ => by simp only [lx]; exact setTo_few h1
  | k + 1, _ :: l, st, h1, h2 => by simp only [lx]; exact lx_few k l st h1 (by simp at h2; omega)
  | 0, r :: l, st, h1, h2 => by
    have hl' : st.toks.length + l.length + 1 ≤ N := by simp at h2; omega
    have hpush : ∀ t : Ln, t.toks = st.toks → LnFew N (st.out ++ [t]) := fun t ht x hx => by
      rcases List.mem_append.1 hx with hx | hx
      · exact h1 x hx
      · have : x = t := by simpa using hx
        rw [this, ht]
        omega
    simp only [lx]
    split
    · exact lx_few 0 l _ (hpush _ rfl) (by simp; omega)
    · split
      · exact lx_few 0 l _ h1 (by simp; omega)
      · split
        · split
          · exact hpush _ rfl
          · exact lx_few _ l _ h1 (by simp; omega)
        · exact lx_few _ l _ h1 (by simp; omega)
theorem llP_len (s : ByteArray) : (llP s).length ≤ s.size + 1 := by
  have h := lx_count (sz := s.data.toList.length) 0 (charsP s.data.toList) ⟨[], [], [], 0, false⟩
  have h2 := charsP_len s.data.toList
  have hsl : s.data.toList.length = s.size := by simp
  unfold llP linesP
  rw [List.length_map]
  simp only [List.length_nil] at h
  omega
theorem llP_few (s : ByteArray) : ∀ l ∈ llP s, l.length ≤ s.size + 1 := by
  have h2 := charsP_len s.data.toList
  have hsl : s.data.toList.length = s.size := by simp
  have h := lx_few (N := s.size + 1) (sz := s.data.toList.length) 0 (charsP s.data.toList) ⟨[], [], [], 0, false⟩ (by intro x hx; simp at hx) (by simp; omega)
  intro l hl
  obtain ⟨y, hy, rfl⟩ := List.mem_map.1 hl
  rw [List.length_map]
  exact h y hy
end Go.Proofs.Ytjklnlocmmnclaa
