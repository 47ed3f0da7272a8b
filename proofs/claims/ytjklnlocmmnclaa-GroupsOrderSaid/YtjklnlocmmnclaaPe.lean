/- The pure lexer: its tokens are no longer than the text. -/
import Derived.Test.YtjklnlocmmnclaaPc
namespace Go.Proofs.Ytjklnlocmmnclaa

def TkShort (N : Nat) (l : List Tk) : Prop := ∀ x ∈ l, x.text.length ≤ N
def LnShort (N : Nat) (l : List Ln) : Prop := ∀ x ∈ l, TkShort N x.toks
theorem setTo_short {N sz : Nat} : ∀ {l : List Ln}, LnShort N l → LnShort N (setTo sz l)
  | [], _ => by intro x hx; simp [setTo] at hx
  | [a], h => by
    intro x hx
    simp only [setTo, List.mem_singleton] at hx
    subst hx
    exact h a (by simp)
  | a :: b :: l, h => by
    intro x hx
    simp only [setTo] at hx
    rcases List.mem_cons.1 hx with rfl | hx
    · exact h x (by simp)
    · exact setTo_short (l := b :: l) (fun y hy => h y (List.mem_cons_of_mem _ hy)) x hx
theorem lx_short {N sz : Nat} : ∀ (k : Nat) (l : List Rn) (st : St), l.length ≤ N → LnShort N st.out → TkShort N st.toks → LnShort N (lx sz k l st).1
  | _, [], st, _, h1, _ => by simp only [lx]; exact setTo_short h1
  | k + 1, _ :: l, st, hl, h1, h2 => by simp only [lx]; exact lx_short k l st (by simp at hl; omega) h1 h2
  | 0, r :: l, st, hl, h1, h2 => by
    have hl' : l.length ≤ N := by simp at hl; omega
    have hpush : ∀ t : Ln, t.toks = st.toks → LnShort N (st.out ++ [t]) := fun t ht x hx => by
      rcases List.mem_append.1 hx with hx | hx
      · exact h1 x hx
      · have : x = t := by simpa using hx
        rw [this, ht]
        exact h2
    simp only [lx]
    split
    · exact lx_short 0 l _ hl' (hpush _ rfl) (by intro x hx; simp at hx)
    · split
      · exact lx_short 0 l _ hl' h1 h2
      · split
        · split
          · exact hpush _ rfl
          · exact lx_short _ l _ hl' h1 h2
        · refine lx_short _ l _ hl' h1 ?_
          intro x hx
          rcases List.mem_append.1 hx with hx | hx
          · exact h2 x hx
          · have : x = tokAt (r :: l) st.space := by simpa using hx
            rw [this]
            simp only [tokAt, textP, List.length_map, List.length_take]
            omega
theorem linesP_short (s : List UInt8) (h : (charsP s).length ≤ s.length + 1) : LnShort (s.length + 1) (linesP s).1 :=
  lx_short 0 _ _ h (by intro x hx; simp at hx) (by intro x hx; simp at hx)
end Go.Proofs.Ytjklnlocmmnclaa
