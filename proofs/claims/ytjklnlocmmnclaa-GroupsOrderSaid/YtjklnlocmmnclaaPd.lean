/- The pure directives: words and kinds of lines. -/
import Derived.Test.YtjklnlocmmnclaaPa
namespace Go.Proofs.Ytjklnlocmmnclaa

def wordsP : List (List UInt8) :=
  [[105, 102], [105, 102, 100, 101, 102], [105, 102, 110, 100, 101, 102], [101, 108, 105, 102], [101, 108, 115, 101], [101, 110, 100, 105, 102],
   [105, 110, 99, 108, 117, 100, 101], [100, 101, 102, 105, 110, 101], [117, 110, 100, 101, 102], [108, 105, 110, 101], [101, 114, 114, 111, 114], [112, 114, 97, 103, 109, 97]]
/-- A word's Kind, the k-th and those behind it being looked at. -/
def kindFrom (t : List UInt8) : Nat → List (List UInt8) → Nat
  | _, [] => 14
  | k, w :: ws => if w = t then k else kindFrom t (k + 1) ws
def kindW (t : List UInt8) : Nat := kindFrom t 2 wordsP

theorem wordsP_nodup : wordsP.Nodup := by decide
theorem kindFrom_at (t : List UInt8) : ∀ (ws : List (List UInt8)) (k i : Nat), ws.Nodup → ws[i]? = some t → kindFrom t k ws = k + i
  | [], k, i, _, h => by simp at h
  | w :: ws, k, 0, _, h => by simp at h; simp [kindFrom, h]
  | w :: ws, k, i + 1, hn, h => by
    simp at h
    have hne : w ≠ t := by
      intro e
      subst e
      exact (List.nodup_cons.1 hn).1 (List.mem_of_getElem? h)
    simp only [kindFrom, if_neg hne]
    rw [kindFrom_at t ws (k + 1) i (List.nodup_cons.1 hn).2 h]
    omega
theorem kindFrom_none (t : List UInt8) : ∀ (ws : List (List UInt8)) (k : Nat), t ∉ ws → kindFrom t k ws = 14
  | [], _, _ => rfl
  | w :: ws, k, h => by
    simp only [List.mem_cons, not_or] at h
    have hne : ¬ w = t := fun e => h.1 e.symm
    simp only [kindFrom, if_neg hne]
    exact kindFrom_none t ws (k + 1) h.2

/-- A line's Kind, of what the first two tokens are. -/
def hashB (k : Int) (t : List UInt8) : Bool := decide (k = 5) && (t == [35] || t == [37, 58])
def kindP : List (Int × List UInt8) → Nat
  | [] => 0
  | [a] => if hashB a.1 a.2 then 1 else 0
  | a :: b :: _ => if hashB a.1 a.2 then (if b.1 = 1 then kindW b.2 else 14) else 0
end Go.Proofs.Ytjklnlocmmnclaa
