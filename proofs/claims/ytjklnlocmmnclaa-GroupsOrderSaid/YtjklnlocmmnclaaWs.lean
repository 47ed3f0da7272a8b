/- Walks: the tokens of a text. -/
import Derived.Test.YtjklnlocmmnclaaWr
import Derived.Test.YtjklnlocmmnclaaWh
import Derived.Test.YtjklnlocmmnclaaPe
namespace Go.Proofs.Ytjklnlocmmnclaa
open Go.RowKit

def firstT (f : ByteArray) : List Ln → List Tok
  | [] => []
  | x :: _ => x.toks.map (ofTk f)
def toksP (s : ByteArray) : List Tok := firstT ⟨#[102]⟩ (linesP s.data.toList).1
/-- A slice of tokens that is handed back. -/
def TokRet (w : World) (l : List Tok) (e : Ending) (w' : World) : Prop :=
  ∃ A c, e = .returned (.slice A l.length c) ∧ l.length ≤ c ∧ c ≤ maxLen ∧ Toks w' (fun _ => True) A l.length l ∧ Below w.heap.size w w'
theorem LDone.first {B : Nat} {w wr : World} {f : ByteArray} {fin : List Ln × List Dg} {vout vd : Value} (h : LDone B w f fin vout vd wr) :
    (firstT f fin.1 = [] ∧ ∃ A c, vout = .slice A 0 c) ∨ ∃ b off n c A cx, vout = .slice (some ⟨b, off, none⟩) (n + 1) c ∧ b < wr.heap.size ∧ n + 1 ≤ maxLen ∧ wr.cell? ⟨b, off, none⟩ = some (.slice A (firstT f fin.1).length cx) ∧
      Toks wr (fun _ => True) A (firstT f fin.1).length (firstT f fin.1) ∧ (firstT f fin.1).length ≤ cx ∧ cx ≤ maxLen := by
  obtain ⟨recs, h1, h2, F, h3, h4⟩ := h.out
  obtain ⟨A, c, rfl, hc, hcm, hA⟩ := own_form h2
  rw [← h1]
  cases recs with
  | nil => exact .inl ⟨rfl, A, c, rfl⟩
  | cons x recs =>
    right
    have hs := Sl.of_own (U := fun _ => True) h2 fun _ _ => trivial
    obtain ⟨b, off, y, rfl, _, hlt, hy, hcell⟩ := Sl.elem lnCells_len (by decide) hs (k := 0) (by simp)
    simp only [List.getElem?_cons_zero, Option.some.injEq] at hy
    subst hy
    obtain ⟨hx, hxc, hxm⟩ := h4 x List.mem_cons_self
    have hl : (firstT f ((x :: recs).map (·.ln))).length = x.ln.toks.length := by simp [firstT]
    rw [hl]
    refine ⟨b, off, recs.length, c, x.A, x.c, rfl, hlt, Nat.le_trans hc hcm, ?_, ?_, hxc, hxm⟩
    · have := hcell 0 _ rfl
      simpa using this
    · have hx' := Sl.more (V := fun _ => True) hx fun _ _ _ => trivial
      rw [tk_flat] at hx'
      exact hx'

theorem toksP_ok (s : ByteArray) (hn : s.size ≤ 99999) : ∀ x ∈ toksP s, x.t.size ≤ maxLen ∧ x.sn = 0 ∧ x.sA = none ∧ x.sc = 0 := by
  have h := linesP_short s.data.toList (charsP_len _)
  unfold toksP
  cases hl : (linesP s.data.toList).1 with
  | nil => intro x hx; simp [firstT] at hx
  | cons y l =>
    intro x hx
    simp only [firstT, List.mem_map] at hx
    obtain ⟨t, ht, rfl⟩ := hx
    rw [hl] at h
    have := h y List.mem_cons_self t ht
    have hsl : s.data.toList.length = s.size := by simp
    refine ⟨?_, rfl, rfl, rfl⟩
    show (⟨t.text.toArray⟩ : ByteArray).size ≤ maxLen
    have e : (⟨t.text.toArray⟩ : ByteArray).size = t.text.length := by simp [ByteArray.size]
    rw [e]
    unfold maxLen
    omega

set_option maxHeartbeats 1000000 in
theorem toks_any (s : ByteArray) (w : World) (hn : s.size ≤ 99999) : Calls Try.prog 20 #[.string s] w (TokRet w (toksP s)) := by
  have HL := Lib.hid (lines_any ⟨#[102]⟩ s w hn)
  have HP := Lib.hid (show firstT ⟨#[102]⟩ (linesP s.data.toList).1 = toksP s from rfl)
  generalize linesP s.data.toList = fin at HL HP
  go_enter Try.func20, Try.ntmps20
  go_wp2_with fail
  refine HL.out.mono ?_
  rintro e w1 ⟨vout, vd, rfl, hD⟩
  have hb1 := hD.below
  rcases hD.first with ⟨hf, A, c, rfl⟩ | ⟨b, off, n, c, A, cx, rfl, hblt, hnm, hc0, hT, hlc, hcm⟩
  · rw [HP.out] at hf
    clear hD
    go_wp2
    go_ret
    unfold TokRet
    rw [hf]
    exact ⟨none, 0, rfl, Nat.le_refl _, by simp [maxLen], Sl.nil_, hb1⟩
  · rw [HP.out] at hc0 hT hlc
    clear hD
    unfold maxLen at hnm
    have h0 : (0 : Int) < ((n + 1 : Nat) : Int) := by omega
    have hne : ¬ ((n + 1 : Nat) : Int) = 0 := by omega
    go_wp2
    go_ret
    exact ⟨A, cx, rfl, hlc, hcm, hT, hb1⟩
end Go.Proofs.Ytjklnlocmmnclaa
