/- Walks: kinds of lines, whole; words. -/
import Derived.Test.YtjklnlocmmnclaaWm
import Derived.Deep.QuietTactic
import Derived.BigQuiet
namespace Go.Proofs.Ytjklnlocmmnclaa
open Go.RowKit

set_option maxHeartbeats 400000 in
theorem kind_any {U : Nat → Prop} (A : Option Addr) (n c : Nat) (l : List Tok) (w : World) (h : Toks w U A n l) (hn : n ≤ 1000000) (hsz : ∀ x ∈ l, x.t.size ≤ maxLen) :
    Calls Try.prog 12 #[.slice A n c] w fun e w' => e = .returned (.int .i64 (kindT l)) ∧ Below w.heap.size w w' := by
  have hT : TabOk (w.alloc (.cells (clCells 0 0 (.map none)) 90)) w.heap.size := .inl (heap_alloc_new w _)
  have HT := Lib.hid (tkind_any A n c w.heap.size l _ (Sl.alloc h _) hn hsz hT)
  go_enter Try.func12, Try.ntmps12
  go_wp2_with fail
  refine HT.out.mono ?_
  rintro e w1 ⟨rfl, ht1, hbar⟩
  go_wp2
  go_ret
  refine ⟨rfl, ⟨hbar.os, hbar.tape, hbar.output, ?_, ?_⟩⟩
  · have := hbar.size
    simp at this
    omega
  · intro k hk
    rw [hbar.block k (by simp; omega) (by omega)]
    exact Below.heap_alloc _ _ _ hk

def wordsRP : List (List UInt8) := [] :: [] :: wordsP
def wordsRCells : Array Value := (wordsRP.map strL).toArray
set_option maxHeartbeats 400000 in
theorem wordsR_any (w : World) : Calls Try.prog 38 #[] w fun e w' => e = .returned (.slice (some ⟨w.heap.size, 0, none⟩) 14 14) ∧ w' = w.alloc (.cells wordsRCells 9) := by
  go_enter Try.func38, Try.ntmps38
  go_wp2
  go_ret
  exact ⟨rfl, rfl⟩
theorem wordsR_cell (k : Nat) (hk : k < 14) : ∃ s : ByteArray, wordsRP[k]? = some s.data.toList ∧ wordsRCells[k]? = some (.string s) ∧ s.size ≤ 9 := by
  have hl : wordsRP.length = 14 := rfl
  have h1 : wordsRP[k]? = some (wordsRP[k]'(by omega)) := List.getElem?_eq_getElem (by omega)
  have : ∀ p ∈ wordsRP, p.length ≤ 9 := by decide
  have h4 := this _ (List.getElem_mem (show k < wordsRP.length by omega))
  refine ⟨⟨(wordsRP[k]'(by omega)).toArray⟩, h1, ?_, by simpa [ByteArray.size] using h4⟩
  unfold wordsRCells
  rw [List.getElem?_toArray, List.getElem?_map, h1]
  rfl

/-- A Kind's word. -/
def wordT (k : Int) : List UInt8 := if k < 2 ∨ 14 ≤ k then [] else (wordsP[(k - 2).toNat]?).getD []
theorem ret_str2 {b : List UInt8} (h : b = []) : Ending.returned (.string ⟨#[]⟩) = .returned (.string ⟨b.toArray⟩) := by rw [h]
theorem ret_strB {a : ByteArray} {b : List UInt8} (h : a.data.toList = b) : Ending.returned (.string a) = .returned (.string ⟨b.toArray⟩) := by
  have : a = ⟨b.toArray⟩ := by
    rw [← h]
  rw [this]
set_option maxHeartbeats 400000 in
theorem word_any (k : Int) (w : World) : Calls Try.prog 17 #[.int .i64 k] w fun e w' => e = .returned (.string ⟨(wordT k).toArray⟩) ∧ Below w.heap.size w w' := by
  by_cases h1 : k < 2
  · have HW := Lib.hid (show wordT k = [] by unfold wordT; rw [if_pos (.inl h1)])
    go_enter Try.func17, Try.ntmps17
    go_wp2
    go_ret
    exact ⟨ret_str2 (by rw [HW.out]), Below.refl _ _⟩
  · by_cases h2 : 14 ≤ k
    · have HW := Lib.hid (show wordT k = [] by unfold wordT; rw [if_pos (.inr h2)])
      go_enter Try.func17, Try.ntmps17
      go_wp2
      go_ret
      exact ⟨ret_str2 (by rw [HW.out]), Below.refl _ _⟩
    · obtain ⟨i, rfl⟩ : ∃ i : Nat, k = (i : Int) + 2 := ⟨(k - 2).toNat, by omega⟩
      obtain ⟨s, hs, hsc, _⟩ := words_cell i (by omega)
      have HW := Lib.hid (show wordT ((i : Int) + 2) = s.data.toList by unfold wordT; rw [if_neg (by omega), show ((i : Int) + 2 - 2).toNat = i by omega, hs]; rfl)
      have hc : (w.alloc (.cells wordsCells 9)).cell? ⟨w.heap.size, i, none⟩ = some (.string s) := by rw [cell_of_row _ _ _ _ _ _ (heap_alloc_new w _)]; exact hsc
      clear hs hsc
      go_enter Try.func17, Try.ntmps17
      go_wp2_with (go_at_call 41; refine (words_any _).mono ?_; rintro e w1 ⟨rfl, rfl⟩)
      go_ret
      exact ⟨ret_strB (by rw [HW.out]), (Below.refl _ _).alloc (Nat.le_refl _) _⟩
set_option maxHeartbeats 400000 in
theorem wordR_any (k : Int) (w : World) : Calls Try.prog 18 #[.int .i64 k] w fun e w' => e = .returned (.string ⟨(wordT k).toArray⟩) ∧ Below w.heap.size w w' := by
  by_cases h1 : k < 0
  · have HW := Lib.hid (show wordT k = [] by unfold wordT; rw [if_pos (.inl (by omega))])
    go_enter Try.func18, Try.ntmps18
    go_wp2_with (go_at_call 38; refine (wordsR_any _).mono ?_; rintro e w1 ⟨rfl, rfl⟩)
    go_ret
    exact ⟨ret_str2 (by rw [HW.out]), (Below.refl _ _).alloc (Nat.le_refl _) _⟩
  · by_cases h2 : 14 ≤ k
    · have HW := Lib.hid (show wordT k = [] by unfold wordT; rw [if_pos (.inr h2)])
      go_enter Try.func18, Try.ntmps18
      go_wp2_with (go_at_call 38; refine (wordsR_any _).mono ?_; rintro e w1 ⟨rfl, rfl⟩)
      go_ret
      exact ⟨ret_str2 (by rw [HW.out]), (Below.refl _ _).alloc (Nat.le_refl _) _⟩
    · obtain ⟨i, rfl⟩ : ∃ i : Nat, k = (i : Int) := ⟨k.toNat, by omega⟩
      obtain ⟨s, hs, hsc, _⟩ := wordsR_cell i (by omega)
      have hi14 : i < 14 := by omega
      have HW := Lib.hid (show wordT (i : Int) = s.data.toList by
        unfold wordT
        have : i = 0 ∨ i = 1 ∨ ∃ j, i = j + 2 := by
          rcases i with _ | _ | j
          · exact .inl rfl
          · exact .inr (.inl rfl)
          · exact .inr (.inr ⟨j, rfl⟩)
        rcases this with rfl | rfl | ⟨j, rfl⟩
        · simp [wordsRP] at hs; simp [← hs]
        · simp [wordsRP] at hs; simp [← hs]
        · rw [if_neg (by omega), show (((j + 2 : Nat) : Int) - 2).toNat = j by omega]
          simp only [wordsRP, List.getElem?_cons_succ] at hs
          rw [hs]
          rfl)
      have hc : (w.alloc (.cells wordsRCells 9)).cell? ⟨w.heap.size, i, none⟩ = some (.string s) := by rw [cell_of_row _ _ _ _ _ _ (heap_alloc_new w _)]; exact hsc
      clear hs hsc
      go_enter Try.func18, Try.ntmps18
      go_wp2_with (go_at_call 38; refine (wordsR_any _).mono ?_; rintro e w1 ⟨rfl, rfl⟩)
      go_ret
      exact ⟨ret_strB (by rw [HW.out]), (Below.refl _ _).alloc (Nat.le_refl _) _⟩
end Go.Proofs.Ytjklnlocmmnclaa
