/- Directives' words, as the tokens of texts. -/
import Derived.Test.YtjklnlocmmnclaaLa
namespace Go.Proofs.Ytjklnlocmmnclaa
open Go.RowKit

theorem toksP_eq (s : ByteArray) : toksP s = (firstK (linesP s.data.toList).1).map (ofTk ⟨#[102]⟩) := by
  unfold toksP
  cases (linesP s.data.toList).1 <;> rfl
theorem kt_of (f : ByteArray) (x : Tk) : kt (ofTk f x) = kt2 x := by simp [kt, ofTk, kt2]
theorem kindT_toksP (s : ByteArray) : kindT (toksP s) = kindP ((firstK (linesP s.data.toList).1).map kt2) := by
  rw [kindT, toksP_eq, List.map_map]
  congr 1
theorem hash_is (dg : Bool) : hashB 5 (hashL dg) = true := by cases dg <;> decide
theorem kindW_at {i : Nat} {w : List UInt8} (h : wordsP[i]? = some w) : kindW w = 2 + i := kindFrom_at w wordsP 2 i wordsP_nodup h
section
variable {bl w rest : List UInt8} {dg : Bool} {s r : ByteArray} {i : Nat}
theorem tok_words (hb : blankB bl) (hw : wordsP[i]? = some w) (hr : restB rest) (hre : r.data.toList = rest) (hs : s.data.toList = bl ++ (hashL dg ++ (bl ++ (w ++ (32 :: (rest ++ [10])))))) :
    kindT (toksP s) = 2 + i ∧ (toksP s).length = 2 + (toksP r).length := by
  obtain ⟨t1, t2, x, h1, h2, h3, h4⟩ := words_line (dg := dg) hb (List.mem_of_getElem? hw) hr
  rw [kindT_toksP, toksP_eq, toksP_eq, hs, hre, h1]
  refine ⟨?_, ?_⟩
  · simp only [List.map_cons, h2, h3, kindP, hash_is, if_true, kindW_at hw]
  · simp only [List.map_cons, List.length_cons, List.length_map, h4]
    omega
theorem kindP_text {a : Int × List UInt8} (l : List (Int × List UInt8)) (h : a.1 = 1) : kindP (a :: l) = 0 := by
  have : hashB a.1 a.2 = false := by rw [h]; simp [hashB]
  cases l <;> simp [kindP, this]
theorem tok_word (hw : w ∈ wordsP) (hr : restB rest) (hs : s.data.toList = w ++ (32 :: rest)) : kindT (toksP s) = 0 := by
  obtain ⟨t, x, h1, h2⟩ := word_line hw hr
  rw [kindT_toksP, hs, h1, List.map_cons, h2]
  exact kindP_text _ rfl
theorem tok_x (hw : w ∈ wordsP) (hs : s.data.toList = 120 :: 32 :: (hashL dg ++ w)) : kindT (toksP s) = 0 := by
  obtain ⟨t, x, h1, h2⟩ := x_line (dg := dg) hw
  rw [kindT_toksP, hs, show (120 : UInt8) :: 32 :: (hashL dg ++ w) = [120] ++ (32 :: (hashL dg ++ w)) from rfl, h1, List.map_cons, h2]
  exact kindP_text _ rfl
theorem words_x : ∀ w ∈ wordsP, kindW (w ++ [120]) = 14 := by
  intro w hw
  have h : wordsP.all (fun w => decide (kindW (w ++ [120]) = 14)) = true := by decide
  simpa using (List.all_eq_true.1 h) w hw
theorem tok_wx (hw : w ∈ wordsP) (hs : s.data.toList = hashL dg ++ (w ++ [120])) : kindT (toksP s) = 14 := by
  obtain ⟨hlo, hl2⟩ := words_lower w hw
  have hlo' : lowerB (w ++ [120]) := by
    intro b hb
    rcases List.mem_append.1 hb with hb | hb
    · exact hlo b hb
    · simp at hb
      subst hb
      decide
  obtain ⟨t1, t2, h1, h2, h3⟩ := wx_line (dg := dg) hlo' (by simp; omega)
  rw [kindT_toksP, hs, h1]
  simp only [List.map_cons, List.map_nil, h2, h3, kindP, hash_is, if_true, words_x w hw]
theorem tok_hash (hb : blankB bl) (hs : s.data.toList = bl ++ (hashL dg ++ bl)) : kindT (toksP s) = 1 := by
  obtain ⟨t1, h1, h2⟩ := hash_line (dg := dg) hb
  rw [kindT_toksP, hs, h1]
  simp only [List.map_cons, List.map_nil, h2, kindP, hash_is, if_true]
end
end Go.Proofs.Ytjklnlocmmnclaa
