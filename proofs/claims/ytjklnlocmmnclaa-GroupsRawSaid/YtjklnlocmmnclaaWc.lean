/- Walks: trigraphs, punctuators. -/
import Derived.Test.YtjklnlocmmnclaaWa
import Derived.ShutString
import Derived.Deep.QuietTactic
import Derived.BigQuiet
import Derived.Deep.TreeCalls
namespace Go.Proofs.Ytjklnlocmmnclaa
open Go.RowKit

def trigPairs : List (Int × Int) := [(61, 35), (47, 92), (39, 94), (40, 91), (41, 93), (33, 124), (60, 123), (62, 125), (45, 126)]
def trigL (c : Int) : List (Int × Int) → Int × Bool
  | [] => (0, false)
  | (a, b) :: l => if a = c then (b, true) else trigL c l
def trigK (c : Int) (k : Nat) : Int × Bool := trigL c (trigPairs.drop k)
theorem ret_ub {k : IntKind} {a b : Int} {c d : Bool} (h : (a, c) = (b, d)) : Ending.returned (.tuple #[.int k a, .bool c]) = .returned (.tuple #[.int k b, .bool d]) := by
  injection h with h1 h2; rw [h1, h2]
theorem trigK_at (c : Int) (k : Nat) (hk : k < 9) (h1 : k < ({ data := #[61, 47, 39, 40, 41, 33, 60, 62, 45] } : ByteArray).size) (h2 : k < ({ data := #[35, 92, 94, 91, 93, 124, 123, 125, 126] } : ByteArray).size) :
    trigK c k = if ((({ data := #[61, 47, 39, 40, 41, 33, 60, 62, 45] } : ByteArray)[k]'h1).toNat : Int) = c then (((({ data := #[35, 92, 94, 91, 93, 124, 123, 125, 126] } : ByteArray)[k]'h2).toNat : Int), true) else trigK c (k + 1) := by
  have hk' : k = 0 ∨ k = 1 ∨ k = 2 ∨ k = 3 ∨ k = 4 ∨ k = 5 ∨ k = 6 ∨ k = 7 ∨ k = 8 := by omega
  rcases hk' with rfl | rfl | rfl | rfl | rfl | rfl | rfl | rfl | rfl <;> rfl
theorem trigK_end (c : Int) : trigK c 9 = (0, false) := rfl
def TrigRel (c : Int) (k : Nat) : Prop := trigK c 0 = trigK c k
set_option maxHeartbeats 1000000 in
theorem trig_any (c : Int) (w : World) :
    Calls Try.prog 67 #[.int .u8 c] w fun e w' => e = .returned (.tuple #[.int .u8 (trigK c 0).1, .bool (trigK c 0).2]) ∧ w = w' := by
  go_enter Try.func67, Try.ntmps67
  go_wp2
  go_loop [4] (fun i => ∃ k : Nat, k ≤ 9 ∧ i = .int .i64 k ∧ TrigRel c k) (fun i => 9 - (intOf i).toNat)
  case atStart => exact ⟨0, by omega, rfl, rfl⟩
  case round =>
    obtain ⟨k, hk, rfl, HQ⟩ := hrel
    by_cases hlt : k < 9
    · have HT := Lib.hid (trigK_at c k hlt hlt hlt)
      go_wp2
      all_goals
        try simp only [beq_iff_eq, beq_eq_false_iff_ne, ne_eq, bne_iff_ne, bne_eq_false_iff_eq] at *
        first
        | (go_round
           case rel => exact ⟨k + 1, by omega, by go_num, by unfold TrigRel; rw [show trigK c 0 = trigK c k from HQ, HT.out, if_neg ‹_›]⟩
           case measure => simp [intOf]; omega)
        | (go_ret2
           exact ⟨ret_ub (by rw [show trigK c 0 = trigK c k from HQ, HT.out, if_pos ‹_›]), rfl⟩)
    · obtain rfl : k = 9 := by omega
      go_wp2
      go_ret2
      exact ⟨ret_ub (by rw [show trigK c 0 = trigK c 9 from HQ]; rfl), rfl⟩

def strV (l : List UInt8) : Value := .string ⟨l.toArray⟩
def punctCells : Array Value := (punctsP.map strV).toArray
set_option maxHeartbeats 400000 in
theorem puncts_any (w : World) : Calls Try.prog 68 #[] w fun e w' => e = .returned (.slice (some ⟨w.heap.size, 0, none⟩) 54 54) ∧ w' = w.alloc (.cells punctCells 9) := by
  go_enter Try.func68, Try.ntmps68
  go_wp2
  go_ret
  exact ⟨rfl, rfl⟩

/-- The punctuators from the k-th on, at a place. -/
def punctR (l : List Rn) (i k : Nat) : Nat := punctIn (l.drop i) (punctsP.drop k)
theorem punctR_end (l : List Rn) (i : Nat) : punctR l i 54 = 0 := rfl
theorem punctR_at (l : List Rn) (i k : Nat) (p : List UInt8) (h : punctsP[k]? = some p) : punctR l i k = if pmatch p (l.drop i) then p.length else punctR l i (k + 1) := by
  unfold punctR
  obtain ⟨hk, rfl⟩ := List.getElem?_eq_some_iff.1 h
  rw [List.drop_eq_getElem_cons hk]
  rfl
theorem pmatch_at (l : List Rn) (i j : Nat) (s : ByteArray) (hj : j < s.size) :
    pmatch (s.data.toList.drop j) (l.drop (i + j)) = (decide (hd l (i + j) = ((s[j]'hj).toNat : Int)) && pmatch (s.data.toList.drop (j + 1)) (l.drop (i + (j + 1)))) := by
  have hj' : j < s.data.toList.length := by simpa using hj
  rw [List.drop_eq_getElem_cons hj']
  simp only [pmatch, hd_drop, Nat.add_zero, List.drop_drop]
  rfl
def PM (l : List Rn) (i : Nat) (s : ByteArray) (j : Nat) : Prop := pmatch s.data.toList (l.drop i) = pmatch (s.data.toList.drop j) (l.drop (i + j))
theorem pm_zero (l : List Rn) (i : Nat) (s : ByteArray) : PM l i s 0 := rfl
theorem pm_step {l : List Rn} {i j : Nat} {s : ByteArray} (h : PM l i s j) (hj : j < s.size) (he : hd l (i + j) = ((s[j]'hj).toNat : Int)) : PM l i s (j + 1) := by
  unfold PM at *
  rw [h, pmatch_at l i j s hj, he]
  simp
theorem pm_no {l : List Rn} {i j : Nat} {s : ByteArray} (h : PM l i s j) (hj : j < s.size) (he : ¬ hd l (i + j) = ((s[j]'hj).toNat : Int)) : pmatch s.data.toList (l.drop i) = false := by
  rw [show pmatch s.data.toList (l.drop i) = _ from h, pmatch_at l i j s hj]
  simp [he]
theorem pm_yes {l : List Rn} {i : Nat} {s : ByteArray} (h : PM l i s s.size) : pmatch s.data.toList (l.drop i) = true := by
  have : s.data.toList.drop s.size = [] := by apply List.drop_of_length_le; simp
  rw [show pmatch s.data.toList (l.drop i) = _ from h, this]
  rfl
def PR (l : List Rn) (i k : Nat) : Prop := punctR l i 0 = punctR l i k
theorem punct_cell (k : Nat) (hk : k < 54) : ∃ s : ByteArray, punctsP[k]? = some s.data.toList ∧ punctCells[k]? = some (.string s) ∧ s.size ≤ 4 := by
  have hl : punctsP.length = 54 := rfl
  have h1 : punctsP[k]? = some (punctsP[k]'(by omega)) := List.getElem?_eq_getElem (by omega)
  have : ∀ p ∈ punctsP, p.length ≤ 4 := by decide
  have h4 := this _ (List.getElem_mem (show k < punctsP.length by omega))
  refine ⟨⟨(punctsP[k]'(by omega)).toArray⟩, h1, ?_, by simpa [ByteArray.size] using h4⟩
  unfold punctCells
  rw [List.getElem?_toArray, List.getElem?_map, h1]
  rfl

set_option maxHeartbeats 1000000 in
theorem punct_any {U : Nat → Prop} (A : Option Addr) (n c : Nat) (l : List Rn) (i : Nat) (w : World) (h : Runes w U A n l) (hn : n ≤ 1000000) (hi : i ≤ n) :
    Calls Try.prog 64 #[.slice A n c, .int .i64 (i : Int)] w fun e w' => e = .returned (.int .i64 (punctR l i 0)) ∧ Below w.heap.size w w' := by
  go_enter Try.func64, Try.ntmps64
  go_wp2_with (go_at_call 68; refine (puncts_any _).mono ?_; rintro e w' ⟨rfl, rfl⟩)
  go_loopw [6, 7] (fun kv _ wr => ∃ k : Nat, k ≤ 54 ∧ kv = .int .i64 k ∧ PR l i k ∧ Below w.heap.size w wr ∧ wr.heap[w.heap.size]? = some (.cells punctCells 9)) (fun kv _ _ => 54 - (intOf kv).toNat)
  case atStart => exact ⟨0, by omega, rfl, rfl, (Below.refl _ _).alloc (Nat.le_refl _) _, heap_alloc_new w _⟩
  case round =>
    obtain ⟨k, hk, rfl, HQ, hb, hblk⟩ := hrel
    by_cases hlt : k < 54
    · obtain ⟨s, hp, hpc, hs4⟩ := punct_cell k hlt
      have hcell : ∀ wx : World, wx.heap[w.heap.size]? = some (.cells punctCells 9) → wx.cell? ⟨w.heap.size, k, none⟩ = some (.string s) := fun wx hx => by rw [cell_of_row wx _ k _ _ _ hx]; exact hpc
      have HC := Lib.hid hcell
      have HP := Lib.hid hp
      clear hcell hp hpc
      obtain ⟨wo, hwo⟩ : ∃ wo : World, wo = wr := ⟨_, rfl⟩
      subst hwo
      go_wp2
      go_loopw [7] (fun jv wi => ∃ j : Nat, j ≤ s.size ∧ jv = .int .i64 j ∧ PM l i s j ∧ Below w.heap.size w wi ∧ wi.heap[w.heap.size]? = some (.cells punctCells 9)) (fun jv _ => s.size - (intOf jv).toNat)
      case atStart => exact ⟨0, by omega, rfl, pm_zero l i s, hb, hblk⟩
      case round =>
        obtain ⟨j, hj, rfl, HPM, hbi, hblki⟩ := hrel
        have hc := HC.out _ hblki
        have hh := h.below (hbi.mono (Nat.le_refl _))
        by_cases hjl : j < s.size
        · go_wp2_with fail
          go_quiet ((go_at_call 58; exact Calls.quiet_of_same ((at_any A n c l _ _ (by assumption) hn (by omega)).mono (fun _ _ hx => ⟨hx.1, hx.2.symm⟩))))
          have hbq : Below w.heap.size w (wr.drewN nq) := below_drewN hbi nq
          go_wp2
          all_goals
            first
            | (go_roundw
               case rel => exact ⟨j + 1, by omega, by go_num, pm_step HPM hjl (by simpa using ‹(hd l (i + j) == ((s[j]'hjl).toNat : Int)) = true›), hbq, hblki⟩
               case measure => simp [intOf]; omega)
            | (go_roundw
               case rel =>
                 refine ⟨k + 1, by omega, by go_num, ?_, hbq, hblki⟩
                 unfold PR
                 rw [show punctR l i 0 = punctR l i k from HQ, punctR_at l i k _ HP.out, pm_no HPM hjl (by simpa using ‹(hd l (i + j) == ((s[j]'hjl).toNat : Int)) = false›)]
                 rfl
               case measure => simp [intOf]; omega)
        · have hd : decide ((j : Int) < (s.size : Int)) = false := by simpa using hjl
          go_wp2_with fail
          go_quiet (fail)
          have hbq : Below w.heap.size w (wr.drewN nq) := below_drewN hbi nq
          have hjs : j = s.size := by omega
          have HE := Lib.hid hjs
          clear hd
          subst hjs
          go_wp2
          go_ret
          exact ⟨ret_int (by rw [show punctR l i 0 = punctR l i k from HQ, punctR_at l i k _ HP.out, if_pos (pm_yes HPM)]; simp), hbq⟩
    · obtain rfl : k = 54 := by omega
      go_wp2
      go_ret
      exact ⟨ret_int (by rw [show punctR l i 0 = punctR l i 54 from HQ]; rfl), hb⟩
end Go.Proofs.Ytjklnlocmmnclaa
