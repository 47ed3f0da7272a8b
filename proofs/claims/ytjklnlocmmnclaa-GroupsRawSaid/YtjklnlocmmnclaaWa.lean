/- Walks: the reference lexer's small functions. -/
import Derived.Test.YtjklnlocmmnclaaProg
import Derived.WalkKit
import Derived.WalkSpells
import Derived.WalkLawsBesides
import Derived.Lib.Hide
import Derived.Test.YtjklnlocmmnclaaMa9
namespace Go.Proofs.Ytjklnlocmmnclaa
open Go.RowKit

theorem ret_bool {a b : Bool} (h : a = b) : Ending.returned (.bool a) = .returned (.bool b) := by rw [h]
theorem ret_int {k : IntKind} {a b : Int} (h : a = b) : Ending.returned (.int k a) = .returned (.int k b) := by rw [h]

set_option maxHeartbeats 400000 in
theorem letter_any (c : Int) (w : World) :
    Calls Try.prog 61 #[.int .u8 c] w fun e w' => e = .returned (.bool (letterB c)) ∧ w = w' := by
  go_enter Try.func61, Try.ntmps61
  go_wp2
  all_goals
    go_ret
    exact ⟨ret_bool (by rw [Bool.eq_iff_iff]; simp [letterB]; omega), rfl⟩
set_option maxHeartbeats 400000 in
theorem digit_any (c : Int) (w : World) :
    Calls Try.prog 62 #[.int .u8 c] w fun e w' => e = .returned (.bool (digitB c)) ∧ w = w' := by
  go_enter Try.func62, Try.ntmps62
  go_wp2
  all_goals
    go_ret
    exact ⟨ret_bool (by rw [Bool.eq_iff_iff]; simp [digitB]; omega), rfl⟩
set_option maxHeartbeats 400000 in
theorem white_any (c : Int) (w : World) :
    Calls Try.prog 43 #[.int .u8 c] w fun e w' => e = .returned (.bool (whiteB c)) ∧ w = w' := by
  go_enter Try.func43, Try.ntmps43
  go_wp2
  all_goals
    go_ret
    exact ⟨ret_bool (by rw [Bool.eq_iff_iff]; simp [whiteB]; omega), rfl⟩

set_option maxHeartbeats 400000 in
theorem at_any {U : Nat → Prop} (A : Option Addr) (n c : Nat) (l : List Rn) (i : Int) (w : World) (h : Runes w U A n l) (hn : n ≤ 1000000) (h0 : 0 ≤ i) :
    Calls Try.prog 58 #[.slice A n c, .int .i64 i] w fun e w' => e = .returned (.int .u8 (hd l i.toNat)) ∧ w = w' := by
  obtain ⟨k, rfl⟩ := Int.eq_ofNat_of_zero_le h0
  rw [Int.toNat_natCast]
  by_cases hk : k < n
  · obtain ⟨b, off, r, rfl, _, _, hr, hc, _, _⟩ := h.at_ hk
    have hh : hd l k = (r.c.toNat : Int) := by simp [hd, hr]
    rw [hh]
    clear hr hh h
    go_enter Try.func58, Try.ntmps58
    go_wp2
    go_ret
    exact ⟨rfl, rfl⟩
  · have hh : hd l k = 0 := by
      have : l[k]? = none := by rw [List.getElem?_eq_none]; rw [h.len]; omega
      simp [hd, this]
    rw [hh]
    clear hh h
    go_enter Try.func58, Try.ntmps58
    go_wp2
    go_ret
    exact ⟨rfl, rfl⟩
theorem letters_any {U : Nat → Prop} (A : Option Addr) (n c : Nat) (l : List Rn) (i : Nat) (w : World) (h : Runes w U A n l) (hn : n ≤ 1000000) (hi : i ≤ n) :
    Calls Try.prog 59 #[.slice A n c, .int .i64 (i : Int)] w fun e w' => e = .returned (.int .i64 (lettersP (l.drop i))) ∧ w = w' := by
  go_enter Try.func59, Try.ntmps59
  go_wp2_with (go_at_call 58; refine (at_any A n c l _ w h hn (by omega)).mono ?_; rintro e w' ⟨rfl, rfl⟩)
  all_goals
    go_ret
    refine ⟨ret_int ?_, rfl⟩
    try simp only [beq_iff_eq, beq_eq_false_iff_ne, ne_eq] at *
    simp only [lettersP, hd_drop, lettersI, Nat.add_zero]
    (repeat' split) <;> omega

set_option maxHeartbeats 400000 in
theorem quoted_any {U : Nat → Prop} (A : Option Addr) (n c : Nat) (l : List Rn) (i : Nat) (w : World) (h : Runes w U A n l) (hn : n ≤ 1000000) (hi : i ≤ n) :
    Calls Try.prog 60 #[.slice A n c, .int .i64 (i : Int)] w fun e w' => e = .returned (.int .i64 (quotedR l (i + 1) (hd l i))) ∧ w = w' := by
  go_enter Try.func60, Try.ntmps60
  go_wp2_with (go_at_call 58; refine (at_any A n c l _ w h hn (by omega)).mono ?_; rintro e w' ⟨rfl, rfl⟩)
  go_loop [6] (fun j => ∃ k : Nat, (k ≤ n + 1) ∧ j = .int .i64 k ∧ Hid (quotedR l (i + 1) (hd l i) = quotedR l k (hd l i))) (fun j => n + 1 - (intOf j).toNat)
  case atStart => exact ⟨i + 1, by omega, rfl, rfl⟩
  case round =>
    obtain ⟨k, hk2, rfl, HQ⟩ := hrel
    by_cases hlt : k < n
    · obtain ⟨b, off, r, rfl, _, _, hr, hc, _, _⟩ := h.at_ hlt
      have HR := Lib.hid hr
      clear hr
      by_cases hlt2 : k + 1 < n
      · obtain ⟨b', off', s, e', _, _, hs, hc2, _, _⟩ := h.at_ hlt2
        injection e' with e'
        injection e' with e1 e2
        subst e1
        subst e2
        have HS := Lib.hid hs
        clear hs h
        go_wp2
        all_goals
          try simp only [beq_iff_eq, beq_eq_false_iff_ne, ne_eq, bne_iff_ne, bne_eq_false_iff_eq] at *
          have HT := Lib.hid (quotedR_two (hd l i) HR.out HS.out)
          first
          | (go_round
             case rel =>
               first
               | exact ⟨k + 1, by omega, by go_num, by unfold Hid; rw [HQ.out, HT.out]; (repeat' split) <;> first | rfl | omega⟩
               | exact ⟨k + 2, by omega, by go_num, by unfold Hid; rw [HQ.out, HT.out]; (repeat' split) <;> first | rfl | omega⟩
             case measure => simp [intOf]; omega)
          | (go_ret
             exact ⟨ret_int (by rw [HQ.out, HT.out]; (repeat' split) <;> first | rfl | omega), rfl⟩)
      · have HL := Lib.hid h.len
        clear h
        go_wp2
        all_goals
          try simp only [beq_iff_eq, beq_eq_false_iff_ne, ne_eq, bne_iff_ne, bne_eq_false_iff_eq] at *
          have HT := Lib.hid (quotedR_one (hd l i) HR.out (by rw [HL.out]; omega))
          first
          | (go_round
             case rel =>
               first
               | exact ⟨k + 1, by omega, by go_num, by unfold Hid; rw [HQ.out, HT.out]; (repeat' split) <;> first | rfl | omega⟩
               | exact ⟨k + 2, by omega, by go_num, by unfold Hid; rw [HQ.out, HT.out]; (repeat' split) <;> first | rfl | omega⟩
             case measure => simp [intOf]; omega)
          | (go_ret
             exact ⟨ret_int (by rw [HQ.out, HT.out]; (repeat' split) <;> first | rfl | omega), rfl⟩)
    · have HT := Lib.hid (quotedR_end (hd l i) (show l.length ≤ k by rw [h.len]; omega))
      go_wp2
      go_ret
      exact ⟨ret_int (by rw [HQ.out, HT.out]), rfl⟩
end Go.Proofs.Ytjklnlocmmnclaa
