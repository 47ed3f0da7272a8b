/- Walks: the reference lexer's next token. -/
import Derived.Test.YtjklnlocmmnclaaWb
import Derived.Test.YtjklnlocmmnclaaWc
import Derived.Test.YtjklnlocmmnclaaPa9
namespace Go.Proofs.Ytjklnlocmmnclaa
open Go.RowKit
theorem ret_iib {k : IntKind} {a b a' b' : Int} {c c' : Bool} (h : (a, b, c) = (a', b', c')) :
    Ending.returned (.tuple #[.int k a, .int k b, .bool c]) = .returned (.tuple #[.int k a', .int k b', .bool c']) := by
  simp only [Prod.mk.injEq] at h
  obtain ⟨rfl, rfl, rfl⟩ := h
  rfl
theorem quoted_int {U : Nat → Prop} (A : Option Addr) (n c : Nat) (l : List Rn) (x : Int) (w : World) (h : Runes w U A n l) (hn : n ≤ 1000000) (h0 : 0 ≤ x) (hi : x ≤ n) :
    Calls Try.prog 60 #[.slice A n c, .int .i64 x] w fun e w' => e = .returned (.int .i64 (quotedR l (x.toNat + 1) (hd l x.toNat))) ∧ w = w' := by
  obtain ⟨k, rfl⟩ := Int.eq_ofNat_of_zero_le h0
  rw [Int.toNat_natCast]
  exact quoted_any A n c l k w h hn (by omega)
theorem tri_eta (p : Int × Int × Bool) : p = (p.1, p.2.1, p.2.2) := rfl
def tri (p : Int × Int × Bool) : Value := .tuple #[.int .i64 p.1, .int .i64 p.2.1, .bool p.2.2]

theorem ret_tri {a b : Int} {c : Bool} {p : Int × Int × Bool} (h : p = (a, b, c)) : Ending.returned (.tuple #[.int .i64 a, .int .i64 b, .bool c]) = .returned (tri p) := by rw [h]; rfl
set_option maxHeartbeats 1000000 in
theorem next_quote {U : Nat → Prop} (A : Option Addr) (n c : Nat) (l : List Rn) (i : Nat) (w : World) (h : Runes w U A n l) (hn : n ≤ 1000000) (hi : i ≤ n)
    (hq : lettersP (l.drop i) = 0 ∨ ∃ k : Nat, lettersP (l.drop i) = (k : Int) ∧ 0 < quotedR l (i + k + 1) (hd l (i + k))) :
    Calls Try.prog 45 #[.slice A n c, .int .i64 (i : Int)] w fun e w' => e = .returned (tri (nextT l i)) ∧ w = w' := by
  have hlen := h.len
  have hlp := letters_range (l.drop i)
  have hcases : lettersP (l.drop i) = 0 ∨ lettersP (l.drop i) = 1 ∧ 0 < quotedR l (i + 1 + 1) (hd l (i + 1)) ∨ lettersP (l.drop i) = 2 ∧ 0 < quotedR l (i + 2 + 1) (hd l (i + 2)) := by
    rcases hq with hq | ⟨k, hk, hq⟩
    · exact .inl hq
    · rcases hlp with h1 | h1 | h1 | h1
      · omega
      · exact .inl h1
      · obtain rfl : k = 1 := by omega
        exact .inr (.inl ⟨h1, hq⟩)
      · obtain rfl : k = 2 := by omega
        exact .inr (.inr ⟨h1, hq⟩)
  clear hq hlp
  rcases hcases with h0 | ⟨h0, hq⟩ | ⟨h0, hq⟩
  · have hb := letters_zero h0
    have HN := Lib.hid (fun he => next_q (k := 0) (l := l) (i := i) h0 he)
    have HN2 := Lib.hid (fun he => next_bad (l := l) (i := i) h0 he)
    have Hlen := Lib.hid hlen
    clear hlen
    go_enter Try.func45, Try.ntmps45
    go_wp2_with (first | (go_at_call 59; refine (letters_any A n c l _ w h hn (by omega)).mono ?_; rintro e w' ⟨rfl, rfl⟩) | (go_at_call 60; refine (quoted_int A n c l _ w h hn (by omega) (by omega)).mono ?_; rintro e w' ⟨rfl, rfl⟩) | (go_at_call 58; refine (at_any A n c l _ w h hn (by omega)).mono ?_; rintro e w' ⟨rfl, rfl⟩))
    · go_ret3
      exact ⟨ret_tri (by rw [HN.out (by assumption), if_pos (by simpa using ‹(hd l i == 34) = true›)]; rfl), rfl⟩
    · go_ret3
      exact ⟨ret_tri (by rw [HN.out (by assumption), if_neg (by simpa using ‹(hd l i == 34) = false›)]; rfl), rfl⟩
    · go_ret3
      exact ⟨ret_tri (HN2.out (by omega)), rfl⟩
  · have hb : i + 1 < n := by rw [← hlen]; exact letters_one h0
    have HN := Lib.hid (next_q (k := 1) (l := l) (i := i) h0 hq)
    have Hlen := Lib.hid hlen
    clear hlen
    go_enter Try.func45, Try.ntmps45
    go_wp2_with (first | (go_at_call 59; refine (letters_any A n c l _ w h hn (by omega)).mono ?_; rintro e w' ⟨rfl, rfl⟩) | (go_at_call 60; refine (quoted_int A n c l _ w h hn (by omega) (by omega)).mono ?_; rintro e w' ⟨rfl, rfl⟩) | (go_at_call 58; refine (at_any A n c l _ w h hn (by omega)).mono ?_; rintro e w' ⟨rfl, rfl⟩))
    · go_ret3
      exact ⟨ret_tri (by rw [HN.out, if_pos (by simpa using ‹(hd l (i + 1) == 34) = true›)]), rfl⟩
    · go_ret3
      exact ⟨ret_tri (by rw [HN.out, if_neg (by simpa using ‹(hd l (i + 1) == 34) = false›)]), rfl⟩
  · have hb : i + 2 < n := by rw [← hlen]; exact letters_two h0
    have HN := Lib.hid (next_q (k := 2) (l := l) (i := i) h0 hq)
    have Hlen := Lib.hid hlen
    clear hlen
    go_enter Try.func45, Try.ntmps45
    go_wp2_with (first | (go_at_call 59; refine (letters_any A n c l _ w h hn (by omega)).mono ?_; rintro e w' ⟨rfl, rfl⟩) | (go_at_call 60; refine (quoted_int A n c l _ w h hn (by omega) (by omega)).mono ?_; rintro e w' ⟨rfl, rfl⟩) | (go_at_call 58; refine (at_any A n c l _ w h hn (by omega)).mono ?_; rintro e w' ⟨rfl, rfl⟩))
    · go_ret3
      exact ⟨ret_tri (by rw [HN.out, if_pos (by simpa using ‹(hd l (i + 2) == 34) = true›)]), rfl⟩
    · go_ret3
      exact ⟨ret_tri (by rw [HN.out, if_neg (by simpa using ‹(hd l (i + 2) == 34) = false›)]), rfl⟩

set_option maxHeartbeats 2000000 in
theorem next_name {U : Nat → Prop} (A : Option Addr) (n c : Nat) (l : List Rn) (i : Nat) (w : World) (h : Runes w U A n l) (hn : n ≤ 1000000) (hi : i < n)
    (hq : lettersP (l.drop i) = -1 ∨ lettersP (l.drop i) = 1 ∧ (¬ 0 < quotedR l (i + 1 + 1) (hd l (i + 1))) ∧ i + 1 < n ∨ lettersP (l.drop i) = 2 ∧ (¬ 0 < quotedR l (i + 2 + 1) (hd l (i + 2))) ∧ i + 2 < n)
    (hlet : letterB (hd l i) = true) :
    Calls Try.prog 45 #[.slice A n c, .int .i64 (i : Int)] w fun e w' => e = .returned (tri (1, identR l (i + 1), false)) ∧ w = w' := by
  have HI := Lib.hid (identR_at l)
  have HL := Lib.hid (show ∀ k : Nat, n ≤ k → hd l k = 0 from fun k hk => hd_none (by rw [h.len]; exact hk))
  rcases hq with h0 | ⟨h0, hq, hb⟩ | ⟨h0, hq, hb⟩
  all_goals
    go_enter Try.func45, Try.ntmps45
    go_wp2_with (first | (go_at_call 59; refine (letters_any A n c l _ w h hn (by omega)).mono ?_; rintro e w' ⟨rfl, rfl⟩) | (go_at_call 60; refine (quoted_int A n c l _ w h hn (by omega) (by omega)).mono ?_; rintro e w' ⟨rfl, rfl⟩) | (go_at_call 58; refine (at_any A n c l _ w h hn (by omega)).mono ?_; rintro e w' ⟨rfl, rfl⟩) | (go_at_call 61; refine (letter_any _ w).mono ?_; rintro e w' ⟨rfl, rfl⟩) | (go_at_call 62; refine (digit_any _ w).mono ?_; rintro e w' ⟨rfl, rfl⟩) | (go_at_call 63; refine (number_any A n c l i w h hn (by omega)).mono ?_; rintro e w' ⟨rfl, rfl⟩) | (go_at_call 64; refine (punct_any A n c l i w h hn (by omega)).mono ?_; rintro e w' ⟨rfl, hbw⟩))
    go_loop [9] (fun j => ∃ k : Nat, k ≤ n ∧ j = .int .i64 k ∧ Hid (identR l (i + 1) = identR l k)) (fun j => n + 1 - (intOf j).toNat)
    case atStart => exact ⟨i + 1, by omega, by go_num, rfl⟩
    case round =>
      obtain ⟨k, hk, rfl, HQ⟩ := hrel
      have HT := Lib.hid (HI.out k)
      by_cases hlt : k < n
      · go_wp2_with (first | (go_at_call 59; refine (letters_any A n c l _ w h hn (by omega)).mono ?_; rintro e w' ⟨rfl, rfl⟩) | (go_at_call 60; refine (quoted_int A n c l _ w h hn (by omega) (by omega)).mono ?_; rintro e w' ⟨rfl, rfl⟩) | (go_at_call 58; refine (at_any A n c l _ w h hn (by omega)).mono ?_; rintro e w' ⟨rfl, rfl⟩) | (go_at_call 61; refine (letter_any _ w).mono ?_; rintro e w' ⟨rfl, rfl⟩) | (go_at_call 62; refine (digit_any _ w).mono ?_; rintro e w' ⟨rfl, rfl⟩) | (go_at_call 63; refine (number_any A n c l i w h hn (by omega)).mono ?_; rintro e w' ⟨rfl, rfl⟩) | (go_at_call 64; refine (punct_any A n c l i w h hn (by omega)).mono ?_; rintro e w' ⟨rfl, hbw⟩))
        all_goals
          try simp only [Bool.not_eq_true] at *
          first
          | (go_round
             case rel => exact ⟨k + 1, by omega, by go_num, by unfold Hid; rw [HQ.out, HT.out]; simp only [*, Bool.true_or, Bool.or_true, if_true]⟩
             case measure => simp [intOf]; omega)
          | (go_ret3
             exact ⟨ret_tri (by rw [HQ.out, HT.out]; simp [*]), rfl⟩)
      · have hz := HL.out k (by omega)
        have hz1 : letterB 0 = false := by decide
        have hz2 : digitB 0 = false := by decide
        go_wp2_with (first | (go_at_call 59; refine (letters_any A n c l _ w h hn (by omega)).mono ?_; rintro e w' ⟨rfl, rfl⟩) | (go_at_call 60; refine (quoted_int A n c l _ w h hn (by omega) (by omega)).mono ?_; rintro e w' ⟨rfl, rfl⟩) | (go_at_call 58; refine (at_any A n c l _ w h hn (by omega)).mono ?_; rintro e w' ⟨rfl, rfl⟩) | (go_at_call 61; refine (letter_any _ w).mono ?_; rintro e w' ⟨rfl, rfl⟩) | (go_at_call 62; refine (digit_any _ w).mono ?_; rintro e w' ⟨rfl, rfl⟩) | (go_at_call 63; refine (number_any A n c l i w h hn (by omega)).mono ?_; rintro e w' ⟨rfl, rfl⟩) | (go_at_call 64; refine (punct_any A n c l i w h hn (by omega)).mono ?_; rintro e w' ⟨rfl, hbw⟩))
        go_ret3
        exact ⟨ret_tri (by rw [HQ.out, HT.out, hz]; simp [letterB, digitB]), rfl⟩

set_option maxHeartbeats 2000000 in
theorem next_else {U : Nat → Prop} (A : Option Addr) (n c : Nat) (l : List Rn) (i : Nat) (w : World) (h : Runes w U A n l) (hn : n ≤ 1000000) (hi : i < n)
    (hq : lettersP (l.drop i) = -1 ∨ lettersP (l.drop i) = 1 ∧ (¬ 0 < quotedR l (i + 1 + 1) (hd l (i + 1))) ∧ i + 1 < n ∨ lettersP (l.drop i) = 2 ∧ (¬ 0 < quotedR l (i + 2 + 1) (hd l (i + 2))) ∧ i + 2 < n)
    (hlet : letterB (hd l i) = false) :
    Calls Try.prog 45 #[.slice A n c, .int .i64 (i : Int)] w fun e w' => e = .returned (tri (restT l i)) ∧ Below w.heap.size w w' := by
  have HT := Lib.hid (show restT l i = if numP (l.drop i) > 0 then (2, (i : Int) + numP (l.drop i), false) else if punctP (l.drop i) > 0 then (5, (i : Int) + punctP (l.drop i), false) else (6, (i : Int) + 1, false) by unfold restT; rw [hlet]; rfl)
  have hnl : numP (l.drop i) ≤ n + 1 := by
    have h1 := numP_le (l.drop i)
    have h2 := h.len
    rw [List.length_drop] at h1
    omega
  have hpl : punctR l i 0 ≤ 4 := punctP_le (l.drop i)
  rcases hq with h0 | ⟨h0, hq, hb⟩ | ⟨h0, hq, hb⟩
  all_goals
    go_enter Try.func45, Try.ntmps45
    go_wp2_with (first | (go_at_call 59; refine (letters_any A n c l _ w h hn (by omega)).mono ?_; rintro e w' ⟨rfl, rfl⟩) | (go_at_call 60; refine (quoted_int A n c l _ w h hn (by omega) (by omega)).mono ?_; rintro e w' ⟨rfl, rfl⟩) | (go_at_call 58; refine (at_any A n c l _ w h hn (by omega)).mono ?_; rintro e w' ⟨rfl, rfl⟩) | (go_at_call 61; refine (letter_any _ w).mono ?_; rintro e w' ⟨rfl, rfl⟩) | (go_at_call 62; refine (digit_any _ w).mono ?_; rintro e w' ⟨rfl, rfl⟩) | (go_at_call 63; refine (number_any A n c l i w h hn (by omega)).mono ?_; rintro e w' ⟨rfl, rfl⟩) | (go_at_call 64; refine (punct_any A n c l i w h hn (by omega)).mono ?_; rintro e w' ⟨rfl, hbw⟩))
    · go_ret3
      refine ⟨ret_tri ?_, Below.refl _ _⟩
      have : (i : Int) < (i : Int) + numP (l.drop i) := by assumption
      rw [HT.out, if_pos (by omega)]
    · go_ret3
      refine ⟨ret_tri ?_, by assumption⟩
      have h1 : (i : Int) + numP (l.drop i) ≤ (i : Int) := by assumption
      have h2 : 0 < punctR l i 0 := by assumption
      rw [HT.out, if_neg (by omega), if_pos (by exact h2)]
      rfl
    · go_ret3
      refine ⟨ret_tri ?_, by assumption⟩
      have h1 : (i : Int) + numP (l.drop i) ≤ (i : Int) := by assumption
      have h2 : ¬ 0 < punctR l i 0 := by assumption
      rw [HT.out, if_neg (by omega), if_neg (by exact h2)]

theorem next_any {U : Nat → Prop} (A : Option Addr) (n c : Nat) (l : List Rn) (i : Nat) (w : World) (h : Runes w U A n l) (hn : n ≤ 1000000) (hi : i < n) :
    Calls Try.prog 45 #[.slice A n c, .int .i64 (i : Int)] w fun e w' => e = .returned (tri (nextT l i)) ∧ Below w.heap.size w w' := by
  have hlen := h.len
  by_cases hq : lettersP (l.drop i) = 0 ∨ ∃ k : Nat, lettersP (l.drop i) = (k : Int) ∧ 0 < quotedR l (i + k + 1) (hd l (i + k))
  · exact (next_quote A n c l i w h hn (by omega) hq).mono fun e w' hx => ⟨hx.1, hx.2 ▸ Below.refl _ _⟩
  · have hr : lettersP (l.drop i) = -1 ∨ lettersP (l.drop i) = 1 ∧ (¬ 0 < quotedR l (i + 1 + 1) (hd l (i + 1))) ∧ i + 1 < n ∨ lettersP (l.drop i) = 2 ∧ (¬ 0 < quotedR l (i + 2 + 1) (hd l (i + 2))) ∧ i + 2 < n := by
      rcases letters_range (l.drop i) with h1 | h1 | h1 | h1
      · exact .inl h1
      · exact absurd (.inl h1) hq
      · exact .inr (.inl ⟨h1, fun h2 => hq (.inr ⟨1, h1, h2⟩), by rw [← hlen]; exact letters_one h1⟩)
      · exact .inr (.inr ⟨h1, fun h2 => hq (.inr ⟨2, h1, h2⟩), by rw [← hlen]; exact letters_two h1⟩)
    have hN : nextT l i = restT l i := next_rest (by
      rcases hr with h1 | ⟨h1, h2, _⟩ | ⟨h1, h2, _⟩
      · exact .inl h1
      · exact .inr ⟨1, by omega, h1, h2⟩
      · exact .inr ⟨2, by omega, h1, h2⟩)
    rw [hN]
    cases hlet : letterB (hd l i)
    · exact next_else A n c l i w h hn hi hr hlet
    · have : restT l i = (1, identR l (i + 1), false) := by unfold restT; rw [hlet]; rfl
      rw [this]
      exact (next_name A n c l i w h hn hi hr hlet).mono fun e w' hx => ⟨hx.1, hx.2 ▸ Below.refl _ _⟩
end Go.Proofs.Ytjklnlocmmnclaa
