/- Walks: the reference lexer's number and comment. -/
import Derived.Test.YtjklnlocmmnclaaWa
namespace Go.Proofs.Ytjklnlocmmnclaa
open Go.RowKit

theorem ret_ib {k : IntKind} {a b : Int} {c d : Bool} (h : a = b) (h2 : c = d) : Ending.returned (.tuple #[.int k a, .bool c]) = .returned (.tuple #[.int k b, .bool d]) := by rw [h, h2]
set_option maxHeartbeats 1000000 in
theorem number_yes {U : Nat → Prop} (A : Option Addr) (n c : Nat) (l : List Rn) (i : Nat) (w : World) (h : Runes w U A n l) (hn : n ≤ 1000000) (hi : i ≤ n)
    (hb : digitB (hd l i) = true ∨ hd l i = 46 ∧ digitB (hd l (i + 1)) = true) :
    Calls Try.prog 63 #[.slice A n c, .int .i64 (i : Int)] w fun e w' => e = .returned (.int .i64 (numR l (i + 1))) ∧ w = w' := by
  have HG := Lib.hid (show ∀ k : Nat, n ≤ k → hd l k = 0 from fun k hk => hd_none (by rw [h.len]; exact hk))
  have hd46 : digitB 46 = false := by decide
  rcases hb with hb | ⟨h46, hb2⟩
  all_goals
    go_enter Try.func63, Try.ntmps63
    go_wp2_with (first | (go_at_call 58; refine (at_any A n c l _ w h hn (by omega)).mono ?_; rintro e w' ⟨rfl, rfl⟩) | (go_at_call 62; refine (digit_any _ _).mono ?_; rintro e w' ⟨rfl, rfl⟩))
    go_loop [5, 6, 7] (fun j _ _ => ∃ k : Nat, (k ≤ n + 1) ∧ j = .int .i64 k ∧ Hid (numR l (i + 1) = numR l k)) (fun j _ _ => n + 1 - (intOf j).toNat)
    case atStart => exact ⟨i + 1, by omega, rfl, rfl⟩
    case round =>
     obtain ⟨k, hk2, rfl, HQ⟩ := hrel
     have HT := Lib.hid (numR_at l k)
     by_cases hlt : k < n
     · go_wp2_with (first | (go_at_call 58; refine (at_any A n c l _ w h hn (by omega)).mono ?_; rintro e w' ⟨rfl, rfl⟩) | (go_at_call 61; refine (letter_any _ _).mono ?_; rintro e w' ⟨rfl, rfl⟩) | (go_at_call 62; refine (digit_any _ _).mono ?_; rintro e w' ⟨rfl, rfl⟩))
       all_goals
         have HT2 := HT.out
         simp only [expoB, signB, Bool.and_eq_true, Bool.or_eq_true, decide_eq_true_eq] at HT2
         try simp only [beq_iff_eq, beq_eq_false_iff_ne, ne_eq, bne_iff_ne, bne_eq_false_iff_eq, Bool.not_eq_true] at *
         first
         | (go_round
            case rel =>
              first
              | exact ⟨k + 1, by omega, by go_num, by unfold Hid; rw [HQ.out, HT2]; (repeat' split) <;> first | rfl | omega | simp_all⟩
              | exact ⟨k + 2, by omega, by go_num, by unfold Hid; rw [HQ.out, HT2]; (repeat' split) <;> first | rfl | omega | simp_all⟩
            case measure => simp [intOf]; omega)
         | (go_ret
            exact ⟨ret_int (by rw [HQ.out, HT2]; (repeat' split) <;> first | rfl | omega | simp_all), rfl⟩)
     · have h0 := HG.out k (by omega)
       go_wp2_with (first | (go_at_call 58; refine (at_any A n c l _ w h hn (by omega)).mono ?_; rintro e w' ⟨rfl, rfl⟩) | (go_at_call 61; refine (letter_any _ _).mono ?_; rintro e w' ⟨rfl, rfl⟩) | (go_at_call 62; refine (digit_any _ _).mono ?_; rintro e w' ⟨rfl, rfl⟩))
       go_ret
       exact ⟨ret_int (by rw [HQ.out, HT.out, h0]; simp [expoB, letterB, digitB]), rfl⟩

set_option maxHeartbeats 400000 in
theorem number_no {U : Nat → Prop} (A : Option Addr) (n c : Nat) (l : List Rn) (i : Nat) (w : World) (h : Runes w U A n l) (hn : n ≤ 1000000) (hi : i ≤ n)
    (hb : digitB (hd l i) = false ∧ (¬ hd l i = 46 ∨ digitB (hd l (i + 1)) = false)) :
    Calls Try.prog 63 #[.slice A n c, .int .i64 (i : Int)] w fun e w' => e = .returned (.int .i64 (i : Int)) ∧ w = w' := by
  obtain ⟨hb, h2⟩ := hb
  by_cases h46 : hd l i = 46
  · have hb : digitB 46 = false := by decide
    have hb2 : digitB (hd l (i + 1)) = false := by rcases h2 with h2 | h2; exact absurd h46 h2; exact h2
    clear h2
    go_enter Try.func63, Try.ntmps63
    go_wp2_with (first | (go_at_call 58; refine (at_any A n c l _ w h hn (by omega)).mono ?_; rintro e w' ⟨rfl, rfl⟩) | (go_at_call 62; refine (digit_any _ _).mono ?_; rintro e w' ⟨rfl, rfl⟩))
    go_ret
    exact ⟨rfl, rfl⟩
  · clear h2
    go_enter Try.func63, Try.ntmps63
    go_wp2_with (first | (go_at_call 58; refine (at_any A n c l _ w h hn (by omega)).mono ?_; rintro e w' ⟨rfl, rfl⟩) | (go_at_call 62; refine (digit_any _ _).mono ?_; rintro e w' ⟨rfl, rfl⟩))
    go_ret
    exact ⟨rfl, rfl⟩
theorem number_any {U : Nat → Prop} (A : Option Addr) (n c : Nat) (l : List Rn) (i : Nat) (w : World) (h : Runes w U A n l) (hn : n ≤ 1000000) (hi : i ≤ n) :
    Calls Try.prog 63 #[.slice A n c, .int .i64 (i : Int)] w fun e w' => e = .returned (.int .i64 ((i : Int) + numP (l.drop i))) ∧ w = w' := by
  have HF : (i : Int) + numP (l.drop i) = if digitB (hd l i) || decide (hd l i = 46) && digitB (hd l (i + 1)) then numR l (i + 1) else (i : Int) := by
    unfold numP numR; rw [hd_drop, hd_drop, List.drop_drop, Nat.add_zero]; split <;> omega
  rw [HF]
  by_cases hb : digitB (hd l i) = true ∨ hd l i = 46 ∧ digitB (hd l (i + 1)) = true
  · rw [if_pos (by simpa using hb)]
    exact number_yes A n c l i w h hn hi hb
  · rw [if_neg (by simpa using hb)]
    refine number_no A n c l i w h hn hi ?_
    constructor
    · cases h1 : digitB (hd l i) <;> simp_all
    · by_cases h46 : hd l i = 46
      · right
        cases h1 : digitB (hd l (i + 1)) <;> simp_all
      · exact Or.inl h46

set_option maxHeartbeats 400000 in
theorem comment_no {U : Nat → Prop} (A : Option Addr) (n c : Nat) (l : List Rn) (i : Nat) (w : World) (h : Runes w U A n l) (hn : n ≤ 1000000) (hi : i ≤ n)
    (hb : ¬ hd l i = 47 ∨ ¬ hd l (i + 1) = 47 ∧ ¬ hd l (i + 1) = 42) :
    Calls Try.prog 44 #[.slice A n c, .int .i64 (i : Int)] w fun e w' => e = .returned (.tuple #[.int .i64 (i : Int), .bool false]) ∧ w = w' := by
  by_cases h47 : hd l i = 47
  · have hb2 : ¬ hd l (i + 1) = 47 ∧ ¬ hd l (i + 1) = 42 := by rcases hb with hb | hb; exact absurd h47 hb; exact hb
    obtain ⟨hb2, hb3⟩ := hb2
    clear hb
    go_enter Try.func44, Try.ntmps44
    go_wp2_with (go_at_call 58; refine (at_any A n c l _ w h hn (by omega)).mono ?_; rintro e w' ⟨rfl, rfl⟩)
    go_ret2
    exact ⟨rfl, rfl⟩
  · clear hb
    go_enter Try.func44, Try.ntmps44
    go_wp2_with (go_at_call 58; refine (at_any A n c l _ w h hn (by omega)).mono ?_; rintro e w' ⟨rfl, rfl⟩)
    go_ret2
    exact ⟨rfl, rfl⟩

set_option maxHeartbeats 400000 in
theorem comment_line {U : Nat → Prop} (A : Option Addr) (n c : Nat) (l : List Rn) (i : Nat) (w : World) (h : Runes w U A n l) (hn : n ≤ 1000000) (hi : i ≤ n)
    (h1 : hd l i = 47) (h2 : hd l (i + 1) = 47) :
    Calls Try.prog 44 #[.slice A n c, .int .i64 (i : Int)] w fun e w' => e = .returned (.tuple #[.int .i64 (nlR l i), .bool false]) ∧ w = w' := by
  go_enter Try.func44, Try.ntmps44
  go_wp2_with (go_at_call 58; refine (at_any A n c l _ w h hn (by omega)).mono ?_; rintro e w' ⟨rfl, rfl⟩)
  go_loop [6] (fun j => ∃ k : Nat, (k ≤ n) ∧ j = .int .i64 k ∧ Hid (nlR l i = nlR l k)) (fun j => n + 1 - (intOf j).toNat)
  case atStart => exact ⟨i, by omega, rfl, rfl⟩
  case round =>
    obtain ⟨k, hk2, rfl, HQ⟩ := hrel
    by_cases hlt : k < n
    · obtain ⟨b, off, r, rfl, _, _, hr, hc, _, _⟩ := h.at_ hlt
      have HT := Lib.hid (nlR_at hr)
      clear hr h
      go_wp2
      all_goals
        try simp only [beq_iff_eq, beq_eq_false_iff_ne, ne_eq, bne_iff_ne, bne_eq_false_iff_eq] at *
        first
        | (go_round
           case rel => exact ⟨k + 1, by omega, by go_num, by unfold Hid; rw [HQ.out, HT.out, if_neg (by omega)]⟩
           case measure => simp [intOf]; omega)
        | (go_ret2
           exact ⟨ret_ib (by rw [HQ.out, HT.out, if_pos (by omega)]) rfl, rfl⟩)
    · have HT := Lib.hid (nlR_end (show l.length ≤ k by rw [h.len]; omega))
      go_wp2
      go_ret2
      exact ⟨ret_ib (by rw [HQ.out, HT.out]) rfl, rfl⟩

set_option maxHeartbeats 1000000 in
theorem comment_star {U : Nat → Prop} (A : Option Addr) (n c : Nat) (l : List Rn) (i : Nat) (w : World) (h : Runes w U A n l) (hn : n ≤ 1000000) (hi : i ≤ n)
    (h1 : hd l i = 47) (h2 : hd l (i + 1) = 42) :
    Calls Try.prog 44 #[.slice A n c, .int .i64 (i : Int)] w fun e w' => e = .returned (.tuple #[.int .i64 (cmR l (i + 2)).1, .bool (cmR l (i + 2)).2]) ∧ w = w' := by
  go_enter Try.func44, Try.ntmps44
  go_wp2_with (go_at_call 58; refine (at_any A n c l _ w h hn (by omega)).mono ?_; rintro e w' ⟨rfl, rfl⟩)
  go_loop [7] (fun j => ∃ k : Nat, (k ≤ n + 2) ∧ j = .int .i64 k ∧ Hid (cmR l (i + 2) = cmR l k)) (fun j => n + 2 - (intOf j).toNat)
  case atStart => exact ⟨i + 2, by omega, rfl, rfl⟩
  case round =>
    obtain ⟨k, hk2, rfl, HQ⟩ := hrel
    by_cases hlt : k < n
    · obtain ⟨b, off, r, rfl, _, _, hr, hc, _, _⟩ := h.at_ hlt
      have HT := Lib.hid (cmR_at hr)
      clear hr
      go_wp2_with (go_at_call 58; refine (at_any _ n c l _ w h hn (by omega)).mono ?_; rintro e w' ⟨rfl, rfl⟩)
      all_goals
        try simp only [beq_iff_eq, beq_eq_false_iff_ne, ne_eq, bne_iff_ne, bne_eq_false_iff_eq] at *
        first
        | (go_round
           case rel => exact ⟨k + 1, by omega, by go_num, by unfold Hid; rw [HQ.out, HT.out, if_neg (by omega)]⟩
           case measure => simp [intOf]; omega)
        | (go_ret2
           exact ⟨ret_ib (by rw [HQ.out, HT.out, if_pos (by omega)]) (by rw [HQ.out, HT.out, if_pos (by omega)]), rfl⟩)
    · have HT := Lib.hid (cmR_end (show l.length ≤ k by rw [h.len]; omega))
      have HL := Lib.hid h.len
      go_wp2
      go_ret2
      exact ⟨ret_ib (by rw [HQ.out, HT.out, HL.out]) (by rw [HQ.out, HT.out]), rfl⟩
theorem comment_any {U : Nat → Prop} (A : Option Addr) (n c : Nat) (l : List Rn) (i : Nat) (w : World) (h : Runes w U A n l) (hn : n ≤ 1000000) (hi : i ≤ n) :
    Calls Try.prog 44 #[.slice A n c, .int .i64 (i : Int)] w fun e w' =>
      e = .returned (.tuple #[.int .i64 ((i : Int) + (commentP (l.drop i)).1), .bool (commentP (l.drop i)).2]) ∧ w = w' := by
  have hl := h.len
  by_cases h1 : hd l i = 47
  · by_cases h2 : hd l (i + 1) = 47
    · refine (comment_line A n c l i w h hn hi h1 h2).mono ?_
      rintro e w' ⟨rfl, rfl⟩
      refine ⟨ret_ib ?_ ?_, rfl⟩ <;> (unfold commentP; simp [hd_drop, h1, h2, nlR])
    · by_cases h3 : hd l (i + 1) = 42
      · refine (comment_star A n c l i w h hn hi h1 h3).mono ?_
        rintro e w' ⟨rfl, rfl⟩
        refine ⟨ret_ib ?_ ?_, rfl⟩ <;> (unfold commentP cmR; simp only [hd_drop, h1, h3, Nat.add_zero, List.drop_drop]; cases cmEnd (l.drop (i + 2)) <;> simp <;> omega)
      · refine (comment_no A n c l i w h hn hi (Or.inr ⟨h2, h3⟩)).mono ?_
        rintro e w' ⟨rfl, rfl⟩
        refine ⟨ret_ib ?_ ?_, rfl⟩ <;> (unfold commentP; simp [hd_drop, h1, h2, h3])
  · refine (comment_no A n c l i w h hn hi (Or.inl h1)).mono ?_
    rintro e w' ⟨rfl, rfl⟩
    refine ⟨ret_ib ?_ ?_, rfl⟩ <;> (unfold commentP; simp [hd_drop, h1])
end Go.Proofs.Ytjklnlocmmnclaa
