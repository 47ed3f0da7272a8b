/- Walks: kinds of lines. -/
import Derived.Test.YtjklnlocmmnclaaWl
import Derived.Test.YtjklnlocmmnclaaMc9
import Derived.Deep.RegionLaw
namespace Go.Proofs.Ytjklnlocmmnclaa
open Go.RowKit

theorem ret_bool' {a b : Bool} (h : a = b) : Ending.returned (.bool a) = .returned (.bool b) := by rw [h]
set_option maxHeartbeats 400000 in
theorem hash_any (x : Tok) (w : World) :
    Calls Try.prog 52 #[tokV x] w fun e w' => e = .returned (.bool (hashB x.k x.t.data.toList)) ∧ Below w.heap.size w w' := by
  unfold tokV
  go_enter Try.func52, Try.ntmps52
  go_wp2
  all_goals
    go_ret
    refine ⟨ret_bool' ?_, (Below.refl _ _).alloc (Nat.le_refl _) _⟩
    try simp only [ByteArray.toList_eq] at *
    simp [hashB, *]
theorem is_any (x : Tok) (s : ByteArray) (w : World) :
    Calls Try.prog 54 #[tokV x, .string s] w fun e w' => e = .returned (.bool (decide (x.k = 5) && x.t.data.toList == s.data.toList)) ∧ Below w.heap.size w w' := by
  unfold tokV
  go_enter Try.func54, Try.ntmps54
  go_wp2
  all_goals
    go_ret
    refine ⟨ret_bool' ?_, (Below.refl _ _).alloc (Nat.le_refl _) _⟩
    try simp only [ByteArray.toList_eq] at *
    simp [*]
set_option maxHeartbeats 400000 in
theorem hashR_any (x : Tok) (w : World) :
    Calls Try.prog 37 #[tokV x] w fun e w' => e = .returned (.bool (hashB x.k x.t.data.toList)) ∧ Below w.heap.size w w' := by
  have h1 := Lib.hid (fun wx : World => is_any x ⟨#[35]⟩ wx)
  have h2 := Lib.hid (fun wx : World => is_any x ⟨#[37, 58]⟩ wx)
  unfold tokV at *
  go_enter Try.func37, Try.ntmps37
  go_wp2_with fail
  refine (h1.out _).mono ?_
  rintro e w1 ⟨rfl, hb1⟩
  have hblk := (hb1.block w.heap.size (by simp)).trans (heap_alloc_new w _)
  have hB1 : Below w.heap.size w w1 := ((Below.refl _ _).alloc (Nat.le_refl _) _).trans (hb1.mono (by simp))
  have c0 := cell_of_row w1 _ 0 _ _ _ hblk
  have c1 := cell_of_row w1 _ 1 _ _ _ hblk
  have c2 := cell_of_row w1 _ 2 _ _ _ hblk
  have c3 := cell_of_row w1 _ 3 _ _ _ hblk
  have c4 := cell_of_row w1 _ 4 _ _ _ hblk
  have c5 := cell_of_row w1 _ 5 _ _ _ hblk
  have c6 := cell_of_row w1 _ 6 _ _ _ hblk
  have c7 := cell_of_row w1 _ 7 _ _ _ hblk
  clear hblk
  cases hq : (decide (x.k = 5) && x.t.data.toList == [35])
  · go_wp2_with (go_at_call 54; refine (h2.out _).mono ?_; rintro e w2 ⟨rfl, hb2⟩)
    all_goals
      go_ret
      refine ⟨ret_bool' ?_, below_chain hB1 hb2⟩
      cases hk : decide (x.k = 5) <;> simp_all [hashB]
  · go_wp2
    go_ret
    refine ⟨ret_bool' ?_, hB1⟩
    simp [hashB] at hq ⊢
    simp [hq]

theorem KMap.below {w w' : World} {b k : Nat} (h : KMap w b k) (hb : Below w.heap.size w w') : KMap w' b k := by
  obtain ⟨es, c, h1, h2⟩ := h
  exact ⟨es, c, (hb.block b (lt_of_blk h1)).trans h1, h2⟩
theorem TabOk.below {w w' : World} {tb : Nat} (h : TabOk w tb) (hb : Below w.heap.size w w') : TabOk w' tb := by
  rcases h with h | ⟨mb, h1, h2, h3⟩
  · exact .inl ((hb.block tb (lt_of_blk h)).trans h)
  · exact .inr ⟨mb, (hb.block tb (lt_of_blk h1)).trans h1, h2.below hb, h3⟩
theorem TabOk.drew {w : World} {tb : Nat} (h : TabOk w tb) : TabOk w.drew tb := h

set_option maxHeartbeats 1000000 in
theorem tkind_any {U : Nat → Prop} (A : Option Addr) (n c tb : Nat) (l : List Tok) (w : World) (h : Toks w U A n l) (hn : n ≤ 1000000) (hsz : ∀ x ∈ l, x.t.size ≤ maxLen) (ht : TabOk w tb) :
    Calls Try.prog 36 #[.pointer (some ⟨tb, 0, none⟩), .slice A n c] w (AskT w tb (.int .i64 (kindT l))) := by
  have hl := h.len
  match l, hl with
  | [], hl =>
    obtain rfl : n = 0 := hl.symm
    go_enter Try.func36, Try.ntmps36
    go_wp2
    go_ret
    exact ⟨rfl, ht, Bar.refl _ _⟩
  | [x], hl =>
    obtain rfl : n = 1 := hl.symm
    obtain ⟨b, off, x', rfl, _, hblt, hx, hc0, hc1, hc2, hc3, hc4, hc5, hc6, hc7⟩ := h.at_ (i := 0) (by decide)
    obtain rfl : x = x' := by simpa using hx
    simp only [Nat.zero_mul, Nat.add_zero] at hc0 hc1 hc2 hc3 hc4 hc5 hc6 hc7
    have HH := Lib.hid (show ∀ wx : World, Calls Try.prog 52 #[.agg #[.int .i64 x.k, .string x.t, .bool x.sp, .string x.f, .int .i64 x.a, .int .i64 x.b, .bool x.m, .slice x.sA x.sn x.sc]] wx fun e w' => e = .returned (.bool (hashB x.k x.t.data.toList)) ∧ Below wx.heap.size wx w' from fun wx => hash_any x wx)
    go_enter Try.func36, Try.ntmps36
    go_wp2_with (go_at_call 52; refine (HH.out _).mono ?_; rintro e w1 ⟨rfl, hb1⟩)
    all_goals
      go_ret
      have hq := ‹(!hashB x.k x.t.data.toList) = _›
      refine ⟨ret_int' ?_, ht.below hb1, Bar.below hb1⟩
      simp only [Bool.not_eq_true', Bool.not_eq_false'] at hq
      simp [kindT, kindP, kt, hq]
  | x :: y :: r, hl =>
    have hn2 : 2 ≤ n := by simp at hl; omega
    have hnI : ¬ (n : Int) = 1 := by omega
    have hnI0 : ¬ n = 0 := by omega
    obtain ⟨b, off, x', rfl, _, hblt, hx, hc0, hc1, hc2, hc3, hc4, hc5, hc6, hc7⟩ := h.at_ (i := 0) (by omega)
    obtain rfl : x = x' := by simpa using hx
    obtain ⟨b', off', y', e', _, _, hy, hd0, hd1, _, _, _, _, _, _⟩ := h.at_ (i := 1) (by omega)
    obtain rfl : y = y' := by simpa using hy
    injection e' with e'
    injection e' with e1 e2
    subst e1
    subst e2
    have hys : y.t.size ≤ maxLen := hsz y (by simp)
    simp only [Nat.zero_mul, Nat.add_zero, Nat.one_mul] at hc0 hc1 hc2 hc3 hc4 hc5 hc6 hc7 hd0 hd1
    have HH := Lib.hid (show ∀ wx : World, Calls Try.prog 52 #[.agg #[.int .i64 x.k, .string x.t, .bool x.sp, .string x.f, .int .i64 x.a, .int .i64 x.b, .bool x.m, .slice x.sA x.sn x.sc]] wx fun e w' => e = .returned (.bool (hashB x.k x.t.data.toList)) ∧ Below wx.heap.size wx w' from fun wx => hash_any x wx)
    have hkd : kindT (x :: y :: r) = if hashB x.k x.t.data.toList then (if y.k = 1 then kindW y.t.data.toList else 14) else 0 := rfl
    rw [hkd]
    clear hkd hsz hl hx hy h
    cases hq : hashB x.k x.t.data.toList
    · go_enter Try.func36, Try.ntmps36
      go_wp2_with (go_at_call 52; refine (HH.out _).mono ?_; rintro e w1 ⟨rfl, hb1⟩)
      go_ret
      exact ⟨rfl, ht.below hb1, Bar.below hb1⟩
    · by_cases hyk : y.k = 1
      · rw [if_pos rfl, if_pos hyk]
        go_enter Try.func36, Try.ntmps36
        go_wp2_with (go_at_call 52; refine (HH.out _).mono ?_; rintro e w1 ⟨rfl, hb1⟩; have he0 : w1.cell? ⟨b, off + 8, none⟩ = some (.int .i64 y.k) := (hb1.cell (p := ⟨b, _, none⟩) hblt).trans hd0; have he1 : w1.cell? ⟨b, off + 8 + 1, none⟩ = some (.string y.t) := (hb1.cell (p := ⟨b, _, none⟩) hblt).trans hd1; have htb1 := ht.below hb1)
        have h1n : (1 : Int) < (n : Int) := by omega
        go_region_law (go_simp; go_at_call 53; refine (of_any tb y.t _ hys (htb1.drew)).mono ?_; rintro e w2 ⟨rfl, ht2, hbar⟩)
        all_goals
          go_wp2
          go_ret
          exact ⟨rfl, ht2, (Bar.below hb1).drew.trans hbar⟩
      · rw [if_pos rfl, if_neg hyk]
        go_enter Try.func36, Try.ntmps36
        go_wp2_with (go_at_call 52; refine (HH.out _).mono ?_; rintro e w1 ⟨rfl, hb1⟩; have he0 : w1.cell? ⟨b, off + 8, none⟩ = some (.int .i64 y.k) := (hb1.cell (p := ⟨b, _, none⟩) hblt).trans hd0; have htb1 := ht.below hb1)
        go_ret
        exact ⟨rfl, htb1, Bar.below hb1⟩
end Go.Proofs.Ytjklnlocmmnclaa
