/- Walks: the reference's kinds of lines; few tokens. -/
import Derived.Test.YtjklnlocmmnclaaWn
namespace Go.Proofs.Ytjklnlocmmnclaa
open Go.RowKit

def KRel (t : List UInt8) (k : Nat) : Prop := kindW t = kindFrom t k (wordsP.drop (k - 2))
theorem kRel_two (t : List UInt8) : KRel t 2 := rfl
theorem kRel_at (t : List UInt8) (k : Nat) (s : List UInt8) (hk : 2 ≤ k) (h : wordsP[k - 2]? = some s) : kindFrom t k (wordsP.drop (k - 2)) = if s = t then k else kindFrom t (k + 1) (wordsP.drop (k + 1 - 2)) := by
  obtain ⟨hl, rfl⟩ := List.getElem?_eq_some_iff.1 h
  rw [List.drop_eq_getElem_cons hl, show k + 1 - 2 = k - 2 + 1 by omega]
  rfl
theorem kRel_end (t : List UInt8) : kindFrom t 14 (wordsP.drop (14 - 2)) = 14 := rfl

set_option maxHeartbeats 2000000 in
theorem kindR_any {U : Nat → Prop} (A : Option Addr) (n c : Nat) (l : List Tok) (w : World) (h : Toks w U A n l) (hn : n ≤ 1000000) :
    Calls Try.prog 13 #[.slice A n c] w fun e w' => e = .returned (.int .i64 (kindT l)) ∧ Below w.heap.size w w' := by
  have hl := h.len
  match l, hl with
  | [], hl =>
    obtain rfl : n = 0 := hl.symm
    go_enter Try.func13, Try.ntmps13
    go_wp2
    go_ret
    exact ⟨rfl, Below.refl _ _⟩
  | [x], hl =>
    obtain rfl : n = 1 := hl.symm
    obtain ⟨b, off, x', rfl, _, hblt, hx, hc0, hc1, hc2, hc3, hc4, hc5, hc6, hc7⟩ := h.at_ (i := 0) (by decide)
    obtain rfl : x = x' := by simpa using hx
    simp only [Nat.zero_mul, Nat.add_zero] at hc0 hc1 hc2 hc3 hc4 hc5 hc6 hc7
    have HH := Lib.hid (show ∀ wx : World, Calls Try.prog 37 #[.agg #[.int .i64 x.k, .string x.t, .bool x.sp, .string x.f, .int .i64 x.a, .int .i64 x.b, .bool x.m, .slice x.sA x.sn x.sc]] wx fun e w' => e = .returned (.bool (hashB x.k x.t.data.toList)) ∧ Below wx.heap.size wx w' from fun wx => hashR_any x wx)
    go_enter Try.func13, Try.ntmps13
    go_wp2_with (go_at_call 37; refine (HH.out _).mono ?_; rintro e w1 ⟨rfl, hb1⟩)
    all_goals
      go_ret
      have hq := ‹(!hashB x.k x.t.data.toList) = _›
      refine ⟨ret_int' ?_, hb1⟩
      simp only [Bool.not_eq_true', Bool.not_eq_false'] at hq
      simp [kindT, kindP, kt, hq]
  | x :: y :: r, hl =>
    have hn2 : 2 ≤ n := by simp at hl; omega
    have hnI : ¬ (n : Int) = 1 := by omega
    have hnI0 : ¬ n = 0 := by omega
    have h1n : (1 : Int) < (n : Int) := by omega
    obtain ⟨b, off, x', rfl, _, hblt, hx, hc0, hc1, hc2, hc3, hc4, hc5, hc6, hc7⟩ := h.at_ (i := 0) (by omega)
    obtain rfl : x = x' := by simpa using hx
    obtain ⟨b', off', y', e', _, _, hy, hd0, hd1, _, _, _, _, _, _⟩ := h.at_ (i := 1) (by omega)
    obtain rfl : y = y' := by simpa using hy
    injection e' with e'
    injection e' with e1 e2
    subst e1
    subst e2
    simp only [Nat.zero_mul, Nat.add_zero, Nat.one_mul] at hc0 hc1 hc2 hc3 hc4 hc5 hc6 hc7 hd0 hd1
    have HH := Lib.hid (show ∀ wx : World, Calls Try.prog 37 #[.agg #[.int .i64 x.k, .string x.t, .bool x.sp, .string x.f, .int .i64 x.a, .int .i64 x.b, .bool x.m, .slice x.sA x.sn x.sc]] wx fun e w' => e = .returned (.bool (hashB x.k x.t.data.toList)) ∧ Below wx.heap.size wx w' from fun wx => hashR_any x wx)
    have hkd : kindT (x :: y :: r) = if hashB x.k x.t.data.toList then (if y.k = 1 then kindW y.t.data.toList else 14) else 0 := rfl
    rw [hkd]
    clear hkd hl hx hy h
    cases hq : hashB x.k x.t.data.toList
    · go_enter Try.func13, Try.ntmps13
      go_wp2_with (go_at_call 37; refine (HH.out _).mono ?_; rintro e w1 ⟨rfl, hb1⟩)
      go_ret
      exact ⟨rfl, hb1⟩
    · have HD := Lib.hid (show ∀ w' : World, Below w.heap.size w w' → w'.cell? ⟨b, off + 8, none⟩ = some (.int .i64 y.k) ∧ w'.cell? ⟨b, off + 8 + 1, none⟩ = some (.string y.t) from fun w' hb => ⟨(hb.cell (p := ⟨b, _, none⟩) hblt).trans hd0, (hb.cell (p := ⟨b, _, none⟩) hblt).trans hd1⟩)
      clear hd0 hd1
      rw [if_pos rfl]
      generalize hkk : (if y.k = 1 then kindW y.t.data.toList else 14) = kk
      have HKK := Lib.hid hkk
      clear hkk
      go_enter Try.func13, Try.ntmps13
      go_wp2_with (first | (go_at_call 37; refine (HH.out _).mono ?_; rintro e w1 ⟨rfl, hb1⟩) | (go_at_call 38; refine (wordsR_any _).mono ?_; rintro e w2 ⟨rfl, rfl⟩))
      go_loopw [4] (fun iv wr => ∃ k : Nat, 2 ≤ k ∧ k ≤ 14 ∧ iv = .int .i64 k ∧ (y.k = 1 → KRel y.t.data.toList k) ∧ Below w.heap.size w wr ∧ wr.heap[w1.heap.size]? = some (.cells wordsRCells 9)) (fun iv _ => 14 - (intOf iv).toNat)
      case atStart => exact ⟨2, by omega, by omega, rfl, fun _ => kRel_two _, hb1.alloc hb1.size _, heap_alloc_new w1 _⟩
      case round =>
        obtain ⟨k, hk2, hk, rfl, hR, hbr, hwd⟩ := hrel
        by_cases hlt : k < 14
        · obtain ⟨s, hs, hsc, _⟩ := wordsR_cell k hlt
          have hcx : wr.cell? ⟨w1.heap.size, k, none⟩ = some (.string s) := by rw [cell_of_row wr _ _ _ _ _ hwd]; exact hsc
          obtain ⟨he0, he1⟩ := HD.out wr hbr
          have hs2 : wordsP[k - 2]? = some s.data.toList := by
            obtain ⟨j, rfl⟩ : ∃ j, k = j + 2 := ⟨k - 2, by omega⟩
            simpa [wordsRP] using hs
          have HT := Lib.hid (kRel_at y.t.data.toList k _ hk2 hs2)
          clear hs hs2 hsc
          by_cases hyk : y.k = 1
          · have hcz : ((y.k : Int) == 1) = true := by simp [hyk]
            go_wp2_with fail
            go_quiet (fail)
            have hbq : Below w.heap.size w (wr.drewN nq) := below_drewN hbr nq
            go_wp2
            all_goals
              first
              | (go_roundw
                 case rel =>
                   refine ⟨k + 1, by omega, by omega, by go_num, ?_, hbq, hwd⟩
                   intro _
                   unfold KRel
                   rw [show kindW y.t.data.toList = _ from hR hyk, HT.out, if_neg ?_]
                   intro e
                   have hne := ‹(y.t.toList == s.toList) = false›
                   rw [ByteArray.toList_eq, ByteArray.toList_eq, e] at hne
                   simp at hne
                 case measure => simp [intOf]; omega)
              | (go_ret
                 refine ⟨ret_int' ?_, hbq⟩
                 have hee := ‹(y.t.toList == s.toList) = true›
                 rw [ByteArray.toList_eq, ByteArray.toList_eq] at hee
                 have hee' : y.t.data.toList = s.data.toList := by simpa using hee
                 rw [← HKK.out, if_pos hyk, show kindW y.t.data.toList = _ from hR hyk, HT.out, if_pos hee'.symm])
          · have hcz : ((y.k : Int) == 1) = false := by simp [hyk]
            go_wp2_with fail
            go_quiet (fail)
            have hbq : Below w.heap.size w (wr.drewN nq) := below_drewN hbr nq
            go_wp2
            go_roundw
            case rel => exact ⟨k + 1, by omega, by omega, by go_num, fun hh => absurd hh hyk, hbq, hwd⟩
            case measure => simp [intOf]; omega
        · obtain rfl : k = 14 := by omega
          go_wp2
          go_ret
          refine ⟨ret_int' ?_, hbr⟩
          rw [← HKK.out]
          by_cases hyk : y.k = 1
          · rw [if_pos hyk, show kindW y.t.data.toList = _ from hR hyk]
            rfl
          · rw [if_neg hyk]
            rfl

/-- Few tokens, short ones, with few sites. -/
def fewB (most : Nat) (l : List Tok) : Bool := decide (l.length ≤ most) && l.all fun x => decide (x.t.size ≤ 300) && decide (x.sn ≤ 20)
def FewRel (l : List Tok) (k : Nat) : Prop := (l.all fun x => decide (x.t.size ≤ 300) && decide (x.sn ≤ 20)) = ((l.drop k).all fun x => decide (x.t.size ≤ 300) && decide (x.sn ≤ 20))
theorem few_at {l : List Tok} {k : Nat} {x : Tok} (h : FewRel l k) (hx : l[k]? = some x) (h1 : x.t.size ≤ 300) (h2 : x.sn ≤ 20) : FewRel l (k + 1) := by
  unfold FewRel at *
  obtain ⟨hl, rfl⟩ := List.getElem?_eq_some_iff.1 hx
  rw [h, List.drop_eq_getElem_cons hl]
  simp only [List.all_cons]
  rw [show (decide (l[k].t.size ≤ 300) && decide (l[k].sn ≤ 20)) = true by simp [h1, h2]]
  rfl
theorem few_no {l : List Tok} {k : Nat} {x : Tok} (h : FewRel l k) (hx : l[k]? = some x) (h1 : ¬ (x.t.size ≤ 300 ∧ x.sn ≤ 20)) : (l.all fun x => decide (x.t.size ≤ 300) && decide (x.sn ≤ 20)) = false := by
  unfold FewRel at *
  obtain ⟨hl, rfl⟩ := List.getElem?_eq_some_iff.1 hx
  rw [h, List.drop_eq_getElem_cons hl]
  simp only [List.all_cons]
  rw [show (decide (l[k].t.size ≤ 300) && decide (l[k].sn ≤ 20)) = false by simp; omega]
  rfl

set_option maxHeartbeats 1000000 in
theorem few_any {U : Nat → Prop} (A : Option Addr) (n c most : Nat) (l : List Tok) (w : World) (h : Toks w U A n l) (hn : n ≤ 9223372036854775807) (hm : most ≤ 100000) (hsz : ∀ x ∈ l, x.t.size ≤ maxLen ∧ x.sn ≤ maxLen) :
    Calls Try.prog 10 #[.slice A n c, .int .i64 (most : Int)] w fun e w' => e = .returned (.bool (fewB most l)) ∧ w = w' := by
  have HL := Lib.hid h.len
  by_cases hgt : n > most
  · have hg : (most : Int) < (n : Int) := by omega
    go_enter Try.func10, Try.ntmps10
    go_wp2
    go_ret
    refine ⟨ret_bool' ?_, rfl⟩
    unfold fewB
    rw [show decide (l.length ≤ most) = false by rw [HL.out]; simp; omega]
    rfl
  · have hg : ¬ (most : Int) < (n : Int) := by omega
    go_enter Try.func10, Try.ntmps10
    go_wp2
    go_loop [5] (fun iv => ∃ k : Nat, k ≤ n ∧ iv = .int .i64 k ∧ FewRel l k) (fun iv => n - (intOf iv).toNat)
    case atStart => exact ⟨0, by omega, rfl, rfl⟩
    case round =>
      obtain ⟨k, hk, rfl, hF⟩ := hrel
      by_cases hlt : k < n
      · obtain ⟨b, off, x, rfl, _, hblt, hx, _, hc1, _, _, _, _, _, hc7⟩ := h.at_ hlt
        have hxs := hsz x (List.mem_of_getElem? hx)
        unfold maxLen at hxs
        have HX := Lib.hid hx
        obtain ⟨hx1, hx2⟩ := hxs
        clear hx h hsz
        go_wp2
        all_goals
          first
          | (go_round
             case rel => exact ⟨k + 1, by omega, by go_num, few_at hF HX.out (by omega) (by omega)⟩
             case measure => simp [intOf]; omega)
          | (go_ret
             refine ⟨ret_bool' ?_, rfl⟩
             unfold fewB
             rw [few_no hF HX.out (by omega)]
             simp)
      · obtain rfl : k = n := by omega
        go_wp2
        go_ret
        refine ⟨ret_bool' ?_, rfl⟩
        unfold fewB
        rw [show (l.all fun x => decide (x.t.size ≤ 300) && decide (x.sn ≤ 20)) = _ from hF, List.drop_of_length_le (by rw [HL.out]; omega), show decide (l.length ≤ most) = true by rw [HL.out]; simp; omega]
        rfl
end Go.Proofs.Ytjklnlocmmnclaa
