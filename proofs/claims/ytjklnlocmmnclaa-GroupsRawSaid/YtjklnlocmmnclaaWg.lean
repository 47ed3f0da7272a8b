/- Walks: characters without spliced lines' ends; all characters. -/
import Derived.Test.YtjklnlocmmnclaaWf
import Derived.Test.YtjklnlocmmnclaaMc9
namespace Go.Proofs.Ytjklnlocmmnclaa
open Go.RowKit

def SplRel (l : List Rn) (k : Nat) (acc : List Rn) : Prop := splicedP l = acc ++ splicedP (l.drop k) ∧ acc.length ≤ k
theorem spl_start (l : List Rn) : SplRel l 0 [] := ⟨by simp, by simp⟩
theorem u8_10 {c : UInt8} : c = 10 ↔ (c.toNat : Int) = 10 := u8_eq (n := 10) (by decide)
theorem u8_92 {c : UInt8} : c = 92 ↔ (c.toNat : Int) = 92 := u8_eq (n := 92) (by decide)
theorem spl_skip {l : List Rn} {k : Nat} {acc : List Rn} {r s : Rn} (h : SplRel l k acc) (hr : l[k]? = some r) (hs : l[k + 1]? = some s) (h1 : (r.c.toNat : Int) = 92) (h2 : (s.c.toNat : Int) = 10) : SplRel l (k + 2) acc := by
  refine ⟨?_, by have := h.2; omega⟩
  rw [h.1, drop_at hr, drop_at hs]
  simp only [splicedP]
  rw [if_pos ⟨u8_92.2 h1, u8_10.2 h2⟩]
theorem spl_keep {l : List Rn} {k : Nat} {acc : List Rn} {r s : Rn} (h : SplRel l k acc) (hr : l[k]? = some r) (hs : l[k + 1]? = some s) (h1 : ¬ ((r.c.toNat : Int) = 92 ∧ (s.c.toNat : Int) = 10)) : SplRel l (k + 1) (acc ++ [r]) := by
  refine ⟨?_, by have := h.2; simp; omega⟩
  rw [h.1, drop_at hr, drop_at hs]
  simp only [splicedP]
  rw [if_neg (by rw [u8_92, u8_10]; exact h1)]
  simp
theorem spl_last {l : List Rn} {k : Nat} {acc : List Rn} {r : Rn} (h : SplRel l k acc) (hr : l[k]? = some r) (hs : l.length ≤ k + 1) : SplRel l (k + 1) (acc ++ [r]) := by
  refine ⟨?_, by have := h.2; simp; omega⟩
  rw [h.1, drop_at hr, List.drop_of_length_le hs]
  simp [splicedP]
theorem spl_done {l : List Rn} {k : Nat} {acc : List Rn} (h : SplRel l k acc) (hk : l.length ≤ k) : splicedP l = acc := by
  rw [h.1, List.drop_of_length_le hk]
  simp [splicedP]

set_option maxHeartbeats 1000000 in
set_option maxRecDepth 1000000 in
theorem spliced_any {U : Nat → Prop} (A : Option Addr) (n c : Nat) (l : List Rn) (w : World) (h : Runes w U A n l) (hn : n ≤ 100000) :
    Calls Try.prog 56 #[.slice A n c] w (OwnRet w.heap.size 99 3 (splicedP l).length ((splicedP l).flatMap rnCells) w) := by
  have HL := Lib.hid h.len
  go_enter Try.func56, Try.ntmps56
  go_wp2
  go_loopw [3, 4] (fun bv iv wr => ∃ (k : Nat) (acc : List Rn), k ≤ n ∧ iv = .int .i64 k ∧ wr.ownsRow w.heap.size 99 3 bv acc.length (acc.flatMap rnCells) ∧ Below w.heap.size w wr ∧ SplRel l k acc) (fun _ iv _ => n - (intOf iv).toNat)
  case atStart => exact ⟨0, [], by omega, rfl, World.ownsRow_nil w _ 99 3, Below.refl _ _, spl_start _⟩
  case round =>
    obtain ⟨k, acc, hk, rfl, hown, hb, hP⟩ := hrel
    have hal : acc.length ≤ n := by have := hP.2; omega
    by_cases hlt : k < n
    · have hw := Sl.below h hb
      obtain ⟨b, off, r, rfl, _, _, hr, hc, hc1, hc2⟩ := Runes.at_ hw hlt
      have HR := Lib.hid hr
      clear hr
      by_cases hlt2 : k + 1 < n
      · obtain ⟨b', off', s, e', _, _, hs, hd, _, _⟩ := Runes.at_ hw hlt2
        injection e' with e'
        injection e' with e1 e2
        subst e1
        subst e2
        have HS := Lib.hid hs
        clear hs
        by_cases hsk : (r.c.toNat : Int) = 92 ∧ (s.c.toNat : Int) = 10
        · have HP := Lib.hid (spl_skip hP HR.out HS.out hsk.1 hsk.2)
          obtain ⟨g1, g2⟩ := hsk
          go_wp2
          go_roundw
          case rel => exact ⟨k + 2, acc, by omega, by go_num, hown, hb, HP.out⟩
          case measure => simp [intOf]; omega
        · have HP := Lib.hid (spl_keep hP HR.out HS.out hsk)
          have HN := Lib.hid hsk
          clear hsk
          go_wp2_with (at_builtin; refine app_one el96 _ rfl _ _ rfl w.heap.size _ _ _ rfl hown rfl rfl (by simp [Value.oneCell']) (by omega) (by omega) hb.size ?_; intro g cap w1 hown1 hgrow hat hlt1)
          all_goals
            first
            | (go_roundw
               case rel => 
                 refine ⟨k + 1, acc ++ [r], by omega, by go_num, ?_, below_app hb hown hgrow hb.size, HP.out⟩
                 first
                 | simpa [rnCells] using hown1
                 | (have h63 : (r.c.toNat : Int) = 92 := by assumption
                    simpa [rnCells, h63] using hown1)
               case measure => simp [intOf]; omega)
            | exact absurd ⟨by assumption, by simp_all⟩ HN.out
      · have HP := Lib.hid (spl_last hP HR.out (by rw [HL.out]; omega))
        go_wp2_with (at_builtin; refine app_one el96 _ rfl _ _ rfl w.heap.size _ _ _ rfl hown rfl rfl (by simp [Value.oneCell']) (by omega) (by omega) hb.size ?_; intro g cap w1 hown1 hgrow hat hlt1)
        all_goals
          go_roundw
          case rel => 
            refine ⟨k + 1, acc ++ [r], by omega, by go_num, ?_, below_app hb hown hgrow hb.size, HP.out⟩
            first
            | simpa [rnCells] using hown1
            | (have h63 : (r.c.toNat : Int) = 92 := by assumption
               simpa [rnCells, h63] using hown1)
          case measure => simp [intOf]; omega
    · have HD := Lib.hid (spl_done hP (by rw [HL.out]; omega))
      go_wp2
      go_ret
      refine ⟨_, rfl, ?_, hb⟩
      rw [HD.out]
      exact hown

theorem runes_own {w : World} {base n c : Nat} {A : Option Addr} {l : List Rn} (h : w.ownsRow base 99 3 (.slice A n c) n (l.flatMap rnCells)) : Runes w (fun _ => True) A n l := Sl.of_own h fun _ _ => trivial

theorem plainS_len : ∀ (l : List UInt8) (k i : Nat), (plainS k i l).length ≤ l.length
  | [], _, _ => by simp [plainS]
  | b :: l, 0, i => by
    simp only [plainS]
    split
    · have := plainS_len l 2 (i + 1)
      simp only [List.length_cons]
      omega
    · have := plainS_len l 0 (i + 1)
      simp only [List.length_cons]
      omega
  | b :: l, k + 1, i => by
    have := plainS_len l k (i + 1)
    simp only [plainS, List.length_cons]
    omega
theorem splicedP_len : ∀ (l : List Rn), (splicedP l).length ≤ l.length
  | [] => by simp [splicedP]
  | [r] => by simp [splicedP]
  | r :: s :: l => by
    have h1 := splicedP_len l
    have h2 := splicedP_len (s :: l)
    simp only [splicedP]
    split <;> simp only [List.length_cons] at * <;> omega
theorem charsP_len (s : List UInt8) : (charsP s).length ≤ s.length + 1 := by
  have h1 := plainS_len s 0 0
  have h2 := splicedP_len (plainS 0 0 s)
  unfold charsP
  simp only []
  split
  · simp; omega
  · omega
theorem endsNl_snoc (l : List Rn) (r : Rn) (h : l.getLast? = some r) : endsNl l = (r.c == 10) := by unfold endsNl; rw [h]

set_option maxHeartbeats 1000000 in
set_option maxRecDepth 1000000 in
theorem chars_any (s : ByteArray) (w : World) (hn : s.size ≤ 99999) :
    Calls Try.prog 42 #[.string s] w (OwnRet w.heap.size 99 3 (charsP s.data.toList).length ((charsP s.data.toList).flatMap rnCells) w) := by
  have hsl : s.data.toList.length = s.size := by simp
  have HSL := Lib.hid hsl
  have hpl := plainS_len s.data.toList 0 0
  have hsp := splicedP_len (plainS 0 0 s.data.toList)
  rw [hsl] at hpl
  clear hsl
  have HC := Lib.hid (show charsP s.data.toList = if s.size > 0 ∧ endsNl (splicedP (plainS 0 0 s.data.toList)) = false then splicedP (plainS 0 0 s.data.toList) ++ [⟨10, s.size, s.size⟩] else splicedP (plainS 0 0 s.data.toList) by
    unfold charsP; simp only [HSL.out])
  go_enter Try.func42, Try.ntmps42
  go_wp2_with fail
  refine (plain_any s _ (by omega)).mono ?_
  rintro e w1 ⟨v1, rfl, hown1, hb1⟩
  obtain ⟨A1, c1, rfl, _, _, _⟩ := own_form hown1
  go_wp2_with fail
  refine (spliced_any A1 _ c1 _ w1 (runes_own hown1) (by omega)).mono ?_
  rintro e w2 ⟨v2, rfl, hown2, hb2⟩
  obtain ⟨A2, c2, rfl, _, _, _⟩ := own_form hown2
  have hb := below_chain hb1 hb2
  have hown := own_mono hown2 hb1.size
  clear hown1 hb1 hb2
  generalize hout : splicedP (plainS 0 0 s.data.toList) = out at *
  have HO := Lib.hid hout
  clear hout
  by_cases hs0 : s.size = 0
  · have hx : ¬ 0 < s.size := by omega
    go_wp2
    go_ret
    refine ⟨_, rfl, ?_, hb⟩
    rw [HC.out, if_neg (by omega)]
    exact hown
  · have hx : 0 < s.size := by omega
    by_cases ho0 : out.length = 0
    · have hoe : out = [] := List.eq_nil_of_length_eq_zero ho0
      subst hoe
      have hz : ((0 : Nat) : Int) = 0 := rfl
      go_wp2_with (at_builtin; refine app_one el96 _ rfl _ _ rfl w.heap.size _ _ _ rfl hown rfl rfl (by simp [Value.oneCell']) (by simp) (by simp) hb.size ?_; intro g cap w3 hown3 hgrow hat hlt1)
      go_ret
      refine ⟨_, rfl, ?_, below_app hb hown hgrow hb.size⟩
      rw [HC.out, if_pos ⟨hx, rfl⟩]
      simpa [rnCells] using hown3
    · obtain ⟨b, off, r, rfl, _, _, hr, hc, _, _⟩ := Runes.at_ (runes_own hown) (k := out.length - 1) (by omega)
      have hpos : 1 ≤ out.length := by omega
      have hposI : (1 : Int) ≤ (out.length : Int) := by omega
      have hlt1 : (out.length : Int) - 1 < (out.length : Int) := by omega
      have hlast : out.getLast? = some r := by rw [List.getLast?_eq_getElem?]; exact hr
      have HE := Lib.hid (endsNl_snoc out r hlast)
      clear hr hlast
      by_cases h10 : (r.c.toNat : Int) = 10
      · go_wp2
        go_ret
        refine ⟨_, rfl, ?_, hb⟩
        rw [HC.out, if_neg (by rw [HE.out, u8_10.2 h10]; simp)]
        exact hown
      · have hne : (r.c == 10) = false := by
          rw [beq_eq_false_iff_ne]; intro hh; exact h10 (u8_10.1 hh)
        have HNE := Lib.hid hne
        clear hne
        go_wp2_with (at_builtin; refine app_one el96 _ rfl _ _ rfl w.heap.size _ _ _ rfl hown rfl rfl (by simp [Value.oneCell']) (by omega) (by omega) hb.size ?_; intro g cap w3 hown3 hgrow hat hlt1)
        all_goals try (exfalso; omega)
        · go_ret
          refine ⟨_, rfl, ?_, below_app hb hown hgrow hb.size⟩
          rw [HC.out, if_pos ⟨hx, by rw [HE.out, HNE.out]⟩]
          simpa [rnCells] using hown3
        · exfalso
          have hcon : ((r.c.toNat : Int) != 10) = false := by simp_all
          simp at hcon
          exact h10 hcon
end Go.Proofs.Ytjklnlocmmnclaa
