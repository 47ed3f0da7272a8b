/- Walks: the law of deep conditions. -/
import Derived.Test.YtjklnlocmmnclaaQb
namespace Go.Proofs.Ytjklnlocmmnclaa
open Go.RowKit

/-- A text's bytes. -/
def Str (s : ByteArray) (l : List UInt8) : Prop := s.data.toList = l
theorem Str.app {s t : ByteArray} {l m : List UInt8} (h : Str s l) (h' : Str t m) : Str (s ++ t) (l ++ m) := by
  unfold Str at *
  simp [h, h']
theorem Str.size {s : ByteArray} {l : List UInt8} (h : Str s l) : s.size = l.length := by
  unfold Str at h
  rw [← h]
  simp
theorem len_blk (a i : Nat) : (repL (opnL ++ repL elfL a) i).length = i * (11 + a * 8) := by
  simp only [repL_len, List.length_append, opnL, elfL, List.length_cons, List.length_nil]
theorem Str.size1 {s : ByteArray} {a i : Nat} (h : Str s (repL (opnL ++ repL elfL a) i)) (ha : a ≤ 10) (hi : i ≤ 60) : s.size ≤ 6000 := by
  have hm : i * (11 + a * 8) ≤ 60 * 91 := Nat.mul_le_mul hi (by omega)
  rw [h.size, len_blk]
  omega
theorem Str.size2 {s : ByteArray} {a i k : Nat} (h : Str s (repL (opnL ++ repL elfL a) i ++ (opnL ++ repL elfL k))) (ha : a ≤ 10) (hi : i ≤ 60) (hk : k ≤ a) : s.size ≤ 6000 := by
  have hm : i * (11 + a * 8) ≤ 60 * 91 := Nat.mul_le_mul hi (by omega)
  rw [h.size, List.length_append, len_blk, List.length_append, repL_len]
  simp only [opnL, elfL, List.length_cons, List.length_nil]
  omega
theorem Str.size3 {s : ByteArray} {a i k : Nat} (h : Str s (repL (opnL ++ repL elfL a) i ++ repL endL k)) (ha : a ≤ 10) (hi : i ≤ 60) (hk : k ≤ i) : s.size ≤ 6000 := by
  have hm : i * (11 + a * 8) ≤ 60 * 91 := Nat.mul_le_mul hi (by omega)
  rw [h.size, List.length_append, len_blk, repL_len]
  simp only [endL, List.length_cons, List.length_nil]
  omega
def DRel1 (w : World) (d a : Nat) (sv iv : Value) (wr : World) : Prop := ∃ (i : Nat) (s : ByteArray), i ≤ d ∧ iv = .int .i64 i ∧ sv = .string s ∧ Str s (repL (opnL ++ repL elfL a) i) ∧ wr = w
def DRel2 (w : World) (i a : Nat) (sv iv : Value) (wr : World) : Prop := ∃ (k : Nat) (s : ByteArray), k ≤ a ∧ iv = .int .i64 k ∧ sv = .string s ∧ Str s (repL (opnL ++ repL elfL a) i ++ (opnL ++ repL elfL k)) ∧ wr = w
def DRel3 (w : World) (d a : Nat) (sv iv : Value) (wr : World) : Prop := ∃ (k : Nat) (s : ByteArray), k ≤ d ∧ iv = .int .i64 k ∧ sv = .string s ∧ Str s (repL (opnL ++ repL elfL a) d ++ repL endL k) ∧ wr = w
def DRel4 (w : World) (d a : Nat) (lv iv : Value) (wr : World) : Prop := ∃ (k n c : Nat) (A : Option Addr), k ≤ d ∧ iv = .int .i64 k ∧ lv = .slice A n c ∧ PeelAt wr a (d - k) A n c ∧ Below w.heap.size w wr
set_option maxRecDepth 1000000 in
set_option maxHeartbeats 4000000 in
theorem groupsDeep_any (deep arms : Int) (w : World) :
    Calls Try.prog 8 #[.int .i64 deep, .int .i64 arms] w fun e w' => e = .returned (.bool true) ∧ Below w.heap.size w w' := by
  by_cases hin : 0 ≤ deep ∧ deep ≤ 60 ∧ 0 ≤ arms ∧ arms ≤ 10
  · obtain ⟨h1, h2, h3, h4⟩ := hin
    obtain ⟨d, rfl⟩ : ∃ d : Nat, deep = (d : Int) := ⟨deep.toNat, by omega⟩
    obtain ⟨a, rfl⟩ : ∃ a : Nat, arms = (a : Int) := ⟨arms.toNat, by omega⟩
    have hd : d ≤ 60 := by omega
    have ha : a ≤ 10 := by omega
    go_enter Try.func8, Try.ntmps8
    go_wp2_with fail
    go_loopw [5, 6, 7] (fun sv iv _ wr => DRel1 w d a sv iv wr) (fun _ iv _ _ => d - (intOf iv).toNat)
    case atStart => exact ⟨0, ⟨#[]⟩, by omega, rfl, rfl, rfl, rfl⟩
    case round =>
      obtain ⟨i, s, hi, rfl, rfl, hs, rfl⟩ := hrel
      have HS := Lib.hid hs
      have hz := hs.size1 ha (by omega)
      by_cases hlt : i < d
      · clear hs
        go_wp2_with fail
        go_loopw [5, 7] (fun sv iv wx => DRel2 wr i a sv iv wx) (fun _ iv _ => a - (intOf iv).toNat)
        case atStart => exact ⟨0, _, by omega, rfl, rfl, HS.out.app (m := opnL) rfl, rfl⟩
        case round =>
          obtain ⟨k, t, hk, rfl, rfl, ht, rfl⟩ := hrel
          have HT := Lib.hid ht
          have hz2 := ht.size2 ha (by omega) hk
          clear ht
          by_cases hlt2 : k < a
          · go_wp2_with fail
            go_roundw
            case rel => exact ⟨k + 1, _, by omega, by go_num, rfl, by have := HT.out.app (t := { data := #[35, 101, 108, 105, 102, 32, 49, 10] }) (m := elfL) rfl; simpa [repL] using this, rfl⟩
            case measure => simp [intOf]; omega
          · obtain rfl : k = a := by omega
            go_wp2_with fail
            go_roundw
            case rel => exact ⟨i + 1, _, by omega, by go_num, rfl, HT.out, rfl⟩
            case measure => simp [intOf]; omega
      · obtain rfl : i = d := by omega
        clear hs
        go_wp2_with fail
        go_loopw [5, 8] (fun sv iv wx => DRel3 wr i a sv iv wx) (fun _ iv _ => i - (intOf iv).toNat)
        case atStart => exact ⟨0, _, by omega, rfl, rfl, by simpa [repL] using HS.out, rfl⟩
        case round =>
          obtain ⟨k, t, hk, rfl, rfl, ht, rfl⟩ := hrel
          have HT := Lib.hid ht
          have hz2 := ht.size3 ha (by omega) hk
          clear ht
          by_cases hlt2 : k < i
          · go_wp2_with fail
            go_roundw
            case rel => exact ⟨k + 1, _, by omega, by go_num, rfl, by have := HT.out.app (t := { data := #[35, 101, 110, 100, 105, 102, 10] }) (m := endL) rfl; simpa [repL] using this, rfl⟩
            case measure => simp [intOf]; omega
          · obtain rfl : k = i := by omega
            have hT2 : Str (t ++ { data := #[121, 10] }) (deepB k a) := HT.out.app (m := [121, 10]) rfl
            have hsz := hT2.size
            rw [deepB_len] at hsz
            have hmul : k * (11 + a * 8) ≤ 60 * 91 := Nat.mul_le_mul hd (by omega)
            have hsz2 : (t ++ { data := #[121, 10] }).size ≤ 6000 := by omega
            have hll := llP_len (t ++ { data := #[121, 10] })
            have HL := Lib.hid (lines8_any (t ++ { data := #[121, 10] }) wr (by omega) (by omega))
            have HB := Lib.hid (fun (A : Option Addr) (n c : Nat) (w1 : World) => deep_build (A := A) (n := n) (c := c) hT2 hd (by omega) w1)
            generalize hst : t ++ { data := #[121, 10] } = sT at hT2 HL HB hll hsz2
            clear hsz hmul hT2
            obtain ⟨n, HN⟩ : ∃ n, Hid (n = (llP sT).length) := ⟨_, Lib.hid rfl⟩
            rw [← HN.out] at hll
            go_wp2_with fail
            refine HL.out.mono ?_
            clear hst
            rintro e w1 ⟨A1, c1, rfl, hc1, hcm1, hLn, hb1⟩
            rw [← HN.out] at hLn hc1 ⊢
            go_wp2_with fail
            refine (HB.out A1 n c1 w1 HN.out hLn).mono ?_
            rintro e w2 ⟨A2, c2, N, l, vA, vc, b, off, rfl, hN, hc2, hcm2, rfl, hbl, hc0, hI, hP, hdeep, hb2⟩
            have hbb2 := below_chain hb1 hb2
            have HP := Lib.hid (show PeelAt w2 a k (some ⟨b, off, none⟩) N c2 from ⟨l, hP, hI, by omega, hcm2⟩)
            have HDP := Lib.hid hdeep
            clear hP hI hdeep hb1 hb2 hLn HB HL
            unfold maxLen at hcm2
            have hNk : (k ≤ 1 ∧ N = k) ∨ (2 ≤ k ∧ N = 1) := by omega
            clear hN
            rcases hNk with ⟨hk1, e⟩ | ⟨hk1, e⟩
            all_goals
              first
              | (have hk2 : (k : Int) ≤ 1 := by omega)
              | (have hk2 : ¬ (k : Int) ≤ 1 := by omega)
              clear hk1
              subst N
              go_wp2_with fail
              refine (HDP.out w2 (Below.refl _ _)).mono ?_
              rintro e w3 ⟨rfl, hb3⟩
              have hbb3 := below_chain hbb2 hb3
              have HP3 := Lib.hid (HP.out.below hb3)
              have hc0' := (hb3.cell (p := ⟨b, _, none⟩) hbl).trans hc0
              try simp only [Nat.one_mul] at hc0'
              clear hbb2 HDP HP hc0
              go_wp2_with fail
              go_loopw [9, 12, 13] (fun lv iv _ wx => DRel4 wr k a lv iv wx) (fun _ iv _ _ => k - (intOf iv).toNat)
              case atStart => exact ⟨0, _, c2, _, by omega, rfl, rfl, HP3.out, hbb3⟩
              case round =>
                obtain ⟨j, n', c', A', hj, rfl, rfl, hP, hb⟩ := hrel
                clear HP3 hbb3 hb3 hc0'
                by_cases hlt4 : j < k
                · have hP1 := hP
                  rw [show k - j = k - (j + 1) + 1 by omega] at hP1
                  by_cases ha0 : a = 0
                  · subst ha0
                    obtain ⟨rfl, b1, o1, b2, o2, c2', b3, o3, n3, c3, rfl, hc1', d2, hc2', hcm2', d1, hn3, hcm3, e0, hnext⟩ := hP1.next0
                    have HNX := Lib.hid hnext
                    clear hnext hP hP1
                    unfold maxLen at hcm2' hcm3
                    go_wp2_with fail
                    · have hn := HNX.out
                      rw [if_pos h, show c3 - 1 = 0 by omega] at hn
                      go_roundw
                      case rel => exact ⟨_, _, .int .i64 ((j : Int) + 1), ⟨j + 1, n3, 0, _, by omega, by go_num, rfl, hn, hb⟩, rfl, rfl, rfl⟩
                      case measure => simp [intOf]; omega
                    · have hn := HNX.out
                      rw [if_neg h] at hn
                      go_roundw
                      case rel => exact ⟨_, _, .int .i64 ((j : Int) + 1), ⟨j + 1, n3, c3 - 1, _, by omega, by go_num, rfl, hn, hb⟩, rfl, rfl, rfl⟩
                      case measure => simp [intOf]; omega
                  · obtain ⟨rfl, b1, o1, b2, o2, c2', A3, n3, c3, rfl, hc1', d2, hc2', hcm2', d1, hnext⟩ := hP1.next (by omega)
                    have HNX := Lib.hid hnext
                    clear hnext hP hP1
                    unfold maxLen at hcm2'
                    go_wp2_with fail
                    go_roundw
                    case rel => exact ⟨j + 1, n3, c3, A3, by omega, by go_num, rfl, HNX.out, hb⟩
                    case measure => simp [intOf]; omega
                · obtain rfl : j = k := by omega
                  rw [Nat.sub_self] at hP
                  obtain rfl := hP.zero
                  clear hP
                  go_wp2_with fail
                  refine (awake8_any _).mono ?_
                  rintro e w4 ⟨rfl, hb4⟩
                  have hbb4 := below_chain hb hb4
                  go_wp2_with fail
                  go_ret
                  exact ⟨rfl, hbb4⟩
  · have hin2 : deep < 0 ∨ (¬ deep < 0 ∧ 60 < deep) ∨ (¬ deep < 0 ∧ ¬ 60 < deep ∧ arms < 0) ∨ (¬ deep < 0 ∧ ¬ 60 < deep ∧ ¬ arms < 0 ∧ 10 < arms) := by omega
    clear hin
    rcases hin2 with h1 | ⟨h1, h2⟩ | ⟨h1, h2, h3⟩ | ⟨h1, h2, h3, h4⟩
    all_goals
      go_enter Try.func8, Try.ntmps8
      go_wp2_with fail
      refine (awake8_any w).mono ?_
      rintro e w1 ⟨rfl, hb⟩
      go_wp2_with fail
      go_ret
      exact ⟨rfl, hb⟩
end Go.Proofs.Ytjklnlocmmnclaa
