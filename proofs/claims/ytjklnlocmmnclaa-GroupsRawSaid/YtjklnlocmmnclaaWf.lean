/- Walks: bytes as characters. -/
import Derived.Test.YtjklnlocmmnclaaWe
namespace Go.Proofs.Ytjklnlocmmnclaa
open Go.RowKit

/-- A call that hands back a row of its own. -/
def OwnRet (B : Nat) (e : TypeId) (size n : Nat) (xs : List Value) (w : World) (en : Ending) (w' : World) : Prop :=
  ∃ v, en = .returned v ∧ w'.ownsRow B e size v n xs ∧ Below B w w'

theorem trig_eq (c : UInt8) : trigK (c.toNat : Int) 0 = match trig c with | some d => ((d.toNat : Int), true) | none => (0, false) := by
  have h : ∀ n : Nat, n < 256 → trigK (n : Int) 0 = match trig (UInt8.ofNat n) with | some d => ((d.toNat : Int), true) | none => (0, false) := by decide +kernel
  have := h c.toNat (UInt8.toNat_lt c)
  rwa [UInt8.ofNat_toNat] at this

def PlainRel (s : List UInt8) (k : Nat) (acc : List Rn) : Prop := plainS 0 0 s = acc ++ plainS 0 k (s.drop k) ∧ acc.length ≤ k
theorem plain_start (s : List UInt8) : PlainRel s 0 [] := ⟨by simp, by simp⟩
theorem plain_one {s : List UInt8} {k : Nat} {acc : List Rn} (h : PlainRel s k acc) (hk : k < s.length) (ht : trigAt (s.drop k) = none) : PlainRel s (k + 1) (acc ++ [⟨s[k], k, k + 1⟩]) := by
  refine ⟨?_, by have := h.2; simp; omega⟩
  rw [h.1]
  rw [List.drop_eq_getElem_cons hk] at ht ⊢
  simp only [plainS, ht, List.append_assoc, List.singleton_append]
theorem plain_tri {s : List UInt8} {k : Nat} {acc : List Rn} (h : PlainRel s k acc) (hk : k + 2 < s.length) {c : UInt8} (ht : trigAt (s.drop k) = some c) : PlainRel s (k + 3) (acc ++ [⟨c, k, k + 3⟩]) := by
  refine ⟨?_, by have := h.2; simp; omega⟩
  rw [h.1]
  rw [List.drop_eq_getElem_cons (show k < s.length by omega), List.drop_eq_getElem_cons (show k + 1 < s.length by omega), List.drop_eq_getElem_cons (show k + 1 + 1 < s.length by omega)] at ht ⊢
  simp only [plainS, ht, List.append_assoc, List.singleton_append]
theorem trigAt_short {s : List UInt8} {k : Nat} (h : ¬ k + 2 < s.length) : trigAt (s.drop k) = none := by
  have hl : (s.drop k).length ≤ 2 := by rw [List.length_drop]; omega
  revert hl
  generalize s.drop k = l
  intro hl
  match l, hl with
  | [], _ => rfl
  | [_], _ => rfl
  | [_, _], _ => rfl
theorem trigAt_at {s : List UInt8} {k : Nat} (h : k + 2 < s.length) : trigAt (s.drop k) = if s[k] = 63 ∧ s[k + 1] = 63 then trig s[k + 2] else none := by
  rw [List.drop_eq_getElem_cons (show k < s.length by omega), List.drop_eq_getElem_cons (show k + 1 < s.length by omega), List.drop_eq_getElem_cons (show k + 1 + 1 < s.length by omega)]
  rfl
theorem u8_eq {c : UInt8} {n : Nat} (hn : n < 256) : c = UInt8.ofNat n ↔ (c.toNat : Int) = (n : Int) := by
  constructor
  · rintro rfl
    simp [UInt8.toNat_ofNat, Nat.mod_eq_of_lt hn]
  · intro h
    have : c.toNat = n := by omega
    rw [← this, UInt8.ofNat_toNat]
theorem u8_63 {c : UInt8} : c = 63 ↔ (c.toNat : Int) = 63 := u8_eq (n := 63) (by decide)
theorem plain_done {s : List UInt8} {k : Nat} {acc : List Rn} (h : PlainRel s k acc) (hk : s.length ≤ k) : plainS 0 0 s = acc := by
  rw [h.1, List.drop_of_length_le hk]
  simp [plainS]

set_option maxHeartbeats 1000000 in
set_option maxRecDepth 1000000 in
theorem plain_any (s : ByteArray) (w : World) (hn : s.size ≤ 100000) :
    Calls Try.prog 57 #[.string s] w (OwnRet w.heap.size 99 3 (plainS 0 0 s.data.toList).length ((plainS 0 0 s.data.toList).flatMap rnCells) w) := by
  have hsl : s.data.toList.length = s.size := by simp
  have HSL := Lib.hid hsl
  clear hsl
  go_enter Try.func57, Try.ntmps57
  go_wp2
  go_loopw [3, 4, 5, 6] (fun bv iv _ _ wr => ∃ (k : Nat) (acc : List Rn), k ≤ s.size ∧ iv = .int .i64 k ∧ wr.ownsRow w.heap.size 99 3 bv acc.length (acc.flatMap rnCells) ∧ Below w.heap.size w wr ∧ PlainRel s.data.toList k acc) (fun _ iv _ _ _ => s.size - (intOf iv).toNat)
  case atStart => exact ⟨0, [], by omega, rfl, World.ownsRow_nil w _ 99 3, Below.refl _ _, plain_start _⟩
  case round =>
    obtain ⟨k, acc, hk, rfl, hown, hb, hP⟩ := hrel
    have hal : acc.length ≤ s.size := by have := hP.2; omega
    by_cases hlt : k < s.size
    · go_wp2_with (first | (go_at_call 67; refine (trig_any _ _).mono ?_; rintro e w' ⟨rfl, rfl⟩) | (at_builtin; refine app_one el96 _ rfl _ _ rfl w.heap.size _ _ _ rfl hown rfl rfl (by simp [Value.oneCell']) (by omega) (by omega) hb.size ?_; intro g cap w1 hown1 hgrow hat hlt1))
      · have h2 : k + 2 < s.size := by omega
        have h63 : (s[k].toNat : Int) = 63 := by assumption
        have h63b : (s[k + 1].toNat : Int) = 63 := by simpa using ‹((s[k + 1].toNat : Int) == 63) = true›
        have htk : (trigK (s[k + 2].toNat : Int) 0).2 = true := by assumption
        obtain ⟨d, hd1, hd2⟩ : ∃ d, trig s[k + 2] = some d ∧ (trigK (s[k + 2].toNat : Int) 0).1 = d.toNat := by
          rw [trig_eq] at htk ⊢
          cases hc : trig s[k + 2] with
          | none => rw [hc] at htk; simp at htk
          | some d => exact ⟨d, rfl, rfl⟩
        have hat2 : trigAt (s.data.toList.drop k) = some d := by
          rw [trigAt_at (by rw [HSL.out]; exact h2), if_pos ⟨u8_63.2 h63, u8_63.2 h63b⟩]
          exact hd1
        go_roundw
        case rel =>
          refine ⟨k + 3, acc ++ [⟨d, k, k + 3⟩], by omega, by go_num, ?_, below_app hb hown hgrow hb.size, plain_tri hP (by rw [HSL.out]; exact h2) hat2⟩
          rw [hd2] at hown1
          simpa [rnCells] using hown1
        case measure => simp [intOf]; omega
      all_goals
        have hat2 : trigAt (s.data.toList.drop k) = none := by
          by_cases h2 : k + 2 < s.size
          · rw [trigAt_at (by rw [HSL.out]; exact h2)]
            split
            · rename_i hh
              have h63 : (s[k].toNat : Int) = 63 := u8_63.1 hh.1
              have h63b : (s[k + 1].toNat : Int) = 63 := u8_63.1 hh.2
              first
              | exact absurd h63 ‹_›
              | (have hx : ((s[k + 1].toNat : Int) == 63) = false := by assumption
                 rw [h63b] at hx
                 cases hx)
              | (have htk : (trigK (s[k + 2].toNat : Int) 0).2 = false := by assumption
                 rw [trig_eq] at htk
                 show trig s[k + 2] = none
                 cases hc : trig s[k + 2] with
                 | none => rfl
                 | some d => rw [hc] at htk; simp at htk)
              | (exfalso; omega)
            · rfl
          · exact trigAt_short (by rw [HSL.out]; exact h2)
        go_roundw
        case rel =>
          refine ⟨k + 1, acc ++ [⟨s[k], k, k + 1⟩], by omega, by go_num, ?_, below_app hb hown hgrow hb.size, plain_one hP (by rw [HSL.out]; exact hlt) hat2⟩
          first
          | simpa [rnCells] using hown1
          | (have h63 : (s[k].toNat : Int) = 63 := by assumption
             simpa [rnCells, h63] using hown1)
        case measure => simp [intOf]; omega
    · have HD := Lib.hid (plain_done hP (by rw [HSL.out]; omega))
      go_wp2
      go_ret
      refine ⟨_, rfl, ?_, hb⟩
      rw [HD.out]
      exact hown
end Go.Proofs.Ytjklnlocmmnclaa
