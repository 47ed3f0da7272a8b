/- Walks: how deep items stand. -/
import Derived.Test.YtjklnlocmmnclaaGa
import Derived.Test.YtjklnlocmmnclaaWa
namespace Go.Proofs.Ytjklnlocmmnclaa
open Go.RowKit

def DeepC (F : FuncId) (N : Nat) : Prop := ∀ (U : Nat → Prop) (A : Option Addr) (n c : Nat) (l : List It) (w : World), sizeIs l < N → Its w U A n l → n ≤ c → c ≤ maxLen → deepIs l ≤ 1000000 →
  Calls Try.prog F #[.slice A n c] w fun e w' => e = .returned (.int .i64 (deepIs l : Nat)) ∧ Below w.heap.size w w'
def DeepRel (w : World) (n : Nat) (l : List It) (dv iv : Value) (wr : World) : Prop := ∃ k : Nat, k ≤ n ∧ iv = .int .i64 k ∧ dv = .int .i64 (deepIs (l.take k) : Nat) ∧ Below w.heap.size w wr
def DeepRel2 (w : World) (n d : Nat) (l : List Ar) (dv iv : Value) (wr : World) : Prop := ∃ k : Nat, k ≤ n ∧ iv = .int .i64 k ∧ dv = .int .i64 (max d (deepAs (l.take k)) : Nat) ∧ Below w.heap.size w wr

theorem deep_max {a b d : Nat} {line : Int} {items : List It} (h : deepIs items = d := by rfl) :
    Value.int .i64 (if ((max a b : Nat) : Int) < 1 + (d : Int) then 1 + (d : Int) else ((max a b : Nat) : Int)) = .int .i64 ((max a (max b (deepA (.mk line items))) : Nat) : Int) := by
  simp only [deepA, h]
  congr 1
  split <;> omega

set_option maxHeartbeats 2000000 in
theorem deep_step (N : Nat) (ih : DeepC 32 N) : DeepC 32 (N + 1) := by
  intro U A n c l w hsz h hnc hcm hd
  unfold maxLen at hcm
  have IH := Lib.hid ih
  clear ih
  go_enter Try.func32, Try.ntmps32
  go_wp2_with fail
  go_loopw [3, 5, 7, 10] (fun dv _ _ iv wr => DeepRel w n l dv iv wr) (fun _ _ _ iv _ => n - (intOf iv).toNat)
  case atStart => exact ⟨0, by omega, rfl, rfl, Below.refl _ _⟩
  case round =>
    obtain ⟨k, hk, rfl, rfl, hb⟩ := hrel
    obtain ⟨wo, rfl⟩ : ∃ wo : World, wo = wr := ⟨_, rfl⟩
    by_cases hlt : k < n
    · obtain ⟨b, off, kk, line, arms, A', n', c', rfl, hu, hbl, hx, c0, c1, c2, hn', hc', ha⟩ := Its.at_ (h.below hb) hlt
      have hs1 := sizeIs_get l k _ hx
      have hdn := Lib.hid (deepIs_next hx)
      have hdl := deepIs_take_le l (k + 1)
      rw [hdn.out] at hdl
      simp only [deepI, sizeI] at hs1 hdl
      have HX := Lib.hid hx
      unfold maxLen at hc'
      clear hx
      go_wp2_with fail
      go_loopw [3, 7, 17] (fun dv _ iv wr => DeepRel2 wo n' (deepIs (l.take k)) arms dv iv wr) (fun _ _ iv _ => n' - (intOf iv).toNat)
      case atStart => exact ⟨0, by omega, rfl, by simp [deepAs], (Below.refl _ _).alloc (Nat.le_refl _) _⟩
      case round =>
        obtain ⟨j, hj, rfl, rfl, hb2⟩ := hrel
        by_cases hlt2 : j < n'
        · obtain ⟨b2, off2, line2, items, A2, n2, c2', rfl, hu2, hbl2, hx2, d0, d1, hn2, hc2', hi⟩ := Ars.at_ (ha.below hb2) hlt2
          have hs2 := sizeAs_get arms j _ hx2
          have hdn2 := Lib.hid (deepAs_next hx2)
          have hdl2 := deepAs_take_le arms (j + 1)
          rw [hdn2.out] at hdl2
          simp only [deepA, sizeA] at hs2 hdl2
          have HX2 := Lib.hid hx2
          unfold maxLen at hc2'
          clear hx2
          go_wp2_with fail
          refine (IH.out U A2 n2 c2' items _ (by omega) (hi.below ((Below.refl _ _).alloc (Nat.le_refl _) _)) hn2 (by unfold maxLen; omega) (by omega)).mono ?_
          rintro e w3 ⟨rfl, hb3⟩
          go_wp2_with fail
          have hb4 : Below wo.heap.size wo w3 := (hb2.alloc hb2.size _).trans (hb3.mono (by simp; have := hb2.size; omega))
          go_roundw
          case rel => exact ⟨j + 1, by omega, by go_num, by rw [hdn2.out]; exact deep_max, hb4⟩
          case measure => simp [intOf]; omega
        · obtain rfl : j = n' := by omega
          have e : deepAs (arms.take j) = deepAs arms := by rw [← ha.len, List.take_length]
          rw [e]
          go_wp2_with fail
          go_roundw
          case rel => exact ⟨k + 1, by omega, by go_num, by rw [hdn.out]; simp only [deepI], hb.trans (hb2.mono hb.size)⟩
          case measure => simp [intOf]; omega
    · obtain rfl : k = n := by omega
      have e : deepIs (l.take k) = deepIs l := by rw [← h.len, List.take_length]
      rw [e]
      go_wp2
      go_ret
      exact ⟨rfl, hb⟩
theorem deep_all (N : Nat) : DeepC 32 N := by
  induction N with
  | zero => intro U A n c l w hsz; exact absurd hsz (Nat.not_lt_zero _)
  | succ N ih => exact deep_step N ih
/-- groups.Depth. -/
theorem deep_any {U : Nat → Prop} (A : Option Addr) (n c : Nat) (l : List It) (w : World) (h : Its w U A n l) (hnc : n ≤ c) (hcm : c ≤ maxLen) (hd : deepIs l ≤ 1000000) :
    Calls Try.prog 32 #[.slice A n c] w fun e w' => e = .returned (.int .i64 (deepIs l : Nat)) ∧ Below w.heap.size w w' :=
  deep_all (sizeIs l + 1) U A n c l w (Nat.lt_succ_self _) h hnc hcm hd

set_option maxHeartbeats 2000000 in
theorem deepR_step (N : Nat) (ih : DeepC 33 N) : DeepC 33 (N + 1) := by
  intro U A n c l w hsz h hnc hcm hd
  unfold maxLen at hcm
  have IH := Lib.hid ih
  clear ih
  go_enter Try.func33, Try.ntmps33
  go_wp2_with fail
  go_loopw [3, 4, 5] (fun dv iv _ wr => DeepRel w n l dv iv wr) (fun _ iv _ _ => n - (intOf iv).toNat)
  case atStart => exact ⟨0, by omega, rfl, rfl, Below.refl _ _⟩
  case round =>
    obtain ⟨k, hk, rfl, rfl, hb⟩ := hrel
    obtain ⟨wo, rfl⟩ : ∃ wo : World, wo = wr := ⟨_, rfl⟩
    by_cases hlt : k < n
    · obtain ⟨b, off, kk, line, arms, A', n', c', rfl, hu, hbl, hx, c0, c1, c2, hn', hc', ha⟩ := Its.at_ (h.below hb) hlt
      have hs1 := sizeIs_get l k _ hx
      have hdn := Lib.hid (deepIs_next hx)
      have hdl := deepIs_take_le l (k + 1)
      rw [hdn.out] at hdl
      simp only [deepI, sizeI] at hs1 hdl
      have HX := Lib.hid hx
      unfold maxLen at hc'
      clear hx
      go_wp2_with fail
      go_loopw [3, 5] (fun dv iv wr => DeepRel2 wo n' (deepIs (l.take k)) arms dv iv wr) (fun _ iv _ => n' - (intOf iv).toNat)
      case atStart => exact ⟨0, by omega, rfl, by simp [deepAs], Below.refl _ _⟩
      case round =>
        obtain ⟨j, hj, rfl, rfl, hb2⟩ := hrel
        have c2' : wr.cell? ⟨b, off + k * 3 + 2, none⟩ = some (.slice A' n' c') := by rw [hb2.cell (p := ⟨b, _, none⟩) hbl]; exact c2
        by_cases hlt2 : j < n'
        · obtain ⟨b2, off2, line2, items, A2, n2, cc2, rfl, hu2, hbl2, hx2, d0, d1, hn2, hc2', hi⟩ := Ars.at_ (ha.below hb2) hlt2
          have hs2 := sizeAs_get arms j _ hx2
          have hdn2 := Lib.hid (deepAs_next hx2)
          have hdl2 := deepAs_take_le arms (j + 1)
          rw [hdn2.out] at hdl2
          simp only [deepA, sizeA] at hs2 hdl2
          have HX2 := Lib.hid hx2
          unfold maxLen at hc2'
          clear hx2
          go_wp2_with fail
          refine (IH.out U A2 n2 cc2 items _ (by omega) hi hn2 (by unfold maxLen; omega) (by omega)).mono ?_
          rintro e w3 ⟨rfl, hb3⟩
          go_wp2_with fail
          have hb4 : Below wo.heap.size wo w3 := hb2.trans (hb3.mono hb2.size)
          go_roundw
          case rel => exact ⟨j + 1, by omega, by go_num, by rw [hdn2.out]; exact deep_max, hb4⟩
          case measure => simp [intOf]; omega
        · obtain rfl : j = n' := by omega
          have e : deepAs (arms.take j) = deepAs arms := by rw [← ha.len, List.take_length]
          rw [e]
          go_wp2_with fail
          go_roundw
          case rel => exact ⟨k + 1, by omega, by go_num, by rw [hdn.out]; simp only [deepI], hb.trans (hb2.mono hb.size)⟩
          case measure => simp [intOf]; omega
    · obtain rfl : k = n := by omega
      have e : deepIs (l.take k) = deepIs l := by rw [← h.len, List.take_length]
      rw [e]
      go_wp2
      go_ret
      exact ⟨rfl, hb⟩
theorem deepR_all (N : Nat) : DeepC 33 N := by
  induction N with
  | zero => intro U A n c l w hsz; exact absurd hsz (Nat.not_lt_zero _)
  | succ N ih => exact deepR_step N ih
/-- The reference's Depth. -/
theorem deepR_any {U : Nat → Prop} (A : Option Addr) (n c : Nat) (l : List It) (w : World) (h : Its w U A n l) (hnc : n ≤ c) (hcm : c ≤ maxLen) (hd : deepIs l ≤ 1000000) :
    Calls Try.prog 33 #[.slice A n c] w fun e w' => e = .returned (.int .i64 (deepIs l : Nat)) ∧ Below w.heap.size w w' :=
  deepR_all (sizeIs l + 1) U A n c l w (Nat.lt_succ_self _) h hnc hcm hd
end Go.Proofs.Ytjklnlocmmnclaa
