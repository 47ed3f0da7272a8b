/- Walks: are items few, and not too deep? -/
import Derived.Test.YtjklnlocmmnclaaGa
import Derived.Test.YtjklnlocmmnclaaWa
import Derived.IntWalk
import Derived.Test.YtjklnlocmmnclaaMc9
namespace Go.Proofs.Ytjklnlocmmnclaa
open Go.RowKit

mutual
def lightI (d : Nat) : It → Bool
  | .mk _ _ arms => decide (arms.length ≤ 5) && lightAs d arms
def lightA (d : Nat) : Ar → Bool
  | .mk _ items => decide (items.length ≤ 10) && decide (d + 1 ≤ 6) && lightIs (d + 1) items
def lightIs (d : Nat) : List It → Bool
  | [] => true
  | x :: l => lightI d x && lightIs d l
def lightAs (d : Nat) : List Ar → Bool
  | [] => true
  | a :: l => lightA d a && lightAs d l
end
def lightL (d : Nat) (l : List It) : Bool := decide (l.length ≤ 10) && decide (d ≤ 6) && lightIs d l
theorem lightA_eq (d : Nat) (line : Int) (items : List It) : lightA d (.mk line items) = lightL (d + 1) items := by simp only [lightA, lightL]
theorem lightIs_append (d : Nat) : ∀ a b : List It, lightIs d (a ++ b) = (lightIs d a && lightIs d b)
  | [], b => by simp [lightIs]
  | x :: a, b => by simp [lightIs, lightIs_append d a b, Bool.and_assoc]
theorem lightAs_append (d : Nat) : ∀ a b : List Ar, lightAs d (a ++ b) = (lightAs d a && lightAs d b)
  | [], b => by simp [lightAs]
  | x :: a, b => by simp [lightAs, lightAs_append d a b, Bool.and_assoc]
theorem lightIs_next {d i : Nat} {l : List It} {x : It} (h : l[i]? = some x) : lightIs d (l.take (i + 1)) = (lightIs d (l.take i) && lightI d x) := by
  rw [take_next h, lightIs_append]
  simp [lightIs]
theorem lightAs_next {d i : Nat} {l : List Ar} {x : Ar} (h : l[i]? = some x) : lightAs d (l.take (i + 1)) = (lightAs d (l.take i) && lightA d x) := by
  rw [take_next h, lightAs_append]
  simp [lightAs]
theorem lightIs_no {d i : Nat} {l : List It} {x : It} (h : l[i]? = some x) (hx : lightI d x = false) : lightL d l = false := by
  have h2 := lightIs_append d (l.take (i + 1)) (l.drop (i + 1))
  rw [List.take_append_drop, lightIs_next h, hx] at h2
  simp only [lightL, h2]
  simp
theorem lightAs_no {d i : Nat} {l : List Ar} {x : Ar} (h : l[i]? = some x) (hx : lightA d x = false) : lightAs d l = false := by
  have h2 := lightAs_append d (l.take (i + 1)) (l.drop (i + 1))
  rw [List.take_append_drop, lightAs_next h, hx] at h2
  simp [h2]

def LightC (N : Nat) : Prop := ∀ (U : Nat → Prop) (A : Option Addr) (n c d : Nat) (l : List It) (w : World), sizeIs l < N → Its w U A n l → n ≤ c → c ≤ maxLen → d ≤ 7 →
  Calls Try.prog 34 #[.slice A n c, .int .i64 (d : Int)] w fun e w' => e = .returned (.bool (lightL d l)) ∧ Below w.heap.size w w'
set_option maxRecDepth 1000000 in
set_option maxHeartbeats 4000000 in
theorem light_step (N : Nat) (ih : LightC N) : LightC (N + 1) := by
  intro U A n c d l w hsz h hnc hcm hd
  unfold maxLen at hcm
  have IH := Lib.hid ih
  have hlen := h.len
  clear ih
  by_cases h10 : n ≤ 10
  · by_cases h6 : d ≤ 6
    · have hn10 : decide ((10 : Int) < (n : Int)) = false := by simpa using (by omega : ¬ (10 : Int) < (n : Int))
      have hd6 : decide ((6 : Int) < (d : Int)) = false := by simpa using (by omega : ¬ (6 : Int) < (d : Int))
      have HLL := Lib.hid (show lightL d l = lightIs d l by unfold lightL; rw [hlen, decide_eq_true h10, decide_eq_true h6]; rfl)
      have HLEN := Lib.hid hlen
      clear hlen
      go_enter Try.func34, Try.ntmps34
      go_wp2_with fail
      go_loopw [5, 6] (fun iv _ wr => ∃ k : Nat, k ≤ n ∧ iv = .int .i64 k ∧ lightIs d (l.take k) = true ∧ Below w.heap.size w wr) (fun iv _ _ => n - (intOf iv).toNat)
      case atStart => exact ⟨0, by omega, rfl, by simp [lightIs], Below.refl _ _⟩
      case round =>
        obtain ⟨k, hk, rfl, htk, hb⟩ := hrel
        have HTK := Lib.hid htk
        clear htk
        by_cases hlt : k < n
        · obtain ⟨b, off, kk, line, arms, A', n', c', rfl, hu, hbl, hx, c0, c1, c2, hn', hc', ha⟩ := h.at_ hlt
          have hs1 := sizeIs_get l k _ hx
          simp only [sizeI] at hs1
          have HX := Lib.hid hx
          have C2 := Lib.hid c2
          have HA := Lib.hid ha
          have hal := ha.len
          have HAL := Lib.hid hal
          unfold maxLen at hc'
          rw [← hb.cell (p := ⟨b, _, none⟩) hbl] at c2
          clear hx ha hal c0 c1
          by_cases h5 : n' ≤ 5
          · have hn5 : decide ((5 : Int) < (n' : Int)) = false := by simpa using (by omega : ¬ (5 : Int) < (n' : Int))
            go_wp2_with fail
            go_loopw [6] (fun iv wx => ∃ j : Nat, j ≤ n' ∧ iv = .int .i64 j ∧ lightAs d (arms.take j) = true ∧ Below w.heap.size w wx) (fun iv _ => n' - (intOf iv).toNat)
            case atStart => exact ⟨0, by omega, rfl, by simp [lightAs], hb⟩
            case round =>
              clear c2
              obtain ⟨j, hj, rfl, htj, hb2⟩ := hrel
              have HTJ := Lib.hid htj
              have c2 := (hb2.cell (p := ⟨b, _, none⟩) hbl).trans C2.out
              clear htj
              by_cases hlt2 : j < n'
              · obtain ⟨b2, off2, line2, items, A2, n2, q2, rfl, hu2, hbl2, hx2, d0, d1, hn2, hc2', hi⟩ := Ars.at_ HA.out hlt2
                have hs2 := sizeAs_get arms j _ hx2
                simp only [sizeA] at hs2
                have HX2 := Lib.hid hx2
                have HI := Lib.hid hi
                have HC := Lib.hid (show ∀ wx : World, Below w.heap.size w wx → Calls Try.prog 34 #[.slice A2 n2 q2, .int .i64 ((d : Int) + 1)] wx fun e w' => e = .returned (.bool (lightL (d + 1) items)) ∧ Below wx.heap.size wx w' from
                  fun wx hwx => IH.out U A2 n2 q2 (d + 1) items wx (by omega) (HI.out.below hwx) hn2 hc2' (by omega))
                unfold maxLen at hc2'
                rw [← hb2.cell (p := ⟨b2, _, none⟩) hbl2] at d0 d1
                clear hx2 hi
                cases hbv : lightL (d + 1) items with
                | true =>
                  have HBV := Lib.hid hbv
                  rw [hbv] at HC
                  clear hbv
                  go_wp2_with fail
                  refine (HC.out _ hb2).mono ?_
                  rintro e w3 ⟨rfl, hb3⟩
                  go_wp2_with fail
                  have hb4 : Below w.heap.size w w3 := below_chain hb2 hb3
                  go_roundw
                  case rel => exact ⟨j + 1, by omega, by go_num, by rw [lightAs_next HX2.out, HTJ.out, lightA_eq, HBV.out]; rfl, hb4⟩
                  case measure => simp [intOf]; omega
                | false =>
                  have HNO := Lib.hid (show lightL d l = false from lightIs_no HX.out (by
                    simp only [lightI]
                    rw [lightAs_no HX2.out (by rw [lightA_eq, hbv])]
                    simp))
                  rw [hbv] at HC
                  clear hbv
                  go_wp2_with fail
                  refine (HC.out _ hb2).mono ?_
                  rintro e w3 ⟨rfl, hb3⟩
                  have hb4 : Below w.heap.size w w3 := below_chain hb2 hb3
                  clear hb3
                  go_wp2_with fail
                  go_ret
                  exact ⟨by rw [HNO.out]; rfl, hb4⟩
              · obtain rfl : j = n' := by omega
                have e : lightAs d arms = true := by
                  have := HTJ.out
                  rw [← HA.out.len, List.take_length] at this
                  exact this
                have HE := Lib.hid e
                clear e
                go_wp2_with fail
                go_roundw
                case rel => exact ⟨k + 1, by omega, by go_num, by rw [lightIs_next HX.out, HTK.out]; simp only [lightI]; rw [HE.out, HAL.out]; simpa using h5, hb2⟩
                case measure => simp [intOf]; omega
          · have hn5 : decide ((5 : Int) < (n' : Int)) = true := by simpa using (by omega : (5 : Int) < (n' : Int))
            have HNO := Lib.hid (show lightL d l = false from lightIs_no HX.out (by
              simp only [lightI]
              rw [HAL.out, decide_eq_false h5]
              rfl))
            go_wp2_with fail
            go_ret
            exact ⟨by rw [HNO.out]; rfl, hb⟩
        · obtain rfl : k = n := by omega
          have e : lightL d l = true := by
            have := HTK.out
            rw [← HLEN.out, List.take_length] at this
            rw [HLL.out, this]
          have HE := Lib.hid e
          clear e
          go_wp2
          go_ret
          exact ⟨by rw [HE.out]; rfl, hb⟩
    · have hn10 : decide ((10 : Int) < (n : Int)) = false := by simpa using (by omega : ¬ (10 : Int) < (n : Int))
      have hd6 : decide ((6 : Int) < (d : Int)) = true := by simpa using (by omega : (6 : Int) < (d : Int))
      have HLL := Lib.hid (show lightL d l = false by unfold lightL; rw [decide_eq_false h6]; simp)
      clear hlen
      go_enter Try.func34, Try.ntmps34
      go_wp2_with fail
      go_ret
      exact ⟨by rw [HLL.out]; rfl, Below.refl _ _⟩
  · have hn10 : decide ((10 : Int) < (n : Int)) = true := by simpa using (by omega : (10 : Int) < (n : Int))
    have HLL := Lib.hid (show lightL d l = false by unfold lightL; rw [hlen, decide_eq_false h10]; simp)
    clear hlen
    go_enter Try.func34, Try.ntmps34
    go_wp2_with fail
    go_ret
    exact ⟨by rw [HLL.out]; rfl, Below.refl _ _⟩
theorem light_all (N : Nat) : LightC N := by
  induction N with
  | zero => intro U A n c d l w hsz; exact absurd hsz (Nat.not_lt_zero _)
  | succ N ih => exact light_step N ih
theorem light_any {U : Nat → Prop} (A : Option Addr) (n c : Nat) (l : List It) (w : World) (h : Its w U A n l) (hnc : n ≤ c) (hcm : c ≤ maxLen) :
    Calls Try.prog 34 #[.slice A n c, .int .i64 0] w fun e w' => e = .returned (.bool (lightL 0 l)) ∧ Below w.heap.size w w' :=
  light_all (sizeIs l + 1) U A n c 0 l w (Nat.lt_succ_self _) h hnc hcm (by omega)

/- How many lines light items have, and how deep they are. -/
def bnd : Nat → Nat
  | 0 => 0
  | k + 1 => 1 + 10 * (1 + 5 * bnd k)
mutual
theorem light_sizeI (k d : Nat) (hk : 6 ≤ d + k) : ∀ x : It, lightI d x = true → sizeI x ≤ 1 + 5 * bnd k
  | .mk _ _ arms, h => by
    simp only [lightI, Bool.and_eq_true, decide_eq_true_eq] at h
    have := light_sizeAs k d hk arms h.2
    have h3 : arms.length * bnd k ≤ 5 * bnd k := Nat.mul_le_mul_right _ h.1
    simp only [sizeI]
    omega
theorem light_sizeA (k d : Nat) (hk : 6 ≤ d + k) : ∀ x : Ar, lightA d x = true → sizeA x ≤ bnd k
  | .mk _ items, h => by
    simp only [lightA, Bool.and_eq_true, decide_eq_true_eq] at h
    obtain ⟨⟨h1, h2⟩, h3⟩ := h
    cases k with
    | zero => omega
    | succ k =>
      have := light_sizeIs k (d + 1) (by omega) items h3
      have h4 : items.length * (1 + 5 * bnd k) ≤ 10 * (1 + 5 * bnd k) := Nat.mul_le_mul_right _ h1
      simp only [sizeA, bnd]
      omega
theorem light_sizeIs (k d : Nat) (hk : 6 ≤ d + k) : ∀ l : List It, lightIs d l = true → sizeIs l ≤ l.length * (1 + 5 * bnd k)
  | [], _ => by simp [sizeIs]
  | x :: l, h => by
    simp only [lightIs, Bool.and_eq_true] at h
    have h1 := light_sizeI k d hk x h.1
    have h2 := light_sizeIs k d hk l h.2
    simp only [sizeIs, List.length_cons, Nat.add_mul, Nat.one_mul]
    omega
theorem light_sizeAs (k d : Nat) (hk : 6 ≤ d + k) : ∀ l : List Ar, lightAs d l = true → sizeAs l ≤ l.length * bnd k
  | [], _ => by simp [sizeAs]
  | x :: l, h => by
    simp only [lightAs, Bool.and_eq_true] at h
    have h1 := light_sizeA k d hk x h.1
    have h2 := light_sizeAs k d hk l h.2
    simp only [sizeAs, List.length_cons, Nat.add_mul, Nat.one_mul]
    omega
end
mutual
theorem light_deepI (d : Nat) : ∀ x : It, lightI d x = true → deepI x + d ≤ 6 ∨ deepI x = 0
  | .mk _ _ arms, h => by
    simp only [lightI, Bool.and_eq_true] at h
    have := light_deepAs d arms h.2
    simpa only [deepI] using this
theorem light_deepA (d : Nat) : ∀ x : Ar, lightA d x = true → deepA x + d ≤ 6
  | .mk _ items, h => by
    simp only [lightA, Bool.and_eq_true, decide_eq_true_eq] at h
    have := light_deepIs (d + 1) items h.2
    simp only [deepA]
    omega
theorem light_deepIs (d : Nat) : ∀ l : List It, lightIs d l = true → deepIs l + d ≤ 6 ∨ deepIs l = 0
  | [], _ => by simp [deepIs]
  | x :: l, h => by
    simp only [lightIs, Bool.and_eq_true] at h
    have h1 := light_deepI d x h.1
    have h2 := light_deepIs d l h.2
    simp only [deepIs]
    omega
theorem light_deepAs (d : Nat) : ∀ l : List Ar, lightAs d l = true → deepAs l + d ≤ 6 ∨ deepAs l = 0
  | [], _ => by simp [deepAs]
  | x :: l, h => by
    simp only [lightAs, Bool.and_eq_true] at h
    have h1 := light_deepA d x h.1
    have h2 := light_deepAs d l h.2
    simp only [deepAs]
    omega
end
mutual
theorem flatI_le : ∀ x : It, (flatI x).length ≤ sizeI x
  | .mk _ line arms => by
    have := flatAs_le arms
    simp only [flatI, sizeI, List.length_append]
    split <;> simp <;> omega
theorem flatA_le : ∀ x : Ar, (flatA x).length ≤ sizeA x
  | .mk line items => by
    have := flatIs_le items
    simp only [flatA, sizeA, List.length_cons]
    omega
theorem flatIs_le : ∀ l : List It, (flatIs l).length ≤ sizeIs l
  | [] => by simp [flatIs]
  | x :: l => by
    have := flatI_le x
    have := flatIs_le l
    simp only [flatIs, sizeIs, List.length_append]
    omega
theorem flatAs_le : ∀ l : List Ar, (flatAs l).length ≤ sizeAs l
  | [] => by simp [flatAs]
  | x :: l => by
    have := flatA_le x
    have := flatAs_le l
    simp only [flatAs, sizeAs, List.length_append]
    omega
end
theorem light_size {l : List It} (h : lightL 0 l = true) : sizeIs l ≤ 200000000000 := by
  simp only [lightL, Bool.and_eq_true, decide_eq_true_eq] at h
  have h1 := light_sizeIs 6 0 (by omega) l h.2
  have h2 : l.length * (1 + 5 * bnd 6) ≤ 10 * (1 + 5 * bnd 6) := Nat.mul_le_mul_right _ h.1.1
  have h3 : bnd 6 = 3507653061 := by decide
  rw [h3] at h1 h2
  omega
theorem light_deep {l : List It} (h : lightL 0 l = true) : deepIs l ≤ 6 := by
  simp only [lightL, Bool.and_eq_true, decide_eq_true_eq] at h
  have := light_deepIs 0 l h.2
  omega
end Go.Proofs.Ytjklnlocmmnclaa
