/- Walks: the law of conditions within conditions, against the document's. -/
import Derived.Test.YtjklnlocmmnclaaKm
import Derived.Test.YtjklnlocmmnclaaIe
import Derived.Test.YtjklnlocmmnclaaHc
import Derived.Test.YtjklnlocmmnclaaHd
import Derived.Test.YtjklnlocmmnclaaHf
import Derived.Test.YtjklnlocmmnclaaJa9
import Derived.Test.YtjklnlocmmnclaaIc
namespace Go.Proofs.Ytjklnlocmmnclaa
open Go.RowKit

mutual
theorem sizeI_flat : ∀ x : It, sizeI x ≤ 2 * (flatI x).length
  | .mk _ line arms => by
    have := sizeAs_flat arms
    cases arms with
    | nil => simp [sizeI, flatI, sizeAs, flatAs]
    | cons a l =>
      rw [if_neg (by simp)] at this
      simp only [sizeI, flatI, List.length_append, List.isEmpty_cons, Bool.false_eq_true, if_false, List.length_nil, Nat.zero_add]
      omega
theorem sizeA_flat : ∀ x : Ar, sizeA x + 1 ≤ 2 * (flatA x).length
  | .mk line items => by
    have := sizeIs_flat items
    simp only [sizeA, flatA, List.length_cons]
    omega
theorem sizeIs_flat : ∀ l : List It, sizeIs l ≤ 2 * (flatIs l).length
  | [] => by simp [sizeIs]
  | x :: l => by
    have := sizeI_flat x
    have := sizeIs_flat l
    simp only [sizeIs, flatIs, List.length_append]
    omega
theorem sizeAs_flat : ∀ l : List Ar, sizeAs l + (if l.isEmpty then 0 else 1) ≤ 2 * (flatAs l).length
  | [] => by simp [sizeAs]
  | x :: l => by
    have := sizeA_flat x
    have := sizeAs_flat l
    simp only [sizeAs, flatAs, List.length_append, List.isEmpty_cons, Bool.false_eq_true, if_false]
    split at * <;> omega
end
set_option maxRecDepth 1000000 in
set_option maxHeartbeats 4000000 in
theorem groupsBuild_any (s : ByteArray) (w : World) (hs : s.size ≤ maxLen) :
    Calls Try.prog 6 #[.string s] w fun e w' => e = .returned (.bool true) ∧ Below w.heap.size w w' := by
  unfold maxLen at hs
  by_cases hbig : 3000 < s.size
  · go_enter Try.func6, Try.ntmps6
    go_wp2_with fail
    refine (awake8_any w).mono ?_
    rintro e w1 ⟨rfl, hb⟩
    go_wp2_with fail
    go_ret
    exact ⟨rfl, hb⟩
  · have hll := llP_len s
    have hfew := llP_few s
    have hok := llP_ok s (by omega)
    have HL0 := Lib.hid (lines_any fName s w (by omega))
    have HDN := Lib.hid (fun vout vd wr => @lns_of_done w.heap.size w wr s vout vd)
    have HL := fun w1 : World => Lib.hid (lines8_any s w1 (by omega) (by omega))
    have HBU := Lib.hid (fun (w1 : World) (A : Option Addr) (c : Nat) (h : Lns w1 (fun _ => True) A (llP s).length (llP s)) => build_any A (llP s).length c (llP s) w1 h (by omega) (fun l hl => ⟨by have := hfew l hl; omega, hok l hl⟩))
    have HBR := Lib.hid (fun (w1 : World) (A : Option Addr) (c : Nat) (h : Lns w1 (fun _ => True) A (llP s).length (llP s)) => buildR_any A (llP s).length c (llP s) w1 h (by omega) (fun l hl => by have := hfew l hl; omega))
    have hfl := flat_items (llP s)
    have hkl : (ksOf (llP s)).length = (llP s).length := by simp [ksOf]
    have hkn := kept_len (ksOf (llP s)) (ksOf (llP s)).length
    rw [← hfl, hkl] at hkn
    have hsz := sizeIs_flat (itemsP (llP s))
    have hdp := deepIs_le (itemsP (llP s))
    have hdl : (diagsP (llP s)).length ≤ (llP s).length := by unfold diagsP; exact diagL_len _ _
    have HCP := fun (w' : World) (V : Nat → Prop) (A' : Option Addr) (c' : Nat) (hI : Its w' V A' (itemsP (llP s)).length (itemsP (llP s))) h1 h2 => Lib.hid (items_any A' (itemsP (llP s)).length c' (itemsP (llP s)) w' hI h1 h2 (by omega))
    have HF1 := fun (w' : World) (V : Nat → Prop) (A' : Option Addr) (c' : Nat) (hI : Its w' V A' (itemsP (llP s)).length (itemsP (llP s))) h1 h2 => Lib.hid (flat_any A' (itemsP (llP s)).length c' (itemsP (llP s)) w' hI h1 h2 (by omega))
    have HF2 := fun (w' : World) (V : Nat → Prop) (A' : Option Addr) (c' : Nat) (hI : Its w' V A' (itemsP (llP s)).length (itemsP (llP s))) h1 h2 => Lib.hid (flatR_any A' (itemsP (llP s)).length c' (itemsP (llP s)) w' hI h1 h2 (by omega))
    have HD1 := fun (w' : World) (V : Nat → Prop) (A' : Option Addr) (c' : Nat) (hI : Its w' V A' (itemsP (llP s)).length (itemsP (llP s))) h1 h2 => Lib.hid (deep_any A' (itemsP (llP s)).length c' (itemsP (llP s)) w' hI h1 h2 (by omega))
    have HD2 := fun (w' : World) (V : Nat → Prop) (A' : Option Addr) (c' : Nat) (hI : Its w' V A' (itemsP (llP s)).length (itemsP (llP s))) h1 h2 => Lib.hid (deepR_any A' (itemsP (llP s)).length c' (itemsP (llP s)) w' hI h1 h2 (by omega))
    have HMX := Lib.hid (show (flatIs (itemsP (llP s))).length ≤ maxLen by unfold maxLen; omega)
    have HMD := Lib.hid (show (diagsP (llP s)).length ≤ maxLen by unfold maxLen; omega)
    clear hll hfew hok hfl hkl hkn hsz hdp hdl
    generalize hgl : llP s = ll at *
    clear hgl
    generalize hgi : itemsP ll = its at *
    generalize hgd : diagsP ll = dgs at *
    have HGI := Lib.hid hgi
    have HGD := Lib.hid hgd
    clear hgi hgd
    obtain ⟨n, HN⟩ : ∃ n, Hid (n = ll.length) := ⟨_, Lib.hid rfl⟩
    rw [← HN.out] at HBU HBR
    obtain ⟨N, HNN⟩ : ∃ N, Hid (N = its.length) := ⟨_, Lib.hid rfl⟩
    rw [← HNN.out] at HCP HF1 HF2 HD1 HD2
    obtain ⟨D, HDD⟩ : ∃ D, Hid (D = dgs.length) := ⟨_, Lib.hid rfl⟩
    obtain ⟨L, HFL⟩ : ∃ L, Hid (L = (flatIs its).length) := ⟨_, Lib.hid rfl⟩
    rw [← HDD.out] at HMD
    rw [← HFL.out] at HMX
    go_enter Try.func6, Try.ntmps6
    go_wp2_with fail
    refine HL0.out.mono ?_
    rintro e w1 ⟨vout, vd, rfl, hD⟩
    obtain ⟨A1, c1, rfl, hc1, hcm1, hLn⟩ := HDN.out _ _ _ hD
    rw [← HN.out] at hc1 hLn ⊢
    have hb1 := hD.below
    have hLm : ∀ w2, Below w1.heap.size w1 w2 → Lns w2 (fun _ => True) A1 n ll := fun w2 hb => hLn.below hb
    have HLM := Lib.hid hLm
    clear hD HDN HL0 hLm hLn
    go_wp2_with fail
    refine (HL w1).out.mono ?_
    rintro e w2 ⟨A2, c2, rfl, hc2, hcm2, hLn2, hb2⟩
    rw [← HN.out] at hc2 hLn2 ⊢
    go_wp2_with fail
    refine (HBU.out _ _ _ hLn2).mono ?_
    rintro e w3 ⟨A3, c3, vd3, rfl, hc3, hcm3, hI3, hD3, hb3⟩
    rw [HGI.out, ← HNN.out] at hI3 hc3 ⊢
    rw [HGD.out, ← HDD.out] at hD3
    obtain ⟨AD3, cD3, rfl, _, _, _⟩ := own_form hD3
    have hI3' := hI3.any
    have hS3 := Sl.of_own (U := fun _ => True) hD3 fun _ _ => trivial
    have hLn3 := HLM.out _ (hb2.trans (hb3.mono hb2.size))
    have hbb3 := below_chain (below_chain hb1 hb2) hb3
    clear hb1 hb2 hb3 hLn2 hI3 hD3 HL HBU HLM
    go_wp2_with fail
    refine (HBR.out _ _ _ hLn3).mono ?_
    rintro e w4 ⟨A4, c4, vd4, rfl, hc4, hcm4, hI4, hD4, hb4⟩
    rw [HGI.out, ← HNN.out] at hI4 hc4 ⊢
    rw [HGD.out, ← HDD.out] at hD4
    obtain ⟨AD4, cD4, rfl, _, _, _⟩ := own_form hD4
    have hI4' := hI4.any
    have hS4 := Sl.of_own (U := fun _ => True) hD4 fun _ _ => trivial
    have hI34 := hI3'.below hb4
    have hS34 := Sl.below hS3 hb4
    have hbb4 := below_chain hbb3 hb4
    clear hbb3 hb4 hLn3 hI4 hD4 HBR hI3' hS3
    go_wp2_with fail
    refine (HCP _ _ _ _ hI34 hc3 hcm3).out.mono ?_
    rintro e w5 ⟨A5, c5, rfl, hc5, hcm5, hI5, hb5⟩
    rw [← HNN.out] at hI5 hc5 ⊢
    have hI5' := hI5.any
    have hI35 := hI34.below hb5
    have hI45 := hI4'.below hb5
    have HSA := Lib.hid (same_any A5 A4 N c5 c4 its w5 hI5' hI45 hc5 hcm5)
    have hS35 := Sl.below hS34 hb5
    have hS45 := Sl.below hS4 hb5
    have hbb5 := below_chain hbb4 hb5
    clear hbb4 hb5 hI34 hI4' hS34 hS4 HCP hI5 hI5'
    go_wp2_with fail
    refine HSA.out.mono ?_
    rintro e w6 ⟨rfl, hb6⟩
    have hI36 := hI35.below hb6
    have hI46 := hI45.below hb6
    have HSD := Lib.hid (diags_any AD3 AD4 D cD3 cD4 dgs w6 (Sl.below hS35 hb6) (Sl.below hS45 hb6) HMD.out)
    have hbb6 := below_chain hbb5 hb6
    clear hbb5 hb6 hI35 hI45 hS35 hS45 HSA
    go_wp2_with fail
    refine HSD.out.mono ?_
    rintro e w7 ⟨rfl, hb7⟩
    have hI37 := hI36.below hb7
    have hI47 := hI46.below hb7
    have hbb7 := below_chain hbb6 hb7
    clear hbb6 hb7 hI36 hI46 HSD
    go_wp2_with fail
    refine (HF1 _ _ _ _ hI37 hc3 hcm3).out.mono ?_
    rintro e w8 ⟨v8, rfl, hown8, hb8⟩
    obtain ⟨A8, c8, rfl, _⟩ := own_form hown8
    rw [← HFL.out] at hown8 ⊢
    have hs8 := Sl.of_own (U := fun _ => True) hown8 fun _ _ => trivial
    have hI38 := hI37.below hb8
    have hI48 := hI47.below hb8
    have hbb8 := below_chain hbb7 hb8
    clear hbb7 hb8 hI37 hI47 hown8 HF1
    go_wp2_with fail
    refine (HF2 _ _ _ _ hI48 hc4 hcm4).out.mono ?_
    rintro e w9 ⟨v9, rfl, hown9, hb9⟩
    obtain ⟨A9, c9, rfl, _⟩ := own_form hown9
    rw [← HFL.out] at hown9 ⊢
    have hs9 := Sl.of_own (U := fun _ => True) hown9 fun _ _ => trivial
    have HINT := Lib.hid (ints_any A8 A9 L c8 c9 (flatIs its) w9 (Sl.below hs8 hb9) hs9 HMX.out)
    have hI39 := hI38.below hb9
    have hI49 := hI48.below hb9
    have hbb9 := below_chain hbb8 hb9
    clear hbb8 hb9 hI38 hI48 hown9 HF2 hs8 hs9
    go_wp2_with fail
    refine HINT.out.mono ?_
    rintro e w10 ⟨rfl, hb10⟩
    have hI3a := hI39.below hb10
    have hI4a := hI49.below hb10
    have hbba := below_chain hbb9 hb10
    clear hbb9 hb10 hI39 hI49 HINT
    go_wp2_with fail
    refine (HD1 _ _ _ _ hI3a hc3 hcm3).out.mono ?_
    rintro e w11 ⟨rfl, hb11⟩
    have hI4b := hI4a.below hb11
    have hbbb := below_chain hbba hb11
    clear hbba hb11 hI3a hI4a HD1
    go_wp2_with fail
    refine (HD2 _ _ _ _ hI4b hc4 hcm4).out.mono ?_
    rintro e w12 ⟨rfl, hb12⟩
    have hbbc := below_chain hbbb hb12
    clear hbbb hb12 hI4b HD2
    go_wp2_with fail
    refine (awake8_any w12).mono ?_
    rintro e w13 ⟨rfl, hb13⟩
    have hbbd := below_chain hbbc hb13
    clear hbbc hb13
    go_wp2_with fail
    go_ret
    exact ⟨rfl, hbbd⟩
end Go.Proofs.Ytjklnlocmmnclaa
