/- Walks: the law of raw items. -/
import Derived.Test.YtjklnlocmmnclaaIe
import Derived.Test.YtjklnlocmmnclaaHc
import Derived.Test.YtjklnlocmmnclaaHe
import Derived.Test.YtjklnlocmmnclaaHf
import Derived.Test.YtjklnlocmmnclaaHg
namespace Go.Proofs.Ytjklnlocmmnclaa
open Go.RowKit

set_option maxRecDepth 1000000 in
set_option maxHeartbeats 2000000 in
theorem groupsRaw_any {U : Nat → Prop} (A : Option Addr) (n c : Nat) (l : List It) (w : World) (h : Its w U A n l) (hnc : n ≤ c) (hcm : c ≤ maxLen) :
    Calls Try.prog 9 #[.slice A n c] w fun e w' => e = .returned (.bool true) ∧ Below w.heap.size w w' := by
  have HL := Lib.hid (light_any A n c l w h hnc hcm)
  have hlen := h.len
  cases hli : lightL 0 l with
  | false =>
    rw [hli] at HL
    clear hli hlen
    go_enter Try.func9, Try.ntmps9
    go_wp2_with fail
    refine HL.out.mono ?_
    rintro e w1 ⟨rfl, hb1⟩
    go_wp2_with fail
    refine (awake8_any w1).mono ?_
    rintro e w2 ⟨rfl, hb2⟩
    have hbb := below_chain hb1 hb2
    go_wp2_with fail
    go_ret
    exact ⟨rfl, hbb⟩
  | true =>
    have hsz := light_size hli
    have hdp := light_deep hli
    have hfl := flatIs_le l
    rw [hli] at HL
    have HR := fun w' hb => Lib.hid (raw_any A n c l w' (h.below (w' := w') hb) hnc hcm (by omega))
    have HF1 := fun (w' : World) (V : Nat → Prop) (A' : Option Addr) (c' : Nat) (hI : Its w' V A' l.length l) h1 h2 => Lib.hid (flat_any A' l.length c' l w' hI h1 h2 (by omega))
    have HF2 := fun w' hb => Lib.hid (flatR_any A n c l w' (h.below (w' := w') hb) hnc hcm (by omega))
    have HD1 := fun (w' : World) (V : Nat → Prop) (A' : Option Addr) (c' : Nat) (hI : Its w' V A' l.length l) h1 h2 => Lib.hid (deep_any A' l.length c' l w' hI h1 h2 (by omega))
    have HD2 := fun w' hb => Lib.hid (deepR_any A n c l w' (h.below (w' := w') hb) hnc hcm (by omega))
    have hmx : (flatIs l).length ≤ maxLen := by unfold maxLen; omega
    have HMX := Lib.hid hmx
    clear hli h hsz hdp hfl hmx hlen
    go_enter Try.func9, Try.ntmps9
    go_wp2_with fail
    refine HL.out.mono ?_
    rintro e w1 ⟨rfl, hb1⟩
    go_wp2_with fail
    refine (HR _ hb1).out.mono ?_
    rintro e w2 ⟨A2, c2, rfl, hc2, hcm2, hI2, hb2⟩
    have hbb2 := below_chain hb1 hb2
    have hI2' := hI2.any
    clear hb1 hb2 hI2
    go_wp2_with fail
    refine (HF1 _ _ _ _ hI2' hc2 hcm2).out.mono ?_
    rintro e w3 ⟨v3, rfl, hown3, hb3⟩
    have hbb3 := below_chain hbb2 hb3
    have hI3 := hI2'.below hb3
    obtain ⟨A3, c3, rfl, _⟩ := own_form hown3
    have hs3 := Sl.of_own (U := fun _ => True) hown3 (fun _ _ => trivial)
    clear hb3 hI2' hown3 hbb2
    go_wp2_with fail
    refine (HF2 _ hbb3).out.mono ?_
    rintro e w4 ⟨v4, rfl, hown4, hb4⟩
    have hbb4 := below_chain hbb3 hb4
    have hI4 := hI3.below hb4
    obtain ⟨A4, c4, rfl, _⟩ := own_form hown4
    have hs4 := Sl.of_own (U := fun _ => True) hown4 (fun _ _ => trivial)
    have HINT := Lib.hid (ints_any A3 A4 (flatIs l).length c3 c4 (flatIs l) w4 (Sl.below hs3 hb4) hs4 HMX.out)
    clear hb4 hI3 hown4 hbb3 hs3 hs4
    go_wp2_with fail
    refine HINT.out.mono ?_
    rintro e w5 ⟨rfl, hb5⟩
    have hbb5 := below_chain hbb4 hb5
    have hI5 := hI4.below hb5
    clear hb5 hI4 hbb4
    go_wp2_with fail
    refine (HD1 _ _ _ _ hI5 hc2 hcm2).out.mono ?_
    rintro e w6 ⟨rfl, hb6⟩
    have hbb6 := below_chain hbb5 hb6
    clear hb6 hI5 hbb5
    go_wp2_with fail
    refine (HD2 _ hbb6).out.mono ?_
    rintro e w7 ⟨rfl, hb7⟩
    have hbb7 := below_chain hbb6 hb7
    clear hb7 hbb6
    go_wp2_with fail
    refine (awake8_any w7).mono ?_
    rintro e w8 ⟨rfl, hb8⟩
    have hbb8 := below_chain hbb7 hb8
    clear hb8 hbb7
    go_wp2_with fail
    go_ret
    exact ⟨rfl, hbb8⟩
end Go.Proofs.Ytjklnlocmmnclaa
