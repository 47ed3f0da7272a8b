/- Walks: the lines of items, the reference's. -/
import Derived.Test.YtjklnlocmmnclaaHb
namespace Go.Proofs.Ytjklnlocmmnclaa
open Go.RowKit

set_option maxRecDepth 1000000 in
set_option maxHeartbeats 2000000 in
theorem flatR_step (N : Nat) (ih : FlatC 31 N) : FlatC 31 (N + 1) := by
  intro U A n c l w hsz h hnc hcm hd
  unfold maxLen at hcm
  have IH := Lib.hid ih
  clear ih
  go_enter Try.func31, Try.ntmps31
  go_wp2_with fail
  go_loopw [3, 4, 5] (fun vo iv _ wr => FlatRel w n l vo iv wr) (fun _ iv _ _ => n - (intOf iv).toNat)
  case atStart => exact ⟨0, by omega, rfl, World.ownsRow_nil _ _ 3 1, Below.refl _ _⟩
  case round =>
    obtain ⟨k, hk, rfl, hown, hb⟩ := hrel
    by_cases hlt : k < n
    · obtain ⟨b, off, kk, line, arms, A', n', c', rfl, hu, hbl, hx, c0, c1, c2, hn', hc', ha⟩ := Its.at_ h hlt
      have hs1 := sizeIs_get l k _ hx
      have hdn := Lib.hid (flatIs_next hx)
      have hdl := flatIs_take_le l (k + 1)
      have hdl0 := flatIs_take_le l k
      rw [hdn.out, List.length_append] at hdl
      rw [flatI_eq, List.length_append] at hdl
      simp only [sizeI] at hs1
      have HX := Lib.hid hx
      unfold maxLen at hc'
      have C2 := Lib.hid c2
      rw [← hb.cell (p := ⟨b, _, none⟩) hbl] at c0 c1 c2
      have HA := Lib.hid ha
      obtain ⟨m0, HM0⟩ : ∃ m, Hid (m = (flatIs (l.take k)).length) := ⟨_, Lib.hid rfl⟩
      have HOWN := Lib.hid (show wr.ownsRow w.heap.size 3 1 u3 m0 (ints (flatIs (l.take k))) by rw [HM0.out]; exact hown)
      have hm0 : m0 ≤ 200000000000 := by rw [HM0.out]; omega
      have HAL := Lib.hid ha.len
      clear hx hown ha
      have hgu : (flatIs (l.take k)).length ≤ 200000000000 := by omega
      have HP := Lib.hid (flatI_eq kk line arms)
      have hpre : (flatIs (l.take k) ++ headL line arms).length + (flatAs arms).length ≤ 200000000000 := by
        rw [List.length_append]
        omega
      rcases Nat.eq_zero_or_pos n' with hz | hz
      case' inl =>
        have ha0 : arms = [] := List.eq_nil_of_length_eq_zero (by rw [HAL.out]; exact hz)
        have hzb : ((n' : Int) == 0) = true := by simpa using hz
        have HZ := Lib.hid hz
        clear hz
        have HA0 := Lib.hid ha0
        clear ha0
        go_wp2_with (at_builtin; refine app_at el54 wr.heap.size rfl _ rfl _ _ rfl w.heap.size u3 _ _ rfl HOWN.out rfl rfl (ones_cons rfl ones_nil) (by omega) (by omega) (by have := hb.size; omega) ?_; intro g cap w1 hown1 hgrow hat hlt1)
        have hbq : Below w.heap.size w w1 := below_app hb HOWN.out hgrow hb.size
        have HO2 := Lib.hid (show w1.ownsRow w.heap.size 3 1 (.slice (some ⟨g, 0, none⟩) (m0 + 1) cap) (flatIs (l.take k) ++ headL line arms).length (ints (flatIs (l.take k) ++ headL line arms)) by
          rw [HA0.out]
          rw [HM0.out] at hown1 ⊢
          simpa [ints, headL] using hown1)
        generalize Value.slice (some ⟨g, 0, none⟩) (m0 + 1) cap = vq at *
        clear hown1 hgrow hat hlt1 hzb
        have hz := HZ.out
      case' inr =>
        have hne : arms.isEmpty = false := by
          cases arms with
          | nil => have := HAL.out; simp at this; omega
          | cons x y => rfl
        go_wp2_with fail
        obtain ⟨w1, hw1⟩ : ∃ w1 : World, w1 = wr := ⟨_, rfl⟩
        have HO2 := Lib.hid (show w1.ownsRow w.heap.size 3 1 u3 (flatIs (l.take k) ++ headL line arms).length (ints (flatIs (l.take k) ++ headL line arms)) by
          unfold headL
          rw [hne, hw1]
          rw [HM0.out] at HOWN
          simpa using HOWN.out)
        have hbq : Below w.heap.size w w1 := by rw [hw1]; exact hb
        rw [← hw1]
        clear hne hw1
      all_goals
        have HPR := Lib.hid (show flatIs (l.take (k + 1)) = (flatIs (l.take k) ++ headL line arms) ++ flatAs arms by rw [hdn.out, HP.out, List.append_assoc])
        generalize flatIs (l.take k) ++ headL line arms = pre at *
        clear c0 c1 c2 hdl hdl0 hgu HOWN hz
        go_loopw [3, 5] (fun vo iv wx => FlatRel2 w n' pre arms vo iv wx) (fun _ iv _ => n' - (intOf iv).toNat)
        case atStart => exact ⟨0, by omega, rfl, by simpa [flatAs] using HO2.out, hbq⟩
        case round =>
          obtain ⟨j, hj, rfl, hown2, hb2⟩ := hrel
          have c2 := (hb2.cell (p := ⟨b, _, none⟩) hbl).trans C2.out
          by_cases hlt2 : j < n'
          · obtain ⟨b2, off2, line2, items, A2, n2, q2, rfl, hu2, hbl2, hx2, d0, d1, hn2, hc2', hi⟩ := Ars.at_ HA.out hlt2
            have hs2 := sizeAs_get arms j _ hx2
            have hdn2 := Lib.hid (flatAs_next hx2)
            have hdl2 := flatAs_take_le arms (j + 1)
            have hdl3 := flatAs_take_le arms j
            rw [hdn2.out, List.length_append] at hdl2
            simp only [flatA, sizeA, List.length_cons] at hs2 hdl2
            have HX2 := Lib.hid hx2
            unfold maxLen at hc2'
            have D0 := Lib.hid d0
            have D1 := Lib.hid d1
            clear d0 d1
            have HI := Lib.hid hi
            clear hx2 hi
            have hL : (pre ++ flatAs (arms.take j)).length + (1 + (flatIs items).length) ≤ 200000000000 := by rw [List.length_append]; omega
            obtain ⟨m, HM⟩ : ∃ m, Hid (m = (pre ++ flatAs (arms.take j)).length) := ⟨_, Lib.hid rfl⟩
            rw [← HM.out] at hL
            have HOWN2 := Lib.hid (show wr.ownsRow w.heap.size 3 1 u3 m (ints (pre ++ flatAs (arms.take j))) by rw [HM.out]; exact hown2)
            clear hown2
            go_wp2_with fail
            refine wp_region_held_drew (S := fun W => Below w.heap.size w W) (by kernel_rfl) hb2.drew (fun hS => ?_)
            refine wpAnyH_take (i := 0) (v := u3) rfl (by kernel_rfl) (by kernel_rfl) (by kernel_rfl) (fun _ _ _ h => h) (Or.inl ⟨by kernel_rfl, fun _ _ => by kernel_rfl⟩) hS ?_
            refine wpAnyH_take (i := 1) (v := .slice (some ⟨b, off, none⟩) n c) rfl (by kernel_rfl) (by kernel_rfl) (by kernel_rfl) (fun _ _ _ h => h) (Or.inl ⟨by kernel_rfl, fun _ _ => by kernel_rfl⟩) hS ?_
            refine wpAnyH_take (i := 2) (v := .int .i64 k) rfl (by kernel_rfl) (by kernel_rfl) (by kernel_rfl) (fun _ _ _ h => h) (Or.inl ⟨by kernel_rfl, fun _ _ => by kernel_rfl⟩) hS ?_
            refine wpAnyH_take (i := 3) (v := .pointer (some ⟨b, off + k * 3, none⟩)) rfl (by kernel_rfl) (by kernel_rfl) (by kernel_rfl) (fun _ _ _ h => h) (Or.inl ⟨by kernel_rfl, fun _ _ => by go_simp⟩) hS ?_
            refine wpAnyH_take (i := 4) (v := .pointer (some ⟨b, off + k * 3 + 2, none⟩)) rfl (by kernel_rfl) (by kernel_rfl) (by kernel_rfl) (fun _ _ _ h => h) (Or.inl ⟨by kernel_rfl, fun _ _ => by go_simp⟩) hS ?_
            refine wpAnyH_take (i := 5) (v := .slice (some ⟨b2, off2, none⟩) n' c') rfl (by kernel_rfl) (by kernel_rfl) (by kernel_rfl) (fun _ _ _ h => h) (Or.inl ⟨by kernel_rfl, fun _ hS_ => by have h_ := (hS_.cell (p := ⟨b, _, none⟩) hbl).trans C2.out; go_simp⟩) hS ?_
            refine wpAnyH_take (i := 6) (v := .int .i64 j) rfl (by kernel_rfl) (by kernel_rfl) (by kernel_rfl) (fun _ _ _ h => h) (Or.inl ⟨by kernel_rfl, fun _ _ => by kernel_rfl⟩) hS ?_
            refine wpAnyH_take (i := 7) (v := .pointer (some ⟨b2, off2 + j * 2, none⟩)) rfl (by kernel_rfl) (by kernel_rfl) (by kernel_rfl) (fun _ _ _ h => h) (Or.inl ⟨by kernel_rfl, fun _ _ => by go_simp⟩) hS ?_
            refine wpAnyH_take (i := 8) (v := .pointer (some ⟨b2, off2 + j * 2, none⟩)) rfl (by kernel_rfl) (by kernel_rfl) (by kernel_rfl) (fun _ _ _ h => h) (Or.inl ⟨by kernel_rfl, fun _ _ => by go_simp⟩) hS ?_
            refine wpAnyH_take (i := 9) (v := .int .i64 line2) rfl (by kernel_rfl) (by kernel_rfl) (by kernel_rfl) (fun _ _ _ h => h) (Or.inl ⟨by kernel_rfl, fun _ hS_ => by have h_ := (hS_.cell (p := ⟨b2, _, none⟩) hbl2).trans D0.out; go_simp⟩) hS ?_
            refine wpAnyH_take (i := 12) (v := .slice (some ⟨b, off, none⟩) n c) rfl (by kernel_rfl) (by kernel_rfl) (by kernel_rfl) (fun _ _ _ h => h) (Or.inl ⟨by kernel_rfl, fun _ _ => by kernel_rfl⟩) hS ?_
            refine wpAnyH_take (i := 13) (v := .int .i64 k) rfl (by kernel_rfl) (by kernel_rfl) (by kernel_rfl) (fun _ _ _ h => h) (Or.inl ⟨by kernel_rfl, fun _ _ => by kernel_rfl⟩) hS ?_
            refine wpAnyH_take (i := 14) (v := .pointer (some ⟨b, off + k * 3, none⟩)) rfl (by kernel_rfl) (by kernel_rfl) (by kernel_rfl) (fun _ _ _ h => h) (Or.inl ⟨by kernel_rfl, fun _ _ => by go_simp⟩) hS ?_
            refine wpAnyH_take (i := 15) (v := .pointer (some ⟨b, off + k * 3 + 2, none⟩)) rfl (by kernel_rfl) (by kernel_rfl) (by kernel_rfl) (fun _ _ _ h => h) (Or.inl ⟨by kernel_rfl, fun _ _ => by go_simp⟩) hS ?_
            refine wpAnyH_take (i := 16) (v := .slice (some ⟨b2, off2, none⟩) n' c') rfl (by kernel_rfl) (by kernel_rfl) (by kernel_rfl) (fun _ _ _ h => h) (Or.inl ⟨by kernel_rfl, fun _ hS_ => by have h_ := (hS_.cell (p := ⟨b, _, none⟩) hbl).trans C2.out; go_simp⟩) hS ?_
            refine wpAnyH_take (i := 17) (v := .int .i64 j) rfl (by kernel_rfl) (by kernel_rfl) (by kernel_rfl) (fun _ _ _ h => h) (Or.inl ⟨by kernel_rfl, fun _ _ => by kernel_rfl⟩) hS ?_
            refine wpAnyH_take (i := 18) (v := .pointer (some ⟨b2, off2 + j * 2, none⟩)) rfl (by kernel_rfl) (by kernel_rfl) (by kernel_rfl) (fun _ _ _ h => h) (Or.inl ⟨by kernel_rfl, fun _ _ => by go_simp⟩) hS ?_
            refine wpAnyH_take (i := 19) (v := .pointer (some ⟨b2, off2 + j * 2 + 1, none⟩)) rfl (by kernel_rfl) (by kernel_rfl) (by kernel_rfl) (fun _ _ _ h => h) (Or.inl ⟨by kernel_rfl, fun _ _ => by go_simp⟩) hS ?_
            refine wpAnyH_take (i := 20) (v := .slice A2 n2 q2) rfl (by kernel_rfl) (by kernel_rfl) (by kernel_rfl) (fun _ _ _ h => h) (Or.inl ⟨by kernel_rfl, fun _ hS_ => by have h_ := (hS_.cell (p := ⟨b2, _, none⟩) hbl2).trans D1.out; go_simp⟩) hS ?_
            refine wpAnyH_ready (rs := [10]) (by kernel_rfl) (by simp) ?_
            refine AllReadyH.cons rfl (fun K hK => ?_) AllReadyH.nil
            go_simp
            refine hK.out _ _ (hb2.alloc hb2.size _).drew (fun hS => ?_)
            clear hK K
            refine wpAnyH_ready (rs := [11]) (by kernel_rfl) (by simp) ?_
            refine AllReadyH.cons rfl (fun K hK => ?_) AllReadyH.nil
            refine app_step el54 wr.heap.size _ (heap_alloc_new wr _) rfl _ _ rfl w.heap.size u3 _ _ rfl (HOWN2.out.alloc _) rfl rfl (ones_cons rfl ones_nil) (by omega) (by omega) (by have := hb2.size; simp; omega) ?_
            intro g cap wA hownA hgrowA hatA hltA
            refine hK.out _ _ (below_app hS (HOWN2.out.alloc _) hgrowA hS.size) (fun hS => ?_)
            clear hK K
            refine wpAnyH_ready (rs := [21]) (by kernel_rfl) (by simp) ?_
            refine AllReadyH.cons rfl (fun K hK => ?_) AllReadyH.nil
            go_simp
            go_at_call 31
            refine (IH.out U A2 n2 q2 items _ (by omega) (HI.out.below hS) hn2 (by unfold maxLen; omega) (by omega)).mono ?_
            rintro e wF ⟨vF, rfl, hownF, hbF⟩
            refine hK.out _ _ (hS.trans (hbF.mono hS.size)) (fun hS => ?_)
            clear hK K
            have hownA2 := own_keep hownA fun b' hv => hbF.block b' (hownA.lt b' hv).2
            obtain ⟨AF, cF, rfl, _⟩ := own_form hownF
            have hsF := Sl.of_own (U := fun _ => True) hownF (fun _ _ => trivial)
            refine wpAnyH_ready (rs := [22]) (by kernel_rfl) (by simp) ?_
            refine AllReadyH.cons rfl (fun K hK => ?_) AllReadyH.nil
            refine app_many_step el54 rfl _ _ rfl w.heap.size _ _ _ rfl hownA2 AF _ cF _ rfl hsF (ints_ones _) (by omega) (by omega) (by omega) hS.size ?_
            intro g2 cap2 wB hownB hgrowB hatB hltB
            have hbB := below_app hS hownA2 hgrowB hS.size
            refine hK.out _ _ hbB (fun hS => ?_)
            clear hK K
            refine wpAnyH_take (i := 23) (v := .slice (some ⟨g2, 0, none⟩) (m + 1 + (flatIs items).length) cap2) rfl (by kernel_rfl) (by kernel_rfl) (by kernel_rfl) (fun _ _ _ h => h) (Or.inl ⟨by kernel_rfl, fun _ _ => by kernel_rfl⟩) hS ?_
            refine wpAnyH_done (by kernel_rfl) ?_ _
            go_wp2_with fail
            go_roundw
            case rel => first | exact ⟨j + 1, by omega, by go_num, flat_fin HM.out hdn2.out hownB, hbB⟩ | (refine ⟨_, _, ?_, rfl, rfl⟩; exact ⟨j + 1, by omega, by go_num, flat_fin HM.out hdn2.out hownB, hbB⟩)
            case measure => simp [intOf]; omega
          · obtain rfl : j = n' := by omega
            have e : flatAs (arms.take j) = flatAs arms := by rw [← HA.out.len, List.take_length]
            rw [e] at hown2
            go_wp2_with fail
            go_roundw
            case rel => exact ⟨k + 1, by omega, by go_num, by rw [HPR.out]; exact hown2, hb2⟩
            case measure => simp [intOf]; omega
    · obtain rfl : k = n := by omega
      have e : flatIs (l.take k) = flatIs l := by rw [← h.len, List.take_length]
      rw [e] at hown
      go_wp2
      go_ret
      exact ⟨_, rfl, hown, hb⟩
theorem flatR_all (N : Nat) : FlatC 31 N := by
  induction N with
  | zero => intro U A n c l w hsz; exact absurd hsz (Nat.not_lt_zero _)
  | succ N ih => exact flatR_step N ih
/-- The reference's Flat. -/
theorem flatR_any {U : Nat → Prop} (A : Option Addr) (n c : Nat) (l : List It) (w : World) (h : Its w U A n l) (hnc : n ≤ c) (hcm : c ≤ maxLen) (hd : (flatIs l).length ≤ 200000000000) :
    Calls Try.prog 31 #[.slice A n c] w (IntsRet w (flatIs l)) :=
  flatR_all (sizeIs l + 1) U A n c l w (Nat.lt_succ_self _) h hnc hcm hd
end Go.Proofs.Ytjklnlocmmnclaa
