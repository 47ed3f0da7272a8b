/- Walks: copies of items, reference to program. -/
import Derived.Test.YtjklnlocmmnclaaHd
import Derived.Test.YtjklnlocmmnclaaMf
import Derived.Deep.RegionHeld
import Derived.Test.YtjklnlocmmnclaaWa
import Derived.Test.YtjklnlocmmnclaaMc9
namespace Go.Proofs.Ytjklnlocmmnclaa
open Go.RowKit
set_option maxRecDepth 1000000 in
set_option maxHeartbeats 2000000 in
theorem raw_step (N : Nat) (ih : CopyC 35 N) : CopyC 35 (N + 1) := by
  intro U A n c l w hsz h hnc hcm hd
  unfold maxLen at hcm
  have IH := Lib.hid ih
  clear ih
  go_enter Try.func35, Try.ntmps35
  go_wp2_with fail
  go_loopw [3, 4, 5, 6] (fun vo iv _ _ wr => CopyRel w 66 n l vo iv wr) (fun _ iv _ _ _ => n - (intOf iv).toNat)
  case atStart => exact ⟨0, _, _, by omega, rfl, COut.start w 66⟩
  case round =>
    obtain ⟨k, F, orecs, hk, rfl, hO⟩ := hrel
    by_cases hlt : k < n
    · obtain ⟨b, off, kk, line, arms, A', n', c', rfl, hu, hbl, hx, c0, c1, c2, hn', hc', ha⟩ := Its.at_ h hlt
      have hs1 := sizeIs_get l k _ hx
      simp only [sizeI] at hs1
      have hsl := sizeIs_len l
      have hll := h.len
      unfold maxLen at hc'
      have hsa := sizeAs_len arms
      have hal := ha.len
      obtain ⟨done, HD⟩ : ∃ d, Hid (d = l.take k) := ⟨_, Lib.hid rfl⟩
      rw [← HD.out] at hO
      have hdl : done.length = k := by rw [HD.out, List.length_take]; omega
      have HDL := Lib.hid hdl
      have hdk : done.length ≤ 1000000000000 := by omega
      have hn12 : n' ≤ 1000000000000 := by omega
      have HX := Lib.hid hx
      have C0 := Lib.hid c0
      have C1 := Lib.hid c1
      have C2 := Lib.hid c2
      have HA := Lib.hid ha
      clear hx c0 c1 c2 ha hdl hll hal hsl hsa
      go_wp2_with fail
      refine wp_region_held_drew (S := fun W => Below w.heap.size w W) (by kernel_rfl) hO.below.drew (fun hS => ?_)
      refine wpAnyH_take (i := 0) (v := .slice (some ⟨b, off, none⟩) n c) rfl (by kernel_rfl) (by kernel_rfl) (by kernel_rfl) (fun _ _ _ h => h) (Or.inl ⟨by kernel_rfl, fun _ _ => by kernel_rfl⟩) hS ?_
      refine wpAnyH_take (i := 1) (v := .int .i64 k) rfl (by kernel_rfl) (by kernel_rfl) (by kernel_rfl) (fun _ _ _ h => h) (Or.inl ⟨by kernel_rfl, fun _ _ => by kernel_rfl⟩) hS ?_
      refine wpAnyH_take (i := 2) (v := .pointer (some ⟨b, off + k * 3, none⟩)) rfl (by kernel_rfl) (by kernel_rfl) (by kernel_rfl) (fun _ _ _ h => h) (Or.inl ⟨by kernel_rfl, fun _ _ => by go_simp⟩) hS ?_
      refine wpAnyH_take (i := 3) (v := .pointer (some ⟨b, off + k * 3, none⟩)) rfl (by kernel_rfl) (by kernel_rfl) (by kernel_rfl) (fun _ _ _ h => h) (Or.inl ⟨by kernel_rfl, fun _ _ => by go_simp⟩) hS ?_
      refine wpAnyH_take (i := 4) (v := .int .i64 kk) rfl (by kernel_rfl) (by kernel_rfl) (by kernel_rfl) (fun _ _ _ h => h) (Or.inl ⟨by kernel_rfl, fun _ hS_ => by have h_ := (hS_.cell (p := ⟨b, _, none⟩) hbl).trans C0.out; go_simp⟩) hS ?_
      refine wpAnyH_take (i := 5) (v := .slice (some ⟨b, off, none⟩) n c) rfl (by kernel_rfl) (by kernel_rfl) (by kernel_rfl) (fun _ _ _ h => h) (Or.inl ⟨by kernel_rfl, fun _ _ => by kernel_rfl⟩) hS ?_
      refine wpAnyH_take (i := 6) (v := .int .i64 k) rfl (by kernel_rfl) (by kernel_rfl) (by kernel_rfl) (fun _ _ _ h => h) (Or.inl ⟨by kernel_rfl, fun _ _ => by kernel_rfl⟩) hS ?_
      refine wpAnyH_take (i := 7) (v := .pointer (some ⟨b, off + k * 3, none⟩)) rfl (by kernel_rfl) (by kernel_rfl) (by kernel_rfl) (fun _ _ _ h => h) (Or.inl ⟨by kernel_rfl, fun _ _ => by go_simp⟩) hS ?_
      refine wpAnyH_take (i := 8) (v := .pointer (some ⟨b, off + k * 3 + 1, none⟩)) rfl (by kernel_rfl) (by kernel_rfl) (by kernel_rfl) (fun _ _ _ h => h) (Or.inl ⟨by kernel_rfl, fun _ _ => by go_simp⟩) hS ?_
      refine wpAnyH_take (i := 9) (v := .int .i64 line) rfl (by kernel_rfl) (by kernel_rfl) (by kernel_rfl) (fun _ _ _ h => h) (Or.inl ⟨by kernel_rfl, fun _ hS_ => by have h_ := (hS_.cell (p := ⟨b, _, none⟩) hbl).trans C1.out; go_simp⟩) hS ?_
      refine wpAnyH_take (i := 10) (v := .agg #[.int .i64 kk, .int .i64 line, .slice none 0 0]) rfl (by kernel_rfl) (by kernel_rfl) (by kernel_rfl) (fun _ _ _ h => h) (Or.inl ⟨by kernel_rfl, fun _ _ => by kernel_rfl⟩) hS ?_
      refine wpAnyH_ready (rs := [11]) (by kernel_rfl) (by simp) ?_
      refine AllReadyH.cons rfl (fun K hK => ?_) AllReadyH.nil
      go_simp
      refine hK.out _ _ (hO.below.alloc hO.below.size _).drew (fun hS => ?_)
      clear hK K
      refine wpAnyH_ready (rs := [12]) (by kernel_rfl) (by simp) ?_
      refine AllReadyH.cons rfl (fun K hK => ?_) AllReadyH.nil
      go_simp
      refine hK.out _ _ (hO.below.alloc hO.below.size _).drew (fun hS => ?_)
      clear hK K
      refine wpAnyH_done (by kernel_rfl) ?_ _
      have hC := CInv.open_ 68 hO kk line
      obtain ⟨X, HXX⟩ : ∃ X, Hid (X = wr.heap.size) := ⟨_, Lib.hid rfl⟩
      rw [← HXX.out] at hC ⊢
      have hC' : CInv w 66 68 F u3 (.slice none 0 0) orecs [] X kk line done [] (wr.alloc (.cells #[.int .i64 kk, .int .i64 line, .slice none 0 0] 66)).drew := hC.keep (Below.refl _ _).drew
      go_wp2_with fail
      go_loopw [6] (fun iv wx => CopyRel2 w 66 68 n' arms u3 orecs X kk line done iv wx) (fun iv _ => n' - (intOf iv).toNat)
      case atStart => exact ⟨0, F, _, _, by omega, rfl, hC'⟩
      case round =>
        obtain ⟨j, F2, va, arecs, hj, rfl, hI⟩ := hrel
        have c2 := (hI.cout.below.cell (p := ⟨b, _, none⟩) hbl).trans C2.out
        obtain ⟨adone, HAD⟩ : ∃ d, Hid (d = arms.take j) := ⟨_, Lib.hid rfl⟩
        rw [← HAD.out] at hI
        by_cases hlt2 : j < n'
        · obtain ⟨b2, off2, line2, items, A2, n2, q2, rfl, hu2, hbl2, hx2, d0, d1, hn2, hc2', hi⟩ := Ars.at_ HA.out hlt2
          have hs2 := sizeAs_get arms j _ hx2
          simp only [sizeA] at hs2
          have HX2 := Lib.hid hx2
          unfold maxLen at hc2'
          have D0 := Lib.hid d0
          have D1 := Lib.hid d1
          have HI := Lib.hid hi
          have hja : adone.length ≤ 1000000000000 := by rw [HAD.out, List.length_take]; omega
          have HVA := Lib.hid (own_one hI.arm)
          clear hx2 hi d0 d1
          go_wp2_with fail
          refine wp_region_held_drew (S := fun W => Below w.heap.size w W) (by kernel_rfl) hI.cout.below.drew (fun hS => ?_)
          refine wpAnyH_take (i := 0) (v := .pointer (some ⟨X, 2, none⟩)) rfl (by kernel_rfl) (by kernel_rfl) (by kernel_rfl) (fun _ _ _ h => h) (Or.inl ⟨by kernel_rfl, fun _ _ => by kernel_rfl⟩) hS ?_
          refine wpAnyH_take (i := 2) (v := .slice (some ⟨b, off, none⟩) n c) rfl (by kernel_rfl) (by kernel_rfl) (by kernel_rfl) (fun _ _ _ h => h) (Or.inl ⟨by kernel_rfl, fun _ _ => by kernel_rfl⟩) hS ?_
          refine wpAnyH_take (i := 3) (v := .int .i64 k) rfl (by kernel_rfl) (by kernel_rfl) (by kernel_rfl) (fun _ _ _ h => h) (Or.inl ⟨by kernel_rfl, fun _ _ => by kernel_rfl⟩) hS ?_
          refine wpAnyH_take (i := 4) (v := .pointer (some ⟨b, off + k * 3, none⟩)) rfl (by kernel_rfl) (by kernel_rfl) (by kernel_rfl) (fun _ _ _ h => h) (Or.inl ⟨by kernel_rfl, fun _ _ => by go_simp⟩) hS ?_
          refine wpAnyH_take (i := 5) (v := .pointer (some ⟨b, off + k * 3 + 2, none⟩)) rfl (by kernel_rfl) (by kernel_rfl) (by kernel_rfl) (fun _ _ _ h => h) (Or.inl ⟨by kernel_rfl, fun _ _ => by go_simp⟩) hS ?_
          refine wpAnyH_take (i := 6) (v := .slice (some ⟨b2, off2, none⟩) n' c') rfl (by kernel_rfl) (by kernel_rfl) (by kernel_rfl) (fun _ _ _ h => h) (Or.inl ⟨by kernel_rfl, fun _ hS_ => by have h_ := (hS_.cell (p := ⟨b, _, none⟩) hbl).trans C2.out; go_simp⟩) hS ?_
          refine wpAnyH_take (i := 7) (v := .int .i64 j) rfl (by kernel_rfl) (by kernel_rfl) (by kernel_rfl) (fun _ _ _ h => h) (Or.inl ⟨by kernel_rfl, fun _ _ => by kernel_rfl⟩) hS ?_
          refine wpAnyH_take (i := 8) (v := .pointer (some ⟨b2, off2 + j * 2, none⟩)) rfl (by kernel_rfl) (by kernel_rfl) (by kernel_rfl) (fun _ _ _ h => h) (Or.inl ⟨by kernel_rfl, fun _ _ => by go_simp⟩) hS ?_
          refine wpAnyH_take (i := 9) (v := .pointer (some ⟨b2, off2 + j * 2, none⟩)) rfl (by kernel_rfl) (by kernel_rfl) (by kernel_rfl) (fun _ _ _ h => h) (Or.inl ⟨by kernel_rfl, fun _ _ => by go_simp⟩) hS ?_
          refine wpAnyH_take (i := 10) (v := .int .i64 line2) rfl (by kernel_rfl) (by kernel_rfl) (by kernel_rfl) (fun _ _ _ h => h) (Or.inl ⟨by kernel_rfl, fun _ hS_ => by have h_ := (hS_.cell (p := ⟨b2, _, none⟩) hbl2).trans D0.out; go_simp⟩) hS ?_
          refine wpAnyH_take (i := 11) (v := .slice (some ⟨b, off, none⟩) n c) rfl (by kernel_rfl) (by kernel_rfl) (by kernel_rfl) (fun _ _ _ h => h) (Or.inl ⟨by kernel_rfl, fun _ _ => by kernel_rfl⟩) hS ?_
          refine wpAnyH_take (i := 12) (v := .int .i64 k) rfl (by kernel_rfl) (by kernel_rfl) (by kernel_rfl) (fun _ _ _ h => h) (Or.inl ⟨by kernel_rfl, fun _ _ => by kernel_rfl⟩) hS ?_
          refine wpAnyH_take (i := 13) (v := .pointer (some ⟨b, off + k * 3, none⟩)) rfl (by kernel_rfl) (by kernel_rfl) (by kernel_rfl) (fun _ _ _ h => h) (Or.inl ⟨by kernel_rfl, fun _ _ => by go_simp⟩) hS ?_
          refine wpAnyH_take (i := 14) (v := .pointer (some ⟨b, off + k * 3 + 2, none⟩)) rfl (by kernel_rfl) (by kernel_rfl) (by kernel_rfl) (fun _ _ _ h => h) (Or.inl ⟨by kernel_rfl, fun _ _ => by go_simp⟩) hS ?_
          refine wpAnyH_take (i := 15) (v := .slice (some ⟨b2, off2, none⟩) n' c') rfl (by kernel_rfl) (by kernel_rfl) (by kernel_rfl) (fun _ _ _ h => h) (Or.inl ⟨by kernel_rfl, fun _ hS_ => by have h_ := (hS_.cell (p := ⟨b, _, none⟩) hbl).trans C2.out; go_simp⟩) hS ?_
          refine wpAnyH_take (i := 16) (v := .int .i64 j) rfl (by kernel_rfl) (by kernel_rfl) (by kernel_rfl) (fun _ _ _ h => h) (Or.inl ⟨by kernel_rfl, fun _ _ => by kernel_rfl⟩) hS ?_
          refine wpAnyH_take (i := 17) (v := .pointer (some ⟨b2, off2 + j * 2, none⟩)) rfl (by kernel_rfl) (by kernel_rfl) (by kernel_rfl) (fun _ _ _ h => h) (Or.inl ⟨by kernel_rfl, fun _ _ => by go_simp⟩) hS ?_
          refine wpAnyH_take (i := 18) (v := .pointer (some ⟨b2, off2 + j * 2 + 1, none⟩)) rfl (by kernel_rfl) (by kernel_rfl) (by kernel_rfl) (fun _ _ _ h => h) (Or.inl ⟨by kernel_rfl, fun _ _ => by go_simp⟩) hS ?_
          refine wpAnyH_take (i := 19) (v := .slice A2 n2 q2) rfl (by kernel_rfl) (by kernel_rfl) (by kernel_rfl) (fun _ _ _ h => h) (Or.inl ⟨by kernel_rfl, fun _ hS_ => by have h_ := (hS_.cell (p := ⟨b2, _, none⟩) hbl2).trans D1.out; go_simp⟩) hS ?_
          refine wpAnyH_ready (rs := [1, 20]) (by kernel_rfl) (by simp) ?_
          refine AllReadyH.cons rfl (fun K hK => ?gA) (AllReadyH.cons rfl (fun K hK => ?gB) AllReadyH.nil)
          case' gA =>
            have d2 := cell_of_row _ X 2 _ _ _ hI.blk
            have hv1 := HVA.out
            go_simp
            refine hK.out _ _ hS (fun hS => ?_)
            clear hK K d2 hv1
            refine wpAnyH_ready (rs := [20]) (by kernel_rfl) (by simp) ?_
            refine AllReadyH.cons rfl (fun K hK => ?_) AllReadyH.nil
            go_simp
            go_at_call 35
            refine (IH.out U A2 n2 q2 items _ (by omega) (HI.out.below hS) hn2 (by unfold maxLen; omega) (by omega)).mono ?_
            rintro e wF ⟨AF, cF, rfl, hcF, hcmF, hIF, hbF⟩
            have hbF' := below_drew2 hbF
            have hIw := hI.keep hbF'
            refine hK.out _ _ hIw.cout.below (fun hS => ?_)
            clear hK K
            obtain ⟨qn, HQN⟩ : ∃ q, Hid (q = items.length) := ⟨_, Lib.hid rfl⟩
            rw [← HQN.out] at hcF hIF ⊢
            refine wpAnyH_take (i := 21) (v := .agg #[.int .i64 line2, .slice AF qn cF]) rfl (by kernel_rfl) (by kernel_rfl) (by kernel_rfl) (fun _ _ _ h => h) (Or.inl ⟨by kernel_rfl, fun _ _ => by kernel_rfl⟩) hS ?_
            refine wpAnyH_ready (rs := [22]) (by kernel_rfl) (by simp) ?_
            refine AllReadyH.cons rfl (fun K hK => ?_) AllReadyH.nil
            go_simp
            refine hK.out _ _ (hIw.cout.below.alloc hIw.cout.below.size (Obj.cells #[.int .i64 line2, .slice AF qn cF] 68)) (fun hS => ?_)
            clear hK K
          case' gB =>
            go_simp
            go_at_call 35
            refine (IH.out U A2 n2 q2 items _ (by omega) (HI.out.below hS) hn2 (by unfold maxLen; omega) (by omega)).mono ?_
            rintro e wF ⟨AF, cF, rfl, hcF, hcmF, hIF, hbF⟩
            have hbF' := below_drew2 hbF
            have hIw := hI.keep hbF'
            refine hK.out _ _ hIw.cout.below (fun hS => ?_)
            clear hK K
            obtain ⟨qn, HQN⟩ : ∃ q, Hid (q = items.length) := ⟨_, Lib.hid rfl⟩
            rw [← HQN.out] at hcF hIF ⊢
            refine wpAnyH_take (i := 21) (v := .agg #[.int .i64 line2, .slice AF qn cF]) rfl (by kernel_rfl) (by kernel_rfl) (by kernel_rfl) (fun _ _ _ h => h) (Or.inl ⟨by kernel_rfl, fun _ _ => by kernel_rfl⟩) hS ?_
            refine wpAnyH_ready (rs := [1, 22]) (by kernel_rfl) (by simp) ?_
            refine AllReadyH.cons rfl (fun K hK => ?gB1) (AllReadyH.cons rfl (fun K hK => ?gB2) AllReadyH.nil)
          case' gB1 =>
            have d2 := cell_of_row _ X 2 _ _ _ hIw.blk
            have hv1 := HVA.out
            go_simp
            refine hK.out _ _ hS (fun hS => ?_)
            clear hK K d2 hv1
            refine wpAnyH_ready (rs := [22]) (by kernel_rfl) (by simp) ?_
            refine AllReadyH.cons rfl (fun K hK => ?_) AllReadyH.nil
            go_simp
            refine hK.out _ _ (hIw.cout.below.alloc hIw.cout.below.size (Obj.cells #[.int .i64 line2, .slice AF qn cF] 68)) (fun hS => ?_)
            clear hK K
          case' gB2 =>
            go_simp
            refine hK.out _ _ (hIw.cout.below.alloc hIw.cout.below.size (Obj.cells #[.int .i64 line2, .slice AF qn cF] 68)) (fun hS => ?_)
            clear hK K
            refine wpAnyH_ready (rs := [1]) (by kernel_rfl) (by simp) ?_
            refine AllReadyH.cons rfl (fun K hK => ?_) AllReadyH.nil
            have d2 := cell_of_row _ X 2 _ _ _ ((Below.heap_alloc wF (Obj.cells #[.int .i64 line2, .slice AF qn cF] 68) X (lt_of_blk hIw.blk)).trans hIw.blk)
            have hv1 := HVA.out
            go_simp
            refine hK.out _ _ hS (fun hS => ?_)
            clear hK K d2 hv1
          all_goals
            refine wpAnyH_ready (rs := [23]) (by kernel_rfl) (by simp) ?_
            refine AllReadyH.cons rfl (fun K hK => ?_) AllReadyH.nil
            refine app_step el64 wF.heap.size _ (heap_alloc_new wF _) rfl _ _ rfl w.heap.size va _ _ rfl (hIw.arm.alloc _) rfl rfl (ones_cons rfl (ones_cons rfl ones_nil)) (by omega) (by omega) (by have := hIw.cout.below.size; simp; omega) ?_
            intro g cap wA hownA hgrowA hatA hltA
            have hgA : ∀ b, b < wF.heap.size → va.ownBlock ≠ some b → wA.heap[b]? = wF.heap[b]? := fun b h1 h2 => (hgrowA.block b (by simp; omega) (fun e => h2 e.symm)).trans (Below.heap_alloc wF _ b h1)
            have hzA : wF.heap.size ≤ wA.heap.size := by have := hgrowA.size; simp at this; omega
            have hbA : Below w.heap.size w wA := below_app hS (hIw.arm.alloc _) hgrowA hS.size
            have hvX : va.ownBlock ≠ some X := own_ne_blk hIw.arm hIw.blk (by decide)
            have hXA : wA.heap[X]? = some (.cells #[.int .i64 kk, .int .i64 line, va] 66) := (hgA X (lt_of_blk hIw.blk) hvX).trans hIw.blk
            have hatA' : va.ownBlock = some g ∨ wF.heap.size ≤ g := by rcases hatA with hatA | hatA; exact .inl hatA; right; simp at hatA; omega
            have hnew := hIw.arm_more (by decide) (line2 := line2) (items := items) hcF hcmF hIF (fun b hb => ⟨by have := hI.cout.below.size; have := hb.1; simp at this; omega, hb.2, fun e => by have := (hI.cout.out.lt b e).2; have := hb.1; simp at this; omega, fun e => by have := (hI.arm.lt b e).2; have := hb.1; simp at this; omega, fun e => by have := lt_of_blk hI.blk; have := hb.1; simp at this; omega⟩) hownA hzA hbA hgA hatA'
            refine hK.out _ _ hbA (fun hS => ?_)
            clear hK K
            refine wpAnyH_take (i := 24) (v := .pointer (some ⟨X, 2, none⟩)) rfl (by kernel_rfl) (by kernel_rfl) (by kernel_rfl) (fun _ _ _ h => h) (Or.inl ⟨by kernel_rfl, fun _ _ => by kernel_rfl⟩) hS ?_
            refine wpAnyH_ready (rs := [25]) (by kernel_rfl) (by simp) ?_
            refine AllReadyH.cons rfl (fun K hK => ?_) AllReadyH.nil
            have hx2 : wA.cell? ⟨X, 2, none⟩ = some va := cell_of_row wA X 2 _ _ _ hXA
            have hf2 : wA.frozen? ⟨X, 2, none⟩ = false := frozen_of_row hXA 2
            have hv1 := HVA.out
            clear hownA hgrowA hatA hltA hzA hvX hatA' hgA hIw
            go_simp
            refine hK.out _ _ hnew.cout.below (fun hS => ?_)
            clear hK K
            refine wpAnyH_done (by kernel_rfl) ?_ _
            go_wp2_with fail
            go_roundw
            case rel => first | exact ⟨j + 1, _, _, _, by omega, by go_num, by rw [take_next HX2.out, ← HAD.out]; exact hnew⟩ | (refine ⟨_, ?_, rfl⟩; exact ⟨j + 1, _, _, _, by omega, by go_num, by rw [take_next HX2.out, ← HAD.out]; exact hnew⟩)
            case measure => simp [intOf]; omega
        · obtain rfl : j = n' := by omega
          have e : adone = arms := by rw [HAD.out, ← HA.out.len, List.take_length]
          rw [e] at hI
          obtain ⟨AV, cV, rfl, hVc, hVm, _⟩ := own_form hI.arm
          have d0 := cell_of_row _ X 0 _ _ _ hI.blk
          have d1 := cell_of_row _ X 1 _ _ _ hI.blk
          have d2 := cell_of_row _ X 2 _ _ _ hI.blk
          go_wp2_with (at_builtin; refine app_at el42 wr.heap.size rfl _ rfl _ _ rfl w.heap.size u3 _ _ rfl hI.cout.out rfl rfl (ones_cons rfl (ones_cons rfl (ones_cons rfl ones_nil))) (by omega) (by omega) (by have := hI.cout.below.size; omega) ?_; intro g cap w1 hown1 hgrow hat hlt1)
          have hfin := hI.close (by decide) hVc hVm hown1 hgrow.size (below_app hI.cout.below hI.cout.out hgrow hI.cout.below.size) (fun b h1 h2 => hgrow.block b h1 (fun e => h2 e.symm)) (by rcases hat with hat | hat; exact .inl hat; right; omega)
          go_roundw
          case rel => exact ⟨k + 1, _, _, by omega, by go_num, by rw [take_next HX.out, ← HD.out]; exact hfin⟩
          case measure => simp [intOf]; omega
    · obtain rfl : k = n := by omega
      have e : l.take k = l := by rw [← h.len, List.take_length]
      rw [e] at hO
      go_wp2
      go_ret
      exact hO.ret
theorem raw_all (N : Nat) : CopyC 35 N := by
  induction N with
  | zero => intro U A n c l w hsz; exact absurd hsz (Nat.not_lt_zero _)
  | succ N ih => exact raw_step N ih
theorem raw_any {U : Nat → Prop} (A : Option Addr) (n c : Nat) (l : List It) (w : World) (h : Its w U A n l) (hnc : n ≤ c) (hcm : c ≤ maxLen) (hd : sizeIs l ≤ 1000000000000) :
    Calls Try.prog 35 #[.slice A n c] w (CopyRet w l) :=
  raw_all (sizeIs l + 1) U A n c l w (Nat.lt_succ_self _) h hnc hcm hd
end Go.Proofs.Ytjklnlocmmnclaa
