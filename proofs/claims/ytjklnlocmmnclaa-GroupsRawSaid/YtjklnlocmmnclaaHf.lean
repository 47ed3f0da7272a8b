/- Walks: items alike, numbers alike, diagnostics alike. -/
import Derived.Test.YtjklnlocmmnclaaHb
import Derived.Deep.RegionHeld
import Derived.Test.YtjklnlocmmnclaaMc9
import Derived.Deep.QuietTactic
import Derived.BigQuiet
namespace Go.Proofs.Ytjklnlocmmnclaa
open Go.RowKit

def SameC (N : Nat) : Prop := ∀ (U V : Nat → Prop) (A B : Option Addr) (n c cc : Nat) (l : List It) (w : World), sizeIs l < N → Its w U A n l → Its w V B n l → n ≤ c → c ≤ maxLen →
  Calls Try.prog 26 #[.slice A n c, .slice B n cc] w fun e w' => e = .returned (.bool true) ∧ Below w.heap.size w w'
set_option maxRecDepth 1000000 in
set_option maxHeartbeats 4000000 in
theorem same_step (N : Nat) (ih : SameC N) : SameC (N + 1) := by
  intro U V A B n c cc l w hsz h h' hnc hcm
  unfold maxLen at hcm
  have IH := Lib.hid ih
  clear ih
  go_enter Try.func26, Try.ntmps26
  go_wp2_with fail
  go_loopw [5, 6] (fun iv _ wr => ∃ k : Nat, k ≤ n ∧ iv = .int .i64 k ∧ Below w.heap.size w wr) (fun iv _ _ => n - (intOf iv).toNat)
  case atStart => exact ⟨0, by omega, rfl, Below.refl _ _⟩
  case round =>
    obtain ⟨k, hk, rfl, hb⟩ := hrel
    by_cases hlt : k < n
    · obtain ⟨b, off, kk, line, arms, A', n', c', rfl, hu, hbl, hx, c0, c1, c2, hn', hc', ha⟩ := Its.at_ h hlt
      obtain ⟨bb, offf, kkk, lline, aarms, AA', nn', cc', rfl, hhu, hbbl, hhx, e0, e1, e2, _, _, haa⟩ := Its.at_ h' hlt
      have hss := sizeIs_get l k _ hx
      rw [hx] at hhx
      injection hhx with hhx
      injection hhx with q1 q2 q3
      subst q1 q2 q3
      have hlen : nn' = n' := by rw [← ha.len, ← haa.len]
      subst hlen
      simp only [sizeI] at hss
      unfold maxLen at hc'
      have C2 := Lib.hid c2
      have CC2 := Lib.hid e2
      rw [← hb.cell (p := ⟨b, _, none⟩) hbl] at c0 c1 c2
      rw [← hb.cell (p := ⟨bb, _, none⟩) hbbl] at e0 e1 e2
      have HA := Lib.hid ha
      have HAA := Lib.hid haa
      clear hx ha haa
      go_wp2_with fail
      go_quiet (fail)
      have hbq : Below w.heap.size w (wr.drewN nq) := below_drewN hb nq
      go_wp2_with fail
      go_loopw [6] (fun iv wx => ∃ j : Nat, j ≤ nn' ∧ iv = .int .i64 j ∧ Below w.heap.size w wx) (fun iv _ => nn' - (intOf iv).toNat)
      case atStart => exact ⟨0, by omega, rfl, hbq⟩
      case round =>
        clear c0 c1 c2 e0 e1 e2
        obtain ⟨j, hj, rfl, hb2⟩ := hrel
        have c2 := (hb2.cell (p := ⟨b, _, none⟩) hbl).trans C2.out
        have e2 := (hb2.cell (p := ⟨bb, _, none⟩) hbbl).trans CC2.out
        by_cases hlt2 : j < nn'
        · obtain ⟨b2, off2, line2, items, A2, n2, q2, rfl, hu2, hbl2, hx2, d0, d1, hn2, hc2', hi⟩ := Ars.at_ HA.out hlt2
          obtain ⟨bb2, offf2, lline2, iitems, AA2, nn2, qq2, rfl, hhu2, hbbl2, hhx2, dd0, dd1, _, _, hhi⟩ := Ars.at_ HAA.out hlt2
          rw [hx2] at hhx2
          injection hhx2 with hhx2
          injection hhx2 with q3 q4
          subst q3 q4
          have hlen2 : nn2 = n2 := by rw [← hi.len, ← hhi.len]
          subst hlen2
          have hs2 := sizeAs_get arms j _ hx2
          simp only [sizeA] at hs2
          unfold maxLen at hc2'
          have D0 := Lib.hid d0
          have D1 := Lib.hid d1
          have DD0 := Lib.hid dd0
          have DD1 := Lib.hid dd1
          have HI := Lib.hid hi
          have HHI := Lib.hid hhi
          clear hx2 hi hhi d0 d1 dd0 dd1
          go_wp2_with fail
          refine wp_region_held_drew (S := fun W => Below w.heap.size w W) (by kernel_rfl) hb2.drew (fun hS => ?_)
          refine wpAnyH_take (i := 0) (v := .slice (some ⟨b, off, none⟩) n c) rfl (by kernel_rfl) (by kernel_rfl) (by kernel_rfl) (fun _ _ _ h => h) (Or.inl ⟨by kernel_rfl, fun _ _ => by kernel_rfl⟩) hS ?_
          refine wpAnyH_take (i := 1) (v := .int .i64 k) rfl (by kernel_rfl) (by kernel_rfl) (by kernel_rfl) (fun _ _ _ h => h) (Or.inl ⟨by kernel_rfl, fun _ _ => by kernel_rfl⟩) hS ?_
          refine wpAnyH_take (i := 2) (v := .pointer (some ⟨b, off + k * 3, none⟩)) rfl (by kernel_rfl) (by kernel_rfl) (by kernel_rfl) (fun _ _ _ h => h) (Or.inl ⟨by kernel_rfl, fun _ _ => by go_simp⟩) hS ?_
          refine wpAnyH_take (i := 3) (v := .pointer (some ⟨b, off + k * 3 + 2, none⟩)) rfl (by kernel_rfl) (by kernel_rfl) (by kernel_rfl) (fun _ _ _ h => h) (Or.inl ⟨by kernel_rfl, fun _ _ => by go_simp⟩) hS ?_
          refine wpAnyH_take (i := 4) (v := .slice (some ⟨b2, off2, none⟩) nn' c') rfl (by kernel_rfl) (by kernel_rfl) (by kernel_rfl) (fun _ _ _ h => h) (Or.inl ⟨by kernel_rfl, fun _ hS_ => by have h_ := (hS_.cell (p := ⟨b, _, none⟩) hbl).trans C2.out; go_simp⟩) hS ?_
          refine wpAnyH_take (i := 5) (v := .int .i64 j) rfl (by kernel_rfl) (by kernel_rfl) (by kernel_rfl) (fun _ _ _ h => h) (Or.inl ⟨by kernel_rfl, fun _ _ => by kernel_rfl⟩) hS ?_
          refine wpAnyH_take (i := 6) (v := .pointer (some ⟨b2, off2 + j * 2, none⟩)) rfl (by kernel_rfl) (by kernel_rfl) (by kernel_rfl) (fun _ _ _ h => h) (Or.inl ⟨by kernel_rfl, fun _ _ => by go_simp⟩) hS ?_
          refine wpAnyH_take (i := 7) (v := .pointer (some ⟨b2, off2 + j * 2, none⟩)) rfl (by kernel_rfl) (by kernel_rfl) (by kernel_rfl) (fun _ _ _ h => h) (Or.inl ⟨by kernel_rfl, fun _ _ => by go_simp⟩) hS ?_
          refine wpAnyH_take (i := 8) (v := .int .i64 line2) rfl (by kernel_rfl) (by kernel_rfl) (by kernel_rfl) (fun _ _ _ h => h) (Or.inl ⟨by kernel_rfl, fun _ hS_ => by have h_ := (hS_.cell (p := ⟨b2, _, none⟩) hbl2).trans D0.out; go_simp⟩) hS ?_
          refine wpAnyH_take (i := 9) (v := .slice (some ⟨bb, offf, none⟩) n cc) rfl (by kernel_rfl) (by kernel_rfl) (by kernel_rfl) (fun _ _ _ h => h) (Or.inl ⟨by kernel_rfl, fun _ _ => by kernel_rfl⟩) hS ?_
          refine wpAnyH_take (i := 10) (v := .int .i64 k) rfl (by kernel_rfl) (by kernel_rfl) (by kernel_rfl) (fun _ _ _ h => h) (Or.inl ⟨by kernel_rfl, fun _ _ => by kernel_rfl⟩) hS ?_
          refine wpAnyH_take (i := 11) (v := .pointer (some ⟨bb, offf + k * 3, none⟩)) rfl (by kernel_rfl) (by kernel_rfl) (by kernel_rfl) (fun _ _ _ h => h) (Or.inl ⟨by kernel_rfl, fun _ _ => by go_simp⟩) hS ?_
          refine wpAnyH_take (i := 12) (v := .pointer (some ⟨bb, offf + k * 3 + 2, none⟩)) rfl (by kernel_rfl) (by kernel_rfl) (by kernel_rfl) (fun _ _ _ h => h) (Or.inl ⟨by kernel_rfl, fun _ _ => by go_simp⟩) hS ?_
          refine wpAnyH_take (i := 13) (v := .slice (some ⟨bb2, offf2, none⟩) nn' cc') rfl (by kernel_rfl) (by kernel_rfl) (by kernel_rfl) (fun _ _ _ h => h) (Or.inl ⟨by kernel_rfl, fun _ hS_ => by have h_ := (hS_.cell (p := ⟨bb, _, none⟩) hbbl).trans CC2.out; go_simp⟩) hS ?_
          refine wpAnyH_take (i := 14) (v := .int .i64 j) rfl (by kernel_rfl) (by kernel_rfl) (by kernel_rfl) (fun _ _ _ h => h) (Or.inl ⟨by kernel_rfl, fun _ _ => by kernel_rfl⟩) hS ?_
          refine wpAnyH_take (i := 15) (v := .pointer (some ⟨bb2, offf2 + j * 2, none⟩)) rfl (by kernel_rfl) (by kernel_rfl) (by kernel_rfl) (fun _ _ _ h => h) (Or.inl ⟨by kernel_rfl, fun _ _ => by go_simp⟩) hS ?_
          refine wpAnyH_take (i := 16) (v := .pointer (some ⟨bb2, offf2 + j * 2, none⟩)) rfl (by kernel_rfl) (by kernel_rfl) (by kernel_rfl) (fun _ _ _ h => h) (Or.inl ⟨by kernel_rfl, fun _ _ => by go_simp⟩) hS ?_
          refine wpAnyH_take (i := 17) (v := .int .i64 line2) rfl (by kernel_rfl) (by kernel_rfl) (by kernel_rfl) (fun _ _ _ h => h) (Or.inl ⟨by kernel_rfl, fun _ hS_ => by have h_ := (hS_.cell (p := ⟨bb2, _, none⟩) hbbl2).trans DD0.out; go_simp⟩) hS ?_
          refine wpAnyH_take (i := 18) (v := .bool false) rfl (by kernel_rfl) (by kernel_rfl) (by kernel_rfl) (fun _ _ _ h => h) (Or.inl ⟨by kernel_rfl, fun _ _ => by go_simp⟩) hS ?_
          refine wpAnyH_take (i := 19) (v := .bool false) rfl (by kernel_rfl) (by kernel_rfl) (by kernel_rfl) (fun _ _ _ h => h) (Or.inl ⟨by kernel_rfl, fun _ _ => by kernel_rfl⟩) hS ?_
          refine wpAnyH_take (i := 20) (v := .slice (some ⟨b, off, none⟩) n c) rfl (by kernel_rfl) (by kernel_rfl) (by kernel_rfl) (fun _ _ _ h => h) (Or.inl ⟨by kernel_rfl, fun _ _ => by kernel_rfl⟩) hS ?_
          refine wpAnyH_take (i := 21) (v := .int .i64 k) rfl (by kernel_rfl) (by kernel_rfl) (by kernel_rfl) (fun _ _ _ h => h) (Or.inl ⟨by kernel_rfl, fun _ _ => by kernel_rfl⟩) hS ?_
          refine wpAnyH_take (i := 22) (v := .pointer (some ⟨b, off + k * 3, none⟩)) rfl (by kernel_rfl) (by kernel_rfl) (by kernel_rfl) (fun _ _ _ h => h) (Or.inl ⟨by kernel_rfl, fun _ _ => by go_simp⟩) hS ?_
          refine wpAnyH_take (i := 23) (v := .pointer (some ⟨b, off + k * 3 + 2, none⟩)) rfl (by kernel_rfl) (by kernel_rfl) (by kernel_rfl) (fun _ _ _ h => h) (Or.inl ⟨by kernel_rfl, fun _ _ => by go_simp⟩) hS ?_
          refine wpAnyH_take (i := 24) (v := .slice (some ⟨b2, off2, none⟩) nn' c') rfl (by kernel_rfl) (by kernel_rfl) (by kernel_rfl) (fun _ _ _ h => h) (Or.inl ⟨by kernel_rfl, fun _ hS_ => by have h_ := (hS_.cell (p := ⟨b, _, none⟩) hbl).trans C2.out; go_simp⟩) hS ?_
          refine wpAnyH_take (i := 25) (v := .int .i64 j) rfl (by kernel_rfl) (by kernel_rfl) (by kernel_rfl) (fun _ _ _ h => h) (Or.inl ⟨by kernel_rfl, fun _ _ => by kernel_rfl⟩) hS ?_
          refine wpAnyH_take (i := 26) (v := .pointer (some ⟨b2, off2 + j * 2, none⟩)) rfl (by kernel_rfl) (by kernel_rfl) (by kernel_rfl) (fun _ _ _ h => h) (Or.inl ⟨by kernel_rfl, fun _ _ => by go_simp⟩) hS ?_
          refine wpAnyH_take (i := 27) (v := .pointer (some ⟨b2, off2 + j * 2 + 1, none⟩)) rfl (by kernel_rfl) (by kernel_rfl) (by kernel_rfl) (fun _ _ _ h => h) (Or.inl ⟨by kernel_rfl, fun _ _ => by go_simp⟩) hS ?_
          refine wpAnyH_take (i := 28) (v := .slice A2 nn2 q2) rfl (by kernel_rfl) (by kernel_rfl) (by kernel_rfl) (fun _ _ _ h => h) (Or.inl ⟨by kernel_rfl, fun _ hS_ => by have h_ := (hS_.cell (p := ⟨b2, _, none⟩) hbl2).trans D1.out; go_simp⟩) hS ?_
          refine wpAnyH_take (i := 29) (v := .slice (some ⟨bb, offf, none⟩) n cc) rfl (by kernel_rfl) (by kernel_rfl) (by kernel_rfl) (fun _ _ _ h => h) (Or.inl ⟨by kernel_rfl, fun _ _ => by kernel_rfl⟩) hS ?_
          refine wpAnyH_take (i := 30) (v := .int .i64 k) rfl (by kernel_rfl) (by kernel_rfl) (by kernel_rfl) (fun _ _ _ h => h) (Or.inl ⟨by kernel_rfl, fun _ _ => by kernel_rfl⟩) hS ?_
          refine wpAnyH_take (i := 31) (v := .pointer (some ⟨bb, offf + k * 3, none⟩)) rfl (by kernel_rfl) (by kernel_rfl) (by kernel_rfl) (fun _ _ _ h => h) (Or.inl ⟨by kernel_rfl, fun _ _ => by go_simp⟩) hS ?_
          refine wpAnyH_take (i := 32) (v := .pointer (some ⟨bb, offf + k * 3 + 2, none⟩)) rfl (by kernel_rfl) (by kernel_rfl) (by kernel_rfl) (fun _ _ _ h => h) (Or.inl ⟨by kernel_rfl, fun _ _ => by go_simp⟩) hS ?_
          refine wpAnyH_take (i := 33) (v := .slice (some ⟨bb2, offf2, none⟩) nn' cc') rfl (by kernel_rfl) (by kernel_rfl) (by kernel_rfl) (fun _ _ _ h => h) (Or.inl ⟨by kernel_rfl, fun _ hS_ => by have h_ := (hS_.cell (p := ⟨bb, _, none⟩) hbbl).trans CC2.out; go_simp⟩) hS ?_
          refine wpAnyH_take (i := 34) (v := .int .i64 j) rfl (by kernel_rfl) (by kernel_rfl) (by kernel_rfl) (fun _ _ _ h => h) (Or.inl ⟨by kernel_rfl, fun _ _ => by kernel_rfl⟩) hS ?_
          refine wpAnyH_take (i := 35) (v := .pointer (some ⟨bb2, offf2 + j * 2, none⟩)) rfl (by kernel_rfl) (by kernel_rfl) (by kernel_rfl) (fun _ _ _ h => h) (Or.inl ⟨by kernel_rfl, fun _ _ => by go_simp⟩) hS ?_
          refine wpAnyH_take (i := 36) (v := .pointer (some ⟨bb2, offf2 + j * 2 + 1, none⟩)) rfl (by kernel_rfl) (by kernel_rfl) (by kernel_rfl) (fun _ _ _ h => h) (Or.inl ⟨by kernel_rfl, fun _ _ => by go_simp⟩) hS ?_
          refine wpAnyH_take (i := 37) (v := .slice AA2 nn2 qq2) rfl (by kernel_rfl) (by kernel_rfl) (by kernel_rfl) (fun _ _ _ h => h) (Or.inl ⟨by kernel_rfl, fun _ hS_ => by have h_ := (hS_.cell (p := ⟨bb2, _, none⟩) hbbl2).trans DD1.out; go_simp⟩) hS ?_
          refine wpAnyH_ready (rs := [38]) (by kernel_rfl) (by simp) ?_
          refine AllReadyH.cons rfl (fun K hK => ?_) AllReadyH.nil
          go_simp
          go_at_call 26
          refine (IH.out U V A2 AA2 nn2 q2 qq2 items _ (by omega) (HI.out.below hS) (HHI.out.below hS) hn2 (by unfold maxLen; omega)).mono ?_
          rintro e wF ⟨rfl, hbF⟩
          refine hK.out _ _ (hS.trans (hbF.mono hS.size)) (fun hS => ?_)
          clear hK K
          refine wpAnyH_take (i := 39) (v := .bool false) rfl (by kernel_rfl) (by kernel_rfl) (by kernel_rfl) (fun _ _ _ h => h) (Or.inl ⟨by kernel_rfl, fun _ _ => by kernel_rfl⟩) hS ?_
          refine wpAnyH_take (i := 40) (v := .bool false) rfl (by kernel_rfl) (by kernel_rfl) (by kernel_rfl) (fun _ _ _ h => h) (Or.inl ⟨by kernel_rfl, fun _ _ => by kernel_rfl⟩) hS ?_
          refine wpAnyH_done (by kernel_rfl) ?_ _
          go_wp2_with fail
          go_roundw
          case rel => first | exact ⟨j + 1, by omega, by go_num, hS⟩ | (refine ⟨_, ?_, rfl⟩; exact ⟨j + 1, by omega, by go_num, hS⟩)
          case measure => simp [intOf]; omega
        · obtain rfl : j = nn' := by omega
          go_wp2_with fail
          go_roundw
          case rel => exact ⟨k + 1, by omega, by go_num, hb2⟩
          case measure => simp [intOf]; omega
    · obtain rfl : k = n := by omega
      go_wp2
      go_ret
      exact ⟨rfl, hb⟩
theorem same_all (N : Nat) : SameC N := by
  induction N with
  | zero => intro U V A B n c cc l w hsz; exact absurd hsz (Nat.not_lt_zero _)
  | succ N ih => exact same_step N ih
/-- SameItems, of alike ones. -/
theorem same_any {U V : Nat → Prop} (A B : Option Addr) (n c cc : Nat) (l : List It) (w : World) (h : Its w U A n l) (h' : Its w V B n l) (hnc : n ≤ c) (hcm : c ≤ maxLen) :
    Calls Try.prog 26 #[.slice A n c, .slice B n cc] w fun e w' => e = .returned (.bool true) ∧ Below w.heap.size w w' :=
  same_all (sizeIs l + 1) U V A B n c cc l w (Nat.lt_succ_self _) h h' hnc hcm

/-- Ints, of alike ones. -/
theorem ints_any (A B : Option Addr) (n c cc : Nat) (xs : List Int) {U V : Nat → Prop} (w : World) (h : Sl w U 1 A n (ints xs)) (h' : Sl w V 1 B n (ints xs)) (hn : n ≤ maxLen) :
    Calls Try.prog 29 #[.slice A n c, .slice B n cc] w fun e w' => e = .returned (.bool true) ∧ Below w.heap.size w w' := by
  unfold maxLen at hn
  have hl := h.1
  rw [ints_len] at hl
  go_enter Try.func29, Try.ntmps29
  go_wp2_with fail
  go_loopw [5] (fun iv wr => ∃ k : Nat, k ≤ n ∧ iv = .int .i64 k ∧ Below w.heap.size w wr) (fun iv _ => n - (intOf iv).toNat)
  case atStart => exact ⟨0, by omega, rfl, Below.refl _ _⟩
  case round =>
    obtain ⟨k, hk, rfl, hb⟩ := hrel
    by_cases hlt : k < n
    · obtain ⟨b, off, rfl, _, hc⟩ := h.2 (by rw [ints_len]; omega)
      obtain ⟨bb, offf, rfl, _, hcc⟩ := h'.2 (by rw [ints_len]; omega)
      obtain ⟨x, hx⟩ : ∃ x, xs[k]? = some x := ⟨_, List.getElem?_eq_getElem (by omega)⟩
      have c0 := hc k (.int .i64 x) (by simp [ints, hx])
      have d0 := hcc k (.int .i64 x) (by simp [ints, hx])
      rw [← hb.cell (p := ⟨b, _, none⟩) (lt_of_cell c0)] at c0
      rw [← hb.cell (p := ⟨bb, _, none⟩) (lt_of_cell d0)] at d0
      clear hx hc hcc h h' hl
      go_wp2_with fail
      go_quiet (fail)
      have hbq : Below w.heap.size w (wr.drewN nq) := below_drewN hb nq
      go_wp2_with fail
      go_roundw
      case rel => exact ⟨k + 1, by omega, by go_num, hbq⟩
      case measure => simp [intOf]; omega
    · obtain rfl : k = n := by omega
      clear hl
      go_wp2
      go_ret
      exact ⟨rfl, hb⟩
end Go.Proofs.Ytjklnlocmmnclaa
