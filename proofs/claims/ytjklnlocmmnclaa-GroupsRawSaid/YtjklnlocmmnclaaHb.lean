/- Walks: the lines of items. -/
import Derived.Test.YtjklnlocmmnclaaGa
import Derived.Test.YtjklnlocmmnclaaMc9
import Derived.Test.YtjklnlocmmnclaaMf
import Derived.Deep.RegionHeld
namespace Go.Proofs.Ytjklnlocmmnclaa
open Go.RowKit

def ints (l : List Int) : List Value := l.map (Value.int .i64)
theorem ints_len (l : List Int) : (ints l).length = l.length := by simp [ints]
theorem ints_ones (l : List Int) : ∀ u ∈ ints l, u.oneCell' = true := by
  intro u hu
  obtain ⟨x, _, rfl⟩ := List.mem_map.1 hu
  rfl
theorem ints_append (a b : List Int) : ints (a ++ b) = ints a ++ ints b := by simp [ints]
/-- A list of numbers in new memory that is handed back. -/
def IntsRet (w : World) (xs : List Int) (e : Ending) (w' : World) : Prop := ∃ v, e = .returned v ∧ w'.ownsRow w.heap.size 3 1 v xs.length (ints xs) ∧ Below w.heap.size w w'
def FlatC (F : FuncId) (N : Nat) : Prop := ∀ (U : Nat → Prop) (A : Option Addr) (n c : Nat) (l : List It) (w : World), sizeIs l < N → Its w U A n l → n ≤ c → c ≤ maxLen → (flatIs l).length ≤ 200000000000 →
  Calls Try.prog F #[.slice A n c] w (IntsRet w (flatIs l))
def FlatRel (w : World) (n : Nat) (l : List It) (vo iv : Value) (wr : World) : Prop := ∃ k : Nat, k ≤ n ∧ iv = .int .i64 k ∧ wr.ownsRow w.heap.size 3 1 vo (flatIs (l.take k)).length (ints (flatIs (l.take k))) ∧ Below w.heap.size w wr
def FlatRel2 (w : World) (n : Nat) (pre : List Int) (l : List Ar) (vo iv : Value) (wr : World) : Prop := ∃ k : Nat, k ≤ n ∧ iv = .int .i64 k ∧ wr.ownsRow w.heap.size 3 1 vo (pre ++ flatAs (l.take k)).length (ints (pre ++ flatAs (l.take k))) ∧ Below w.heap.size w wr

def headL (line : Int) (arms : List Ar) : List Int := if arms.isEmpty then [line] else []
theorem flatI_eq (kk line : Int) (arms : List Ar) : flatI (.mk kk line arms) = headL line arms ++ flatAs arms := by simp only [flatI, headL]
theorem flat_fin {w W : World} {g cap m j : Nat} {pre : List Int} {arms : List Ar} {line : Int} {items : List It} (hm : m = (pre ++ flatAs (arms.take j)).length) (hd : flatAs (arms.take (j + 1)) = flatAs (arms.take j) ++ flatA (.mk line items))
    (h : W.ownsRow w.heap.size 3 1 (.slice (some ⟨g, 0, none⟩) (m + 1 + (flatIs items).length) cap) (m + 1 + (flatIs items).length) ((ints (pre ++ flatAs (arms.take j)) ++ [.int .i64 line]) ++ ints (flatIs items))) :
    W.ownsRow w.heap.size 3 1 (.slice (some ⟨g, 0, none⟩) (m + 1 + (flatIs items).length) cap) (pre ++ flatAs (arms.take (j + 1))).length (ints (pre ++ flatAs (arms.take (j + 1)))) := by
  have e1 : (pre ++ flatAs (arms.take (j + 1))).length = m + 1 + (flatIs items).length := by rw [hd, hm]; simp only [flatA, List.length_append, List.length_cons]; omega
  have e2 : ints (pre ++ flatAs (arms.take (j + 1))) = (ints (pre ++ flatAs (arms.take j)) ++ [.int .i64 line]) ++ ints (flatIs items) := by rw [hd]; simp [ints, flatA]
  rw [e1, e2]
  exact h
def FlatS (w : World) (B : Nat) (line : Int) (A : Option Addr) (n c : Nat) (W : World) : Prop := Below w.heap.size w W ∧ B < W.heap.size ∧ W.cell? ⟨B, 0, none⟩ = some (.int .i64 line) ∧ W.cell? ⟨B, 1, none⟩ = some (.slice A n c)
theorem flatS_start {w wr : World} {line : Int} {A : Option Addr} {n c : Nat} (hb : Below w.heap.size w wr) : FlatS w wr.heap.size line A n c (wr.alloc (Obj.cells #[.int .i64 line, .slice A n c] 68)).drew := by
  have hblk := heap_alloc_new wr (Obj.cells #[.int .i64 line, .slice A n c] 68)
  exact ⟨(hb.alloc hb.size _).drew, by simp, cell_of_row _ _ 0 _ _ _ hblk, cell_of_row _ _ 1 _ _ _ hblk⟩
theorem flatS_below {w W W' : World} {B : Nat} {line : Int} {A : Option Addr} {n c : Nat} (h : FlatS w B line A n c W) (hb : Below W.heap.size W W') : FlatS w B line A n c W' := by
  obtain ⟨h1, h2, h3, h4⟩ := h
  have := hb.size
  exact ⟨h1.trans (hb.mono h1.size), by omega, (hb.cell (p := ⟨B, 0, none⟩) h2).trans h3, (hb.cell (p := ⟨B, 1, none⟩) h2).trans h4⟩
theorem below_alloc_drew (W : World) (o : Obj) : Below W.drew.heap.size W.drew (W.alloc o).drew := ⟨rfl, rfl, rfl, by simp, fun i hi => Below.heap_alloc W o i hi⟩
theorem flatS_alloc {w W : World} {B : Nat} {line : Int} {A : Option Addr} {n c : Nat} (h : FlatS w B line A n c W.drew) {o : Obj} : FlatS w B line A n c (W.alloc o).drew := flatS_below h (below_alloc_drew W o)
theorem flatS_app {w W W' : World} {B : Nat} {line : Int} {A : Option Addr} {n c : Nat} (h : FlatS w B line A n c W) {e : TypeId} {size m : Nat} {v : Value} {xs : List Value} (hown : W.ownsRow w.heap.size e size v m xs) (hg : W.grownBy W' v.ownBlock) (hne : v.ownBlock ≠ some B) :
    FlatS w B line A n c W' := by
  obtain ⟨h1, h2, h3, h4⟩ := h
  have := hg.size
  exact ⟨below_app h1 hown hg h1.size, by omega, (hg.cell_far ⟨B, 0, none⟩ h2 (fun e => hne e.symm)).trans h3, (hg.cell_far ⟨B, 1, none⟩ h2 (fun e => hne e.symm)).trans h4⟩
theorem heap_alloc_new2 (w : World) (o o' : Obj) : ((w.alloc o).alloc o').drew.heap[w.heap.size + 1]? = some o' := by
  have h := heap_alloc_new (w.alloc o) o'
  rw [World.size_alloc] at h
  exact h
set_option maxRecDepth 1000000 in
set_option maxHeartbeats 2000000 in
theorem flat_step (N : Nat) (ih : FlatC 30 N) : FlatC 30 (N + 1) := by
  intro U A n c l w hsz h hnc hcm hd
  unfold maxLen at hcm
  have IH := Lib.hid ih
  clear ih
  go_enter Try.func30, Try.ntmps30
  go_wp2_with fail
  go_loopw [2, 4, 6, 9] (fun vo _ _ iv wr => FlatRel w n l vo iv wr) (fun _ _ _ iv _ => n - (intOf iv).toNat)
  case atStart => exact ⟨0, by omega, rfl, World.ownsRow_nil _ _ 3 1, Below.refl _ _⟩
  case round =>
    obtain ⟨k, hk, rfl, hown, hb⟩ := hrel
    by_cases hlt : k < n
    · obtain ⟨b, off, kk, line, arms, A', n', c', rfl, hu, hbl, hx, c0, c1, c2, hn', hc', ha⟩ := Its.at_ h hlt
      have hs1 := sizeIs_get l k _ hx
      have hdn := Lib.hid (flatIs_next hx)
      have hdl := flatIs_take_le l (k + 1)
      have hdl0 := flatIs_take_le l k
      rw [hdn.out, List.length_append] at hdl
      rw [flatI_eq, List.length_append] at hdl
      simp only [sizeI] at hs1
      have HX := Lib.hid hx
      unfold maxLen at hc'
      rw [← hb.cell (p := ⟨b, _, none⟩) hbl] at c0 c1 c2
      have HA := Lib.hid ha
      have HOWN := Lib.hid hown
      have HAL := Lib.hid ha.len
      clear hx hown ha
      have hgu : (flatIs (l.take k)).length ≤ 200000000000 := by omega
      have HP := Lib.hid (flatI_eq kk line arms)
      have hpre : (flatIs (l.take k) ++ headL line arms).length + (flatAs arms).length ≤ 200000000000 := by
        rw [List.length_append]
        omega
      rcases Nat.eq_zero_or_pos n' with hz | hz
      case' inl =>
        have ha0 : arms = [] := List.eq_nil_of_length_eq_zero (by rw [HAL.out]; exact hz)
        have hzb : ((n' : Int) == 0) = true := by simpa using hz
        have HZ := Lib.hid hz
        clear hz
        have HA0 := Lib.hid ha0
        clear ha0
        go_wp2_with (at_builtin; refine app_at el54 (wr.heap.size + 1) (by simp) _ rfl _ _ rfl w.heap.size u2 _ _ rfl (HOWN.out.alloc _) rfl rfl (ones_cons rfl ones_nil) (by omega) (by omega) (by have := hb.size; omega) ?_; intro g cap w1 hown1 hgrow hat hlt1; have hi2 : w1.cell? ⟨wr.heap.size, 2, none⟩ = some (.slice A' n' c') := cell_of_row w1 _ 2 _ _ _ ((hgrow.block wr.heap.size (by simp) (fun e => by have := (HOWN.out.lt _ e.symm).2; omega)).trans (heap_alloc_new wr _)))
        have hbq : Below w.heap.size w w1 := below_app (hb.alloc hb.size _) (HOWN.out.alloc _) hgrow (by have := hb.size; simp; omega)
        have HO2 := Lib.hid (show w1.ownsRow w.heap.size 3 1 (.slice (some ⟨g, 0, none⟩) ((flatIs (l.take k)).length + 1) cap) (flatIs (l.take k) ++ headL line arms).length (ints (flatIs (l.take k) ++ headL line arms)) by
          rw [HA0.out]
          simpa [ints, headL] using hown1)
        generalize Value.slice (some ⟨g, 0, none⟩) ((flatIs (l.take k)).length + 1) cap = vq at *
        clear hown1 hgrow hat hlt1 hi2 hzb
        have hz := HZ.out
      case' inr =>
        have hne : arms.isEmpty = false := by
          cases arms with
          | nil => have := HAL.out; simp at this; omega
          | cons x y => rfl
        go_wp2_with fail
        have hbq : Below w.heap.size w (wr.alloc (Obj.cells #[.int .i64 kk, .int .i64 line, .slice A' n' c'] 66)) := hb.alloc hb.size _
        have HO2 := Lib.hid (show (wr.alloc (Obj.cells #[.int .i64 kk, .int .i64 line, .slice A' n' c'] 66)).ownsRow w.heap.size 3 1 u2 (flatIs (l.take k) ++ headL line arms).length (ints (flatIs (l.take k) ++ headL line arms)) by
          unfold headL
          rw [hne]
          simpa using HOWN.out.alloc _)
        generalize wr.alloc (Obj.cells #[.int .i64 kk, .int .i64 line, .slice A' n' c'] 66) = w1 at *
        clear hne
      all_goals
        have HPR := Lib.hid (show flatIs (l.take (k + 1)) = (flatIs (l.take k) ++ headL line arms) ++ flatAs arms by rw [hdn.out, HP.out, List.append_assoc])
        generalize flatIs (l.take k) ++ headL line arms = pre at *
        clear c0 c1 c2 hdl hdl0 hgu HOWN hz
        go_loopw [2, 6, 25] (fun vo _ iv wx => FlatRel2 w n' pre arms vo iv wx) (fun _ _ iv _ => n' - (intOf iv).toNat)
        case atStart => exact ⟨0, by omega, rfl, by simpa [flatAs] using HO2.out, hbq⟩
        case round =>
          obtain ⟨j, hj, rfl, hown2, hb2⟩ := hrel
          by_cases hlt2 : j < n'
          · obtain ⟨b2, off2, line2, items, A2, n2, c2, rfl, hu2, hbl2, hx2, d0, d1, hn2, hc2', hi⟩ := Ars.at_ HA.out hlt2
            have hs2 := sizeAs_get arms j _ hx2
            have hdn2 := Lib.hid (flatAs_next hx2)
            have hdl2 := flatAs_take_le arms (j + 1)
            have hdl3 := flatAs_take_le arms j
            rw [hdn2.out, List.length_append] at hdl2
            simp only [flatA, sizeA, List.length_cons] at hs2 hdl2
            have HX2 := Lib.hid hx2
            unfold maxLen at hc2'
            rw [← hb2.cell (p := ⟨b2, _, none⟩) hbl2] at d0 d1
            have HI := Lib.hid hi
            clear hx2 hi
            have hL : (pre ++ flatAs (arms.take j)).length + (1 + (flatIs items).length) ≤ 200000000000 := by rw [List.length_append]; omega
            obtain ⟨m, HM⟩ : ∃ m, Hid (m = (pre ++ flatAs (arms.take j)).length) := ⟨_, Lib.hid rfl⟩
            rw [← HM.out] at hL
            have HOWN2 := Lib.hid (show wr.ownsRow w.heap.size 3 1 u2 m (ints (pre ++ flatAs (arms.take j))) by rw [HM.out]; exact hown2)
            clear hown2
            go_wp2_with fail
            refine wp_region_held_drew (S := FlatS w wr.heap.size line2 A2 n2 c2) (by kernel_rfl) ?_ (fun hS => ?_)
            · exact flatS_start hb2
            refine wpAnyH_take (i := 0) (v := u2) rfl (by kernel_rfl) (by kernel_rfl) (by kernel_rfl) (fun _ _ _ h => h) (Or.inl ⟨by kernel_rfl, fun _ _ => by kernel_rfl⟩) hS ?_
            refine wpAnyH_take (i := 1) (v := .pointer (some ⟨wr.heap.size, 0, none⟩)) rfl (by kernel_rfl) (by kernel_rfl) (by kernel_rfl) (fun _ _ _ h => h) (Or.inl ⟨by kernel_rfl, fun _ _ => by kernel_rfl⟩) hS ?_
            refine wpAnyH_take (i := 2) (v := .int .i64 line2) rfl (by kernel_rfl) (by kernel_rfl) (by kernel_rfl) (fun _ _ _ h => h) (Or.inl ⟨by kernel_rfl, fun _ hS_ => by obtain ⟨_, _, hS1, hS2⟩ := hS_; go_simp⟩) hS ?_
            refine wpAnyH_take (i := 5) (v := .pointer (some ⟨wr.heap.size, 1, none⟩)) rfl (by kernel_rfl) (by kernel_rfl) (by kernel_rfl) (fun _ _ _ h => h) (Or.inl ⟨by kernel_rfl, fun _ _ => by kernel_rfl⟩) hS ?_
            refine wpAnyH_take (i := 6) (v := .slice A2 n2 c2) rfl (by kernel_rfl) (by kernel_rfl) (by kernel_rfl) (fun _ _ _ h => h) (Or.inl ⟨by kernel_rfl, fun _ hS_ => by obtain ⟨_, _, hS1, hS2⟩ := hS_; go_simp⟩) hS ?_
            refine wpAnyH_ready (rs := [3]) (by kernel_rfl) (by simp) ?_
            refine AllReadyH.cons rfl (fun K hK => ?_) AllReadyH.nil
            go_simp
            refine hK.out _ _ (flatS_alloc hS) (fun hS => ?_)
            clear hK K
            refine wpAnyH_ready (rs := [4]) (by kernel_rfl) (by simp) ?_
            refine AllReadyH.cons rfl (fun K hK => ?_) AllReadyH.nil
            refine app_step el54 (wr.heap.size + 1) _ (heap_alloc_new2 _ _ _) rfl _ _ rfl w.heap.size u2 _ _ rfl ((HOWN2.out.alloc _).alloc _) rfl rfl (ones_cons rfl ones_nil) (by omega) (by omega) (by have := hb2.size; simp; omega) ?_
            intro g cap wA hownA hgrowA hatA hltA
            refine hK.out _ _ (flatS_app hS ((HOWN2.out.alloc _).alloc _) hgrowA (fun e => by have := (HOWN2.out.lt _ e).2; omega)) (fun hS => ?_)
            clear hK K
            refine wpAnyH_ready (rs := [7]) (by kernel_rfl) (by simp) ?_
            refine AllReadyH.cons rfl (fun K hK => ?_) AllReadyH.nil
            go_simp
            go_at_call 30
            refine (IH.out U A2 n2 c2 items _ (by omega) (HI.out.below hS.1) hn2 (by unfold maxLen; omega) (by omega)).mono ?_
            rintro e wF ⟨vF, rfl, hownF, hbF⟩
            refine hK.out _ _ (flatS_below hS hbF) (fun hS => ?_)
            clear hK K
            have hownA2 := own_keep hownA fun b' hv => hbF.block b' (hownA.lt b' hv).2
            obtain ⟨AF, cF, rfl, _⟩ := own_form hownF
            have hsF := Sl.of_own (U := fun _ => True) hownF (fun _ _ => trivial)
            refine wpAnyH_ready (rs := [8]) (by kernel_rfl) (by simp) ?_
            refine AllReadyH.cons rfl (fun K hK => ?_) AllReadyH.nil
            refine app_many_step el54 rfl _ _ rfl w.heap.size _ _ _ rfl hownA2 AF _ cF _ rfl hsF (ints_ones _) (by omega) (by omega) (by omega) hS.1.size ?_
            intro g2 cap2 wB hownB hgrowB hatB hltB
            have hbB := below_app hS.1 hownA2 hgrowB hS.1.size
            refine hK.out _ _ (flatS_app hS hownA2 hgrowB (fun e => by simp [Value.ownBlock] at e; subst e; rcases hatA with hatA | hatA; exact absurd (HOWN2.out.lt _ hatA).2 (by omega); first | omega | (simp at hatA; omega) | simp at hatA)) (fun hS => ?_)
            clear hK K
            refine wpAnyH_take (i := 9) (v := .slice (some ⟨g2, 0, none⟩) (m + 1 + (flatIs items).length) cap2) rfl (by kernel_rfl) (by kernel_rfl) (by kernel_rfl) (fun _ _ _ h => h) (Or.inl ⟨by kernel_rfl, fun _ _ => by kernel_rfl⟩) hS ?_
            refine wpAnyH_done (by kernel_rfl) ?_ _
            go_wp2_with fail
            go_roundw
            case rel => first | exact ⟨j + 1, by omega, by go_num, flat_fin HM.out hdn2.out hownB, hbB⟩ | (refine ⟨_, _, _, ?_, rfl, rfl, rfl⟩; exact ⟨j + 1, by omega, by go_num, flat_fin HM.out hdn2.out hownB, hbB⟩)
            case measure => simp [intOf]; omega
          · obtain rfl : j = n' := by omega
            have e : flatAs (arms.take j) = flatAs arms := by rw [← HA.out.len, List.take_length]
            rw [e] at hown2
            go_wp2_with fail
            go_roundw
            case rel => exact ⟨k + 1, by omega, by go_num, by rw [HPR.out]; exact hown2, hb2⟩
            case measure => simp [intOf]; omega
    · obtain rfl : k = n := by omega
      have e : flatIs (l.take k) = flatIs l := by rw [← h.len, List.take_length]
      rw [e] at hown
      go_wp2
      go_ret
      exact ⟨_, rfl, hown, hb⟩
theorem flat_all (N : Nat) : FlatC 30 N := by
  induction N with
  | zero => intro U A n c l w hsz; exact absurd hsz (Nat.not_lt_zero _)
  | succ N ih => exact flat_step N ih
/-- groups.Flat. -/
theorem flat_any {U : Nat → Prop} (A : Option Addr) (n c : Nat) (l : List It) (w : World) (h : Its w U A n l) (hnc : n ≤ c) (hcm : c ≤ maxLen) (hd : (flatIs l).length ≤ 200000000000) :
    Calls Try.prog 30 #[.slice A n c] w (IntsRet w (flatIs l)) :=
  flat_all (sizeIs l + 1) U A n c l w (Nat.lt_succ_self _) h hnc hcm hd
end Go.Proofs.Ytjklnlocmmnclaa
