/- Walks: an item is put into the innermost arm. -/
import Derived.Test.YtjklnlocmmnclaaGb
import Derived.Test.YtjklnlocmmnclaaMc9
import Derived.Deep.RegionHeld
import Derived.Deep.QuietTactic
import Derived.BigQuiet
namespace Go.Proofs.Ytjklnlocmmnclaa
open Go.RowKit

theorem heap_alloc_old2 (w : World) (o o' : Obj) : ((w.alloc o).alloc o').heap[w.heap.size]? = some o := by
  rw [Below.heap_alloc (w.alloc o) o' _ (by simp)]
  exact heap_alloc_new w o
theorem heap_alloc_new2 (w : World) (o o' : Obj) : ((w.alloc o).alloc o').drew.heap[w.heap.size + 1]? = some o' := by
  have h := heap_alloc_new (w.alloc o) o'
  rw [World.size_alloc] at h
  exact h
theorem put_last {arecs : List ARec} {na q iC n' c' : Nat} {cl : Int} {iA A' : Option Addr} (hal : arecs.length = na) :
    ((arecs ++ ([⟨cl, iA, q, iC⟩] : List ARec)).flatMap aCells).set (na * 2 + 1) (.slice A' n' c') = (arecs ++ ([⟨cl, A', n', c'⟩] : List ARec)).flatMap aCells := by
  have hl := flat_len aCells 2 aCells_len arecs
  rw [hal] at hl
  rw [List.flatMap_append, List.flatMap_append, List.set_append, if_neg (by rw [hl]; omega), hl]
  have : na * 2 + 1 - na * 2 = 1 := by omega
  rw [this]
  rfl
/-- What put leaves: the items' row and the arms' row alone have turned. -/
structure PutRet (w : World) (base ga na ca : Nat) (iA : Option Addr) (q iC : Nat) (arecs : List ARec) (cl : Int) (irecs : List IRec) (new : IRec) (w' : World) : Prop where
  os : w'.os = w.os
  tape : w'.tape = w.tape
  output : w'.output = w.output
  size : w.heap.size ≤ w'.heap.size
  far : ∀ b, b < w.heap.size → b ≠ ga → (Value.slice iA q iC).ownBlock ≠ some b → w'.heap[b]? = w.heap[b]?
  rows : ∃ g cap, w'.ownsRow base 66 3 (.slice (some ⟨g, 0, none⟩) (q + 1) cap) (q + 1) (irecs.flatMap iCells ++ iCells new) ∧
    w'.ownsRow base 68 2 (.slice (some ⟨ga, 0, none⟩) (na + 1) ca) (na + 1) ((arecs ++ ([⟨cl, some ⟨g, 0, none⟩, q + 1, cap⟩] : List ARec)).flatMap aCells) ∧ ((Value.slice iA q iC).ownBlock = some g ∨ w.heap.size ≤ g)
set_option maxRecDepth 1000000 in
set_option maxHeartbeats 2000000 in
theorem put_any (base sb m c ob ga na ca q iC : Nat) (fl cl kk line : Int) (last : Bool) (iA XA : Option Addr) (xn xc : Nat) (arecs : List ARec) (irecs : List IRec) (w : World) (hbase : base ≤ w.heap.size)
    (hm : 1 ≤ m) (hm2 : m ≤ 1000000) (hna : na ≤ 1000000) (hq : q ≤ 1000000) (hp : w.cell? ⟨sb, m - 1, none⟩ = some (.pointer (some ⟨ob, 0, none⟩))) (hob : w.heap[ob]? = some (.cells #[.int .i64 fl, .slice (some ⟨ga, 0, none⟩) (na + 1) ca, .bool last] 108))
    (hal : arecs.length = na) (hva : w.ownsRow base 68 2 (.slice (some ⟨ga, 0, none⟩) (na + 1) ca) (na + 1) ((arecs ++ ([⟨cl, iA, q, iC⟩] : List ARec)).flatMap aCells))
    (hiv : w.ownsRow base 66 3 (.slice iA q iC) q (irecs.flatMap iCells)) :
    Calls Try.prog 48 #[.slice (some ⟨sb, 0, none⟩) m c, .agg #[.int .i64 kk, .int .i64 line, .slice XA xn xc]] w fun e w' => e = .returned (.tuple #[]) ∧ PutRet w base ga na ca iA q iC arecs cl irecs ⟨kk, line, XA, xn, xc⟩ w' := by
  have hsb : sb < w.heap.size := lt_of_cell hp
  have hobl := lt_of_blk hob
  have hcv0 : w.cell? ⟨ga, na * 2 + 1, none⟩ = some (.slice iA q iC) := by
    rw [hva.cellAt (na * 2 + 1) (by omega), List.flatMap_append, List.getElem?_append_right (by rw [flat_len aCells 2 aCells_len, hal]; omega), flat_len aCells 2 aCells_len, hal]
    have : na * 2 + 1 - na * 2 = 1 := by omega
    rw [this]
    rfl
  have hgal : ga < w.heap.size := lt_of_cell hcv0
  have HCV := Lib.hid hcv0
  have HLC := Lib.hid (show ((arecs ++ ([⟨cl, iA, q, iC⟩] : List ARec)).flatMap aCells)[na * 2 + 1]? = some (.slice iA q iC) by rw [← hva.cellAt (na * 2 + 1) (by omega)]; exact hcv0)
  clear hcv0
  have hw1 : IntKind.i64.wrap ((m : Int) - 1) = (m : Int) - 1 := IntWalk.i64_in _ (by omega)
  have hw2 : ((m : Int) - 1).toNat = m - 1 := by omega
  have hw3 : 0 ≤ (m : Int) - 1 := by omega
  have hw4 : (m : Int) - 1 < (m : Int) := by omega
  have hw5 : IntKind.i64.wrap ((na : Int) + 1 - 1) = (na : Int) := IntWalk.i64_in _ (by omega) |>.trans (by omega)
  have hw6 : IntKind.i64.wrap (na : Int) = (na : Int) := IntWalk.i64_in _ (by omega)
  have hw7 : (na : Int) < ((na + 1 : Nat) : Int) := by omega
  have hw8 : 0 ≤ (na : Int) := by omega
  have hw9 : (na : Int).toNat = na := by omega
  have hw10 : na < na + 1 := by omega
  have HVA := Lib.hid hva
  have HIV := Lib.hid hiv
  have HOB := Lib.hid hob
  have HAL := Lib.hid hal
  have c1 := cell_of_row w ob 1 _ _ _ hob
  clear hva hiv hob hal
  go_enter Try.func48, Try.ntmps48
  go_wp2_with fail
  refine wp_region_held_drew (S := fun W => W.heap[ob]? = some (.cells #[.int .i64 fl, .slice (some ⟨ga, 0, none⟩) (na + 1) ca, .bool last] 108)) (by kernel_rfl) ((Below.heap_alloc w _ ob hobl).trans HOB.out) (fun hS => ?_)
  refine wpAnyH_take (i := 0) (v := .pointer (some ⟨ob, 0, none⟩)) rfl (by kernel_rfl) (by kernel_rfl) (by kernel_rfl) (fun _ _ _ h => h) (Or.inl ⟨by kernel_rfl, fun _ _ => by kernel_rfl⟩) hS ?_
  refine wpAnyH_take (i := 1) (v := .pointer (some ⟨ob, 0, none⟩)) rfl (by kernel_rfl) (by kernel_rfl) (by kernel_rfl) (fun _ _ _ h => h) (Or.inl ⟨by kernel_rfl, fun _ _ => by go_simp⟩) hS ?_
  refine wpAnyH_take (i := 2) (v := .pointer (some ⟨ob, 1, none⟩)) rfl (by kernel_rfl) (by kernel_rfl) (by kernel_rfl) (fun _ _ _ h => h) (Or.inl ⟨by kernel_rfl, fun _ _ => by go_simp⟩) hS ?_
  refine wpAnyH_take (i := 3) (v := .slice (some ⟨ga, 0, none⟩) (na + 1) ca) rfl (by kernel_rfl) (by kernel_rfl) (by kernel_rfl) (fun _ _ _ h => h) (Or.inl ⟨by kernel_rfl, fun _ hS_ => by have f1 := cell_of_row _ ob 1 _ _ _ hS_; go_simp⟩) hS ?_
  refine wpAnyH_take (i := 4) (v := .pointer (some ⟨ob, 0, none⟩)) rfl (by kernel_rfl) (by kernel_rfl) (by kernel_rfl) (fun _ _ _ h => h) (Or.inl ⟨by kernel_rfl, fun _ _ => by kernel_rfl⟩) hS ?_
  refine wpAnyH_take (i := 5) (v := .pointer (some ⟨ob, 0, none⟩)) rfl (by kernel_rfl) (by kernel_rfl) (by kernel_rfl) (fun _ _ _ h => h) (Or.inl ⟨by kernel_rfl, fun _ _ => by go_simp⟩) hS ?_
  refine wpAnyH_take (i := 6) (v := .pointer (some ⟨ob, 1, none⟩)) rfl (by kernel_rfl) (by kernel_rfl) (by kernel_rfl) (fun _ _ _ h => h) (Or.inl ⟨by kernel_rfl, fun _ _ => by go_simp⟩) hS ?_
  refine wpAnyH_take (i := 7) (v := .slice (some ⟨ga, 0, none⟩) (na + 1) ca) rfl (by kernel_rfl) (by kernel_rfl) (by kernel_rfl) (fun _ _ _ h => h) (Or.inl ⟨by kernel_rfl, fun _ hS_ => by have f1 := cell_of_row _ ob 1 _ _ _ hS_; go_simp⟩) hS ?_
  refine wpAnyH_take (i := 8) (v := .int .i64 ((na + 1 : Nat) : Int)) rfl (by kernel_rfl) (by kernel_rfl) (by kernel_rfl) (fun _ _ _ h => h) (Or.inl ⟨by kernel_rfl, fun _ _ => by go_simp⟩) hS ?_
  refine wpAnyH_take (i := 9) (v := .int .i64 na) rfl (by kernel_rfl) (by kernel_rfl) (by kernel_rfl) (fun _ _ _ h => h) (Or.inl ⟨by kernel_rfl, fun _ _ => by go_simp⟩) hS ?_
  refine wpAnyH_take (i := 10) (v := .pointer (some ⟨ga, na * 2, none⟩)) rfl (by kernel_rfl) (by kernel_rfl) (by kernel_rfl) (fun _ _ _ h => h) (Or.inl ⟨by kernel_rfl, fun _ _ => by (go_simp; intro h_; omega)⟩) hS ?_
  refine wpAnyH_take (i := 11) (v := .pointer (some ⟨ga, na * 2, none⟩)) rfl (by kernel_rfl) (by kernel_rfl) (by kernel_rfl) (fun _ _ _ h => h) (Or.inl ⟨by kernel_rfl, fun _ _ => by kernel_rfl⟩) hS ?_
  refine wpAnyH_done (by kernel_rfl) ?_ _
  go_wp2_with fail
  refine wp_region_held_drew (S := fun W => (W.os = w.os ∧ W.tape = w.tape ∧ W.output = w.output ∧ w.heap.size ≤ W.heap.size) ∧ W.heap[w.heap.size]? = some (.cells #[.int .i64 kk, .int .i64 line, .slice XA xn xc] 66)) (by kernel_rfl) ⟨⟨rfl, rfl, rfl, by simp⟩, heap_alloc_new w _⟩ (fun hS => ?_)
  refine wpAnyH_take (i := 0) (v := .pointer (some ⟨ga, na * 2, none⟩)) rfl (by kernel_rfl) (by kernel_rfl) (by kernel_rfl) (fun _ _ _ h => h) (Or.inl ⟨by kernel_rfl, fun _ _ => by kernel_rfl⟩) hS ?_
  refine wpAnyH_take (i := 1) (v := .pointer (some ⟨ga, na * 2, none⟩)) rfl (by kernel_rfl) (by kernel_rfl) (by kernel_rfl) (fun _ _ _ h => h) (Or.inl ⟨by kernel_rfl, fun _ _ => by kernel_rfl⟩) hS ?_
  refine wpAnyH_take (i := 2) (v := .pointer (some ⟨ga, na * 2, none⟩)) rfl (by kernel_rfl) (by kernel_rfl) (by kernel_rfl) (fun _ _ _ h => h) (Or.inl ⟨by kernel_rfl, fun _ _ => by go_simp⟩) hS ?_
  refine wpAnyH_take (i := 3) (v := .pointer (some ⟨ga, na * 2 + 1, none⟩)) rfl (by kernel_rfl) (by kernel_rfl) (by kernel_rfl) (fun _ _ _ h => h) (Or.inl ⟨by kernel_rfl, fun _ _ => by go_simp⟩) hS ?_
  refine wpAnyH_take (i := 5) (v := .agg #[.int .i64 kk, .int .i64 line, .slice XA xn xc]) rfl (by kernel_rfl) (by kernel_rfl) (by kernel_rfl) (fun _ _ _ h => h) (Or.inl ⟨by kernel_rfl, fun _ hS_ => by have f0 := cell_of_row _ w.heap.size 0 _ _ _ hS_.2; have f1 := cell_of_row _ w.heap.size 1 _ _ _ hS_.2; have f2 := cell_of_row _ w.heap.size 2 _ _ _ hS_.2; go_simp⟩) hS ?_
  refine wpAnyH_ready (rs := [4, 6]) (by kernel_rfl) (by simp) ?_
  refine AllReadyH.cons rfl (fun K hK => ?gA) (AllReadyH.cons rfl (fun K hK => ?gB) AllReadyH.nil)
  case' gA =>
    have d1 := HCV.out
    go_simp
    refine hK.out _ _ hS (fun hS => ?_)
    clear hK K d1
    refine wpAnyH_ready (rs := [6]) (by kernel_rfl) (by simp) ?_
    refine AllReadyH.cons rfl (fun K hK => ?_) AllReadyH.nil
    go_simp
    refine hK.out _ _ ⟨⟨rfl, rfl, rfl, by simp; omega⟩, (heap_alloc_old2 w (Obj.cells #[.int .i64 kk, .int .i64 line, .slice XA xn xc] 66) (Obj.cells #[.int .i64 kk, .int .i64 line, .slice XA xn xc] 66))⟩ (fun hS => ?_)
    clear hK K
  case' gB =>
    go_simp
    refine hK.out _ _ ⟨⟨rfl, rfl, rfl, by simp; omega⟩, (heap_alloc_old2 w (Obj.cells #[.int .i64 kk, .int .i64 line, .slice XA xn xc] 66) (Obj.cells #[.int .i64 kk, .int .i64 line, .slice XA xn xc] 66))⟩ (fun hS => ?_)
    clear hK K
    refine wpAnyH_ready (rs := [4]) (by kernel_rfl) (by simp) ?_
    refine AllReadyH.cons rfl (fun K hK => ?_) AllReadyH.nil
    have d1 := HCV.out
    go_simp
    refine hK.out _ _ hS (fun hS => ?_)
    clear hK K d1
  all_goals
    refine wpAnyH_ready (rs := [7]) (by kernel_rfl) (by simp) ?_
    refine AllReadyH.cons rfl (fun K hK => ?_) AllReadyH.nil
    refine app_step el42 (w.heap.size + 1) _ (heap_alloc_new2 _ _ _) rfl _ _ rfl base (.slice iA q iC) _ _ rfl ((HIV.out.alloc _).alloc _) rfl rfl (ones_cons rfl (ones_cons rfl (ones_cons rfl ones_nil))) (by omega) (by omega) (by simp; omega) ?_
    intro g cap wA hownA hgrowA hatA hltA
    have hfar : ∀ b, b < w.heap.size → (Value.slice iA q iC).ownBlock ≠ some b → wA.heap[b]? = w.heap[b]? := fun b h1 h2 => (hgrowA.block b (by simp; omega) (fun e => h2 e.symm)).trans ((Below.heap_alloc _ _ b (by simp; omega)).trans (Below.heap_alloc w _ b h1))
    have hzA : w.heap.size ≤ wA.heap.size := by have := hgrowA.size; simp at this; omega
    have hne : ∀ b, (Value.slice iA q iC).ownBlock = some b → b ≠ ga := fun b hb e => own_ne_own HIV.out HVA.out (by decide) b hb (by rw [e]; rfl)
    have hvaA : wA.ownsRow base 68 2 (.slice (some ⟨ga, 0, none⟩) (na + 1) ca) (na + 1) ((arecs ++ ([⟨cl, iA, q, iC⟩] : List ARec)).flatMap aCells) := own_keep HVA.out fun b hv => by
      have hv' : ga = b := by simpa [Value.ownBlock] using hv
      subst hv'
      exact hfar ga hgal (fun e => hne ga e rfl)
    have hxA : wA.heap[w.heap.size]? = some (.cells #[.int .i64 kk, .int .i64 line, .slice XA xn xc] 66) := (hgrowA.block w.heap.size (by simp; omega) (fun e => by have := (HIV.out.lt _ e.symm).2; omega)).trans hS.2
    refine hK.out _ _ ⟨⟨hgrowA.os.trans rfl, hgrowA.tape.trans rfl, hgrowA.output.trans rfl, hzA⟩, hxA⟩ (fun hS => ?_)
    clear hK K
    refine wpAnyH_take (i := 8) (v := .pointer (some ⟨ga, na * 2, none⟩)) rfl (by kernel_rfl) (by kernel_rfl) (by kernel_rfl) (fun _ _ _ h => h) (Or.inl ⟨by kernel_rfl, fun _ _ => by go_simp⟩) hS ?_
    refine wpAnyH_take (i := 9) (v := .pointer (some ⟨ga, na * 2 + 1, none⟩)) rfl (by kernel_rfl) (by kernel_rfl) (by kernel_rfl) (fun _ _ _ h => h) (Or.inl ⟨by kernel_rfl, fun _ _ => by go_simp⟩) hS ?_
    refine wpAnyH_ready (rs := [10]) (by kernel_rfl) (by simp) ?_
    refine AllReadyH.cons rfl (fun K hK => ?_) AllReadyH.nil
    have hcA : wA.cell? ⟨ga, na * 2 + 1, none⟩ = some (.slice iA q iC) := by
      rw [hvaA.cellAt (na * 2 + 1) (by omega)]
      exact HLC.out
    have hfA : wA.frozen? ⟨ga, na * 2 + 1, none⟩ = false := hvaA.frozenAt _
    have hsto := hvaA.stored (na * 2 + 1) (.slice (some ⟨g, 0, none⟩) (q + 1) cap)
    rw [put_last HAL.out] at hsto
    have hfin : PutRet w base ga na ca iA q iC arecs cl irecs ⟨kk, line, XA, xn, xc⟩ (wA.setCell ⟨ga, na * 2 + 1, none⟩ (.slice (some ⟨g, 0, none⟩) (q + 1) cap)) := by
      refine ⟨hsto.2.os.trans (hgrowA.os.trans rfl), hsto.2.tape.trans (hgrowA.tape.trans rfl), hsto.2.output.trans (hgrowA.output.trans rfl), Nat.le_trans hzA hsto.2.size, fun b h1 h2 h3 => ?_, g, cap, ?_, hsto.1, ?_⟩
      · rw [Below.heap_setCell _ _ _ _ h2]
        exact hfar b h1 h3
      · refine own_setCell hownA ?_ _
        intro e
        have e' : g = ga := by simpa [Value.ownBlock] using e
        rcases hatA with hatA | hatA
        · exact hne g hatA e'
        · simp at hatA; omega
      · rcases hatA with hatA | hatA
        · exact .inl hatA
        · right; simp at hatA; omega
    have HF := Lib.hid hfin
    have HX2 := Lib.hid (show (wA.setCell ⟨ga, na * 2 + 1, none⟩ (.slice (some ⟨g, 0, none⟩) (q + 1) cap)).heap[w.heap.size]? = some (.cells #[.int .i64 kk, .int .i64 line, .slice XA xn xc] 66) by rw [Below.heap_setCell _ _ _ _ (by show w.heap.size ≠ ga; omega)]; exact hxA)
    clear hfar hzA hne hvaA hxA hsto hfin hownA hgrowA hatA
    go_simp
    refine hK.out _ _ ⟨⟨HF.out.os, HF.out.tape, HF.out.output, HF.out.size⟩, HX2.out⟩ (fun hS => ?_)
    clear hK K
    refine wpAnyH_done (by kernel_rfl) ?_ _
    go_wp2_with fail
    go_end0
    exact ⟨rfl, HF.out⟩
/-- The innermost condition ends. -/
theorem pop_any (base sb m c ob o1 ga na ca q iC : Nat) (fl cl l1 : Int) (last last1 : Bool) (iA A1 : Option Addr) (n1 c1 : Nat) (arecs : List ARec) (irecs : List IRec) (w : World) (hbase : base ≤ w.heap.size)
    (hm2 : m ≤ 900000) (hmc : m + 2 ≤ c) (hcm : c ≤ maxLen) (hna : na ≤ 1000000) (hq : q ≤ 1000000) (hp1 : w.cell? ⟨sb, m + 1, none⟩ = some (.pointer (some ⟨o1, 0, none⟩))) (ho1 : w.heap[o1]? = some (.cells #[.int .i64 l1, .slice A1 n1 c1, .bool last1] 108))
    (hp : w.cell? ⟨sb, m, none⟩ = some (.pointer (some ⟨ob, 0, none⟩))) (hob : w.heap[ob]? = some (.cells #[.int .i64 fl, .slice (some ⟨ga, 0, none⟩) (na + 1) ca, .bool last] 108))
    (hal : arecs.length = na) (hva : w.ownsRow base 68 2 (.slice (some ⟨ga, 0, none⟩) (na + 1) ca) (na + 1) ((arecs ++ ([⟨cl, iA, q, iC⟩] : List ARec)).flatMap aCells))
    (hiv : w.ownsRow base 66 3 (.slice iA q iC) q (irecs.flatMap iCells)) :
    Calls Try.prog 47 #[.slice (some ⟨sb, 0, none⟩) (m + 2) c] w fun e w' => e = .returned (.slice (some ⟨sb, 0, none⟩) (m + 1) c) ∧ PutRet w base ga na ca iA q iC arecs cl irecs ⟨2, l1, A1, n1, c1⟩ w' := by
  unfold maxLen at hcm
  have HP0 := Lib.hid (show w.cell? ⟨sb, m + 1 - 1, none⟩ = some (.pointer (some ⟨ob, 0, none⟩)) from hp)
  have HO1 := Lib.hid ho1
  have HVA := Lib.hid hva
  have HIV := Lib.hid hiv
  have HOB := Lib.hid hob
  have HAL := Lib.hid hal
  have hw1 : IntKind.i64.wrap (((m : Int) + 2) - 1) = (m : Int) + 1 := (IntWalk.i64_in _ (by omega)).trans (by omega)
  have hw1b : IntKind.i64.wrap ((m : Int) + 1) = (m : Int) + 1 := IntWalk.i64_in _ (by omega)
  have hw2 : ((m : Int) + 1).toNat = m + 1 := by omega
  have hw3 : 0 ≤ (m : Int) + 1 := by omega
  have hw4 : (m : Int) + 1 < (m : Int) + 2 := by omega
  have hw5 : (m : Int) + 1 ≤ (c : Int) := by omega
  have hw6 : m + 1 ≤ c := by omega
  clear hva hiv hob hal hp ho1
  go_enter Try.func47, Try.ntmps47
  go_wp2_with fail
  refine wp_region_held_drew (S := fun W => W.heap[o1]? = some (.cells #[.int .i64 l1, .slice A1 n1 c1, .bool last1] 108)) (by kernel_rfl) HO1.out (fun hS => ?_)
  refine wpAnyH_take (i := 0) (v := .slice (some ⟨sb, 0, none⟩) (m + 1) c) rfl (by kernel_rfl) (by kernel_rfl) (by kernel_rfl) (fun _ _ _ h => h) (Or.inl ⟨by kernel_rfl, fun _ _ => by kernel_rfl⟩) hS ?_
  refine wpAnyH_take (i := 1) (v := .pointer (some ⟨o1, 0, none⟩)) rfl (by kernel_rfl) (by kernel_rfl) (by kernel_rfl) (fun _ _ _ h => h) (Or.inl ⟨by kernel_rfl, fun _ _ => by kernel_rfl⟩) hS ?_
  refine wpAnyH_take (i := 2) (v := .pointer (some ⟨o1, 0, none⟩)) rfl (by kernel_rfl) (by kernel_rfl) (by kernel_rfl) (fun _ _ _ h => h) (Or.inl ⟨by kernel_rfl, fun _ _ => by go_simp⟩) hS ?_
  refine wpAnyH_take (i := 3) (v := .pointer (some ⟨o1, 0, none⟩)) rfl (by kernel_rfl) (by kernel_rfl) (by kernel_rfl) (fun _ _ _ h => h) (Or.inl ⟨by kernel_rfl, fun _ _ => by go_simp⟩) hS ?_
  refine wpAnyH_take (i := 4) (v := .int .i64 l1) rfl (by kernel_rfl) (by kernel_rfl) (by kernel_rfl) (fun _ _ _ h => h) (Or.inl ⟨by kernel_rfl, fun _ hS_ => by have f1 := cell_of_row _ o1 0 _ _ _ hS_; go_simp⟩) hS ?_
  refine wpAnyH_take (i := 5) (v := .pointer (some ⟨o1, 0, none⟩)) rfl (by kernel_rfl) (by kernel_rfl) (by kernel_rfl) (fun _ _ _ h => h) (Or.inl ⟨by kernel_rfl, fun _ _ => by kernel_rfl⟩) hS ?_
  refine wpAnyH_take (i := 6) (v := .pointer (some ⟨o1, 0, none⟩)) rfl (by kernel_rfl) (by kernel_rfl) (by kernel_rfl) (fun _ _ _ h => h) (Or.inl ⟨by kernel_rfl, fun _ _ => by go_simp⟩) hS ?_
  refine wpAnyH_take (i := 7) (v := .pointer (some ⟨o1, 1, none⟩)) rfl (by kernel_rfl) (by kernel_rfl) (by kernel_rfl) (fun _ _ _ h => h) (Or.inl ⟨by kernel_rfl, fun _ _ => by go_simp⟩) hS ?_
  refine wpAnyH_take (i := 8) (v := .slice A1 n1 c1) rfl (by kernel_rfl) (by kernel_rfl) (by kernel_rfl) (fun _ _ _ h => h) (Or.inl ⟨by kernel_rfl, fun _ hS_ => by have f1 := cell_of_row _ o1 1 _ _ _ hS_; go_simp⟩) hS ?_
  refine wpAnyH_take (i := 9) (v := .agg #[.int .i64 2, .int .i64 l1, .slice A1 n1 c1]) rfl (by kernel_rfl) (by kernel_rfl) (by kernel_rfl) (fun _ _ _ h => h) (Or.inl ⟨by kernel_rfl, fun _ _ => by kernel_rfl⟩) hS ?_
  refine wpAnyH_ready (rs := [10]) (by kernel_rfl) (by simp) ?_
  refine AllReadyH.cons rfl (fun K hK => ?_) AllReadyH.nil
  go_simp
  go_at_call 48
  refine (put_any base sb (m + 1) c ob ga na ca q iC fl cl 2 l1 last iA A1 n1 c1 arecs irecs w.drew hbase (by omega) (by omega) hna hq HP0.out HOB.out HAL.out HVA.out HIV.out).mono ?_
  rintro e wF ⟨rfl, hF⟩
  refine hK.out _ _ ((hF.far o1 (lt_of_blk HO1.out) (fun e => own_ne_blk HVA.out HO1.out (by decide) (by rw [e]; rfl)) (own_ne_blk HIV.out HO1.out (by decide))).trans HO1.out) (fun hS => ?_)
  clear hK K
  refine wpAnyH_done (by kernel_rfl) ?_ _
  go_wp2_with fail
  go_ret
  exact ⟨rfl, hF.os, hF.tape, hF.output, hF.size, hF.far, hF.rows⟩
end Go.Proofs.Ytjklnlocmmnclaa
