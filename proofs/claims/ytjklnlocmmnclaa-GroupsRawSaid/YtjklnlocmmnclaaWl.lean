/- Walks: the words' map, filled once and asked. -/
import Derived.Test.YtjklnlocmmnclaaWk
namespace Go.Proofs.Ytjklnlocmmnclaa
open Go.RowKit Go.WideMaps Go.Maps

/-- Only block b of those that were there has turned. -/
structure Bar (b : Nat) (w w' : World) : Prop where
  os : w'.os = w.os
  tape : w'.tape = w.tape
  output : w'.output = w.output
  size : w.heap.size ≤ w'.heap.size
  block : ∀ k, k < w.heap.size → k ≠ b → w'.heap[k]? = w.heap[k]?
theorem Bar.refl (b : Nat) (w : World) : Bar b w w := ⟨rfl, rfl, rfl, Nat.le_refl _, fun _ _ _ => rfl⟩
theorem Bar.trans {b : Nat} {w w1 w2 : World} (h : Bar b w w1) (k : Bar b w1 w2) : Bar b w w2 :=
  ⟨k.os.trans h.os, k.tape.trans h.tape, k.output.trans h.output, Nat.le_trans h.size k.size, fun i hi hb => (k.block i (Nat.lt_of_lt_of_le hi h.size) hb).trans (h.block i hi hb)⟩
theorem Bar.below {b : Nat} {w w' : World} (h : Below w.heap.size w w') : Bar b w w' := ⟨h.os, h.tape, h.output, h.size, fun k hk _ => h.block k hk⟩
theorem Bar.set (b i : Nat) (w : World) (u : Value) : Bar b w (w.setCell ⟨b, i, none⟩ u) := ⟨rfl, rfl, rfl, by rw [setCell_size]; exact Nat.le_refl _, fun k _ hb => Below.heap_setCell _ _ _ _ hb⟩
theorem Bar.drew {b : Nat} {w w' : World} (h : Bar b w w') : Bar b w w'.drew := ⟨h.os, h.tape, h.output, h.size, h.block⟩

def clCells (d m : Int) (mp : Value) : Array Value := #[.int .u32 d, .int .i32 m, .int .u32 0, mp]

/-- The closure that is handed to Do: the table's map is made and filled. -/
def Filled (w : World) (tb : Nat) (d m : Int) (e : Ending) (w' : World) : Prop :=
  e = .returned (.tuple #[]) ∧ ∃ mb, w.heap.size ≤ mb ∧ w'.heap[tb]? = some (.cells (clCells d m (.map (some mb))) 90) ∧ KMap w' mb 12 ∧ Bar tb w w'

structure FillInv (w : World) (tb : Nat) (d m : Int) (k : Nat) (wr : World) : Prop where
  bar : Bar tb w wr
  tbl : wr.heap[tb]? = some (.cells (clCells d m (.map (some w.heap.size))) 90)
  map : KMap wr w.heap.size k
  wds : wr.heap[w.heap.size + 1]? = some (.cells wordsCells 9)
theorem KMap.blk {w : World} {b k : Nat} (h : KMap w b k) : ∃ es c, w.heap[b]? = some (.map es c) := by
  obtain ⟨es, c, h1, _⟩ := h
  exact ⟨es, c, h1⟩
theorem FillInv.next {w wr w' : World} {tb : Nat} {d m : Int} {k : Nat} {s : ByteArray} (h : FillInv w tb d m k wr) (hk : k < 12) (hs : wordsP[k]? = some s.data.toList)
    (hown : w'.ownsMap (H := Unit) Try.prog 9 (plainElem Try.prog 3) w.heap.size (k + 1) ((kD k).put (.string s.data.toList) (.lit (.int .i64 (2 + (k : Int)))))) (hg : wr.grownBy w' (some w.heap.size)) : FillInv w tb d m (k + 1) w' := by
  have hb : ∀ b, b < wr.heap.size → b ≠ w.heap.size → w'.heap[b]? = wr.heap[b]? := fun b h1 h2 => hg.block b h1 (fun e => h2 (Option.some.inj e))
  obtain ⟨es, c, hmap⟩ := h.map.blk
  have hbr := h.bar
  refine ⟨⟨hg.os.trans hbr.os, hg.tape.trans hbr.tape, hg.output.trans hbr.output, Nat.le_trans hbr.size hg.size, fun i hi hi2 => (hb i (Nat.lt_of_lt_of_le hi hbr.size) (by omega)).trans (hbr.block i hi hi2)⟩, ?_, ?_, ?_⟩
  · rw [hb tb (lt_of_blk h.tbl) (by intro e; have := h.tbl; rw [e, hmap] at this; cases this)]
    exact h.tbl
  · unfold KMap
    simp only [kD]
    rw [List.getD_eq_getElem?_getD, hs]
    exact hown
  · rw [hb _ (lt_of_blk h.wds) (by omega)]
    exact h.wds
theorem words_cell (k : Nat) (hk : k < 12) : ∃ s : ByteArray, wordsP[k]? = some s.data.toList ∧ wordsCells[k]? = some (.string s) ∧ s.size ≤ 9 := by
  have hl : wordsP.length = 12 := rfl
  have h1 : wordsP[k]? = some (wordsP[k]'(by omega)) := List.getElem?_eq_getElem (by omega)
  have : ∀ p ∈ wordsP, p.length ≤ 9 := by decide
  have h4 := this _ (List.getElem_mem (show k < wordsP.length by omega))
  refine ⟨⟨(wordsP[k]'(by omega)).toArray⟩, h1, ?_, by simpa [ByteArray.size] using h4⟩
  unfold wordsCells
  rw [List.getElem?_toArray, List.getElem?_map, h1]
  rfl

set_option maxHeartbeats 1000000 in
set_option maxRecDepth 1000000 in
theorem fill_any (tb : Nat) (d m : Int) (mv : Value) (pl : Nat) (w : World) (hne : pl ≠ tb) (hp : w.cell? ⟨pl, 0, none⟩ = some (.pointer (some ⟨tb, 0, none⟩))) (htb : w.heap[tb]? = some (.cells (clCells d m mv) 90)) :
    Calls Try.prog 66 #[.pointer (some ⟨pl, 0, none⟩)] w (Filled w tb d m) := by
  have hmm := @run_makeMap Try.prog
  have hplt := lt_of_cell hp
  have htl := lt_of_blk htb
  have hc3 : w.cell? ⟨tb, 3, none⟩ = some mv := cell_of_row w _ _ _ _ _ htb
  have hf3 := frozen_of_row htb 3
  go_enter Try.func66, Try.ntmps66
  go_wp2_with (go_at_call 41; refine (words_any _).mono ?_; rintro e w1 ⟨rfl, rfl⟩)
  have hBar0 : Bar tb w (((w.setCell ⟨tb, 3, none⟩ (.map (some w.heap.size))).alloc (Obj.map #[] 0)).alloc (Obj.cells wordsCells 9)) :=
    (Bar.set tb 3 w _).trans ((Bar.below ((Below.refl _ _).alloc (Nat.le_refl _) _)).trans (Bar.below ((Below.refl _ _).alloc (Nat.le_refl _) _)))
  have hsz0 : ((w.setCell ⟨tb, 3, none⟩ (.map (some w.heap.size))).alloc (Obj.map #[] 0)).heap.size = w.heap.size + 1 := by simp [setCell_size]
  have htb0 : (((w.setCell ⟨tb, 3, none⟩ (.map (some w.heap.size))).alloc (Obj.map #[] 0)).alloc (Obj.cells wordsCells 9)).heap[tb]? = some (.cells (clCells d m (.map (some w.heap.size))) 90) := by
    rw [Below.heap_alloc _ _ _ (by rw [hsz0]; omega), Below.heap_alloc _ _ _ (by rw [setCell_size]; exact htl), blk_set htb]
    rfl
  have hkm0 : KMap (((w.setCell ⟨tb, 3, none⟩ (.map (some w.heap.size))).alloc (Obj.map #[] 0)).alloc (Obj.cells wordsCells 9)) w.heap.size 0 := by
    have h1 := World.ownsMap_made (H := Unit) (w.setCell ⟨tb, 3, none⟩ (.map (some w.heap.size))) Try.prog 9 (plainElem Try.prog 3)
    rw [setCell_size] at h1
    exact h1.alloc _
  have hwd0 : (((w.setCell ⟨tb, 3, none⟩ (.map (some w.heap.size))).alloc (Obj.map #[] 0)).alloc (Obj.cells wordsCells 9)).heap[w.heap.size + 1]? = some (.cells wordsCells 9) := by
    have := heap_alloc_new ((w.setCell ⟨tb, 3, none⟩ (.map (some w.heap.size))).alloc (Obj.map #[] 0)) (Obj.cells wordsCells 9)
    rwa [hsz0] at this
  go_loopw [1, 2, 9] (fun _ _ iv wr => ∃ k : Nat, k ≤ 12 ∧ iv = .int .i64 k ∧ FillInv w tb d m k wr) (fun _ _ iv _ => 12 - (intOf iv).toNat)
  case atStart => exact ⟨0, by omega, rfl, hBar0, htb0, hkm0, hwd0⟩
  case round =>
    obtain ⟨k, hk, rfl, hI⟩ := hrel
    clear hBar0 htb0 hkm0 hwd0 hsz0
    have hpl : wr.cell? ⟨pl, 0, none⟩ = some (.pointer (some ⟨tb, 0, none⟩)) := (World.cell?_of_block (w := w) (hI.bar.block pl hplt hne)).trans hp
    have hm3 : wr.cell? ⟨tb, 3, none⟩ = some (.map (some w.heap.size)) := cell_of_row wr _ _ _ _ _ hI.tbl
    by_cases hlt : k < 12
    · obtain ⟨s, hs, hsc, hs9⟩ := words_cell k hlt
      have hcx : wr.cell? ⟨w.heap.size + 1, k, none⟩ = some (.string s) := by rw [cell_of_row wr _ _ _ _ _ hI.wds]; exact hsc
      have hkey : keyOf Try.prog 9 (.string s) = some (.string s.data.toList) := keyOf_string_mk Try.underlying9 (by unfold maxLen; omega)
      have HS := Lib.hid hs
      have HKEY := Lib.hid hkey
      clear hs hkey hc3 hp hsc
      go_wp2_with (at_mapUpdate; refine wpList_mapUpdate_own _ rfl _ _ _ 86 rfl 9 3 law9 Try.underlying86 _ w.heap.size k _ rfl hI.map (by unfold maxLen; omega) _ _ _ rfl rfl HKEY.out (.lit (.int .i64 (2 + (k : Int)))) [] (plainElem_int Try.underlying3 (WalkArith.wf_i64 (by omega))) ?_; intro w1 hown1 hgrow1; have hI1 := hI.next hlt HS.out hown1 hgrow1)
      go_roundw
      case rel => exact ⟨k + 1, by omega, by go_num, hI1⟩
      case measure => simp [intOf]; omega
    · obtain rfl : k = 12 := by omega
      go_wp2
      go_end0
      exact ⟨rfl, w.heap.size, Nat.le_refl _, hI.tbl, hI.map, hI.bar⟩

/-- Behind Do, the first time: done, and the map is there. -/
def Did (w : World) (tb : Nat) (e : Ending) (w' : World) : Prop :=
  e = .returned (.tuple #[]) ∧ ∃ mb, w'.heap[tb]? = some (.cells (clCells 1 0 (.map (some mb))) 90) ∧ KMap w' mb 12 ∧ mb ≠ tb ∧ Bar tb w w'

set_option maxHeartbeats 1600000 in
set_option maxRecDepth 1000000 in
theorem slow_any (tb pl : Nat) (mv : Value) (w : World) (hne : pl ≠ tb) (hp : w.cell? ⟨pl, 0, none⟩ = some (.pointer (some ⟨tb, 0, none⟩))) (htb : w.heap[tb]? = some (.cells (clCells 0 0 mv) 90)) :
    Calls Try.prog 70 #[.pointer (some ⟨tb, 0, none⟩), .func (.func 66) #[] #[.pointer (some ⟨pl, 0, none⟩)]] w (Did w tb) := by
  have hw1 : (w.setCell ⟨tb, 1, none⟩ (.int .i32 1)).heap[tb]? = some (.cells (clCells 0 1 mv) 90) := by rw [blk_set htb]; rfl
  have hl := run_call_load (P := Try.prog) Try.func71 (by kernel_rfl) (by kernel_rfl) (by kernel_rfl) .u32 (by kernel_rfl) (w := w.setCell ⟨tb, 1, none⟩ (.int .i32 1)) (a := ⟨tb, 0, none⟩) (x := 0) (cell_of_row _ _ _ _ _ _ hw1)
  have hp1 : (w.setCell ⟨tb, 1, none⟩ (.int .i32 1)).cell? ⟨pl, 0, none⟩ = some (.pointer (some ⟨tb, 0, none⟩)) := (World.cell?_of_block (w := w) (Below.heap_setCell _ _ _ _ hne)).trans hp
  have h1 : w.cell? ⟨tb, 1, none⟩ = some (.int .i32 0) := cell_of_row w _ _ _ _ _ htb
  have f1 := frozen_of_row htb 1
  have hnot : ∀ (x : Bool) (w : World), (Op.unary .not (.bool x)).run Try.prog w = .ok (.bool (!x)) w := fun _ _ => rfl
  have HF := Lib.hid (fill_any tb 0 1 mv pl _ hne hp1 hw1)
  clear hw1 hp1
  go_enter_defers Try.func70, Try.ntmps70
  go_wp2_with (first | (go_at_call 72; refine (lock_free ⟨tb, 1, none⟩ _ (by go_simp) (by go_simp)).mono ?_; rintro e w' ⟨rfl, rfl⟩) | (go_at_call 69; go_in) | (go_at_call 66; refine HF.out.mono ?_; rintro e w1 ⟨rfl, mb, hmb, ht1, hm1, hbar⟩))
  have ht0 : w1.cell? ⟨tb, 0, none⟩ = some (.int .u32 0) := cell_of_row w1 _ _ _ _ _ ht1
  have hfz0 := frozen_of_row ht1 0
  have hw2 : (w1.drew.setCell ⟨tb, 0, none⟩ (.int .u32 1)).heap[tb]? = some (.cells (clCells 1 1 (.map (some mb))) 90) := by rw [blk_set (w := w1.drew) ht1]; rfl
  have hw3 : ((w1.drew.setCell ⟨tb, 0, none⟩ (.int .u32 1)).setCell ⟨tb, 1, none⟩ (.int .i32 0)).heap[tb]? = some (.cells (clCells 1 0 (.map (some mb))) 90) := by rw [blk_set hw2]; rfl
  obtain ⟨es, ck, hmap⟩ := hm1.blk
  have hmt : mb ≠ tb := by intro e; rw [e, ht1] at hmap; cases hmap
  refine leaves_cons (f := 74) (args := #[.pointer (some ⟨tb, 0, none⟩), .bool true]) (by simp) (by simp [go_sem]) ?_
  refine (store_deferred ⟨tb, 0, none⟩ (.int .u32 0) .returning _ ht0 hfz0).mono ?_
  rintro e u' w'' ⟨rfl, rfl, rfl⟩
  refine leaves_cons (f := 73) (args := #[.pointer (some ⟨tb, 1, none⟩)]) (by simp [settle]) (by simp [go_sem]) ?_
  refine (unlock_deferred ⟨tb, 1, none⟩ _ _ (cell_of_row _ _ _ _ _ _ hw2) (frozen_of_row hw2 1)).mono ?_
  rintro e u' w'' ⟨rfl, rfl, rfl⟩
  have hfin : Did w tb (.returned (.tuple #[])) ((w1.drew.setCell ⟨tb, 0, none⟩ (.int .u32 1)).setCell ⟨tb, 1, none⟩ (.int .i32 0)) := by
    refine ⟨rfl, mb, hw3, ?_, hmt, ?_⟩
    · exact (World.ownsMap.setCell (World.ownsMap.setCell (World.ownsMap.drew hm1) (a := ⟨tb, 0, none⟩) hmt _) (a := ⟨tb, 1, none⟩) hmt _)
    · exact ((Bar.set tb 1 w _).trans hbar).drew.trans ((Bar.set tb 0 _ _).trans (Bar.set tb 1 _ _))
  simpa [Leaves, settle, results, Try.results70] using hfin

set_option maxHeartbeats 1600000 in
set_option maxRecDepth 1000000 in
theorem do_first (tb pl : Nat) (mv : Value) (w : World) (hne : pl ≠ tb) (hp : w.cell? ⟨pl, 0, none⟩ = some (.pointer (some ⟨tb, 0, none⟩))) (htb : w.heap[tb]? = some (.cells (clCells 0 0 mv) 90)) :
    Calls Try.prog 65 #[.pointer (some ⟨tb, 0, none⟩), .func (.func 66) #[] #[.pointer (some ⟨pl, 0, none⟩)]] w (Did w tb) := by
  have hl := run_call_load (P := Try.prog) Try.func71 (by kernel_rfl) (by kernel_rfl) (by kernel_rfl) .u32 (by kernel_rfl) (w := w) (a := ⟨tb, 0, none⟩) (x := 0) (cell_of_row _ _ _ _ _ _ htb)
  have hnot : ∀ (x : Bool) (w : World), (Op.unary .not (.bool x)).run Try.prog w = .ok (.bool (!x)) w := fun _ _ => rfl
  have HS := Lib.hid (slow_any tb pl mv w hne hp htb)
  go_enter Try.func65, Try.ntmps65
  go_wp2_with (first | (go_at_call 70; refine HS.out.mono ?_; rintro e w1 ⟨rfl, hD⟩) | (go_at_call 69; go_in))
  go_end0
  exact ⟨rfl, hD⟩
set_option maxHeartbeats 1600000 in
theorem do_done (tb : Nat) (fv mv : Value) (w : World) (htb : w.heap[tb]? = some (.cells (clCells 1 0 mv) 90)) :
    Calls Try.prog 65 #[.pointer (some ⟨tb, 0, none⟩), fv] w fun e w' => e = .returned (.tuple #[]) ∧ w' = w := by
  have hl := run_call_load (P := Try.prog) Try.func71 (by kernel_rfl) (by kernel_rfl) (by kernel_rfl) .u32 (by kernel_rfl) (w := w) (a := ⟨tb, 0, none⟩) (x := 1) (cell_of_row _ _ _ _ _ _ htb)
  have hnot : ∀ (x : Bool) (w : World), (Op.unary .not (.bool x)).run Try.prog w = .ok (.bool (!x)) w := fun _ _ => rfl
  go_enter Try.func65, Try.ntmps65
  go_wp2
  go_end0
  exact ⟨rfl, rfl⟩

theorem ret_int' {k : IntKind} {a b : Int} (h : a = b) : Ending.returned (.int k a) = .returned (.int k b) := by rw [h]
/-- The table's two states. -/
def TabOk (w : World) (tb : Nat) : Prop :=
  w.heap[tb]? = some (.cells (clCells 0 0 (.map none)) 90) ∨ ∃ mb, w.heap[tb]? = some (.cells (clCells 1 0 (.map (some mb))) 90) ∧ KMap w mb 12 ∧ mb ≠ tb
/-- What asking the table leaves: the table, and only blocks that the table owns have turned. -/
def AskT (w : World) (tb : Nat) (v : Value) (e : Ending) (w' : World) : Prop := e = .returned v ∧ TabOk w' tb ∧ Bar tb w w'

set_option maxHeartbeats 1600000 in
set_option maxRecDepth 1000000 in
theorem of_any (tb : Nat) (s : ByteArray) (w : World) (hs : s.size ≤ maxLen) (ht : TabOk w tb) :
    Calls Try.prog 53 #[.pointer (some ⟨tb, 0, none⟩), .string s] w (AskT w tb (.int .i64 (kindW s.data.toList))) := by
  have hmf : ∀ (fn : Fn) (first cap : Array Value) (w : World), (Instr.makeFunc fn first cap).run Try.prog w = .ok (.func fn first cap) w := fun _ _ _ _ => rfl
  have hkey : keyOf Try.prog 9 (.string s) = some (.string s.data.toList) := keyOf_string_mk Try.underlying9 hs
  have HKEY := Lib.hid hkey
  clear hkey
  have hbl : tb < w.heap.size := by rcases ht with h0 | ⟨mb, h0, _⟩; exact lt_of_blk h0; exact lt_of_blk h0
  have hal : ∀ cs t, w.heap[tb]? = some (.cells cs t) → (w.alloc (Obj.cells #[Value.pointer (some ⟨tb, 0, none⟩)] 134)).heap[tb]? = some (.cells cs t) := fun cs t h => by rw [Below.heap_alloc _ _ _ hbl]; exact h
  have hbox : (w.alloc (Obj.cells #[Value.pointer (some ⟨tb, 0, none⟩)] 134)).heap[w.heap.size]? = some (.cells #[Value.pointer (some ⟨tb, 0, none⟩)] 134) := heap_alloc_new w _
  have hbc : (w.alloc (Obj.cells #[Value.pointer (some ⟨tb, 0, none⟩)] 134)).cell? ⟨w.heap.size, 0, none⟩ = some (Value.pointer (some ⟨tb, 0, none⟩)) := cell_of_row _ _ _ _ _ _ hbox
  have hszb : w.heap.size < (w.alloc (Obj.cells #[Value.pointer (some ⟨tb, 0, none⟩)] 134)).heap.size := by simp
  have hbar0 : Bar tb w (w.alloc (Obj.cells #[Value.pointer (some ⟨tb, 0, none⟩)] 134)) := Bar.below ((Below.refl _ _).alloc (Nat.le_refl _) _)
  have HDO := Lib.hid (show Calls Try.prog 65 #[.pointer (some ⟨tb, 0, none⟩), .func (.func 66) #[] #[.pointer (some ⟨w.heap.size, 0, none⟩)]] (w.alloc (Obj.cells #[Value.pointer (some ⟨tb, 0, none⟩)] 134)) (Did (w.alloc (Obj.cells #[Value.pointer (some ⟨tb, 0, none⟩)] 134)) tb) by
    rcases ht with h0 | ⟨mb, h0, hm, hmt⟩
    · exact do_first tb w.heap.size _ _ (by omega) hbc (hal _ _ h0)
    · refine (do_done tb _ _ _ (hal _ _ h0)).mono ?_
      rintro e w' ⟨rfl, rfl⟩
      exact ⟨rfl, mb, hal _ _ h0, hm.alloc _, hmt, Bar.refl _ _⟩)
  have HK := Lib.hid (show (∃ i, wordsP[i]? = some s.data.toList ∧ i < 12) ∨ s.data.toList ∉ wordsP from by
    by_cases hin : s.data.toList ∈ wordsP
    · obtain ⟨i, hi⟩ := List.getElem?_of_mem hin
      exact .inl ⟨i, hi, (List.getElem?_eq_some_iff.1 hi).1⟩
    · exact .inr hin)
  clear ht hal hbox
  go_enter Try.func53, Try.ntmps53
  go_wp2_with fail
  refine HDO.out.mono ?_
  rintro e w1 ⟨rfl, mb, ht1, hm1, hmt, hbar⟩
  have hbx : w1.cell? ⟨w.heap.size, 0, none⟩ = some (Value.pointer (some ⟨tb, 0, none⟩)) := (World.cell?_of_block (w := w.alloc (Obj.cells #[Value.pointer (some ⟨tb, 0, none⟩)] 134)) (hbar.block w.heap.size hszb (by omega))).trans hbc
  have hm3 : w1.cell? ⟨tb, 3, none⟩ = some (.map (some mb)) := cell_of_row _ _ _ _ _ _ ht1
  clear hbc HDO
  have hT : TabOk w1 tb := .inr ⟨mb, ht1, hm1, hmt⟩
  have hB := hbar0.trans hbar
  rcases HK.out with ⟨i, hi, hi12⟩ | hno
  · have hhas : has (kD 12) (.string s.data.toList) = true := by
      rw [kD_has _ 12 (by decide)]
      have : s.data.toList ∈ wordsP.take 12 := List.mem_of_getElem? hi
      simpa using this
    have HAT := Lib.hid (kD_at s.data.toList (.lit (.int .i64 0)) 12 i (by decide) hi12 hi)
    have HKW := Lib.hid (kindFrom_at s.data.toList wordsP 2 i wordsP_nodup hi)
    clear hi
    go_wp2_with (at_lookup; refine wpList_lookup_own_ok_int _ rfl _ _ 86 rfl 9 3 .i64 law9 Try.underlying86 Try.underlying3 (zero3 _) mb 12 _ rfl hm1 _ _ rfl HKEY.out ?_; intro cc hat hwc; have HHT := Lib.hid hat; clear hat hwc)
    go_ret
    refine ⟨ret_int' ?_, hT, hB⟩
    have h1 := HHT.out
    rw [HAT.out] at h1
    injection h1 with h1
    injection h1 with _ h1
    show cc = ((kindFrom s.data.toList 2 wordsP : Nat) : Int)
    rw [HKW.out, ← h1]
    simp
  · have hhas : has (kD 12) (.string s.data.toList) = false := by
      rw [kD_has _ 12 (by decide)]
      have : ¬ s.data.toList ∈ wordsP.take 12 := fun h => hno (List.mem_of_mem_take h)
      simpa using this
    have HKW := Lib.hid (kindFrom_none s.data.toList wordsP 2 hno)
    clear hno
    go_wp2_with (at_lookup; refine wpList_lookup_own_ok_int _ rfl _ _ 86 rfl 9 3 .i64 law9 Try.underlying86 Try.underlying3 (zero3 _) mb 12 _ rfl hm1 _ _ rfl HKEY.out ?_; intro cc hat hwc; have HHT := Lib.hid hat; clear hat hwc)
    go_ret
    refine ⟨ret_int' ?_, hT, hB⟩
    show (14 : Int) = ((kindFrom s.data.toList 2 wordsP : Nat) : Int)
    rw [HKW.out]
    rfl
end Go.Proofs.Ytjklnlocmmnclaa
