/- Walks: the words' map, made once. -/
import Derived.Test.YtjklnlocmmnclaaMc9
import Derived.Test.YtjklnlocmmnclaaPa9
import Derived.Maps.Own
import Derived.Maps.OwnSet
import Derived.Maps.Views
import Derived.Defers
import Derived.Laws.LoneSync
import Derived.RegionTactic
import Derived.RegionCalls
import Derived.ChangeAlike
namespace Go.Proofs.Ytjklnlocmmnclaa
open Go.RowKit Go.WideMaps Go.Maps

def wordsCells : Array Value := (wordsP.map strL).toArray
set_option maxHeartbeats 400000 in
theorem words_any (w : World) : Calls Try.prog 41 #[] w fun e w' => e = .returned (.slice (some ⟨w.heap.size, 0, none⟩) 12 12) ∧ w' = w.alloc (.cells wordsCells 9) := by
  go_enter Try.func41, Try.ntmps41
  go_wp2
  go_ret
  exact ⟨rfl, rfl⟩

/- sync.Once, one goroutine: after the guide's worked example. -/
theorem disable (w : World) : (callFunc 79 #[]).run Try.prog w = .ok (.value (.tuple #[])) w := run_call_mark0 Try.func79 (by kernel_rfl) (by kernel_rfl) (by kernel_rfl) .disable (by kernel_rfl) w
theorem enable (w : World) : (callFunc 81 #[]).run Try.prog w = .ok (.value (.tuple #[])) w := run_call_mark0 Try.func81 (by kernel_rfl) (by kernel_rfl) (by kernel_rfl) .enable (by kernel_rfl) w
theorem acquire (a : Addr) (w : World) : (callFunc 82 #[.pointer (some a)]).run Try.prog w = .ok (.value (.tuple #[])) w := run_call_marked Try.func82 (by kernel_rfl) (by kernel_rfl) (by kernel_rfl) .acquire (by kernel_rfl) a w
theorem releaseMerge (a : Addr) (w : World) : (callFunc 84 #[.pointer (some a)]).run Try.prog w = .ok (.value (.tuple #[])) w := run_call_marked Try.func84 (by kernel_rfl) (by kernel_rfl) (by kernel_rfl) .releaseMerge (by kernel_rfl) a w

theorem store_deferred (a : Addr) (x : Value) (u : FrameMode) (w : World) (hc : w.cell? a = some x) (hz : w.frozen? a = false) :
    CallsD Try.prog 74 #[.pointer (some a), .bool true] u w fun e u' w' => u' = u ∧ (e = .returned (.tuple #[]) ∧ w' = w.drew.setCell a (.int .u32 1)) := by
  have hc' : w.drew.cell? a = some x := by go_simp
  have hz' : w.drew.frozen? a = false := by go_simp
  have hst := run_call_store (P := Try.prog) Try.func77 (by kernel_rfl) (by kernel_rfl) (by kernel_rfl) (by kernel_rfl) (k := .u32) (y := 1) hc' hz'
  go_enter_d Try.func74, Try.ntmps74
  go_wp2
  go_region_calls
  all_goals (go_end0; exact ⟨rfl, rfl⟩)

set_option maxHeartbeats 800000 in
set_option maxRecDepth 1000000 in
theorem unlock_deferred (a : Addr) (u : FrameMode) (w : World) (hc : w.cell? a = some (.int .i32 1)) (hz : w.frozen? a = false) :
    CallsD Try.prog 73 #[.pointer (some a)] u w fun e u' w' => u' = u ∧ (e = .returned (.tuple #[]) ∧ w' = w.setCell a (.int .i32 0)) := by
  have hd := disable
  have he := enable
  have hr := releaseMerge
  have hadd := run_call_add (P := Try.prog) Try.func85 (by kernel_rfl) (by kernel_rfl) (by kernel_rfl) .i32 (by kernel_rfl) (y := -1) (s := 0) hc hz (by simp [go_sem]; rfl)
  have hcv := run_convert_to_unsafe (P := Try.prog) (src := 146) (dst := 150) Try.underlying146 Try.underlying150 (by kernel_rfl) hc
  go_enter_d Try.func73, Try.ntmps73
  go_wp2
  go_end0
  go_wp2
  go_end0
  exact ⟨rfl, rfl⟩

set_option maxHeartbeats 800000 in
set_option maxRecDepth 1000000 in
theorem lock_free (a : Addr) (w : World) (hc : w.cell? a = some (.int .i32 0)) (hz : w.frozen? a = false) :
    Calls Try.prog 72 #[.pointer (some a)] w fun e w' => e = .returned (.tuple #[]) ∧ w' = w.setCell a (.int .i32 1) := by
  have hd := disable
  have he := enable
  have ha := acquire
  have hcas := run_call_cas_hit (P := Try.prog) Try.func80 (by kernel_rfl) (by kernel_rfl) (by kernel_rfl) .i32 (by kernel_rfl) (y := 1) hc hz
  have hc' : (w.setCell a (.int .i32 1)).cell? a = some (.int .i32 1) := World.cell?_setCell_same w a _ hc
  have hcv := run_convert_to_unsafe (P := Try.prog) (src := 146) (dst := 150) Try.underlying146 Try.underlying150 (by kernel_rfl) hc'
  go_enter Try.func72, Try.ntmps72
  go_wp2
  first | go_end0 | (simp only [Exit.inBlock, Exit.then]; refine bodyPost_ret (results_none rfl _ _ _) rfl ?_) | refine bodyPost_ret (results_none rfl _ _ _) rfl ?_
  go_wp2
  go_end0
  exact ⟨rfl, rfl⟩

/- The map of words. -/
theorem law9 : Keyed Try.prog 9 := string_keyed Try.underlying9
theorem zero3 (w : World) : (zeroValue 3).run Try.prog w = .ok (.int .i64 0) w := by kernel_rfl
/-- The map behind k rounds. -/
def kD : Nat → DataW Unit
  | 0 => .map []
  | k + 1 => (kD k).put (.string (wordsP.getD k [])) (.lit (.int .i64 (2 + (k : Int))))
def KMap (w : World) (b k : Nat) : Prop := w.ownsMap Try.prog 9 (plainElem Try.prog 3) b k (kD k)
theorem kD_isMap : ∀ k, IsMap (kD k)
  | 0 => ⟨[], rfl⟩
  | k + 1 => by
    obtain ⟨es, h⟩ := kD_isMap k
    exact ⟨_, by simp only [kD, h]; rfl⟩
theorem kD_has (t : List UInt8) : ∀ k, k ≤ 12 → has (kD k) (.string t) = decide (t ∈ wordsP.take k)
  | 0, _ => by simp [kD, has]
  | k + 1, hk => by
    have hl : wordsP.length = 12 := rfl
    have hg : wordsP[k]? = some (wordsP[k]'(by omega)) := List.getElem?_eq_getElem (by omega)
    have ht : wordsP.take (k + 1) = wordsP.take k ++ [wordsP[k]'(by omega)] := by rw [List.take_succ_eq_append_getElem (by omega)]
    simp only [kD]
    rw [List.getD_eq_getElem?_getD, hg, Option.getD_some, ht]
    by_cases e : t = wordsP[k]'(by omega)
    · rw [e, has_put_same (kD_isMap k) (by exact trivial)]
      simp only [List.mem_append, List.mem_singleton, or_true, decide_true]
    · rw [has_put_other (by intro h; injection h with h; exact e h), kD_has t k (by omega)]
      simp only [List.mem_append, List.mem_singleton, e, or_false]
theorem kD_at (t : List UInt8) (z : DataW Unit) : ∀ (k i : Nat), k ≤ 12 → i < k → wordsP[i]? = some t → (kD k).atKey (.string t) z = .lit (.int .i64 (2 + (i : Int)))
  | 0, i, _, h, _ => by omega
  | k + 1, i, hk, hi, ht => by
    have hl : wordsP.length = 12 := rfl
    have hg : wordsP[k]? = some (wordsP[k]'(by omega)) := List.getElem?_eq_getElem (by omega)
    simp only [kD]
    rw [List.getD_eq_getElem?_getD, hg, Option.getD_some]
    by_cases e : i = k
    · subst e
      rw [hg] at ht
      injection ht with ht
      rw [ht, atKey_put_same (kD_isMap i) (by exact trivial)]
    · have hne : t ≠ wordsP[k]'(by omega) := by
        intro h
        have h2 : wordsP[i]? = wordsP[k]? := by rw [ht, hg, h]
        exact e ((List.getElem?_inj (by omega) wordsP_nodup).1 h2)
      rw [atKey_put_other (by intro h; injection h with h; exact hne h)]
      exact kD_at t z k i (by omega) (by omega) ht
end Go.Proofs.Ytjklnlocmmnclaa
