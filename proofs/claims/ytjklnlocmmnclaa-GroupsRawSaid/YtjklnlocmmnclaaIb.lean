/- Walks: the diagnostics of lines. -/
import Derived.Test.YtjklnlocmmnclaaGd9
namespace Go.Proofs.Ytjklnlocmmnclaa
open Go.RowKit

def DgRet (w : World) (ds : List DgT) (e : Ending) (w' : World) : Prop := ∃ v, e = .returned v ∧ w'.ownsRow w.heap.size 63 4 v ds.length (ds.flatMap dgtCells) ∧ Below w.heap.size w w'
def ToldRel (w : World) (n : Nat) (ll : List (List Tok)) (cs : List Int) (vo iv : Value) (wr : World) : Prop :=
  ∃ k : Nat, k ≤ n ∧ iv = .int .i64 k ∧ wr.ownsRow w.heap.size 63 4 vo (diagL (ll.take k) (cs.take k)).length ((diagL (ll.take k) (cs.take k)).flatMap dgtCells) ∧ Below w.heap.size w wr
set_option maxRecDepth 1000000 in
set_option maxHeartbeats 2000000 in
theorem told_any {U : Nat → Prop} (A : Option Addr) (n c cb : Nat) (ll : List (List Tok)) (cs : List Int) (w : World) (h : Lns w U A n ll) (hn : n ≤ 1000000) (hcs : cs.length = n) (hcb : w.heap[cb]? = some (.cells (ints cs).toArray 3))
    (h2 : ∀ (i : Nat) (l : List Tok) (x : Int), ll[i]? = some l → cs[i]? = some x → x ≠ 0 → 2 ≤ l.length) :
    Calls Try.prog 49 #[.slice A n c, .slice (some ⟨cb, 0, none⟩) n n] w (DgRet w (diagL ll cs)) := by
  have hlen := h.len
  have hcbl := lt_of_blk hcb
  have HCS := Lib.hid hcs
  have HLL := Lib.hid hlen
  have HCB := Lib.hid hcb
  clear hcs hlen hcb
  go_enter Try.func49, Try.ntmps49
  go_wp2_with fail
  go_loopw [4, 5, 6, 9] (fun vo _ _ iv wr => ToldRel w n ll cs vo iv wr) (fun _ _ _ iv _ => n - (intOf iv).toNat)
  case atStart => exact ⟨0, by omega, rfl, by simpa [diagL] using World.ownsRow_nil _ _ 63 4, Below.refl _ _⟩
  case round =>
    obtain ⟨k, hk, rfl, hown, hb⟩ := hrel
    by_cases hlt : k < n
    · obtain ⟨b, off, A', n', c', frm, to, opn, l, rfl, hu, hbl, hl, c0, c1, c2, c3, ht, hn', hc'⟩ := h.at_ hlt
      obtain ⟨x, hx⟩ : ∃ x, cs[k]? = some x := ⟨_, List.getElem?_eq_getElem (by rw [HCS.out]; exact hlt)⟩
      have hxc : w.cell? ⟨cb, k, none⟩ = some (.int .i64 x) := by
        rw [cell_of_row w cb k _ _ _ HCB.out]
        simp [ints, hx]
      have hnx := diagL_next hl hx
      have hdl := diagL_len (ll.take k) (cs.take k)
      have hdl2 : (ll.take k).length ≤ k := List.length_take_le _ _
      rw [← hb.cell (p := ⟨cb, _, none⟩) hcbl] at hxc
      rw [← hb.cell (p := ⟨b, _, none⟩) hbl] at c0
      have h22 := h2 k l x hl hx
      generalize diagL (ll.take k) (cs.take k) = ds at *
      have HOWN := Lib.hid hown
      have HNX := Lib.hid hnx
      clear hown hnx hx hl h2 c1 c2 c3
      by_cases hx0 : x = 0
      · subst hx0
        go_wp2_with fail
        go_roundw
        case rel => exact ⟨k + 1, by omega, by go_num, by rw [HNX.out]; simpa [diagAt] using HOWN.out, hb⟩
        case measure => simp [intOf]; omega
      · have hn2 : 1 < n' := by have := ht.len; have := h22 hx0; omega
        obtain ⟨b2, off2, y, rfl, _, hbl2, hy, d0, d1, d2, d3, d4, d5, d6, d7⟩ := Toks.at_ ht hn2
        rw [← hb.cell (p := ⟨b2, _, none⟩) hbl2] at d3 d4 d5
        simp only [Nat.one_mul] at d3 d4 d5
        have hgy : l.getD 1 noTok = y := by simp [List.getD, hy]
        have HGY := Lib.hid hgy
        have hxb : (x == 0) = false := by simpa using hx0
        have hxn : (x != 0) = true := by simpa using hx0
        unfold maxLen at hc'
        clear hy d0 d1 d2 d6 d7 hgy
        go_wp2_with (at_builtin; refine app_at el39 wr.heap.size rfl _ rfl _ _ rfl w.heap.size u4 _ _ rfl HOWN.out rfl rfl (ones_cons rfl (ones_cons rfl (ones_cons rfl (ones_cons rfl ones_nil)))) (by omega) (by omega) (by have := hb.size; omega) ?_; intro g cap w1 hown1 hgrow hat hlt1)
        have hb1 := below_app hb HOWN.out hgrow hb.size
        go_roundw
        case rel => exact ⟨k + 1, by omega, by go_num, by rw [HNX.out, show diagAt l x = [(x, y)] by unfold diagAt; rw [if_neg hx0, HGY.out]]; simpa [dgtCells] using hown1, hb1⟩
        case measure => simp [intOf]; omega
    · obtain rfl : k = n := by omega
      have e1 : ll.take k = ll := by rw [← HLL.out, List.take_length]
      have e2 : cs.take k = cs := by rw [← HCS.out, List.take_length]
      rw [e1, e2] at hown
      go_wp2
      go_ret
      exact ⟨_, rfl, hown, hb⟩
end Go.Proofs.Ytjklnlocmmnclaa
