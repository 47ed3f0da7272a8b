/- Walks: tokens alike. -/
import Derived.Test.YtjklnlocmmnclaaWo
namespace Go.Proofs.Ytjklnlocmmnclaa
open Go.RowKit

structure Site where
  mc : ByteArray
  f : ByteArray
  a : Int
  b : Int
  m : Bool
def siteCells (s : Site) : List Value := [.string s.mc, .string s.f, .int .i64 s.a, .int .i64 s.b, .bool s.m]
theorem siteCells_len (s : Site) : (siteCells s).length = 5 := rfl
def Sites (w : World) (U : Nat → Prop) (A : Option Addr) (n : Nat) (l : List Site) : Prop := Sl w U 5 A n (l.flatMap siteCells)
theorem Sites.at_ {w : World} {U : Nat → Prop} {A : Option Addr} {n : Nat} {l : List Site} (h : Sites w U A n l) {i : Nat} (hi : i < n) :
    ∃ b off x, A = some ⟨b, off, none⟩ ∧ U b ∧ b < w.heap.size ∧ l[i]? = some x ∧ w.cell? ⟨b, off + i * 5, none⟩ = some (.string x.mc) ∧
      w.cell? ⟨b, off + i * 5 + 1, none⟩ = some (.string x.f) ∧ w.cell? ⟨b, off + i * 5 + 2, none⟩ = some (.int .i64 x.a) ∧ w.cell? ⟨b, off + i * 5 + 3, none⟩ = some (.int .i64 x.b) ∧
      w.cell? ⟨b, off + i * 5 + 4, none⟩ = some (.bool x.m) := by
  obtain ⟨b, off, x, e, hu, hlt, hr, hc⟩ := Sl.elem siteCells_len (by decide) h hi
  exact ⟨b, off, x, e, hu, hlt, hr, hc 0 _ rfl, hc 1 _ rfl, hc 2 _ rfl, hc 3 _ rfl, hc 4 _ rfl⟩

set_option maxHeartbeats 2000000 in
theorem sameToken_any (x : Tok) (sA sB : Option Addr) (sn ca cb : Nat) (ss : List Site) (w : World) (hn : sn ≤ 9223372036854775807)
    (ha : Sites w (fun _ => True) sA sn ss) (hb : Sites w (fun _ => True) sB sn ss) :
    Calls Try.prog 39 #[.agg #[.int .i64 x.k, .string x.t, .bool x.sp, .string x.f, .int .i64 x.a, .int .i64 x.b, .bool x.m, .slice sA sn ca], .agg #[.int .i64 x.k, .string x.t, .bool x.sp, .string x.f, .int .i64 x.a, .int .i64 x.b, .bool x.m, .slice sB sn cb]] w
      fun e w' => e = .returned (.bool true) ∧ Below w.heap.size w w' := by
  go_enter Try.func39, Try.ntmps39
  go_wp2_with fail
  go_loopw [5] (fun iv wr => ∃ k : Nat, k ≤ sn ∧ iv = .int .i64 k ∧ Below w.heap.size w wr ∧ wr.cell? ⟨w.heap.size, 7, none⟩ = some (.slice sA sn ca) ∧ wr.cell? ⟨w.heap.size + 1, 7, none⟩ = some (.slice sB sn cb)) (fun iv _ => sn - (intOf iv).toNat)
  case atStart =>
    refine ⟨0, by omega, rfl, ((Below.refl _ _).alloc (Nat.le_refl _) _).alloc (by simp) _, ?_, ?_⟩
    · rw [World.cell?_alloc_past _ _ _ (by simp), cell_of_row _ _ _ _ _ _ (heap_alloc_new w _)]; rfl
    · have h2 := heap_alloc_new (w.alloc (Obj.cells #[Value.int IntKind.i64 x.k, Value.string x.t, Value.bool x.sp, Value.string x.f, Value.int IntKind.i64 x.a, Value.int IntKind.i64 x.b, Value.bool x.m, Value.slice sA sn ca] 36)) (Obj.cells #[Value.int IntKind.i64 x.k, Value.string x.t, Value.bool x.sp, Value.string x.f, Value.int IntKind.i64 x.a, Value.int IntKind.i64 x.b, Value.bool x.m, Value.slice sB sn cb] 36)
      rw [World.size_alloc] at h2
      rw [cell_of_row _ _ _ _ _ _ h2]
      rfl
  case round =>
    obtain ⟨k, hk, rfl, hbr, hp7, hq7⟩ := hrel
    by_cases hlt : k < sn
    · obtain ⟨b1, o1, y, rfl, _, _, hy, c0, c1, c2, c3, c4⟩ := Sites.at_ (Sl.below ha hbr) hlt
      obtain ⟨b2, o2, y', rfl, _, _, hy', d0, d1, d2, d3, d4⟩ := Sites.at_ (Sl.below hb hbr) hlt
      have he : y = y' := by rw [hy] at hy'; exact Option.some.inj hy'
      subst he
      clear hy hy' ha hb
      go_wp2_with fail
      go_quiet (fail)
      have hbq : Below w.heap.size w (wr.drewN nq) := below_drewN hbr nq
      go_wp2
      go_roundw
      case rel => exact ⟨k + 1, by omega, by go_num, hbq, hp7, hq7⟩
      case measure => simp [intOf]; omega
    · go_wp2
      go_ret
      exact ⟨rfl, hbr⟩

/-- Two lists of tokens that are alike: all fields, and what their sites read as. -/
structure TokAlike (w : World) (l l' : List Tok) : Prop where
  len : l.length = l'.length
  tok : ∀ (i : Nat) (x y : Tok), l[i]? = some x → l'[i]? = some y → y = { x with sA := y.sA, sc := y.sc } ∧ x.sn ≤ 9223372036854775807 ∧ ∃ ss, Sites w (fun _ => True) x.sA x.sn ss ∧ Sites w (fun _ => True) y.sA x.sn ss

set_option maxHeartbeats 2000000 in
theorem sameTokens_any {U V : Nat → Prop} (A B : Option Addr) (n n' c c' : Nat) (l l' : List Tok) (w : World) (hn : n ≤ 1000000) (ha : Toks w U A n l) (hb : Toks w V B n' l') (hal : TokAlike w l l') :
    Calls Try.prog 14 #[.slice A n c, .slice B n' c'] w fun e w' => e = .returned (.bool true) ∧ Below w.heap.size w w' := by
  have hnn : n' = n := by rw [← ha.len, ← hb.len, hal.len]
  subst hnn
  go_enter Try.func14, Try.ntmps14
  go_wp2_with fail
  go_loopw [5] (fun iv wr => ∃ k : Nat, k ≤ n' ∧ iv = .int .i64 k ∧ Below w.heap.size w wr) (fun iv _ => n' - (intOf iv).toNat)
  case atStart => exact ⟨0, by omega, rfl, Below.refl _ _⟩
  case round =>
    obtain ⟨k, hk, rfl, hbr⟩ := hrel
    by_cases hlt : k < n'
    · obtain ⟨b1, o1, x, rfl, _, hl1, hx, c0, c1, c2, c3, c4, c5, c6, c7⟩ := Toks.at_ (Sl.below ha hbr) hlt
      obtain ⟨b2, o2, y, rfl, _, hl2, hy, d0, d1, d2, d3, d4, d5, d6, d7⟩ := Toks.at_ (Sl.below hb hbr) hlt
      obtain ⟨he, hsn, ss, hs1, hs2⟩ := hal.tok k x y hx hy
      have HC := Lib.hid (show ∀ wx : World, Below w.heap.size w wx → Calls Try.prog 39 #[.agg #[.int .i64 x.k, .string x.t, .bool x.sp, .string x.f, .int .i64 x.a, .int .i64 x.b, .bool x.m, .slice x.sA x.sn x.sc], .agg #[.int .i64 x.k, .string x.t, .bool x.sp, .string x.f, .int .i64 x.a, .int .i64 x.b, .bool x.m, .slice y.sA x.sn y.sc]] wx
        fun e w' => e = .returned (.bool true) ∧ Below wx.heap.size wx w' from fun wx hwx => sameToken_any x x.sA y.sA x.sn x.sc y.sc ss wx hsn (Sl.below hs1 hwx) (Sl.below hs2 hwx))
      rw [he] at d0 d1 d2 d3 d4 d5 d6 d7
      dsimp only at d0 d1 d2 d3 d4 d5 d6 d7
      clear he hx hy hs1 hs2
      go_wp2_with fail
      go_region_law (go_simp; go_at_call 39; refine (HC.out _ hbr.drew).mono ?_; rintro e w2 ⟨rfl, hb2⟩)
      all_goals
        have hbz : Below w.heap.size w w2 := hbr.trans ((below_drew2 hb2).mono hbr.size)
        go_wp2
        go_roundw
        case rel => exact ⟨k + 1, by omega, by go_num, hbz⟩
        case measure => simp [intOf]; omega
    · go_wp2
      go_ret
      exact ⟨rfl, hbr⟩
end Go.Proofs.Ytjklnlocmmnclaa
