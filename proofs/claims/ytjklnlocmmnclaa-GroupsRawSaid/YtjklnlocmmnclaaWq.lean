/- Walks: tokens in new memory. -/
import Derived.Test.YtjklnlocmmnclaaWp
import Derived.Test.YtjklnlocmmnclaaWh
namespace Go.Proofs.Ytjklnlocmmnclaa
open Go.RowKit

/-- What slices.Clone hands back: the same sites in new memory. -/
def CloneRet (w : World) (n : Nat) (cs : List Value) (e : Ending) (w' : World) : Prop :=
  ∃ A c, e = .returned (.slice A n c) ∧ Sl w' (fun b => w.heap.size ≤ b ∧ b < w'.heap.size) 5 A n cs ∧ Below w.heap.size w w'

set_option maxHeartbeats 400000 in
set_option maxRecDepth 1000000 in
theorem clone_any {U : Nat → Prop} (A : Option Addr) (n c : Nat) (cs : List Value) (w : World) (h : Sl w U 5 A n cs) (hn : n ≤ 1000) (h1 : ∀ u ∈ cs, u.oneCell' = true) :
    Calls Try.prog 55 #[.slice A n c] w (CloneRet w n cs) := by
  rcases Nat.eq_zero_or_pos n with h0 | h0
  · subst h0
    have hcs : cs = [] := List.eq_nil_of_length_eq_zero (by simpa using h.1)
    subst hcs
    cases A with
    | none =>
      have hnil := fun w : World => Lib.run_eql_slice_nil (P := Try.prog) w 34 127 none 0 c 0 0 Try.underlying34
      go_enter Try.func55, Try.ntmps55
      go_wp2
      go_ret
      exact ⟨_, _, rfl, Sl.nil_, Below.refl _ _⟩
    | some a =>
      have hnil := fun w : World => Lib.run_eql_slice_nil (P := Try.prog) w 34 127 (some a) 0 c 0 0 Try.underlying34
      go_enter Try.func55, Try.ntmps55
      go_wp2
      go_ret
      exact ⟨_, _, rfl, Sl.nil_, (Below.refl _ _).alloc (Nat.le_refl _) _⟩
  · obtain ⟨b, off, rfl, _, hc⟩ := h.2 (by rw [h.1]; omega)
    have hnil := fun w : World => Lib.run_eql_slice_nil (P := Try.prog) w 34 127 (some ⟨b, off, none⟩) n c 0 0 Try.underlying34
    have hsrc : ∀ wx : World, Below w.heap.size w wx → ∀ j u, cs[j]? = some u → wx.cell? ((⟨b, off, none⟩ : Addr).add j) = some u := fun wx hb j u hu => by
      rw [addr_add]
      exact (hb.cell (p := ⟨b, off + j, none⟩) (lt_of_cell (hc j u hu))).trans (hc j u hu)
    have HS := Lib.hid hsrc
    have HL := Lib.hid h.1
    obtain ⟨i, z, e1, e2, e3, e4, e5, e6, e7⟩ := el34.out
    clear hsrc hc h
    go_enter Try.func55, Try.ntmps55
    go_wp2_with (at_builtin; refine wpList_append_lies _ rfl _ _ 34 rfl w.heap.size 127 i z 5 56 e1 e2 e3 e4 e5 e6 e7 (.slice (some ⟨w.heap.size, 0, none⟩) 0 0) 0 [] rfl (World.ownsRow_made w #[] 0 (Nat.le_refl _) (by decide) rfl) ⟨b, off, none⟩ n c cs rfl HL.out (HS.out _ ((Below.refl _ _).alloc (Nat.le_refl _) _)) h1 h0 (by unfold maxLen; omega) (by omega) (by simp) (w.heap.size + 1) (by simp) ?_; intro g cap w1 hown hgrow hat hlt)
    go_ret
    refine ⟨_, _, rfl, ?_, ?_⟩
    · have hs := Sl.of_own (U := fun b => w.heap.size ≤ b ∧ b < w1.heap.size) (by simpa using hown) (fun g' hg' => by
        injection hg' with hg'
        injection hg' with hg' _
        subst hg'
        refine ⟨?_, hlt⟩
        rcases hat with hat | hat
        · simp [Value.ownBlock] at hat; omega
        · omega)
      simpa using hs
    · exact ((Below.refl _ _).alloc (Nat.le_refl _) _).grown hgrow (by simp) (fun k hk => by simp [Value.ownBlock] at hk; omega)

/-- The tokens that Own has put down: the same fields, the same sites in new memory. -/
structure OwnInv (w : World) (l : List Tok) (ss : List (List Site)) (k : Nat) (vo : Value) (l' : List Tok) (F : Nat → Prop) (wr : World) : Prop where
  below : Below w.heap.size w wr
  out : wr.ownsRow w.heap.size 36 8 vo k (l'.flatMap tokCells)
  len : l'.length = k
  tok : ∀ (i : Nat) (x y : Tok), l[i]? = some x → l'[i]? = some y → y = { x with sA := y.sA, sc := y.sc }
  sites : ∀ (i : Nat) (y : Tok) (s : List Site), l'[i]? = some y → ss[i]? = some s → Sites wr F y.sA y.sn s
  F1 : ∀ b, F b → b < wr.heap.size
  F2 : ∀ b, F b → vo.ownBlock ≠ some b

theorem OwnInv.next {w wr w' : World} {l l' : List Tok} {ss : List (List Site)} {k g cap : Nat} {vo : Value} {F G : Nat → Prop} (h : OwnInv w l ss k vo l' F wr) {x y : Tok} {s : List Site} (hx : l[k]? = some x) (hs : ss[k]? = some s)
    (hy : y = { x with sA := y.sA, sc := y.sc }) (hb : Below w.heap.size w w') (hk : ∀ b, b < wr.heap.size → vo.ownBlock ≠ some b → w'.heap[b]? = wr.heap[b]?) (hz : wr.heap.size ≤ w'.heap.size)
    (hown : w'.ownsRow w.heap.size 36 8 (.slice (some ⟨g, 0, none⟩) (k + 1) cap) (k + 1) (l'.flatMap tokCells ++ tokCells y)) (hat : vo.ownBlock = some g ∨ wr.heap.size ≤ g)
    (hG : Sites w' G y.sA y.sn s) (hG1 : ∀ b, G b → wr.heap.size ≤ b ∧ b < w'.heap.size ∧ b ≠ g) :
    OwnInv w l ss (k + 1) (.slice (some ⟨g, 0, none⟩) (k + 1) cap) (l' ++ [y]) (fun b => F b ∨ G b) w' := by
  have hkeep : Keeps F wr w' := fun b hF => hk b (h.F1 b hF) (h.F2 b hF)
  refine ⟨hb, by simpa using hown, by simp [h.len], ?_, ?_, ?_, ?_⟩
  · intro i x' y' hx' hy'
    rcases Nat.lt_or_ge i k with hi | hi
    · rw [List.getElem?_append_left (by rw [h.len]; exact hi)] at hy'
      exact h.tok i x' y' hx' hy'
    · rw [List.getElem?_append_right (by rw [h.len]; exact hi), h.len] at hy'
      have hik : i = k := by
        rcases Nat.eq_or_lt_of_le hi with e | e
        · exact e.symm
        · have : ([y] : List Tok)[i - k]? = none := by rw [List.getElem?_eq_none]; simp; omega
          rw [this] at hy'
          cases hy'
      subst hik
      simp at hy'
      rw [hx] at hx'
      injection hx' with hx'
      subst hx'
      subst hy'
      exact hy
  · intro i y' s' hy' hs'
    rcases Nat.lt_or_ge i k with hi | hi
    · rw [List.getElem?_append_left (by rw [h.len]; exact hi)] at hy'
      exact ((h.sites i y' s' hy' hs').keep hkeep).more (V := fun b => F b ∨ G b) fun b hF _ => .inl hF
    · rw [List.getElem?_append_right (by rw [h.len]; exact hi), h.len] at hy'
      have hik : i = k := by
        rcases Nat.eq_or_lt_of_le hi with e | e
        · exact e.symm
        · have : ([y] : List Tok)[i - k]? = none := by rw [List.getElem?_eq_none]; simp; omega
          rw [this] at hy'
          cases hy'
      subst hik
      simp at hy'
      subst hy'
      rw [hs] at hs'
      injection hs' with hs'
      subst hs'
      exact hG.more fun b hb' _ => .inr hb'
  · intro b hFG
    rcases hFG with hF | hF
    · exact Nat.lt_of_lt_of_le (h.F1 b hF) hz
    · exact (hG1 b hF).2.1
  · intro b hFG
    simp only [Value.ownBlock, ne_eq, Option.some.injEq]
    intro e
    subst e
    rcases hFG with hF | hF
    · rcases hat with hat | hat
      · exact h.F2 _ hF hat
      · have := h.F1 _ hF
        omega
    · exact (hG1 _ hF).2.2 rfl
theorem sites_ones (s : List Site) : ∀ u ∈ s.flatMap siteCells, u.oneCell' = true := by
  intro u hu
  obtain ⟨x, _, hx⟩ := List.mem_flatMap.1 hu
  simp only [siteCells, List.mem_cons, List.not_mem_nil, or_false] at hx
  rcases hx with rfl | rfl | rfl | rfl | rfl <;> rfl

def OwnRel (w : World) (l : List Tok) (ss : List (List Site)) (n : Nat) (vo iv : Value) (wr : World) : Prop := ∃ (k : Nat) (l' : List Tok) (F : Nat → Prop), k ≤ n ∧ iv = .int .i64 k ∧ OwnInv w l ss k vo l' F wr

set_option maxHeartbeats 1000000 in
set_option maxRecDepth 1000000 in
theorem own_any {U : Nat → Prop} (A : Option Addr) (n c : Nat) (l : List Tok) (ss : List (List Site)) (w : World) (h : Toks w U A n l) (hn : n ≤ 1000) (hss : ss.length = n)
    (hs : ∀ (i : Nat) (x : Tok) (s : List Site), l[i]? = some x → ss[i]? = some s → x.sn ≤ 1000 ∧ Sites w (fun _ => True) x.sA x.sn s) :
    Calls Try.prog 40 #[.slice A n c] w fun e w' => ∃ vo l' F, e = .returned vo ∧ OwnInv w l ss n vo l' F w' := by
  go_enter Try.func40, Try.ntmps40
  go_wp2_with fail
  go_loopw [2, 4, 7] (fun vo _ iv wr => OwnRel w l ss n vo iv wr) (fun _ _ iv _ => n - (intOf iv).toNat)
  case atStart => exact ⟨0, [], fun _ => False, by omega, rfl, Below.refl _ _, World.ownsRow_nil _ _ 36 8, rfl, fun i x y _ h2 => by simp at h2, fun i y s h2 _ => by simp at h2, fun _ hf => hf.elim, fun _ hf => hf.elim⟩
  case round =>
    obtain ⟨k, l', F, hk, rfl, hI⟩ := hrel
    by_cases hlt : k < n
    · obtain ⟨b, off, x, rfl, _, hbl, hx, c0, c1, c2, c3, c4, c5, c6, c7⟩ := Toks.at_ (Sl.below h hI.below) hlt
      obtain ⟨s, hs'⟩ : ∃ s, ss[k]? = some s := ⟨_, List.getElem?_eq_getElem (by omega)⟩
      obtain ⟨hsn, hsi⟩ := hs k x s hx hs'
      have HX := Lib.hid hx
      have HSS := Lib.hid hs'
      have HSI := Lib.hid hsi
      clear hx hs' hsi
      go_wp2_with fail
      have hbA := hI.below.alloc hI.below.size (Obj.cells #[Value.int .i64 x.k, Value.string x.t, Value.bool x.sp, Value.string x.f, Value.int .i64 x.a, Value.int .i64 x.b, Value.bool x.m, Value.slice x.sA x.sn x.sc] 36)
      refine (clone_any x.sA x.sn x.sc (s.flatMap siteCells) _ (Sl.below HSI.out hbA) hsn (sites_ones s)).mono ?_
      rintro e wC ⟨A', c', rfl, hsl, hbC⟩
      have hblk := (hbC.block wr.heap.size (by simp)).trans (heap_alloc_new wr _)
      rw [World.size_alloc] at hbC hsl
      have d0 := cell_of_row wC _ 0 _ _ _ hblk
      have d1 := cell_of_row wC _ 1 _ _ _ hblk
      have d2 := cell_of_row wC _ 2 _ _ _ hblk
      have d3 := cell_of_row wC _ 3 _ _ _ hblk
      have d4 := cell_of_row wC _ 4 _ _ _ hblk
      have d5 := cell_of_row wC _ 5 _ _ _ hblk
      have d6 := cell_of_row wC _ 6 _ _ _ hblk
      have d7 := cell_of_row wC _ 7 _ _ _ hblk
      have f7 := frozen_of_row hblk 7
      have hbWC : Below wr.heap.size wr wC := ((Below.refl _ _).alloc (Nat.le_refl _) _).trans (hbC.mono (by omega))
      have hszC := hbC.size
      rw [World.size_alloc] at hszC
      have hownC : (wC.setCell ⟨wr.heap.size, 7, none⟩ (.slice A' x.sn c')).ownsRow w.heap.size 36 8 u2 k (l'.flatMap tokCells) := own_keep hI.out fun b' hv => by
        have h1 := (hI.out.lt b' hv).2
        rw [Below.heap_setCell _ _ _ _ (by show b' ≠ wr.heap.size; omega)]
        exact hbWC.block b' h1
      have hlk : k ≤ 1000 := by omega
      clear c0 c1 c2 c3 c4 c5 c6 c7 hblk
      go_wp2_with (at_builtin; refine app_at el22 wC.heap.size (setCell_size _ _ _) _ rfl _ _ rfl w.heap.size u2 _ _ rfl hownC rfl rfl (ones_cons rfl (ones_cons rfl (ones_cons rfl (ones_cons rfl (ones_cons rfl (ones_cons rfl (ones_cons rfl (ones_cons rfl ones_nil)))))))) (by omega) (by omega) (by have := hI.below.size; omega) ?_; intro g cap w3 hown3 hgrow3 hat3 hlt3)
      have hkk : ∀ b', b' < wC.heap.size → b' ≠ wr.heap.size → u2.ownBlock ≠ some b' → w3.heap[b']? = wC.heap[b']? := fun b' h1 h2 h3 => by
        rw [hgrow3.block b' (by rw [setCell_size]; exact h1) (fun e => h3 e.symm), Below.heap_setCell _ _ _ _ h2]
      have hown4 : w3.ownsRow w.heap.size 36 8 (.slice (some ⟨g, 0, none⟩) (k + 1) cap) (k + 1) (l'.flatMap tokCells ++ tokCells { x with sA := A', sc := c' }) := hown3
      have hg3 := hgrow3.size
      rw [setCell_size] at hg3
      have hat4 : u2.ownBlock = some g ∨ wr.heap.size ≤ g := by rcases hat3 with hat3 | hat3; exact .inl hat3; right; omega
      have hIn := hI.next (y := { x with sA := A', sc := c' }) HX.out HSS.out rfl ?_ (fun b' h1 h2 => (hkk b' (by omega) (by omega) h2).trans (hbWC.block b' h1)) (by omega) hown4 hat4
        (G := fun b => wr.heap.size + 1 ≤ b ∧ b < wC.heap.size) ?_ ?_
      · go_wp2
        go_roundw
        case rel => exact ⟨k + 1, l' ++ [{ x with sA := A', sc := c' }], (fun b => F b ∨ wr.heap.size + 1 ≤ b ∧ b < wC.heap.size), by omega, by go_num, hIn⟩
        case measure => simp [intOf]; omega
      · have hx1 : Below w.heap.size w (wC.setCell ⟨wr.heap.size, 7, none⟩ (.slice A' x.sn c')) := (hI.below.trans (hbWC.mono hI.below.size)).setCell (by show w.heap.size ≤ wr.heap.size; exact hI.below.size) _
        exact hx1.grown hgrow3 (by rw [setCell_size]; have := hI.below.size; omega) fun k' hk' => (hI.out.lt k' hk').1
      · exact hsl.keep fun b' hb' => hkk b' hb'.2 (by omega) (by intro hv; have := (hI.out.lt b' hv).2; omega)
      · intro b' hb'
        refine ⟨by omega, by omega, ?_⟩
        intro e
        subst e
        rcases hat3 with hat3 | hat3
        · have := (hI.out.lt _ hat3).2
          omega
        · omega
    · obtain rfl : k = n := by omega
      go_wp2
      go_ret
      exact ⟨_, l', F, rfl, hI⟩
end Go.Proofs.Ytjklnlocmmnclaa
