/- Words for memory: append of one element onto a row of the call's own, over this program's types. -/
import Derived.Test.YtjklnlocmmnclaaProg
import Derived.WalkKit
import Derived.WalkSpells
import Derived.WalkLawsBesides
import Derived.Lib.Hide
import Derived.Deep.AppendLies
import Derived.Test.YtjklnlocmmnclaaMa
namespace Go.Proofs.Ytjklnlocmmnclaa
open Go.RowKit

/-- What the laws for append ask of a slice's type and its element's. -/
structure El (t e : TypeId) (size bytes : Nat) : Prop where
  out : ∃ (i : TypeInfo) (z : Value), Try.prog.underlying t = some (.slice e) ∧ Try.prog.info? e = some i ∧ i.zero = some z ∧ i.size = size ∧ i.bytes = bytes ∧ z.cells.size = size ∧ 0 < size

theorem el_mk {t e : TypeId} {size bytes : Nat} {z : Value} (h : Try.prog.underlying t = some (.slice e)) (hi : (Try.prog.info? e).map (fun i => (i.zero, i.size, i.bytes)) = some (some z, size, bytes)) (hz : z.cells.size = size) (h0 : 0 < size) : El t e size bytes := by
  obtain ⟨i, h1, h2, h3, h4⟩ := info_parts hi
  exact ⟨i, z, h, h1, h2, h3, h4, hz, h0⟩

theorem el132 : El 132 5 1 1 := el_mk Try.underlying132 (z := .int .u8 0) (by kernel_rfl) rfl (by decide)
theorem el96 : El 96 99 3 24 := el_mk Try.underlying96 (z := .agg #[.int .u8 0, .int .i64 0, .int .i64 0]) (by kernel_rfl) rfl (by decide)
theorem el38 : El 38 95 4 48 := el_mk Try.underlying38 (z := .agg #[.slice none 0 0, .int .i64 0, .int .i64 0, .bool false]) (by kernel_rfl) rfl (by decide)
theorem el45 : El 45 61 4 48 := el_mk Try.underlying45 (z := .agg #[.slice none 0 0, .int .i64 0, .int .i64 0, .bool false]) (by kernel_rfl) rfl (by decide)
theorem el39 : El 39 63 4 40 := el_mk Try.underlying39 (z := .agg #[.int .i64 0, .string ⟨#[]⟩, .int .i64 0, .int .i64 0]) (by kernel_rfl) rfl (by decide)
theorem el22 : El 22 36 8 96 := el_mk Try.underlying22 (z := .agg #[.int .i64 0, .string ⟨#[]⟩, .bool false, .string ⟨#[]⟩, .int .i64 0, .int .i64 0, .bool false, .slice none 0 0]) (by kernel_rfl) rfl (by decide)
theorem el54 : El 54 3 1 8 := el_mk Try.underlying54 (z := .int .i64 0) (by kernel_rfl) rfl (by decide)
theorem el42 : El 42 66 3 40 := el_mk Try.underlying42 (z := .agg #[.int .i64 0, .int .i64 0, .slice none 0 0]) (by kernel_rfl) rfl (by decide)
theorem el47 : El 47 120 3 40 := el_mk Try.underlying47 (z := .agg #[.int .i64 0, .int .i64 0, .slice none 0 0]) (by kernel_rfl) rfl (by decide)
theorem el64 : El 64 68 2 32 := el_mk Try.underlying64 (z := .agg #[.int .i64 0, .slice none 0 0]) (by kernel_rfl) rfl (by decide)
theorem el118 : El 118 117 2 32 := el_mk Try.underlying118 (z := .agg #[.int .i64 0, .slice none 0 0]) (by kernel_rfl) rfl (by decide)
theorem el110 : El 110 106 1 8 := el_mk Try.underlying110 (z := .pointer none) (by kernel_rfl) rfl (by decide)
theorem el114 : El 114 47 1 24 := el_mk Try.underlying114 (z := .slice none 0 0) (by kernel_rfl) rfl (by decide)
theorem el115 : El 115 4 1 1 := el_mk Try.underlying115 (z := .bool false) (by kernel_rfl) rfl (by decide)
theorem el34 : El 34 127 5 56 := el_mk Try.underlying34 (z := .agg #[.string ⟨#[]⟩, .string ⟨#[]⟩, .int .i64 0, .int .i64 0, .bool false]) (by kernel_rfl) rfl (by decide)

/-- The shape of an owned row's value. -/
theorem own_form {w : World} {base : Nat} {e : TypeId} {size n : Nat} {v : Value} {xs : List Value} (h : w.ownsRow base e size v n xs) :
    ∃ A c, v = .slice A n c ∧ n ≤ c ∧ c ≤ maxLen ∧ ((A = none ∧ n = 0) ∨ ∃ g, A = some ⟨g, 0, none⟩ ∧ base ≤ g ∧ g < w.heap.size) := by
  rcases h.2 with ⟨rfl, rfl⟩ | ⟨g, cap, cur, rfl, hb, hg, hn, hm, _⟩
  · exact ⟨none, 0, rfl, Nat.le_refl _, by simp [maxLen], .inl ⟨rfl, rfl⟩⟩
  · exact ⟨_, cap, rfl, hn, hm, .inr ⟨g, rfl, hb, (Array.getElem?_eq_some_iff.1 hg).1⟩⟩

/-- append(s, E{..}) in a plain region: the new element lies in the block that was just made. -/
theorem app_at {ops : Array Oper} {rest : List Oper} {o : Oper} {a : Act} {Q : Exit → Act → World → Prop} {w : World} {t e : TypeId} {size bytes : Nat} (hE : El t e size bytes) (B : Nat) (hB : w.heap.size = B) (cs : Array Value)
    (hgd : o.guard = none) (s x : Operand) (ho : o.op = .call { callee := .builtin .append, args := #[s, x], argTypes := #[t, t] })
    (base : Nat) (v : Value) (n : Nat) (xs : List Value) (hs : a.eval s = v) (hown : w.ownsRow base e size v n xs) (hx : a.eval x = .slice (some ⟨B, 0, none⟩) 1 1)
    (hl : cs.size = size) (h1 : ∀ u ∈ cs.toList, u.oneCell' = true) (hn : (n + 1) * bytes ≤ 100000000000000) (hn2 : n ≤ 4611686018427387904) (hb : base ≤ B)
    (h : ∀ g cap w', w'.ownsRow base e size (.slice (some ⟨g, 0, none⟩) (n + 1) cap) (n + 1) (xs ++ cs.toList) → w.grownBy w' v.ownBlock → (v.ownBlock = some g ∨ g = B + 1) → g < w'.heap.size →
      wpList Try.prog ops Q rest (a.put o.dst (.slice (some ⟨g, 0, none⟩) (n + 1) cap)) w') : wpList Try.prog ops Q (o :: rest) a (w.alloc (.cells cs e)) := by
  obtain ⟨i, z, h1', h2, h3, h4, h5, h6, h7⟩ := hE.out
  subst hB
  refine wpList_append_lies (w.alloc (.cells cs e)) hgd s x t ho base e i z size bytes h1' h2 h3 h4 h5 h6 h7 v n xs hs (hown.alloc _) ⟨w.heap.size, 0, none⟩ 1 1 cs.toList hx (by simpa using hl) ?_ h1 (by decide)
    (by unfold maxLen; omega) (by omega) (by simp; omega) (w.heap.size + 1) (by simp) ?_
  · exact World.news_of_block (heap_alloc_new w _)
  · intro g cap w' k1 k2 k3 k4
    exact h g cap w' k1 ((World.grownBy_alloc w _ _).trans k2) k3 k4
theorem app_one {ops : Array Oper} {rest : List Oper} {o : Oper} {a : Act} {Q : Exit → Act → World → Prop} {w : World} {t e : TypeId} {size bytes : Nat} (hE : El t e size bytes) (cs : Array Value)
    (hgd : o.guard = none) (s x : Operand) (ho : o.op = .call { callee := .builtin .append, args := #[s, x], argTypes := #[t, t] })
    (base : Nat) (v : Value) (n : Nat) (xs : List Value) (hs : a.eval s = v) (hown : w.ownsRow base e size v n xs) (hx : a.eval x = .slice (some ⟨w.heap.size, 0, none⟩) 1 1)
    (hl : cs.size = size) (h1 : ∀ u ∈ cs.toList, u.oneCell' = true) (hn : (n + 1) * bytes ≤ 100000000000000) (hn2 : n ≤ 4611686018427387904) (hb : base ≤ w.heap.size)
    (h : ∀ g cap w', w'.ownsRow base e size (.slice (some ⟨g, 0, none⟩) (n + 1) cap) (n + 1) (xs ++ cs.toList) → w.grownBy w' v.ownBlock → (v.ownBlock = some g ∨ g = w.heap.size + 1) → g < w'.heap.size →
      wpList Try.prog ops Q rest (a.put o.dst (.slice (some ⟨g, 0, none⟩) (n + 1) cap)) w') : wpList Try.prog ops Q (o :: rest) a (w.alloc (.cells cs e)) :=
  app_at hE w.heap.size rfl cs hgd s x ho base v n xs hs hown hx hl h1 hn hn2 hb h
theorem setCell_size (w : World) (a : Addr) (v : Value) : (w.setCell a v).heap.size = w.heap.size := by simp [World.setCell]
theorem own_one {w : World} {base : Nat} {e : TypeId} {size n : Nat} {v : Value} {xs : List Value} (h : w.ownsRow base e size v n xs) : v.oneCell' = true := by
  obtain ⟨A, c, rfl, _⟩ := own_form h
  rfl

/-- The same at a step of a region that draws its order. -/
theorem app_step {ops : Array Oper} {o : Oper} {a : Act} {K : Act → World → Prop} {Q : Exit → Act → World → Prop} {E : Prop} {w : World} {t e : TypeId} {size bytes : Nat} (hE : El t e size bytes) (B : Nat) (cs : Array Value)
    (hblk : w.heap[B]? = some (.cells cs e (0, 0)))
    (hgd : o.guard = none) (s x : Operand) (ho : o.op = .call { callee := .builtin .append, args := #[s, x], argTypes := #[t, t] })
    (base : Nat) (v : Value) (n : Nat) (xs : List Value) (hs : a.eval s = v) (hown : w.ownsRow base e size v n xs) (hx : a.eval x = .slice (some ⟨B, 0, none⟩) 1 1)
    (hl : cs.size = size) (h1 : ∀ u ∈ cs.toList, u.oneCell' = true) (hn : (n + 1) * bytes ≤ 100000000000000) (hn2 : n ≤ 4611686018427387904) (hb : base ≤ w.heap.size)
    (h : ∀ g cap w', w'.ownsRow base e size (.slice (some ⟨g, 0, none⟩) (n + 1) cap) (n + 1) (xs ++ cs.toList) → w.grownBy w' v.ownBlock → (v.ownBlock = some g ∨ g = w.heap.size) → g < w'.heap.size →
      K (a.put o.dst (.slice (some ⟨g, 0, none⟩) (n + 1) cap)) w') :
    if Region.wanted o (yielded ops a.tmps) = true then Oper.wp Try.prog o a w K Q else E := by
  obtain ⟨i, z, h1', h2, h3, h4, h5, h6, h7⟩ := hE.out
  refine step_append_lies w hgd s x t ho base e i z size bytes h1' h2 h3 h4 h5 h6 h7 v n xs hs hown ⟨B, 0, none⟩ 1 1 cs.toList hx (by simpa using hl) ?_ h1 (by decide)
    (by unfold maxLen; omega) (by omega) hb w.heap.size rfl h
  exact World.news_of_block hblk

/-- Below over an append. -/
theorem below_app {B : Nat} {a w w' : World} {e : TypeId} {size n : Nat} {v : Value} {xs : List Value} (h : Below B a w) (hown : w.ownsRow B e size v n xs) (hg : w.grownBy w' v.ownBlock) (hB : B ≤ w.heap.size) : Below B a w' :=
  h.grown hg hB fun k hk => (hown.lt k hk).1
end Go.Proofs.Ytjklnlocmmnclaa
