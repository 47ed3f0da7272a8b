/- Words for memory: a slice that reads as a list of cells in blocks that a predicate lets. Words for memory: append of one element onto a row of the call's own, over this program's types. -/
import Derived.Below
import Derived.Laws.OwnMore
import Derived.Deep.Draws
import Derived.Laws.Rows
import Derived.Test.YtjklnlocmmnclaaPa9
import Derived.Test.YtjklnlocmmnclaaProg
import Derived.WalkKit
import Derived.WalkSpells
import Derived.WalkLawsBesides
import Derived.Lib.Hide
import Derived.Deep.AppendLies
namespace Go.Proofs.Ytjklnlocmmnclaa
open Go.RowKit

/-- Blocks in U are in w' as they were in w. -/
def Keeps (U : Nat → Prop) (w w' : World) : Prop := ∀ b, U b → w'.heap[b]? = w.heap[b]?

/-- The slice '.slice A n c' holds the cells xs, in a block of U. -/
def Sl (w : World) (U : Nat → Prop) (size : Nat) (A : Option Addr) (n : Nat) (xs : List Value) : Prop :=
  xs.length = n * size ∧ (0 < xs.length → ∃ b off, A = some ⟨b, off, none⟩ ∧ U b ∧ ∀ j u, xs[j]? = some u → w.cell? ⟨b, off + j, none⟩ = some u)

theorem lt_of_cell {w : World} {b off : Nat} {u : Value} (h : w.cell? ⟨b, off, none⟩ = some u) : b < w.heap.size :=
  World.block_lt_of_cell? w _ h

theorem keeps_below {B : Nat} {w w' : World} (h : Below B w w') : Keeps (· < B) w w' := fun b hb => h.block b hb
theorem Keeps.refl (U : Nat → Prop) (w : World) : Keeps U w w := fun _ _ => rfl
theorem Keeps.trans {U : Nat → Prop} {a b c : World} (h : Keeps U a b) (k : Keeps U b c) : Keeps U a c := fun i hi => (k i hi).trans (h i hi)
theorem Keeps.mono {U V : Nat → Prop} {w w' : World} (h : Keeps U w w') (hV : ∀ b, V b → U b) : Keeps V w w' := fun b hb => h b (hV b hb)
theorem Keeps.cell {U : Nat → Prop} {w w' : World} (h : Keeps U w w') {b off : Nat} (hb : U b) : w'.cell? ⟨b, off, none⟩ = w.cell? ⟨b, off, none⟩ :=
  World.cell?_of_block (w := w) (h b hb)

section
variable {w w' : World} {U V : Nat → Prop} {size n : Nat} {A : Option Addr} {xs : List Value}
theorem Sl.nil_ : Sl w U size A 0 [] := ⟨by simp, fun h => absurd h (by simp)⟩
theorem Sl.keep (h : Sl w U size A n xs) (k : Keeps U w w') : Sl w' U size A n xs :=
  ⟨h.1, fun hn => by
    obtain ⟨b, off, e, hb, hc⟩ := h.2 hn
    exact ⟨b, off, e, hb, fun j u hu => (k.cell hb).trans (hc j u hu)⟩⟩
theorem Sl.more (h : Sl w U size A n xs) (hU : ∀ b, U b → b < w.heap.size → V b) : Sl w V size A n xs :=
  ⟨h.1, fun hn => by
    obtain ⟨b, off, e, hb, hc⟩ := h.2 hn
    exact ⟨b, off, e, hU b hb (lt_of_cell (hc 0 _ (List.getElem?_eq_getElem hn))), hc⟩⟩
theorem Sl.below (h : Sl w U size A n xs) (hb : Below w.heap.size w w') : Sl w' U size A n xs :=
  ((h.more (V := fun b => U b ∧ b < w.heap.size) (fun b hu hl => ⟨hu, hl⟩)).keep ((keeps_below hb).mono (fun _ h => h.2))).more (fun _ h _ => h.1)
theorem Sl.alloc (h : Sl w U size A n xs) (o : Obj) : Sl (w.alloc o) U size A n xs := h.below ((Below.refl _ _).alloc (Nat.le_refl _) o)
theorem Sl.drew (h : Sl w U size A n xs) : Sl w.drew U size A n xs := h
theorem Sl.drewN (h : Sl w U size A n xs) (k : Nat) : Sl (w.drewN k) U size A n xs := h
theorem Sl.setCell (h : Sl w U size A n xs) {p : Addr} (hp : ¬ U p.block) (u : Value) : Sl (w.setCell p u) U size A n xs :=
  h.keep fun b hb => Below.heap_setCell w p u b (fun e => hp (e ▸ hb))

/-- A piece from k on. -/
theorem Sl.cut (h : Sl w U size A n xs) {k cap : Nat} (hk : k ≤ n) (hc : n ≤ cap) :
    Sl w U size (if cap = k then A else A.map (·.add (k * size))) (n - k) (xs.drop (k * size)) := by
  refine ⟨by rw [List.length_drop, h.1, Nat.sub_mul], fun hn => ?_⟩
  have hl : 0 < xs.length := by rw [List.length_drop] at hn; omega
  obtain ⟨b, off, rfl, hb, hcell⟩ := h.2 hl
  have hkn : ¬ cap = k := by
    intro e
    have hnk : n = k := by omega
    rw [List.length_drop, h.1, hnk] at hn
    omega
  rw [if_neg hkn]
  refine ⟨b, off + k * size, ?_, hb, fun j u hu => ?_⟩
  · by_cases h0 : k * size = 0
    · simp [Addr.add, h0]
    · simp [Addr.add, h0]
  · rw [List.getElem?_drop] at hu
    rw [Nat.add_assoc]
    exact hcell _ u hu
/-- A piece up to k. -/
theorem Sl.upto (h : Sl w U size A n xs) {k : Nat} (hk : k ≤ n) : Sl w U size A k (xs.take (k * size)) := by
  have hle : k * size ≤ n * size := Nat.mul_le_mul_right _ hk
  refine ⟨by rw [List.length_take, h.1]; omega, fun hn => ?_⟩
  have hl : 0 < xs.length := by rw [List.length_take] at hn; omega
  obtain ⟨b, off, e, hb, hcell⟩ := h.2 hl
  refine ⟨b, off, e, hb, fun j u hu => hcell j u ?_⟩
  rw [List.getElem?_take] at hu
  split at hu
  · exact hu
  · cases hu
end

/-- Places in a list of rows of one length. -/
theorem flat_get {α β : Type} (f : α → List β) (size : Nat) (hf : ∀ x, (f x).length = size) : ∀ (l : List α) (k j : Nat) (x : α), l[k]? = some x → j < size →
    (l.flatMap f)[k * size + j]? = (f x)[j]?
  | [], k, j, x, h, _ => by simp at h
  | y :: l, 0, j, x, h, hj => by
    simp at h
    subst h
    simp only [List.flatMap_cons, Nat.zero_mul, Nat.zero_add]
    rw [List.getElem?_append_left (by rw [hf]; exact hj)]
  | y :: l, k + 1, j, x, h, hj => by
    simp at h
    simp only [List.flatMap_cons]
    rw [List.getElem?_append_right (by rw [hf, Nat.add_mul]; omega), hf]
    have e : (k + 1) * size + j - size = k * size + j := by rw [Nat.add_mul]; omega
    rw [e]
    exact flat_get f size hf l k j x h hj
theorem flat_len {α β : Type} (f : α → List β) (size : Nat) (hf : ∀ x, (f x).length = size) : ∀ (l : List α), (l.flatMap f).length = l.length * size
  | [] => by simp
  | y :: l => by simp only [List.flatMap_cons, List.length_append, hf, List.length_cons, flat_len f size hf l, Nat.add_mul]; omega
theorem flat_drop {α β : Type} (f : α → List β) (size : Nat) (hf : ∀ x, (f x).length = size) : ∀ (l : List α) (k : Nat), (l.flatMap f).drop (k * size) = (l.drop k).flatMap f
  | [], k => by simp
  | y :: l, 0 => by simp
  | y :: l, k + 1 => by
    simp only [List.flatMap_cons, List.drop_succ_cons]
    rw [List.drop_append, hf]
    have e : (k + 1) * size - size = k * size := by rw [Nat.add_mul]; omega
    rw [e, List.drop_of_length_le (by rw [hf, Nat.add_mul]; omega), List.nil_append, flat_drop f size hf l k]
theorem flat_take {α β : Type} (f : α → List β) (size : Nat) (hf : ∀ x, (f x).length = size) : ∀ (l : List α) (k : Nat), (l.flatMap f).take (k * size) = (l.take k).flatMap f
  | [], k => by simp
  | y :: l, 0 => by simp
  | y :: l, k + 1 => by
    simp only [List.flatMap_cons, List.take_succ_cons]
    rw [List.take_append, hf]
    have e : (k + 1) * size - size = k * size := by rw [Nat.add_mul]; omega
    rw [e, List.take_of_length_le (by rw [hf, Nat.add_mul]; omega), flat_take f size hf l k]

/-- The cells of an element. -/
theorem Sl.elem {α : Type} {w : World} {U : Nat → Prop} {size n : Nat} {A : Option Addr} {l : List α} {f : α → List Value} (hf : ∀ x, (f x).length = size) (h0 : 0 < size)
    (h : Sl w U size A n (l.flatMap f)) {k : Nat} (hk : k < n) :
    ∃ b off x, A = some ⟨b, off, none⟩ ∧ U b ∧ b < w.heap.size ∧ l[k]? = some x ∧ (∀ j u, (f x)[j]? = some u → w.cell? ⟨b, off + k * size + j, none⟩ = some u) := by
  have hl : l.length = n := by
    have := h.1
    rw [flat_len f size hf] at this
    exact Nat.eq_of_mul_eq_mul_right h0 this
  have hpos : 0 < (l.flatMap f).length := by rw [flat_len f size hf, hl]; exact Nat.mul_pos (by omega) h0
  obtain ⟨b, off, e, hb, hc⟩ := h.2 hpos
  have hx : l[k]? = some (l[k]'(by omega)) := List.getElem?_eq_getElem (by omega)
  refine ⟨b, off, _, e, hb, lt_of_cell (hc 0 _ (List.getElem?_eq_getElem hpos)), hx, fun j u hu => ?_⟩
  have hj : j < size := by
    have := (List.getElem?_eq_some_iff.1 hu).1
    rw [hf] at this
    exact this
  rw [Nat.add_assoc]
  exact hc _ _ (by rw [flat_get f size hf l k j _ hx hj]; exact hu)
theorem Sl.len_ {α : Type} {w : World} {U : Nat → Prop} {size n : Nat} {A : Option Addr} {l : List α} {f : α → List Value} (hf : ∀ x, (f x).length = size) (h0 : 0 < size)
    (h : Sl w U size A n (l.flatMap f)) : l.length = n := by
  have := h.1
  rw [flat_len f size hf] at this
  exact Nat.eq_of_mul_eq_mul_right h0 this

/-- What a row of the call's own reads as. -/
theorem Sl.of_own {w : World} {U : Nat → Prop} {base : Nat} {e : TypeId} {size n c : Nat} {A : Option Addr} {xs : List Value} (h : w.ownsRow base e size (.slice A n c) n xs) (hU : ∀ g, A = some ⟨g, 0, none⟩ → U g) :
    Sl w U size A n xs := by
  refine ⟨h.1, fun hn => ?_⟩
  rcases h.2 with ⟨hv, h0⟩ | ⟨g, cap, cur, hv, _, hg, _⟩
  · have := h.1
    subst h0
    omega
  · have hA : A = some ⟨g, 0, none⟩ := by injection hv
    subst hA
    refine ⟨g, 0, rfl, hU g rfl, fun j u hu => ?_⟩
    have := h.cells (g := g) rfl j u hu
    rw [Nat.zero_add]
    by_cases hj : j = 0
    · subst hj
      simpa [Addr.add] using this
    · simpa [Addr.add, hj] using this

/-- A character's cells. -/
def rnCells (r : Rn) : List Value := [.int .u8 (r.c.toNat : Int), .int .i64 (r.frm : Int), .int .i64 (r.to : Int)]
theorem rnCells_len (r : Rn) : (rnCells r).length = 3 := rfl
def Runes (w : World) (U : Nat → Prop) (A : Option Addr) (n : Nat) (l : List Rn) : Prop := Sl w U 3 A n (l.flatMap rnCells)
theorem Runes.len {w : World} {U : Nat → Prop} {A : Option Addr} {n : Nat} {l : List Rn} (h : Runes w U A n l) : l.length = n := Sl.len_ rnCells_len (by decide) h
theorem Runes.at_ {w : World} {U : Nat → Prop} {A : Option Addr} {n : Nat} {l : List Rn} (h : Runes w U A n l) {k : Nat} (hk : k < n) :
    ∃ b off r, A = some ⟨b, off, none⟩ ∧ U b ∧ b < w.heap.size ∧ l[k]? = some r ∧ w.cell? ⟨b, off + k * 3, none⟩ = some (.int .u8 (r.c.toNat : Int)) ∧
      w.cell? ⟨b, off + k * 3 + 1, none⟩ = some (.int .i64 (r.frm : Int)) ∧ w.cell? ⟨b, off + k * 3 + 2, none⟩ = some (.int .i64 (r.to : Int)) := by
  obtain ⟨b, off, r, e, hu, hlt, hr, hc⟩ := Sl.elem rnCells_len (by decide) h hk
  exact ⟨b, off, r, e, hu, hlt, hr, hc 0 _ rfl, hc 1 _ rfl, hc 2 _ rfl⟩
end Go.Proofs.Ytjklnlocmmnclaa
namespace Go.Proofs.Ytjklnlocmmnclaa
open Go.RowKit

/-- What the laws for append ask of a slice's type and its element's. -/
structure El (t e : TypeId) (size bytes : Nat) : Prop where
  out : ∃ (i : TypeInfo) (z : Value), Try.prog.underlying t = some (.slice e) ∧ Try.prog.info? e = some i ∧ i.zero = some z ∧ i.size = size ∧ i.bytes = bytes ∧ z.cells.size = size ∧ 0 < size

theorem el_mk {t e : TypeId} {size bytes : Nat} {z : Value} (h : Try.prog.underlying t = some (.slice e)) (hi : (Try.prog.info? e).map (fun i => (i.zero, i.size, i.bytes)) = some (some z, size, bytes)) (hz : z.cells.size = size) (h0 : 0 < size) : El t e size bytes := by
  obtain ⟨i, h1, h2, h3, h4⟩ := info_parts hi
  exact ⟨i, z, h, h1, h2, h3, h4, hz, h0⟩

theorem el132 : El 132 5 1 1 := el_mk Try.underlying132 (z := .int .u8 0) (by kernel_rfl) rfl (by decide)
theorem el96 : El 96 99 3 24 := el_mk Try.underlying96 (z := .agg #[.int .u8 0, .int .i64 0, .int .i64 0]) (by kernel_rfl) rfl (by decide)
theorem el38 : El 38 95 4 48 := el_mk Try.underlying38 (z := .agg #[.slice none 0 0, .int .i64 0, .int .i64 0, .bool false]) (by kernel_rfl) rfl (by decide)
theorem el45 : El 45 61 4 48 := el_mk Try.underlying45 (z := .agg #[.slice none 0 0, .int .i64 0, .int .i64 0, .bool false]) (by kernel_rfl) rfl (by decide)
theorem el39 : El 39 63 4 40 := el_mk Try.underlying39 (z := .agg #[.int .i64 0, .string ⟨#[]⟩, .int .i64 0, .int .i64 0]) (by kernel_rfl) rfl (by decide)
theorem el22 : El 22 36 8 96 := el_mk Try.underlying22 (z := .agg #[.int .i64 0, .string ⟨#[]⟩, .bool false, .string ⟨#[]⟩, .int .i64 0, .int .i64 0, .bool false, .slice none 0 0]) (by kernel_rfl) rfl (by decide)
theorem el54 : El 54 3 1 8 := el_mk Try.underlying54 (z := .int .i64 0) (by kernel_rfl) rfl (by decide)
theorem el42 : El 42 66 3 40 := el_mk Try.underlying42 (z := .agg #[.int .i64 0, .int .i64 0, .slice none 0 0]) (by kernel_rfl) rfl (by decide)
theorem el47 : El 47 120 3 40 := el_mk Try.underlying47 (z := .agg #[.int .i64 0, .int .i64 0, .slice none 0 0]) (by kernel_rfl) rfl (by decide)
theorem el64 : El 64 68 2 32 := el_mk Try.underlying64 (z := .agg #[.int .i64 0, .slice none 0 0]) (by kernel_rfl) rfl (by decide)
theorem el118 : El 118 117 2 32 := el_mk Try.underlying118 (z := .agg #[.int .i64 0, .slice none 0 0]) (by kernel_rfl) rfl (by decide)
theorem el110 : El 110 106 1 8 := el_mk Try.underlying110 (z := .pointer none) (by kernel_rfl) rfl (by decide)
theorem el114 : El 114 47 1 24 := el_mk Try.underlying114 (z := .slice none 0 0) (by kernel_rfl) rfl (by decide)
theorem el115 : El 115 4 1 1 := el_mk Try.underlying115 (z := .bool false) (by kernel_rfl) rfl (by decide)
theorem el34 : El 34 127 5 56 := el_mk Try.underlying34 (z := .agg #[.string ⟨#[]⟩, .string ⟨#[]⟩, .int .i64 0, .int .i64 0, .bool false]) (by kernel_rfl) rfl (by decide)

/-- The shape of an owned row's value. -/
theorem own_form {w : World} {base : Nat} {e : TypeId} {size n : Nat} {v : Value} {xs : List Value} (h : w.ownsRow base e size v n xs) :
    ∃ A c, v = .slice A n c ∧ n ≤ c ∧ c ≤ maxLen ∧ ((A = none ∧ n = 0) ∨ ∃ g, A = some ⟨g, 0, none⟩ ∧ base ≤ g ∧ g < w.heap.size) := by
  rcases h.2 with ⟨rfl, rfl⟩ | ⟨g, cap, cur, rfl, hb, hg, hn, hm, _⟩
  · exact ⟨none, 0, rfl, Nat.le_refl _, by simp [maxLen], .inl ⟨rfl, rfl⟩⟩
  · exact ⟨_, cap, rfl, hn, hm, .inr ⟨g, rfl, hb, (Array.getElem?_eq_some_iff.1 hg).1⟩⟩

/-- append(s, E{..}) in a plain region: the new element lies in the block that was just made. -/
theorem app_at {ops : Array Oper} {rest : List Oper} {o : Oper} {a : Act} {Q : Exit → Act → World → Prop} {w : World} {t e : TypeId} {size bytes : Nat} (hE : El t e size bytes) (B : Nat) (hB : w.heap.size = B) (cs : Array Value)
    (hgd : o.guard = none) (s x : Operand) (ho : o.op = .call { callee := .builtin .append, args := #[s, x], argTypes := #[t, t] })
    (base : Nat) (v : Value) (n : Nat) (xs : List Value) (hs : a.eval s = v) (hown : w.ownsRow base e size v n xs) (hx : a.eval x = .slice (some ⟨B, 0, none⟩) 1 1)
    (hl : cs.size = size) (h1 : ∀ u ∈ cs.toList, u.oneCell' = true) (hn : (n + 1) * bytes ≤ 100000000000000) (hn2 : n ≤ 4611686018427387904) (hb : base ≤ B)
    (h : ∀ g cap w', w'.ownsRow base e size (.slice (some ⟨g, 0, none⟩) (n + 1) cap) (n + 1) (xs ++ cs.toList) → w.grownBy w' v.ownBlock → (v.ownBlock = some g ∨ g = B + 1) → g < w'.heap.size →
      wpList Try.prog ops Q rest (a.put o.dst (.slice (some ⟨g, 0, none⟩) (n + 1) cap)) w') : wpList Try.prog ops Q (o :: rest) a (w.alloc (.cells cs e)) := by
  obtain ⟨i, z, h1', h2, h3, h4, h5, h6, h7⟩ := hE.out
  subst hB
  refine wpList_append_lies (w.alloc (.cells cs e)) hgd s x t ho base e i z size bytes h1' h2 h3 h4 h5 h6 h7 v n xs hs (hown.alloc _) ⟨w.heap.size, 0, none⟩ 1 1 cs.toList hx (by simpa using hl) ?_ h1 (by decide)
    (by unfold maxLen; omega) (by omega) (by simp; omega) (w.heap.size + 1) (by simp) ?_
  · exact World.news_of_block (heap_alloc_new w _)
  · intro g cap w' k1 k2 k3 k4
    exact h g cap w' k1 ((World.grownBy_alloc w _ _).trans k2) k3 k4
theorem app_one {ops : Array Oper} {rest : List Oper} {o : Oper} {a : Act} {Q : Exit → Act → World → Prop} {w : World} {t e : TypeId} {size bytes : Nat} (hE : El t e size bytes) (cs : Array Value)
    (hgd : o.guard = none) (s x : Operand) (ho : o.op = .call { callee := .builtin .append, args := #[s, x], argTypes := #[t, t] })
    (base : Nat) (v : Value) (n : Nat) (xs : List Value) (hs : a.eval s = v) (hown : w.ownsRow base e size v n xs) (hx : a.eval x = .slice (some ⟨w.heap.size, 0, none⟩) 1 1)
    (hl : cs.size = size) (h1 : ∀ u ∈ cs.toList, u.oneCell' = true) (hn : (n + 1) * bytes ≤ 100000000000000) (hn2 : n ≤ 4611686018427387904) (hb : base ≤ w.heap.size)
    (h : ∀ g cap w', w'.ownsRow base e size (.slice (some ⟨g, 0, none⟩) (n + 1) cap) (n + 1) (xs ++ cs.toList) → w.grownBy w' v.ownBlock → (v.ownBlock = some g ∨ g = w.heap.size + 1) → g < w'.heap.size →
      wpList Try.prog ops Q rest (a.put o.dst (.slice (some ⟨g, 0, none⟩) (n + 1) cap)) w') : wpList Try.prog ops Q (o :: rest) a (w.alloc (.cells cs e)) :=
  app_at hE w.heap.size rfl cs hgd s x ho base v n xs hs hown hx hl h1 hn hn2 hb h
theorem setCell_size (w : World) (a : Addr) (v : Value) : (w.setCell a v).heap.size = w.heap.size := by simp [World.setCell]
theorem own_one {w : World} {base : Nat} {e : TypeId} {size n : Nat} {v : Value} {xs : List Value} (h : w.ownsRow base e size v n xs) : v.oneCell' = true := by
  obtain ⟨A, c, rfl, _⟩ := own_form h
  rfl

/-- The same at a step of a region that draws its order. -/
theorem app_step {ops : Array Oper} {o : Oper} {a : Act} {K : Act → World → Prop} {Q : Exit → Act → World → Prop} {E : Prop} {w : World} {t e : TypeId} {size bytes : Nat} (hE : El t e size bytes) (B : Nat) (cs : Array Value)
    (hblk : w.heap[B]? = some (.cells cs e (0, 0)))
    (hgd : o.guard = none) (s x : Operand) (ho : o.op = .call { callee := .builtin .append, args := #[s, x], argTypes := #[t, t] })
    (base : Nat) (v : Value) (n : Nat) (xs : List Value) (hs : a.eval s = v) (hown : w.ownsRow base e size v n xs) (hx : a.eval x = .slice (some ⟨B, 0, none⟩) 1 1)
    (hl : cs.size = size) (h1 : ∀ u ∈ cs.toList, u.oneCell' = true) (hn : (n + 1) * bytes ≤ 100000000000000) (hn2 : n ≤ 4611686018427387904) (hb : base ≤ w.heap.size)
    (h : ∀ g cap w', w'.ownsRow base e size (.slice (some ⟨g, 0, none⟩) (n + 1) cap) (n + 1) (xs ++ cs.toList) → w.grownBy w' v.ownBlock → (v.ownBlock = some g ∨ g = w.heap.size) → g < w'.heap.size →
      K (a.put o.dst (.slice (some ⟨g, 0, none⟩) (n + 1) cap)) w') :
    if Region.wanted o (yielded ops a.tmps) = true then Oper.wp Try.prog o a w K Q else E := by
  obtain ⟨i, z, h1', h2, h3, h4, h5, h6, h7⟩ := hE.out
  refine step_append_lies w hgd s x t ho base e i z size bytes h1' h2 h3 h4 h5 h6 h7 v n xs hs hown ⟨B, 0, none⟩ 1 1 cs.toList hx (by simpa using hl) ?_ h1 (by decide)
    (by unfold maxLen; omega) (by omega) hb w.heap.size rfl h
  exact World.news_of_block hblk

/-- Below over an append. -/
theorem below_app {B : Nat} {a w w' : World} {e : TypeId} {size n : Nat} {v : Value} {xs : List Value} (h : Below B a w) (hown : w.ownsRow B e size v n xs) (hg : w.grownBy w' v.ownBlock) (hB : B ≤ w.heap.size) : Below B a w' :=
  h.grown hg hB fun k hk => (hown.lt k hk).1
end Go.Proofs.Ytjklnlocmmnclaa
