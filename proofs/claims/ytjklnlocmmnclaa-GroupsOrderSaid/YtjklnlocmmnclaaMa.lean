/- Words for memory: a slice that reads as a list of cells in blocks that a predicate lets. -/
import Derived.Below
import Derived.Laws.OwnMore
import Derived.Deep.Draws
import Derived.Laws.Rows
import Derived.Test.YtjklnlocmmnclaaPa
namespace Go.Proofs.Ytjklnlocmmnclaa
open Go.RowKit

/-- Blocks in U are in w' as they were in w. -/
def Keeps (U : Nat → Prop) (w w' : World) : Prop := ∀ b, U b → w'.heap[b]? = w.heap[b]?

/-- The slice '.slice A n c' holds the cells xs, in a block of U. -/
def Sl (w : World) (U : Nat → Prop) (size : Nat) (A : Option Addr) (n : Nat) (xs : List Value) : Prop :=
  xs.length = n * size ∧ (0 < xs.length → ∃ b off, A = some ⟨b, off, none⟩ ∧ U b ∧ ∀ j u, xs[j]? = some u → w.cell? ⟨b, off + j, none⟩ = some u)

theorem lt_of_cell {w : World} {b off : Nat} {u : Value} (h : w.cell? ⟨b, off, none⟩ = some u) : b < w.heap.size :=
  World.block_lt_of_cell? w _ h

theorem keeps_below {B : Nat} {w w' : World} (h : Below B w w') : Keeps (· < B) w w' := fun b hb => h.block b hb
theorem Keeps.refl (U : Nat → Prop) (w : World) : Keeps U w w := fun _ _ => rfl
theorem Keeps.trans {U : Nat → Prop} {a b c : World} (h : Keeps U a b) (k : Keeps U b c) : Keeps U a c := fun i hi => (k i hi).trans (h i hi)
theorem Keeps.mono {U V : Nat → Prop} {w w' : World} (h : Keeps U w w') (hV : ∀ b, V b → U b) : Keeps V w w' := fun b hb => h b (hV b hb)
theorem Keeps.cell {U : Nat → Prop} {w w' : World} (h : Keeps U w w') {b off : Nat} (hb : U b) : w'.cell? ⟨b, off, none⟩ = w.cell? ⟨b, off, none⟩ :=
  World.cell?_of_block (w := w) (h b hb)

section
variable {w w' : World} {U V : Nat → Prop} {size n : Nat} {A : Option Addr} {xs : List Value}
theorem Sl.nil_ : Sl w U size A 0 [] := ⟨by simp, fun h => absurd h (by simp)⟩
theorem Sl.keep (h : Sl w U size A n xs) (k : Keeps U w w') : Sl w' U size A n xs :=
  ⟨h.1, fun hn => by
    obtain ⟨b, off, e, hb, hc⟩ := h.2 hn
    exact ⟨b, off, e, hb, fun j u hu => (k.cell hb).trans (hc j u hu)⟩⟩
theorem Sl.more (h : Sl w U size A n xs) (hU : ∀ b, U b → b < w.heap.size → V b) : Sl w V size A n xs :=
  ⟨h.1, fun hn => by
    obtain ⟨b, off, e, hb, hc⟩ := h.2 hn
    exact ⟨b, off, e, hU b hb (lt_of_cell (hc 0 _ (List.getElem?_eq_getElem hn))), hc⟩⟩
theorem Sl.below (h : Sl w U size A n xs) (hb : Below w.heap.size w w') : Sl w' U size A n xs :=
  ((h.more (V := fun b => U b ∧ b < w.heap.size) (fun b hu hl => ⟨hu, hl⟩)).keep ((keeps_below hb).mono (fun _ h => h.2))).more (fun _ h _ => h.1)
theorem Sl.alloc (h : Sl w U size A n xs) (o : Obj) : Sl (w.alloc o) U size A n xs := h.below ((Below.refl _ _).alloc (Nat.le_refl _) o)
theorem Sl.drew (h : Sl w U size A n xs) : Sl w.drew U size A n xs := h
theorem Sl.drewN (h : Sl w U size A n xs) (k : Nat) : Sl (w.drewN k) U size A n xs := h
theorem Sl.setCell (h : Sl w U size A n xs) {p : Addr} (hp : ¬ U p.block) (u : Value) : Sl (w.setCell p u) U size A n xs :=
  h.keep fun b hb => Below.heap_setCell w p u b (fun e => hp (e ▸ hb))

/-- A piece from k on. -/
theorem Sl.cut (h : Sl w U size A n xs) {k cap : Nat} (hk : k ≤ n) (hc : n ≤ cap) :
    Sl w U size (if cap = k then A else A.map (·.add (k * size))) (n - k) (xs.drop (k * size)) := by
  refine ⟨by rw [List.length_drop, h.1, Nat.sub_mul], fun hn => ?_⟩
  have hl : 0 < xs.length := by rw [List.length_drop] at hn; omega
  obtain ⟨b, off, rfl, hb, hcell⟩ := h.2 hl
  have hkn : ¬ cap = k := by
    intro e
    have hnk : n = k := by omega
    rw [List.length_drop, h.1, hnk] at hn
    omega
  rw [if_neg hkn]
  refine ⟨b, off + k * size, ?_, hb, fun j u hu => ?_⟩
  · by_cases h0 : k * size = 0
    · simp [Addr.add, h0]
    · simp [Addr.add, h0]
  · rw [List.getElem?_drop] at hu
    rw [Nat.add_assoc]
    exact hcell _ u hu
/-- A piece up to k. -/
theorem Sl.upto (h : Sl w U size A n xs) {k : Nat} (hk : k ≤ n) : Sl w U size A k (xs.take (k * size)) := by
  have hle : k * size ≤ n * size := Nat.mul_le_mul_right _ hk
  refine ⟨by rw [List.length_take, h.1]; omega, fun hn => ?_⟩
  have hl : 0 < xs.length := by rw [List.length_take] at hn; omega
  obtain ⟨b, off, e, hb, hcell⟩ := h.2 hl
  refine ⟨b, off, e, hb, fun j u hu => hcell j u ?_⟩
  rw [List.getElem?_take] at hu
  split at hu
  · exact hu
  · cases hu
end

/-- Places in a list of rows of one length. -/
theorem flat_get {α β : Type} (f : α → List β) (size : Nat) (hf : ∀ x, (f x).length = size) : ∀ (l : List α) (k j : Nat) (x : α), l[k]? = some x → j < size →
    (l.flatMap f)[k * size + j]? = (f x)[j]?
  | [], k, j, x, h, _ => by simp at h
  | y :: l, 0, j, x, h, hj => by
    simp at h
    subst h
    simp only [List.flatMap_cons, Nat.zero_mul, Nat.zero_add]
    rw [List.getElem?_append_left (by rw [hf]; exact hj)]
  | y :: l, k + 1, j, x, h, hj => by
    simp at h
    simp only [List.flatMap_cons]
    rw [List.getElem?_append_right (by rw [hf, Nat.add_mul]; omega), hf]
    have e : (k + 1) * size + j - size = k * size + j := by rw [Nat.add_mul]; omega
    rw [e]
    exact flat_get f size hf l k j x h hj
theorem flat_len {α β : Type} (f : α → List β) (size : Nat) (hf : ∀ x, (f x).length = size) : ∀ (l : List α), (l.flatMap f).length = l.length * size
  | [] => by simp
  | y :: l => by simp only [List.flatMap_cons, List.length_append, hf, List.length_cons, flat_len f size hf l, Nat.add_mul]; omega
theorem flat_drop {α β : Type} (f : α → List β) (size : Nat) (hf : ∀ x, (f x).length = size) : ∀ (l : List α) (k : Nat), (l.flatMap f).drop (k * size) = (l.drop k).flatMap f
  | [], k => by simp
  | y :: l, 0 => by simp
  | y :: l, k + 1 => by
    simp only [List.flatMap_cons, List.drop_succ_cons]
    rw [List.drop_append, hf]
    have e : (k + 1) * size - size = k * size := by rw [Nat.add_mul]; omega
    rw [e, List.drop_of_length_le (by rw [hf, Nat.add_mul]; omega), List.nil_append, flat_drop f size hf l k]
theorem flat_take {α β : Type} (f : α → List β) (size : Nat) (hf : ∀ x, (f x).length = size) : ∀ (l : List α) (k : Nat), (l.flatMap f).take (k * size) = (l.take k).flatMap f
  | [], k => by simp
  | y :: l, 0 => by simp
  | y :: l, k + 1 => by
    simp only [List.flatMap_cons, List.take_succ_cons]
    rw [List.take_append, hf]
    have e : (k + 1) * size - size = k * size := by rw [Nat.add_mul]; omega
    rw [e, List.take_of_length_le (by rw [hf, Nat.add_mul]; omega), flat_take f size hf l k]

/-- The cells of an element. -/
theorem Sl.elem {α : Type} {w : World} {U : Nat → Prop} {size n : Nat} {A : Option Addr} {l : List α} {f : α → List Value} (hf : ∀ x, (f x).length = size) (h0 : 0 < size)
    (h : Sl w U size A n (l.flatMap f)) {k : Nat} (hk : k < n) :
    ∃ b off x, A = some ⟨b, off, none⟩ ∧ U b ∧ b < w.heap.size ∧ l[k]? = some x ∧ (∀ j u, (f x)[j]? = some u → w.cell? ⟨b, off + k * size + j, none⟩ = some u) := by
  have hl : l.length = n := by
    have := h.1
    rw [flat_len f size hf] at this
    exact Nat.eq_of_mul_eq_mul_right h0 this
  have hpos : 0 < (l.flatMap f).length := by rw [flat_len f size hf, hl]; exact Nat.mul_pos (by omega) h0
  obtain ⟨b, off, e, hb, hc⟩ := h.2 hpos
  have hx : l[k]? = some (l[k]'(by omega)) := List.getElem?_eq_getElem (by omega)
  refine ⟨b, off, _, e, hb, lt_of_cell (hc 0 _ (List.getElem?_eq_getElem hpos)), hx, fun j u hu => ?_⟩
  have hj : j < size := by
    have := (List.getElem?_eq_some_iff.1 hu).1
    rw [hf] at this
    exact this
  rw [Nat.add_assoc]
  exact hc _ _ (by rw [flat_get f size hf l k j _ hx hj]; exact hu)
theorem Sl.len_ {α : Type} {w : World} {U : Nat → Prop} {size n : Nat} {A : Option Addr} {l : List α} {f : α → List Value} (hf : ∀ x, (f x).length = size) (h0 : 0 < size)
    (h : Sl w U size A n (l.flatMap f)) : l.length = n := by
  have := h.1
  rw [flat_len f size hf] at this
  exact Nat.eq_of_mul_eq_mul_right h0 this

/-- What a row of the call's own reads as. -/
theorem Sl.of_own {w : World} {U : Nat → Prop} {base : Nat} {e : TypeId} {size n c : Nat} {A : Option Addr} {xs : List Value} (h : w.ownsRow base e size (.slice A n c) n xs) (hU : ∀ g, A = some ⟨g, 0, none⟩ → U g) :
    Sl w U size A n xs := by
  refine ⟨h.1, fun hn => ?_⟩
  rcases h.2 with ⟨hv, h0⟩ | ⟨g, cap, cur, hv, _, hg, _⟩
  · have := h.1
    subst h0
    omega
  · have hA : A = some ⟨g, 0, none⟩ := by injection hv
    subst hA
    refine ⟨g, 0, rfl, hU g rfl, fun j u hu => ?_⟩
    have := h.cells (g := g) rfl j u hu
    rw [Nat.zero_add]
    by_cases hj : j = 0
    · subst hj
      simpa [Addr.add] using this
    · simpa [Addr.add, hj] using this

/-- A character's cells. -/
def rnCells (r : Rn) : List Value := [.int .u8 (r.c.toNat : Int), .int .i64 (r.frm : Int), .int .i64 (r.to : Int)]
theorem rnCells_len (r : Rn) : (rnCells r).length = 3 := rfl
def Runes (w : World) (U : Nat → Prop) (A : Option Addr) (n : Nat) (l : List Rn) : Prop := Sl w U 3 A n (l.flatMap rnCells)
theorem Runes.len {w : World} {U : Nat → Prop} {A : Option Addr} {n : Nat} {l : List Rn} (h : Runes w U A n l) : l.length = n := Sl.len_ rnCells_len (by decide) h
theorem Runes.at_ {w : World} {U : Nat → Prop} {A : Option Addr} {n : Nat} {l : List Rn} (h : Runes w U A n l) {k : Nat} (hk : k < n) :
    ∃ b off r, A = some ⟨b, off, none⟩ ∧ U b ∧ b < w.heap.size ∧ l[k]? = some r ∧ w.cell? ⟨b, off + k * 3, none⟩ = some (.int .u8 (r.c.toNat : Int)) ∧
      w.cell? ⟨b, off + k * 3 + 1, none⟩ = some (.int .i64 (r.frm : Int)) ∧ w.cell? ⟨b, off + k * 3 + 2, none⟩ = some (.int .i64 (r.to : Int)) := by
  obtain ⟨b, off, r, e, hu, hlt, hr, hc⟩ := Sl.elem rnCells_len (by decide) h hk
  exact ⟨b, off, r, e, hu, hlt, hr, hc 0 _ rfl, hc 1 _ rfl, hc 2 _ rfl⟩
end Go.Proofs.Ytjklnlocmmnclaa
