/- Copies of items: what holds while they are made. -/
import Derived.Test.YtjklnlocmmnclaaGa
import Derived.Test.YtjklnlocmmnclaaMc9
namespace Go.Proofs.Ytjklnlocmmnclaa
open Go.RowKit

theorem carry_of {w w' : World} {F G : Nat → Prop} (hk : ∀ b, F b → w'.heap[b]? = w.heap[b]?) (hFG : ∀ b, F b → G b) : Carry w w' F G := fun _ _ _ _ hs => (hs.keep hk).more fun b hb _ => hFG b hb
theorem own_lt {w : World} {base : Nat} {e : TypeId} {size n : Nat} {v : Value} {xs : List Value} (h : w.ownsRow base e size v n xs) {b : Nat} (hb : v.ownBlock = some b) : base ≤ b ∧ b < w.heap.size := h.lt b hb

/-- What a copy of items hands back. -/
def CopyRet (w : World) (l : List It) (e : Ending) (w' : World) : Prop :=
  ∃ A c, e = .returned (.slice A l.length c) ∧ l.length ≤ c ∧ c ≤ maxLen ∧ Its w' (fun b => w.heap.size ≤ b ∧ b < w'.heap.size) A l.length l ∧ Below w.heap.size w w'

structure COut (w : World) (eI : TypeId) (F : Nat → Prop) (vo : Value) (orecs : List IRec) (done : List It) (wr : World) : Prop where
  below : Below w.heap.size w wr
  out : wr.ownsRow w.heap.size eI 3 vo done.length (orecs.flatMap iCells)
  its : ItsOk wr F done orecs
  F0 : ∀ b, F b → w.heap.size ≤ b
  F1 : ∀ b, F b → b < wr.heap.size
  F2 : ∀ b, F b → vo.ownBlock ≠ some b
structure CInv (w : World) (eI eA : TypeId) (F : Nat → Prop) (vo va : Value) (orecs : List IRec) (arecs : List ARec) (X : Nat) (kk line : Int) (done : List It) (adone : List Ar) (wr : World) : Prop where
  cout : COut w eI F vo orecs done wr
  blk : wr.heap[X]? = some (.cells #[.int .i64 kk, .int .i64 line, va] eI)
  x0 : w.heap.size ≤ X
  xo : vo.ownBlock ≠ some X
  arm : wr.ownsRow w.heap.size eA 2 va adone.length (arecs.flatMap aCells)
  ars : ArsOk wr F adone arecs
  F3 : ∀ b, F b → va.ownBlock ≠ some b
  F4 : ∀ b, F b → b ≠ X
theorem COut.start (w : World) (eI : TypeId) : COut w eI (fun _ => False) (.slice none 0 0) [] [] w :=
  ⟨Below.refl _ _, World.ownsRow_nil _ _ _ _, by simp only [ItsOk], fun _ h => h.elim, fun _ h => h.elim, fun _ h => h.elim⟩
theorem COut.keep {w wr w' : World} {eI : TypeId} {F : Nat → Prop} {vo : Value} {orecs : List IRec} {done : List It} (h : COut w eI F vo orecs done wr) (hb : Below wr.heap.size wr w') : COut w eI F vo orecs done w' :=
  ⟨h.below.trans (hb.mono h.below.size), own_keep h.out fun b hv => hb.block b (h.out.lt b hv).2, h.its.carry (carry_of (fun b hF => hb.block b (h.F1 b hF)) fun _ h => h), h.F0, fun b hF => Nat.lt_of_lt_of_le (h.F1 b hF) hb.size, h.F2⟩
theorem CInv.open_ {w wr : World} {eI : TypeId} (eA : TypeId) {F : Nat → Prop} {vo : Value} {orecs : List IRec} {done : List It} (h : COut w eI F vo orecs done wr) (kk line : Int) :
    CInv w eI eA F vo (.slice none 0 0) orecs [] wr.heap.size kk line done [] (wr.alloc (.cells #[.int .i64 kk, .int .i64 line, .slice none 0 0] eI)) := by
  refine ⟨h.keep ((Below.refl _ _).alloc (Nat.le_refl _) _), heap_alloc_new wr _, h.below.size, fun e => ?_, World.ownsRow_nil _ _ _ _, by simp only [ArsOk], fun b _ => by simp [Value.ownBlock], fun b hF => ?_⟩
  · have := (h.out.lt _ e).2
    omega
  · have := h.F1 b hF
    omega
theorem CInv.keep {w wr w' : World} {eI eA : TypeId} {F : Nat → Prop} {vo va : Value} {orecs : List IRec} {arecs : List ARec} {X : Nat} {kk line : Int} {done : List It} {adone : List Ar} (h : CInv w eI eA F vo va orecs arecs X kk line done adone wr)
    (hb : Below wr.heap.size wr w') : CInv w eI eA F vo va orecs arecs X kk line done adone w' :=
  ⟨h.cout.keep hb, (hb.block X (lt_of_blk h.blk)).trans h.blk, h.x0, h.xo, own_keep h.arm fun b hv => hb.block b (h.arm.lt b hv).2, h.ars.carry (carry_of (fun b hF => hb.block b (h.cout.F1 b hF)) fun _ h => h), h.F3, h.F4⟩
/-- One arm more. -/
theorem CInv.arm_more {w wr w1 : World} {eI eA : TypeId} (hne : eI ≠ eA) {F G : Nat → Prop} {vo va : Value} {orecs : List IRec} {arecs : List ARec} {X : Nat} {kk line : Int} {done : List It} {adone : List Ar}
    (h : CInv w eI eA F vo va orecs arecs X kk line done adone wr) {line2 : Int} {A : Option Addr} {q c g cap : Nat} {items : List It} (hq : q ≤ c) (hc : c ≤ maxLen) (hi : Its wr G A q items)
    (hG : ∀ b, G b → w.heap.size ≤ b ∧ b < wr.heap.size ∧ vo.ownBlock ≠ some b ∧ va.ownBlock ≠ some b ∧ b ≠ X)
    (hown : w1.ownsRow w.heap.size eA 2 (.slice (some ⟨g, 0, none⟩) (adone.length + 1) cap) (adone.length + 1) (arecs.flatMap aCells ++ aCells ⟨line2, A, q, c⟩)) (hz : wr.heap.size ≤ w1.heap.size)
    (hbl : Below w.heap.size w w1) (hgrow : ∀ b, b < wr.heap.size → va.ownBlock ≠ some b → w1.heap[b]? = wr.heap[b]?) (hat : va.ownBlock = some g ∨ wr.heap.size ≤ g) :
    CInv w eI eA (fun b => F b ∨ G b) vo (.slice (some ⟨g, 0, none⟩) (adone.length + 1) cap) orecs (arecs ++ [⟨line2, A, q, c⟩]) X kk line done (adone ++ [.mk line2 items]) (w1.setCell ⟨X, 2, none⟩ (.slice (some ⟨g, 0, none⟩) (adone.length + 1) cap)) := by
  have hXlt := lt_of_blk h.blk
  have hvX : va.ownBlock ≠ some X := own_ne_blk h.arm h.blk hne.symm
  have hb1 := (hgrow X hXlt hvX).trans h.blk
  have hgX : g ≠ X := by
    intro e
    subst e
    rcases hat with hat | hat
    · exact hvX hat
    · omega
  have hgo : vo.ownBlock ≠ some g := by
    intro e
    rcases hat with hat | hat
    · exact own_ne_own h.cout.out h.arm hne _ e hat
    · have := (h.cout.out.lt _ e).2
      omega
  have key : ∀ b, b < wr.heap.size → va.ownBlock ≠ some b → b ≠ X → (w1.setCell ⟨X, 2, none⟩ (.slice (some ⟨g, 0, none⟩) (adone.length + 1) cap)).heap[b]? = wr.heap[b]? := fun b h1 h2 h3 => by
    rw [Below.heap_setCell _ _ _ _ h3]
    exact hgrow b h1 h2
  have hFk : Carry wr (w1.setCell ⟨X, 2, none⟩ (.slice (some ⟨g, 0, none⟩) (adone.length + 1) cap)) F (fun b => F b ∨ G b) := carry_of (fun b hF => key b (h.cout.F1 b hF) (h.F3 b hF) (h.F4 b hF)) fun b hF => .inl hF
  have hGk : Carry wr (w1.setCell ⟨X, 2, none⟩ (.slice (some ⟨g, 0, none⟩) (adone.length + 1) cap)) G (fun b => F b ∨ G b) := carry_of (fun b hF => key b (hG b hF).2.1 (hG b hF).2.2.2.1 (hG b hF).2.2.2.2) fun b hF => .inr hF
  refine ⟨⟨hbl.setCell h.x0 _, ?_, h.cout.its.carry hFk, ?_, ?_, ?_⟩, ?_, h.x0, h.xo, ?_, ?_, ?_, ?_⟩
  · exact own_keep h.cout.out fun b hv => key b (h.cout.out.lt b hv).2 (own_ne_own h.cout.out h.arm hne b hv) (fun e => h.xo (e ▸ hv))
  · intro b hb
    rcases hb with hb | hb
    · exact h.cout.F0 b hb
    · exact (hG b hb).1
  · intro b hb
    rw [setCell_size]
    rcases hb with hb | hb
    · exact Nat.lt_of_lt_of_le (h.cout.F1 b hb) hz
    · exact Nat.lt_of_lt_of_le (hG b hb).2.1 hz
  · intro b hb
    rcases hb with hb | hb
    · exact h.cout.F2 b hb
    · exact (hG b hb).2.2.1
  · have := blk_set (i := 2) hb1 (.slice (some ⟨g, 0, none⟩) (adone.length + 1) cap)
    simpa using this
  · have h2 := own_setCell hown (a := ⟨X, 2, none⟩) (by simp [Value.ownBlock, hgX]) (.slice (some ⟨g, 0, none⟩) (adone.length + 1) cap)
    simpa using h2
  · refine (h.ars.carry hFk).append (ArsOk.one ?_)
    obtain ⟨rs, h1, h2⟩ := hi
    simp only [ArOk]
    exact ⟨trivial, hq, hc, rs, hGk _ _ _ _ h1, h2.carry hGk⟩
  · intro b hb e
    have e' : g = b := by simpa [Value.ownBlock] using e
    subst e'
    rcases hb with hb | hb
    · rcases hat with hat | hat
      · exact h.F3 _ hb hat
      · have := h.cout.F1 _ hb
        omega
    · rcases hat with hat | hat
      · exact (hG _ hb).2.2.2.1 hat
      · have := (hG _ hb).2.1
        omega
  · intro b hb
    rcases hb with hb | hb
    · exact h.F4 b hb
    · exact (hG b hb).2.2.2.2
/-- One item more. -/
theorem CInv.close {w wr w1 : World} {eI eA : TypeId} (hne : eI ≠ eA) {F : Nat → Prop} {vo : Value} {orecs : List IRec} {arecs : List ARec} {X : Nat} {kk line : Int} {done : List It} {adone : List Ar} {A : Option Addr} {c g cap : Nat}
    (h : CInv w eI eA F vo (.slice A adone.length c) orecs arecs X kk line done adone wr) (hac : adone.length ≤ c) (hc : c ≤ maxLen)
    (hown : w1.ownsRow w.heap.size eI 3 (.slice (some ⟨g, 0, none⟩) (done.length + 1) cap) (done.length + 1) (orecs.flatMap iCells ++ iCells ⟨kk, line, A, adone.length, c⟩)) (hz : wr.heap.size ≤ w1.heap.size)
    (hbl : Below w.heap.size w w1) (hgrow : ∀ b, b < wr.heap.size → vo.ownBlock ≠ some b → w1.heap[b]? = wr.heap[b]?) (hat : vo.ownBlock = some g ∨ wr.heap.size ≤ g) :
    COut w eI (fun b => F b ∨ (Value.slice A adone.length c).ownBlock = some b) (.slice (some ⟨g, 0, none⟩) (done.length + 1) cap) (orecs ++ [⟨kk, line, A, adone.length, c⟩]) (done ++ [.mk kk line adone]) w1 := by
  have hva : ∀ b, (Value.slice A adone.length c).ownBlock = some b → vo.ownBlock ≠ some b := fun b hb e => own_ne_own h.cout.out h.arm hne b e hb
  have hFk : Carry wr w1 F (fun b => F b ∨ (Value.slice A adone.length c).ownBlock = some b) := carry_of (fun b hF => hgrow b (h.cout.F1 b hF) (h.cout.F2 b hF)) fun b hF => .inl hF
  have hAk : Carry wr w1 (fun b => (Value.slice A adone.length c).ownBlock = some b) (fun b => F b ∨ (Value.slice A adone.length c).ownBlock = some b) := carry_of (fun b hF => hgrow b (h.arm.lt b hF).2 (hva b hF)) fun b hF => .inr hF
  refine ⟨hbl, by simpa using hown, ?_, ?_, ?_, ?_⟩
  · refine (h.cout.its.carry hFk).append (ItsOk.one ?_)
    simp only [ItOk]
    refine ⟨trivial, trivial, hac, hc, arecs, hAk _ _ _ _ (Sl.of_own h.arm fun g hg => by rw [hg]; rfl), h.ars.carry hFk⟩
  · intro b hb
    rcases hb with hb | hb
    · exact h.cout.F0 b hb
    · exact (h.arm.lt b hb).1
  · intro b hb
    refine Nat.lt_of_lt_of_le ?_ hz
    rcases hb with hb | hb
    · exact h.cout.F1 b hb
    · exact (h.arm.lt b hb).2
  · intro b hb e
    have e' : g = b := by simpa [Value.ownBlock] using e
    subst e'
    rcases hb with hb | hb
    · rcases hat with hat | hat
      · exact h.cout.F2 _ hb hat
      · have := h.cout.F1 _ hb
        omega
    · rcases hat with hat | hat
      · exact hva _ hb hat
      · have := (h.arm.lt _ hb).2
        omega
theorem COut.ret {w wr : World} {eI : TypeId} {F : Nat → Prop} {vo : Value} {orecs : List IRec} {l : List It} (h : COut w eI F vo orecs l wr) : CopyRet w l (.returned vo) wr := by
  obtain ⟨A, c, rfl, hc, hm, _⟩ := own_form h.out
  refine ⟨A, c, rfl, hc, hm, ⟨orecs, ?_, ?_⟩, h.below⟩
  · exact (Sl.of_own (U := fun b => w.heap.size ≤ b ∧ b < wr.heap.size) h.out fun g hg => h.out.lt g (by rw [hg]; rfl))
  · exact h.its.carry (carry_more fun b hF _ => ⟨h.F0 b hF, h.F1 b hF⟩)
end Go.Proofs.Ytjklnlocmmnclaa
