/- The lexer's memory: lines that are done, what is told, the line that is read. Tokens in memory, whatever they are. -/
import Derived.Test.YtjklnlocmmnclaaMa9
import Derived.Test.YtjklnlocmmnclaaPa9
namespace Go.Proofs.Ytjklnlocmmnclaa
open Go.RowKit

def strL (l : List UInt8) : Value := .string ⟨l.toArray⟩
/-- A token of the lexer, file f. -/
def tkCells (f : ByteArray) (t : Tk) : List Value := [.int .i64 t.kind, strL t.text, .bool t.space, .string f, .int .i64 (t.frm : Int), .int .i64 (t.to : Int), .bool false, .slice none 0 0]
def dgCells (f : ByteArray) (d : Dg) : List Value := [.int .i64 d.code, .string f, .int .i64 (d.frm : Int), .int .i64 (d.to : Int)]
/-- A line in memory: where its tokens are, and what it is. -/
structure LRec where
  A : Option Addr
  c : Nat
  ln : Ln
def lnCells (x : LRec) : List Value := [.slice x.A x.ln.toks.length x.c, .int .i64 (x.ln.frm : Int), .int .i64 (x.ln.to : Int), .bool x.ln.opn]
theorem tkCells_len (f : ByteArray) (t : Tk) : (tkCells f t).length = 8 := rfl
theorem dgCells_len (f : ByteArray) (t : Dg) : (dgCells f t).length = 4 := rfl
theorem lnCells_len (t : LRec) : (lnCells t).length = 4 := rfl

/- Small words. -/
theorem ones_nil : ∀ x ∈ ([] : List Value), x.oneCell' = true := by simp
theorem ones_cons {u : Value} {l : List Value} (h : u.oneCell' = true) (hl : ∀ x ∈ l, x.oneCell' = true) : ∀ x ∈ u :: l, x.oneCell' = true := by
  intro x hx
  rcases List.mem_cons.1 hx with rfl | hx
  · exact h
  · exact hl x hx
theorem own_setCell {w : World} {base : Nat} {e : TypeId} {size n : Nat} {v : Value} {xs : List Value} (h : w.ownsRow base e size v n xs) {a : Addr} (ha : v.ownBlock ≠ some a.block) (u : Value) : (w.setCell a u).ownsRow base e size v n xs := by
  refine ⟨h.1, ?_⟩
  rcases h.2 with h2 | ⟨g, cap, cur, h1, h2, h3, h4⟩
  · exact .inl h2
  · subst h1
    refine .inr ⟨g, cap, cur, rfl, h2, ?_, h4⟩
    rw [Below.heap_setCell _ _ _ _ (by intro hh; exact ha (by simp [Value.ownBlock, hh]))]
    exact h3
theorem own_keep {w w' : World} {base : Nat} {e : TypeId} {size n : Nat} {v : Value} {xs : List Value} (h : w.ownsRow base e size v n xs) (hk : ∀ b, v.ownBlock = some b → w'.heap[b]? = w.heap[b]?) : w'.ownsRow base e size v n xs := by
  refine ⟨h.1, ?_⟩
  rcases h.2 with h2 | ⟨g, cap, cur, h1, h2, h3, h4⟩
  · exact .inl h2
  · subst h1
    exact .inr ⟨g, cap, cur, rfl, h2, by rw [hk g rfl]; exact h3, h4⟩
theorem own_type {w : World} {base : Nat} {e : TypeId} {size n : Nat} {v : Value} {xs : List Value} (h : w.ownsRow base e size v n xs) {b : Nat} (hb : v.ownBlock = some b) : ∃ cs, w.heap[b]? = some (.cells cs e (0, 0)) := by
  rcases h.2 with ⟨rfl, _⟩ | ⟨g, cap, cur, rfl, h2, h3, h4⟩
  · simp [Value.ownBlock] at hb
  · simp [Value.ownBlock] at hb
    subst hb
    exact ⟨cur, h3⟩
theorem own_ne_blk {w : World} {base : Nat} {e t : TypeId} {size n : Nat} {v : Value} {xs : List Value} {b : Nat} {cs : Array Value} {fr : Nat × Nat} (h : w.ownsRow base e size v n xs) (hb : w.heap[b]? = some (.cells cs t fr)) (hne : e ≠ t) : v.ownBlock ≠ some b := by
  intro hv
  obtain ⟨cs', h'⟩ := own_type h hv
  rw [hb] at h'
  injection h' with h'
  injection h' with _ h2 _
  exact hne h2.symm
theorem own_ne_own {w : World} {base base' : Nat} {e e' : TypeId} {size size' n n' : Nat} {v v' : Value} {xs xs' : List Value} (h : w.ownsRow base e size v n xs) (h' : w.ownsRow base' e' size' v' n' xs') (hne : e ≠ e') : ∀ b, v.ownBlock = some b → v'.ownBlock ≠ some b := by
  intro b hb
  obtain ⟨cs, hc⟩ := own_type h hb
  exact own_ne_blk h' hc (fun hh => hne hh.symm)
theorem frozen_of_row {w : World} {b : Nat} {cs : Array Value} {e : TypeId} (h : w.heap[b]? = some (.cells cs e)) (i : Nat) : w.frozen? ⟨b, i, none⟩ = false := by
  simp [World.frozen?, h]
theorem blk_set {w : World} {b i : Nat} {cs : Array Value} {e : TypeId} (h : w.heap[b]? = some (.cells cs e)) (u : Value) : (w.setCell ⟨b, i, none⟩ u).heap[b]? = some (.cells (cs.setIfInBounds i u) e) := by
  simp [World.setCell, Array.getElem?_modify, h]
theorem lt_of_blk {w : World} {b : Nat} {o : Obj} (h : w.heap[b]? = some o) : b < w.heap.size := (Array.getElem?_eq_some_iff.1 h).1

theorem own_mono {w : World} {base base' : Nat} {e : TypeId} {size n : Nat} {v : Value} {xs : List Value} (h : w.ownsRow base e size v n xs) (hb : base' ≤ base) : w.ownsRow base' e size v n xs := by
  refine ⟨h.1, ?_⟩
  rcases h.2 with h2 | ⟨g, cap, cur, h1, h2, h3⟩
  · exact .inl h2
  · exact .inr ⟨g, cap, cur, h1, by omega, h3⟩
theorem below_chain {w w1 w2 : World} (h : Below w.heap.size w w1) (h2 : Below w1.heap.size w1 w2) : Below w.heap.size w w2 := h.trans (h2.mono h.size)

/-- What holds at the head of each round of the lexer's loop. -/
structure LInv (w : World) (f : ByteArray) (F : Nat → Prop) (vout vd tv : Value) (recs : List LRec) (dgs : List Dg) (toks : List Tk) (frm to : Nat) (opn : Bool) (wr : World) : Prop where
  below : Below w.heap.size w wr
  out : wr.ownsRow w.heap.size 95 4 vout recs.length (recs.flatMap lnCells)
  dg : wr.ownsRow w.heap.size 63 4 vd dgs.length (dgs.flatMap (dgCells f))
  now : wr.heap[w.heap.size]? = some (.cells #[tv, .int .i64 (frm : Int), .int .i64 (to : Int), .bool opn] 95)
  cur : wr.ownsRow w.heap.size 36 8 tv toks.length (toks.flatMap (tkCells f))
  outnb : vout.ownBlock ≠ some w.heap.size
  fin : ∀ x ∈ recs, Sl wr F 8 x.A x.ln.toks.length (x.ln.toks.flatMap (tkCells f))
  F1 : ∀ b, F b → w.heap.size ≤ b ∧ b < wr.heap.size
  F2 : ∀ b, F b → b ≠ w.heap.size ∧ vout.ownBlock ≠ some b ∧ vd.ownBlock ≠ some b ∧ tv.ownBlock ≠ some b
  caps : ∀ x ∈ recs, x.ln.toks.length ≤ x.c ∧ x.c ≤ maxLen
theorem cap_of {w : World} {base : Nat} {e : TypeId} {size n c : Nat} {A : Option Addr} {v : Value} {xs : List Value} (h : w.ownsRow base e size v n xs) (hv : v = .slice A n c) : n ≤ c ∧ c ≤ maxLen := by
  obtain ⟨A', c', h1, h2, h3, _⟩ := own_form h
  rw [hv] at h1
  injection h1 with _ _ h1
  subst h1
  exact ⟨h2, h3⟩

section
variable {w : World} {f : ByteArray} {F : Nat → Prop} {vout vd tv : Value} {recs : List LRec} {dgs : List Dg} {toks : List Tk} {frm to : Nat} {opn : Bool} {wr : World}
theorem LInv.cells (h : LInv w f F vout vd tv recs dgs toks frm to opn wr) :
    wr.cell? ⟨w.heap.size, 0, none⟩ = some tv ∧ wr.cell? ⟨w.heap.size, 1, none⟩ = some (.int .i64 (frm : Int)) ∧ wr.cell? ⟨w.heap.size, 2, none⟩ = some (.int .i64 (to : Int)) ∧ wr.cell? ⟨w.heap.size, 3, none⟩ = some (.bool opn) := by
  refine ⟨?_, ?_, ?_, ?_⟩ <;> rw [cell_of_row wr _ _ _ _ _ h.now] <;> rfl
theorem LInv.frz (h : LInv w f F vout vd tv recs dgs toks frm to opn wr) :
    wr.frozen? ⟨w.heap.size, 0, none⟩ = false ∧ wr.frozen? ⟨w.heap.size, 1, none⟩ = false ∧ wr.frozen? ⟨w.heap.size, 2, none⟩ = false ∧ wr.frozen? ⟨w.heap.size, 3, none⟩ = false :=
  ⟨frozen_of_row h.now 0, frozen_of_row h.now 1, frozen_of_row h.now 2, frozen_of_row h.now 3⟩
theorem LInv.lt (h : LInv w f F vout vd tv recs dgs toks frm to opn wr) : w.heap.size < wr.heap.size := lt_of_blk h.now

/-- Blocks from the first own one on, but those that are written, are as they were. -/
theorem LInv.step (h : LInv w f F vout vd tv recs dgs toks frm to opn wr) {w' : World} {vout' vd' tv' : Value} {recs' : List LRec} {dgs' : List Dg} {toks' : List Tk} {frm' to' : Nat} {opn' : Bool}
    (hb : Below w.heap.size w w') (hout : w'.ownsRow w.heap.size 95 4 vout' recs'.length (recs'.flatMap lnCells)) (hdg : w'.ownsRow w.heap.size 63 4 vd' dgs'.length (dgs'.flatMap (dgCells f)))
    (hnow : w'.heap[w.heap.size]? = some (.cells #[tv', .int .i64 (frm' : Int), .int .i64 (to' : Int), .bool opn'] 95)) (hcur : w'.ownsRow w.heap.size 36 8 tv' toks'.length (toks'.flatMap (tkCells f)))
    (honb : vout'.ownBlock ≠ some w.heap.size) (hsub : ∀ x ∈ recs', x ∈ recs) (hF : ∀ b, F b → w'.heap[b]? = wr.heap[b]?)
    (h2 : ∀ b, F b → vout'.ownBlock ≠ some b ∧ vd'.ownBlock ≠ some b ∧ tv'.ownBlock ≠ some b) : LInv w f F vout' vd' tv' recs' dgs' toks' frm' to' opn' w' where
  below := hb
  out := hout
  dg := hdg
  now := hnow
  cur := hcur
  outnb := honb
  fin := fun x hx => (h.fin x (hsub x hx)).keep hF
  F1 := fun b hb' => ⟨(h.F1 b hb').1, by
    have := (h.F1 b hb').2
    have hk := hF b hb'
    rw [Array.getElem?_eq_getElem this] at hk
    exact (Array.getElem?_eq_some_iff.1 hk).1⟩
  F2 := fun b hb' => ⟨(h.F2 b hb').1, h2 b hb'⟩
  caps := fun x hx => h.caps x (hsub x hx)

/-- A world that grows beyond what is there. -/
theorem LInv.grow (h : LInv w f F vout vd tv recs dgs toks frm to opn wr) {w' : World} (hb : Below wr.heap.size wr w') : LInv w f F vout vd tv recs dgs toks frm to opn w' := by
  have hk : ∀ b, b < wr.heap.size → w'.heap[b]? = wr.heap[b]? := hb.block
  refine h.step (h.below.trans (hb.mono (by have := h.lt; omega))) (own_keep h.out fun b hv => hk b (h.out.lt b hv).2) (own_keep h.dg fun b hv => hk b (h.dg.lt b hv).2) (by rw [hk _ h.lt]; exact h.now)
    (own_keep h.cur fun b hv => hk b (h.cur.lt b hv).2) h.outnb (fun x hx => hx) (fun b hF => hk b (h.F1 b hF).2) fun b hF => (h.F2 b hF).2

/-- A store into the line that is read. -/
theorem LInv.store (h : LInv w f F vout vd tv recs dgs toks frm to opn wr) (i : Nat) (u : Value) {to' : Nat} {opn' : Bool} (hcs : (#[tv, Value.int .i64 (frm : Int), .int .i64 (to : Int), .bool opn] : Array Value).setIfInBounds i u = #[tv, .int .i64 (frm : Int), .int .i64 (to' : Int), .bool opn']) :
    LInv w f F vout vd tv recs dgs toks frm to' opn' (wr.setCell ⟨w.heap.size, i, none⟩ u) := by
  have hk : ∀ b, b ≠ w.heap.size → (wr.setCell ⟨w.heap.size, i, none⟩ u).heap[b]? = wr.heap[b]? := fun b hb => Below.heap_setCell _ _ _ _ hb
  exact h.step (h.below.setCell (Nat.le_refl _) _) (own_setCell h.out h.outnb _) (own_setCell h.dg (own_ne_blk h.dg h.now (by decide)) _) (by rw [blk_set h.now, hcs])
    (own_setCell h.cur (own_ne_blk h.cur h.now (by decide)) _) h.outnb (fun x hx => hx) (fun b hF => hk b (h.F2 b hF).1) fun b hF => (h.F2 b hF).2

/-- Behind the append of the line: its cells. -/
theorem LInv.pushed (h : LInv w f F vout vd tv recs dgs toks frm to opn wr) {w' : World} {v' : Value} {n : Nat} {xs : List Value} (_hown : w'.ownsRow w.heap.size 95 4 v' n xs)
    (hg : wr.grownBy w' vout.ownBlock) :
    w'.cell? ⟨w.heap.size, 0, none⟩ = some tv ∧ w'.cell? ⟨w.heap.size, 1, none⟩ = some (.int .i64 (frm : Int)) ∧ w'.cell? ⟨w.heap.size, 2, none⟩ = some (.int .i64 (to : Int)) ∧ w'.cell? ⟨w.heap.size, 3, none⟩ = some (.bool opn) ∧
    w'.frozen? ⟨w.heap.size, 0, none⟩ = false ∧ w'.frozen? ⟨w.heap.size, 1, none⟩ = false ∧ w'.frozen? ⟨w.heap.size, 2, none⟩ = false ∧ w'.frozen? ⟨w.heap.size, 3, none⟩ = false := by
  have hnow : w'.heap[w.heap.size]? = some (.cells #[tv, .int .i64 (frm : Int), .int .i64 (to : Int), .bool opn] 95) := by rw [hg.block _ h.lt (fun e => h.outnb e.symm)]; exact h.now
  refine ⟨?_, ?_, ?_, ?_, frozen_of_row hnow 0, frozen_of_row hnow 1, frozen_of_row hnow 2, frozen_of_row hnow 3⟩ <;> rw [cell_of_row w' _ _ _ _ _ hnow] <;> rfl
/-- The line is put behind those that are done: it is no longer its own. -/
theorem LInv.push (frm' : Nat) (h : LInv w f F vout vd tv recs dgs toks frm to opn wr) {w' : World} {g cap : Nat} {A : Option Addr} {c : Nat} (htv : tv = .slice A toks.length c)
    (hown : w'.ownsRow w.heap.size 95 4 (.slice (some ⟨g, 0, none⟩) (recs.length + 1) cap) (recs.length + 1) (recs.flatMap lnCells ++ [tv, .int .i64 (frm : Int), .int .i64 (to : Int), .bool opn]))
    (hg : wr.grownBy w' vout.ownBlock) (hat : vout.ownBlock = some g ∨ g = wr.heap.size + 1) :
    LInv w f (fun b => F b ∨ tv.ownBlock = some b) (.slice (some ⟨g, 0, none⟩) (recs.length + 1) cap) vd (.slice none 0 0) (recs ++ [⟨A, c, ⟨toks, frm, to, opn⟩⟩]) dgs [] frm' 0 false
      ((((w'.setCell ⟨w.heap.size, 0, none⟩ (.slice none 0 0)).setCell ⟨w.heap.size, 1, none⟩ (.int .i64 (frm' : Int))).setCell ⟨w.heap.size, 2, none⟩ (.int .i64 0)).setCell ⟨w.heap.size, 3, none⟩ (.bool false)) := by
  have hlt := h.lt
  have hgn : g ≠ w.heap.size := by
    rcases hat with hat | hat
    · intro e; exact h.outnb (e ▸ hat)
    · omega
  have hk : ∀ b, b < wr.heap.size → vout.ownBlock ≠ some b → w'.heap[b]? = wr.heap[b]? := fun b hb hv => hg.block b hb (fun e => hv e.symm)
  have hnow : w'.heap[w.heap.size]? = some (.cells #[tv, .int .i64 (frm : Int), .int .i64 (to : Int), .bool opn] 95) := by rw [hk _ hlt h.outnb]; exact h.now
  have hdg : w'.ownsRow w.heap.size 63 4 vd dgs.length (dgs.flatMap (dgCells f)) := own_keep h.dg fun b hv => hk b (h.dg.lt b hv).2 (own_ne_own h.dg h.out (by decide) b hv)
  have hcur : w'.ownsRow w.heap.size 36 8 tv toks.length (toks.flatMap (tkCells f)) := own_keep h.cur fun b hv => hk b (h.cur.lt b hv).2 (own_ne_own h.cur h.out (by decide) b hv)
  have hdn := own_ne_blk hdg hnow (by decide)
  have hbel : Below w.heap.size w w' := below_app h.below h.out hg h.below.size
  have hs4 : ∀ b, b ≠ w.heap.size → ((((w'.setCell ⟨w.heap.size, 0, none⟩ (.slice none 0 0)).setCell ⟨w.heap.size, 1, none⟩ (.int .i64 (frm' : Int))).setCell ⟨w.heap.size, 2, none⟩ (.int .i64 0)).setCell ⟨w.heap.size, 3, none⟩ (.bool false)).heap[b]? = w'.heap[b]? := fun b hb => by
    rw [Below.heap_setCell _ _ _ _ hb, Below.heap_setCell _ _ _ _ hb, Below.heap_setCell _ _ _ _ hb, Below.heap_setCell _ _ _ _ hb]
  have hsz : ((((w'.setCell ⟨w.heap.size, 0, none⟩ (.slice none 0 0)).setCell ⟨w.heap.size, 1, none⟩ (.int .i64 (frm' : Int))).setCell ⟨w.heap.size, 2, none⟩ (.int .i64 0)).setCell ⟨w.heap.size, 3, none⟩ (.bool false)).heap.size = w'.heap.size := by
    rw [setCell_size, setCell_size, setCell_size, setCell_size]
  refine ⟨?_, ?_, ?_, ?_, ?_, ?_, ?_, ?_, ?_, ?_⟩
  · exact ((((hbel.setCell (Nat.le_refl _) _).setCell (Nat.le_refl _) _).setCell (Nat.le_refl _) _).setCell (Nat.le_refl _) _)
  · refine own_keep ?_ fun b hv => hs4 b ?_
    · have : (recs ++ [⟨A, c, ⟨toks, frm, to, opn⟩⟩] : List LRec).length = recs.length + 1 := by simp
      rw [this]
      simpa [lnCells, htv] using hown
    · simp [Value.ownBlock] at hv
      omega
  · exact own_keep hdg fun b hv => hs4 b (fun e => hdn (e ▸ hv))
  · rw [blk_set (blk_set (blk_set (blk_set hnow _) _) _) _]
    rfl
  · exact World.ownsRow_nil _ _ 36 8
  · simp [Value.ownBlock]; omega
  · intro x hx
    have hkeep : Keeps (fun b => F b ∨ tv.ownBlock = some b) wr _ := fun b hb => (hs4 b (by
      rcases hb with hb | hb
      · exact (h.F2 b hb).1
      · intro e; exact own_ne_blk h.cur h.now (by decide) (e ▸ hb))).trans (hk b (by
        rcases hb with hb | hb
        · exact (h.F1 b hb).2
        · exact (h.cur.lt b hb).2) (by
        rcases hb with hb | hb
        · exact (h.F2 b hb).2.1
        · exact own_ne_own h.cur h.out (by decide) b hb))
    rcases List.mem_append.1 hx with hx | hx
    · exact ((h.fin x hx).more (V := fun b => F b ∨ tv.ownBlock = some b) fun b hb _ => .inl hb).keep hkeep
    · have hx' : x = ⟨A, c, ⟨toks, frm, to, opn⟩⟩ := by simpa using hx
      subst hx'
      have hc := h.cur
      rw [htv] at hc
      exact (Sl.of_own (U := fun b => F b ∨ tv.ownBlock = some b) hc fun g hA => .inr (by rw [htv, hA]; rfl)).keep hkeep
  · intro b hb
    rw [hsz]
    rcases hb with hb | hb
    · exact ⟨(h.F1 b hb).1, Nat.lt_of_lt_of_le (h.F1 b hb).2 hg.size⟩
    · exact ⟨(h.cur.lt b hb).1, Nat.lt_of_lt_of_le (h.cur.lt b hb).2 hg.size⟩
  · intro b hb
    have hbl : b < wr.heap.size := by
      rcases hb with hb | hb
      · exact (h.F1 b hb).2
      · exact (h.cur.lt b hb).2
    refine ⟨?_, ?_, ?_, by simp [Value.ownBlock]⟩
    · rcases hb with hb | hb
      · exact (h.F2 b hb).1
      · intro e; exact own_ne_blk h.cur h.now (by decide) (e ▸ hb)
    · simp only [Value.ownBlock, ne_eq, Option.some.injEq]
      intro e
      subst e
      rcases hat with hat | hat
      · rcases hb with hb | hb
        · exact (h.F2 _ hb).2.1 hat
        · exact own_ne_own h.cur h.out (by decide) _ hb hat
      · omega
    · rcases hb with hb | hb
      · exact (h.F2 b hb).2.2.1
      · exact own_ne_own h.cur h.dg (by decide) b hb
  · intro x hx
    rcases List.mem_append.1 hx with hx | hx
    · exact h.caps x hx
    · have hx' : x = ⟨A, c, ⟨toks, frm, to, opn⟩⟩ := by simpa using hx
      subst hx'
      exact cap_of h.cur htv

/-- One thing more is told. -/
theorem LInv.diag (h : LInv w f F vout vd tv recs dgs toks frm to opn wr) (d : Dg) {w' : World} {g cap : Nat}
    (hown : w'.ownsRow w.heap.size 63 4 (.slice (some ⟨g, 0, none⟩) (dgs.length + 1) cap) (dgs.length + 1) (dgs.flatMap (dgCells f) ++ dgCells f d))
    (hg : wr.grownBy w' vd.ownBlock) (hat : vd.ownBlock = some g ∨ wr.heap.size ≤ g) :
    LInv w f F vout (.slice (some ⟨g, 0, none⟩) (dgs.length + 1) cap) tv recs (dgs ++ [d]) toks frm to opn w' := by
  have hlt := h.lt
  have hk : ∀ b, b < wr.heap.size → vd.ownBlock ≠ some b → w'.heap[b]? = wr.heap[b]? := fun b hb hv => hg.block b hb (fun e => hv e.symm)
  refine h.step (below_app h.below h.dg hg h.below.size) (own_keep h.out fun b hv => hk b (h.out.lt b hv).2 (own_ne_own h.out h.dg (by decide) b hv)) ?_ (by rw [hk _ hlt (own_ne_blk h.dg h.now (by decide))]; exact h.now)
    (own_keep h.cur fun b hv => hk b (h.cur.lt b hv).2 (own_ne_own h.cur h.dg (by decide) b hv)) h.outnb (fun x hx => hx) (fun b hF => hk b (h.F1 b hF).2 (h.F2 b hF).2.2.1) ?_
  · have : (dgs ++ [d]).length = dgs.length + 1 := by simp
    rw [this]
    simpa using hown
  · intro b hF
    refine ⟨(h.F2 b hF).2.1, ?_, (h.F2 b hF).2.2.2⟩
    simp only [Value.ownBlock, ne_eq, Option.some.injEq]
    intro e
    subst e
    rcases hat with hat | hat
    · exact (h.F2 _ hF).2.2.1 hat
    · have := (h.F1 _ hF).2
      omega

/-- One token more on the line that is read. -/
theorem LInv.tok (h : LInv w f F vout vd tv recs dgs toks frm to opn wr) (t : Tk) {w' : World} {g cap : Nat}
    (hown : w'.ownsRow w.heap.size 36 8 (.slice (some ⟨g, 0, none⟩) (toks.length + 1) cap) (toks.length + 1) (toks.flatMap (tkCells f) ++ tkCells f t))
    (hg : wr.grownBy w' tv.ownBlock) (hat : tv.ownBlock = some g ∨ wr.heap.size ≤ g) :
    LInv w f F vout vd (.slice (some ⟨g, 0, none⟩) (toks.length + 1) cap) recs dgs (toks ++ [t]) frm to opn (w'.setCell ⟨w.heap.size, 0, none⟩ (.slice (some ⟨g, 0, none⟩) (toks.length + 1) cap)) := by
  have hlt := h.lt
  have hk : ∀ b, b < wr.heap.size → tv.ownBlock ≠ some b → w'.heap[b]? = wr.heap[b]? := fun b hb hv => hg.block b hb (fun e => hv e.symm)
  have hnow : w'.heap[w.heap.size]? = some (.cells #[tv, .int .i64 (frm : Int), .int .i64 (to : Int), .bool opn] 95) := by rw [hk _ hlt (own_ne_blk h.cur h.now (by decide))]; exact h.now
  have hs : ∀ b, b ≠ w.heap.size → (w'.setCell ⟨w.heap.size, 0, none⟩ (.slice (some ⟨g, 0, none⟩) (toks.length + 1) cap)).heap[b]? = w'.heap[b]? := fun b hb => Below.heap_setCell _ _ _ _ hb
  have hgn : g ≠ w.heap.size := by
    intro e
    exact own_ne_blk hown hnow (by decide) (by rw [e]; rfl)
  refine h.step ((below_app h.below h.cur hg h.below.size).setCell (Nat.le_refl _) _) (own_setCell (own_keep h.out fun b hv => hk b (h.out.lt b hv).2 (own_ne_own h.out h.cur (by decide) b hv)) h.outnb _)
    (own_setCell (own_keep h.dg fun b hv => hk b (h.dg.lt b hv).2 (own_ne_own h.dg h.cur (by decide) b hv)) (own_ne_blk h.dg h.now (by decide)) _) (by rw [blk_set hnow]; rfl) ?_ h.outnb (fun x hx => hx)
    (fun b hF => (hs b (h.F2 b hF).1).trans (hk b (h.F1 b hF).2 (h.F2 b hF).2.2.2)) ?_
  · have : (toks ++ [t]).length = toks.length + 1 := by simp
    rw [this]
    refine own_setCell ?_ (by simp only [Value.ownBlock, ne_eq, Option.some.injEq]; exact hgn) _
    simpa using hown
  · intro b hF
    refine ⟨(h.F2 b hF).2.1, (h.F2 b hF).2.2.1, ?_⟩
    simp only [Value.ownBlock, ne_eq, Option.some.injEq]
    intro e
    subst e
    rcases hat with hat | hat
    · exact (h.F2 _ hF).2.2.2 hat
    · have := (h.F1 _ hF).2
      omega
end

/-- The lexer's loop: what holds of its slots. -/
def LRel (w : World) (f : ByteArray) (rs : List Rn) (n sz : Nat) (fin : List Ln × List Dg) (vout vd sv iv : Value) (wr : World) : Prop :=
  ∃ (k : Nat) (st : St) (recs : List LRec) (tv : Value) (F : Nat → Prop), k ≤ n ∧ iv = .int .i64 (k : Int) ∧ sv = .bool st.space ∧ fin = lx sz 0 (rs.drop k) st ∧ recs.map (·.ln) = st.out ∧
    st.toks.length ≤ k ∧ recs.length ≤ k ∧ st.dgs.length ≤ k ∧ LInv w f F vout vd tv recs st.dgs st.toks st.frm 0 false wr

/-- What the lexer hands back. -/
structure LDone (B : Nat) (w : World) (f : ByteArray) (fin : List Ln × List Dg) (vout vd : Value) (wr : World) : Prop where
  below : Below B w wr
  out : ∃ recs : List LRec, recs.map (·.ln) = fin.1 ∧ wr.ownsRow B 95 4 vout recs.length (recs.flatMap lnCells) ∧
    ∃ F : Nat → Prop, (∀ b, F b → B ≤ b ∧ b < wr.heap.size ∧ vout.ownBlock ≠ some b) ∧ ∀ x ∈ recs, Sl wr F 8 x.A x.ln.toks.length (x.ln.toks.flatMap (tkCells f)) ∧ x.ln.toks.length ≤ x.c ∧ x.c ≤ maxLen
  dg : wr.ownsRow B 63 4 vd fin.2.length (fin.2.flatMap (dgCells f))
def setRec (sz : Nat) : List LRec → List LRec
  | [] => []
  | [x] => [{ x with ln := { x.ln with to := sz } }]
  | x :: y :: l => x :: setRec sz (y :: l)
theorem setRec_ln (sz : Nat) : ∀ l : List LRec, (setRec sz l).map (·.ln) = setTo sz (l.map (·.ln))
  | [] => rfl
  | [x] => rfl
  | x :: y :: l => by
    simp only [setRec, List.map_cons, setTo]
    rw [setRec_ln sz (y :: l)]
    rfl
theorem setRec_len (sz : Nat) : ∀ l : List LRec, (setRec sz l).length = l.length
  | [] => rfl
  | [x] => rfl
  | x :: y :: l => by simp only [setRec, List.length_cons]; rw [setRec_len sz (y :: l)]; rfl
theorem setRec_mem (sz : Nat) : ∀ (l : List LRec), ∀ x ∈ setRec sz l, ∃ y ∈ l, x.A = y.A ∧ x.ln.toks = y.ln.toks ∧ x.c = y.c
  | [], x, h => by simp [setRec] at h
  | [a], x, h => by
    simp only [setRec, List.mem_singleton] at h
    subst h
    exact ⟨a, by simp, rfl, rfl, rfl⟩
  | a :: b :: l, x, h => by
    simp only [setRec] at h
    rcases List.mem_cons.1 h with rfl | h
    · exact ⟨x, by simp, rfl, rfl, rfl⟩
    · obtain ⟨y, hy, h1⟩ := setRec_mem sz (b :: l) x h
      exact ⟨y, List.mem_cons_of_mem _ hy, h1⟩
theorem setRec_cells (sz : Nat) : ∀ (l : List LRec), l ≠ [] → (setRec sz l).flatMap lnCells = (l.flatMap lnCells).set ((l.length - 1) * 4 + 2) (.int .i64 (sz : Int))
  | [], h => absurd rfl h
  | [x], _ => rfl
  | x :: y :: l, _ => by
    simp only [setRec, List.flatMap_cons]
    have ih := setRec_cells sz (y :: l) (by simp)
    simp only [List.flatMap_cons] at ih
    rw [List.set_append_right _ _ (by simp [lnCells_len]; omega), ih]
    have e : (x :: y :: l).length - 1 = (y :: l).length - 1 + 1 := by simp
    rw [e]
    congr 2
    simp only [lnCells_len]
    omega

section
variable {w : World} {f : ByteArray} {F : Nat → Prop} {vout vd tv : Value} {recs : List LRec} {dgs : List Dg} {toks : List Tk} {frm to : Nat} {opn : Bool} {wr : World}
theorem LDone.lift {w0 : World} {fin : List Ln × List Dg} (h : LDone w.heap.size w f fin vout vd wr) (hb : Below w0.heap.size w0 w) : LDone w0.heap.size w0 f fin vout vd wr := by
  obtain ⟨recs, h1, h2, F, h3, h4⟩ := h.out
  exact ⟨below_chain hb h.below, ⟨recs, h1, own_mono h2 hb.size, F, fun b hF => ⟨Nat.le_trans hb.size (h3 b hF).1, (h3 b hF).2⟩, h4⟩, own_mono h.dg hb.size⟩
/-- No line at all. -/
theorem LInv.done0 (h : LInv w f F vout vd tv recs dgs toks frm to opn wr) (h0 : recs.length = 0) : LDone w.heap.size w f ([], dgs) vout vd wr := by
  have hr : recs = [] := List.eq_nil_of_length_eq_zero h0
  subst hr
  exact ⟨h.below, ⟨[], rfl, h.out, fun _ => False, fun _ hf => hf.elim, fun x hx => by simp at hx⟩, h.dg⟩
/-- The last line's end. -/
theorem LInv.done1 {g n cap : Nat} (h : LInv w f F (.slice (some ⟨g, 0, none⟩) n cap) vd tv recs dgs toks frm to opn wr) (hn : n = recs.length) (h0 : 0 < recs.length) (sz : Nat) :
    LDone w.heap.size w f (setTo sz (recs.map (·.ln)), dgs) (.slice (some ⟨g, 0, none⟩) n cap) vd (wr.setCell ⟨g, (recs.length - 1) * 4 + 2, none⟩ (.int .i64 (sz : Int))) := by
  subst hn
  have hown := h.out
  have hgb := (hown.lt g rfl).1
  have hs := (hown.stored ((recs.length - 1) * 4 + 2) (.int .i64 (sz : Int))).1
  have hk : ∀ b, b ≠ g → (wr.setCell ⟨g, (recs.length - 1) * 4 + 2, none⟩ (.int .i64 (sz : Int))).heap[b]? = wr.heap[b]? := fun b hb => Below.heap_setCell _ _ _ _ hb
  refine ⟨h.below.setCell hgb _, ⟨setRec sz recs, setRec_ln sz recs, ?_, F, ?_, ?_⟩, ?_⟩
  · rw [setRec_len, setRec_cells sz recs (by intro e; rw [e] at h0; simp at h0)]
    exact hs
  · intro b hF
    exact ⟨(h.F1 b hF).1, by rw [setCell_size]; exact (h.F1 b hF).2, (h.F2 b hF).2.1⟩
  · intro x hx
    obtain ⟨y, hy, hA, ht, hcc⟩ := setRec_mem sz recs x hx
    rw [hA, ht, hcc]
    refine ⟨(h.fin y hy).keep fun b hF => hk b ?_, h.caps y hy⟩
    intro e
    exact (h.F2 b hF).2.1 (by rw [e]; rfl)
  · exact own_setCell h.dg (own_ne_own h.out h.dg (by decide) g rfl) _
/-- The line that is read is the last. -/
theorem LInv.close (h : LInv w f F vout vd tv recs dgs toks frm to opn wr) {w' : World} {g cap : Nat} {A : Option Addr} {c : Nat} (htv : tv = .slice A toks.length c)
    (hown : w'.ownsRow w.heap.size 95 4 (.slice (some ⟨g, 0, none⟩) (recs.length + 1) cap) (recs.length + 1) (recs.flatMap lnCells ++ [tv, .int .i64 (frm : Int), .int .i64 (to : Int), .bool opn]))
    (hg : wr.grownBy w' vout.ownBlock) (hat : vout.ownBlock = some g ∨ g = wr.heap.size + 1) :
    LDone w.heap.size w f (recs.map (·.ln) ++ [⟨toks, frm, to, opn⟩], dgs) (.slice (some ⟨g, 0, none⟩) (recs.length + 1) cap) vd w' := by
  have hk : ∀ b, b < wr.heap.size → vout.ownBlock ≠ some b → w'.heap[b]? = wr.heap[b]? := fun b hb hv => hg.block b hb (fun e => hv e.symm)
  refine ⟨below_app h.below h.out hg h.below.size, ⟨recs ++ [⟨A, c, ⟨toks, frm, to, opn⟩⟩], by simp, ?_, fun b => F b ∨ tv.ownBlock = some b, ?_, ?_⟩, ?_⟩
  · have : (recs ++ [⟨A, c, ⟨toks, frm, to, opn⟩⟩] : List LRec).length = recs.length + 1 := by simp
    rw [this]
    simpa [lnCells, htv] using hown
  · intro b hb
    have hbl : b < wr.heap.size := by
      rcases hb with hb | hb
      · exact (h.F1 b hb).2
      · exact (h.cur.lt b hb).2
    refine ⟨?_, Nat.lt_of_lt_of_le hbl hg.size, ?_⟩
    · rcases hb with hb | hb
      · exact (h.F1 b hb).1
      · exact (h.cur.lt b hb).1
    · simp only [Value.ownBlock, ne_eq, Option.some.injEq]
      intro e
      subst e
      rcases hat with hat | hat
      · rcases hb with hb | hb
        · exact (h.F2 _ hb).2.1 hat
        · exact own_ne_own h.cur h.out (by decide) _ hb hat
      · omega
  · intro x hx
    have hkeep : Keeps (fun b => F b ∨ tv.ownBlock = some b) wr w' := fun b hb => hk b (by
        rcases hb with hb | hb
        · exact (h.F1 b hb).2
        · exact (h.cur.lt b hb).2) (by
        rcases hb with hb | hb
        · exact (h.F2 b hb).2.1
        · exact own_ne_own h.cur h.out (by decide) b hb)
    rcases List.mem_append.1 hx with hx | hx
    · exact ⟨((h.fin x hx).more (V := fun b => F b ∨ tv.ownBlock = some b) fun b hb _ => .inl hb).keep hkeep, h.caps x hx⟩
    · have hx' : x = ⟨A, c, ⟨toks, frm, to, opn⟩⟩ := by simpa using hx
      subst hx'
      have hc := h.cur
      rw [htv] at hc
      exact ⟨(Sl.of_own (U := fun b => F b ∨ tv.ownBlock = some b) hc fun g hA => .inr (by rw [htv, hA]; rfl)).keep hkeep, cap_of h.cur htv⟩
  · exact own_keep h.dg fun b hv => hk b (h.dg.lt b hv).2 (own_ne_own h.dg h.out (by decide) b hv)
end
def LEnd (w : World) (f : ByteArray) (fin : List Ln × List Dg) (en : Ending) (w' : World) : Prop := ∃ vout vd, en = .returned (.tuple #[vout, vd]) ∧ LDone w.heap.size w f fin vout vd w'
end Go.Proofs.Ytjklnlocmmnclaa
namespace Go.Proofs.Ytjklnlocmmnclaa
open Go.RowKit

theorem below_drew2 {B : Nat} {w w' : World} (h : Below B w.drew w') : Below B w w' := ⟨h.os, h.tape, h.output, h.size, h.block⟩
/-- A token, its sites as a slice's value. -/
structure Tok where
  k : Int
  t : ByteArray
  sp : Bool
  f : ByteArray
  a : Int
  b : Int
  m : Bool
  sA : Option Addr
  sn : Nat
  sc : Nat
def tokCells (x : Tok) : List Value := [.int .i64 x.k, .string x.t, .bool x.sp, .string x.f, .int .i64 x.a, .int .i64 x.b, .bool x.m, .slice x.sA x.sn x.sc]
theorem tokCells_len (x : Tok) : (tokCells x).length = 8 := rfl
def tokV (x : Tok) : Value := .agg #[.int .i64 x.k, .string x.t, .bool x.sp, .string x.f, .int .i64 x.a, .int .i64 x.b, .bool x.m, .slice x.sA x.sn x.sc]
def Toks (w : World) (U : Nat → Prop) (A : Option Addr) (n : Nat) (l : List Tok) : Prop := Sl w U 8 A n (l.flatMap tokCells)
/-- A lexer's token as one. -/
def ofTk (f : ByteArray) (x : Tk) : Tok := ⟨x.kind, ⟨x.text.toArray⟩, x.space, f, x.frm, x.to, false, none, 0, 0⟩
theorem tkCells_of (f : ByteArray) (x : Tk) : tkCells f x = tokCells (ofTk f x) := rfl
theorem tk_flat (f : ByteArray) (l : List Tk) : l.flatMap (tkCells f) = (l.map (ofTk f)).flatMap tokCells := by
  rw [List.flatMap_map]
  rfl
def kt (x : Tok) : Int × List UInt8 := (x.k, x.t.data.toList)
def kindT (l : List Tok) : Nat := kindP (l.map kt)

theorem Toks.len {w : World} {U : Nat → Prop} {A : Option Addr} {n : Nat} {l : List Tok} (h : Toks w U A n l) : l.length = n := Sl.len_ tokCells_len (by decide) h
theorem Toks.at_ {w : World} {U : Nat → Prop} {A : Option Addr} {n : Nat} {l : List Tok} (h : Toks w U A n l) {i : Nat} (hi : i < n) :
    ∃ b off x, A = some ⟨b, off, none⟩ ∧ U b ∧ b < w.heap.size ∧ l[i]? = some x ∧ w.cell? ⟨b, off + i * 8, none⟩ = some (.int .i64 x.k) ∧
      w.cell? ⟨b, off + i * 8 + 1, none⟩ = some (.string x.t) ∧ w.cell? ⟨b, off + i * 8 + 2, none⟩ = some (.bool x.sp) ∧ w.cell? ⟨b, off + i * 8 + 3, none⟩ = some (.string x.f) ∧
      w.cell? ⟨b, off + i * 8 + 4, none⟩ = some (.int .i64 x.a) ∧ w.cell? ⟨b, off + i * 8 + 5, none⟩ = some (.int .i64 x.b) ∧ w.cell? ⟨b, off + i * 8 + 6, none⟩ = some (.bool x.m) ∧
      w.cell? ⟨b, off + i * 8 + 7, none⟩ = some (.slice x.sA x.sn x.sc) := by
  obtain ⟨b, off, x, e, hu, hlt, hr, hc⟩ := Sl.elem tokCells_len (by decide) h hi
  exact ⟨b, off, x, e, hu, hlt, hr, hc 0 _ rfl, hc 1 _ rfl, hc 2 _ rfl, hc 3 _ rfl, hc 4 _ rfl, hc 5 _ rfl, hc 6 _ rfl, hc 7 _ rfl⟩
end Go.Proofs.Ytjklnlocmmnclaa
