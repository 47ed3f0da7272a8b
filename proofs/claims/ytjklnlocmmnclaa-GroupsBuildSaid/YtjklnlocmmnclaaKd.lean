/- Conditions within conditions, as the document's: what holds in each round. -/
import Derived.Test.YtjklnlocmmnclaaKc
import Derived.Test.YtjklnlocmmnclaaGf9
namespace Go.Proofs.Ytjklnlocmmnclaa
open Go.RowKit

def endsL (zs : List Lev) : List Value := zs.dropLast.reverse.map fun z => .bool z.1.last
theorem endsL_len (zs : List Lev) : (endsL zs).length = zs.length - 1 := by simp [endsL]
theorem endsL_cons (z y : Lev) (zs : List Lev) : endsL (z :: y :: zs) = endsL (y :: zs) ++ [.bool z.1.last] := by simp [endsL]
def natsI (l : List Nat) : List Int := l.map fun (b : Nat) => (b : Int)
theorem natsI_len (l : List Nat) : (natsI l).length = l.length := by simp [natsI]
theorem natsI_snoc (l : List Nat) (i : Nat) : natsI (l ++ [i]) = natsI l ++ [(i : Int)] := by simp [natsI]

/-- A row of another type passes an append. -/
theorem own_pass {w w' : World} {base base' : Nat} {e e' : TypeId} {size size' n n' : Nat} {v v' : Value} {xs xs' : List Value} (h : w.ownsRow base e size v n xs) (h' : w.ownsRow base' e' size' v' n' xs') (hne : e ≠ e') (hg : w.grownBy w' v'.ownBlock) : w'.ownsRow base e size v n xs :=
  own_keep h fun b hb => hg.block b (h.lt b hb).2 (fun e1 => own_ne_own h h' hne b hb e1.symm)

structure BR (w : World) (F : Nat → Prop) (zs : List Lev) (bads : List Nat) (vl vc ve vb : Value) (wr : World) : Prop where
  below : Below w.heap.size w wr
  inv : RInv w.heap.size F zs vl vc wr
  end_ : wr.ownsRow w.heap.size 4 1 ve (zs.length - 1) (endsL zs)
  bad : wr.ownsRow w.heap.size 3 1 vb bads.length (ints (natsI bads))
section
variable {w wr w' w1 wA wB wC : World} {F : Nat → Prop} {zs : List Lev} {bads : List Nat} {vl vc ve vb : Value}
theorem BR.keep (h : BR w F zs bads vl vc ve vb wr) (hb : Below wr.heap.size wr w') : BR w F zs bads vl vc ve vb w' :=
  ⟨h.below.trans (hb.mono h.below.size), h.inv.keep hb.size (fun b hb' => by
    rcases hb' with h1 | h1 | h1
    · exact hb.block b h1.lt
    · exact hb.block b h1.lt
    · exact hb.block b h1.lt), own_keep h.end_ fun b hv => hb.block b (h.end_.lt b hv).2, own_keep h.bad fun b hv => hb.block b (h.bad.lt b hv).2⟩
/-- A line out of place. -/
theorem BR.badd {i g cap : Nat} (h : BR w F zs bads vl vc ve vb w1)
    (hown : wA.ownsRow w.heap.size 3 1 (.slice (some ⟨g, 0, none⟩) (bads.length + 1) cap) (bads.length + 1) (ints (natsI bads) ++ (#[.int .i64 (i : Int)] : Array Value).toList)) (hg : w1.grownBy wA vb.ownBlock) :
    BR w F zs (bads ++ [i]) vl vc ve (.slice (some ⟨g, 0, none⟩) (bads.length + 1) cap) wA := by
  have hk : ∀ b, b < w1.heap.size → vb.ownBlock ≠ some b → wA.heap[b]? = w1.heap[b]? := fun b hb hne => hg.block b hb (fun e => hne e.symm)
  have hkt : ∀ b t, IsT w1 b t → t ≠ 3 → wA.heap[b]? = w1.heap[b]? := fun b t ht hn => hk b ht.lt fun e => ht.ne (own_isT h.bad e) hn rfl
  refine ⟨below_app h.below h.bad hg h.below.size, h.inv.keep hg.size (fun b hb' => ?_), own_keep h.end_ fun b hv => hkt b 4 (own_isT h.end_ hv) (by decide), ?_⟩
  · rcases hb' with h1 | h1 | h1
    · exact hkt b _ h1 (by decide)
    · exact hkt b _ h1 (by decide)
    · exact hkt b _ h1 (by decide)
  · rw [natsI_snoc, ints_append]
    simpa [ints] using hown
/-- What stands at the innermost places. -/
theorem BR.cells {z y : Lev} {r : List Lev} {lb lc cb cc eb ec nn : Nat} (h : BR w F (z :: y :: r) bads (.slice (some ⟨lb, 0, none⟩) (nn + 2) lc) (.slice (some ⟨cb, 0, none⟩) (nn + 1) cc) (.slice (some ⟨eb, 0, none⟩) (nn + 1) ec) vb wr) (hn : r.length = nn) :
    (wr.cell? ⟨cb, nn * 3, none⟩ = some (.int .i64 2) ∧ wr.cell? ⟨cb, nn * 3 + 1, none⟩ = some (.int .i64 (z.1.line : Int)) ∧ wr.cell? ⟨cb, nn * 3 + 2, none⟩ = some (.slice z.2.aA (z.1.done.length + 1) z.2.aC)) ∧
      wr.cell? ⟨lb, nn + 1, none⟩ = some (lvV z) ∧ wr.cell? ⟨eb, nn, none⟩ = some (.bool z.1.last) ∧ cb < wr.heap.size ∧ lb < wr.heap.size ∧ eb < wr.heap.size := by
  have hlen2 : (z :: y :: r).length = nn + 2 := by simp [hn]
  have hlen1 : (z :: y :: r).length - 1 = nn + 1 := by simp [hn]
  have hlev := h.inv.lev
  have hcon := h.inv.con
  have hend := h.end_
  rw [hlen2] at hlev
  rw [hlen1] at hcon hend
  have hcl : (cds (y :: r)).length = nn * 3 := by rw [cds_len]; simp [hn]
  have hel : (endsL (y :: r)).length = nn := by rw [endsL_len]; simp [hn]
  have hll : (lvs (y :: r)).length = nn + 1 := by rw [lvs_len]; simp [hn]
  rw [cds_cons] at hcon
  rw [lvs_cons] at hlev
  rw [endsL_cons] at hend
  refine ⟨⟨?_, ?_, ?_⟩, ?_, ?_, (hcon.lt cb rfl).2, (hlev.lt lb rfl).2, (hend.lt eb rfl).2⟩
  · rw [World.ownsRow.cellAt hcon (nn * 3) (by omega), List.getElem?_append_right (by rw [hcl]; omega), hcl, Nat.sub_self]
    rfl
  · rw [World.ownsRow.cellAt hcon (nn * 3 + 1) (by omega), List.getElem?_append_right (by rw [hcl]; omega), hcl, show nn * 3 + 1 - nn * 3 = 1 by omega]
    rfl
  · rw [World.ownsRow.cellAt hcon (nn * 3 + 2) (by omega), List.getElem?_append_right (by rw [hcl]; omega), hcl, show nn * 3 + 2 - nn * 3 = 2 by omega]
    rfl
  · rw [World.ownsRow.cellAt hlev (nn + 1) (by omega), List.getElem?_append_right (by rw [hll]; omega), hll, Nat.sub_self]
    rfl
  · rw [World.ownsRow.cellAt hend nn (by omega), List.getElem?_append_right (by rw [hel]; omega), hel, Nat.sub_self]
    rfl
end
theorem arm_facts {w w1 wC wD : World} {F : Nat → Prop} {z y : Lev} {r : List Lev} {bads : List Nat} {lb lc cb cc eb ec nn xb g m cap : Nat} {vb : Value} {cs : Array Value}
    (h : BR w F (z :: y :: r) bads (.slice (some ⟨lb, 0, none⟩) (nn + 2) lc) (.slice (some ⟨cb, 0, none⟩) (nn + 1) cc) (.slice (some ⟨eb, 0, none⟩) (nn + 1) ec) vb w1) (hn : r.length = nn) (hX : w1.heap.size = xb) (hbC : Below xb w1 wC)
    (hXC : wC.heap[xb]? = some (.cells cs 120)) (hg : wC.grownBy wD (Value.slice (some ⟨g, 0, none⟩) m cap).ownBlock) (hne : xb < g) :
    Below xb w1 wD ∧ wD.heap[xb]? = some (.cells cs 120) ∧ wD.cell? ⟨xb, 0, none⟩ = cs[0]? ∧ wD.cell? ⟨xb, 1, none⟩ = cs[1]? ∧ wD.cell? ⟨xb, 2, none⟩ = cs[2]? ∧ wD.frozen? ⟨xb, 2, none⟩ = false ∧ (¬ cb = xb ∧ ¬ xb = cb ∧ ¬ lb = xb ∧ ¬ xb = lb ∧ ¬ eb = xb ∧ ¬ xb = eb ∧ ¬ cb = lb ∧ ¬ lb = cb ∧ ¬ cb = eb ∧ ¬ eb = cb ∧ ¬ lb = eb ∧ ¬ eb = lb) ∧
      wD.cell? ⟨cb, nn * 3, none⟩ = some (.int .i64 2) ∧ wD.cell? ⟨cb, nn * 3 + 1, none⟩ = some (.int .i64 (z.1.line : Int)) ∧ wD.cell? ⟨cb, nn * 3 + 2, none⟩ = some (.slice z.2.aA (z.1.done.length + 1) z.2.aC) ∧ (∀ i, wD.frozen? ⟨cb, i, none⟩ = false) ∧
      wD.cell? ⟨lb, nn + 1, none⟩ = some (lvV z) ∧ (∀ i, wD.frozen? ⟨lb, i, none⟩ = false) ∧ wD.cell? ⟨eb, nn, none⟩ = some (.bool z.1.last) ∧ (∀ i, wD.frozen? ⟨eb, i, none⟩ = false) := by
  have hXD : wD.heap[xb]? = some (.cells cs 120) := by
    refine (hg.block xb (lt_of_blk hXC) (fun e => ?_)).trans hXC
    have e' : xb = g := Option.some.inj e
    omega
  have hbD : Below xb w1 wD := hbC.grown hg (by have := lt_of_blk hXC; omega) (fun k hk => by have e : g = k := Option.some.inj hk; omega)
  obtain ⟨⟨d0, d1, d2⟩, l1, e1, hcbl, hlbl, hebl⟩ := h.cells hn
  rw [hX] at hcbl hlbl hebl
  have tc : IsT w1 cb 120 := own_isT h.inv.con rfl
  have tl : IsT w1 lb 47 := own_isT h.inv.lev rfl
  have te : IsT w1 eb 4 := own_isT h.end_ rfl
  have fz : ∀ b t, b < xb → IsT w1 b t → ∀ i, wD.frozen? ⟨b, i, none⟩ = false := fun b t hb ht i => by
    obtain ⟨cs, hcs⟩ := ht
    exact (hbD.frozen (p := ⟨b, i, none⟩) hb).trans (frozen_of_row hcs i)
  refine ⟨hbD, hXD, cell_of_row wD xb 0 _ _ _ hXD, cell_of_row wD xb 1 _ _ _ hXD, cell_of_row wD xb 2 _ _ _ hXD, frozen_of_row hXD 2, ⟨by omega, by omega, by omega, by omega, by omega, by omega, tc.ne tl (by decide), tl.ne tc (by decide), tc.ne te (by decide), te.ne tc (by decide), tl.ne te (by decide), te.ne tl (by decide)⟩,
    (hbD.cell (p := ⟨cb, _, none⟩) hcbl).trans d0, (hbD.cell (p := ⟨cb, _, none⟩) hcbl).trans d1, (hbD.cell (p := ⟨cb, _, none⟩) hcbl).trans d2, fz cb 120 hcbl tc, (hbD.cell (p := ⟨lb, _, none⟩) hlbl).trans l1, fz lb 47 hlbl tl, (hbD.cell (p := ⟨eb, _, none⟩) hebl).trans e1, fz eb 4 hebl te⟩
theorem cds_set {nn m cap2 line : Nat} {zs : List Lev} {z : Lev} {A : Option Addr} (hl : (cds zs).length = nn * 3) (hz : z.1.line = line) :
    (((cds zs ++ iCells (cdR z)).set (nn * 3) (.int .i64 2)).set (nn * 3 + 1) (.int .i64 (line : Int))).set (nn * 3 + 2) (.slice A m cap2) = cds zs ++ iCells ⟨2, (line : Int), A, m, cap2⟩ := by
  subst hz
  rw [List.set_append, if_neg (by rw [hl]; omega), hl, Nat.sub_self, List.set_append, if_neg (by rw [hl]; omega), hl, show nn * 3 + 1 - nn * 3 = 1 by omega, List.set_append, if_neg (by rw [hl]; omega), hl, show nn * 3 + 2 - nn * 3 = 2 by omega]
  rfl
/-- An arm more. -/
theorem BR.arm {w w1 wD : World} {F : Nat → Prop} {z y : Lev} {r : List Lev} {bads : List Nat} {lb lc cb cc eb ec nn m k g2 cap2 : Nat} {vb : Value} {last : Bool}
    (h : BR w F (z :: y :: r) bads (.slice (some ⟨lb, 0, none⟩) (nn + 2) lc) (.slice (some ⟨cb, 0, none⟩) (nn + 1) cc) (.slice (some ⟨eb, 0, none⟩) (nn + 1) ec) vb w1) (hn : r.length = nn) (hm : m = z.1.done.length + 1) (hbD : Below w1.heap.size w1 wD) (hxD : IsT wD w1.heap.size 120)
    (hoD : wD.ownsRow w1.heap.size 117 2 (.slice (some ⟨g2, 0, none⟩) (m + 1) cap2) (m + 1) ((z.2.arecs ++ ([⟨(z.1.cl : Int), z.2.iA, z.1.cur.length, z.2.iC⟩] : List ARec)).flatMap aCells ++ (#[.int .i64 (k : Int), .slice none 0 0] : Array Value).toList)) :
    ∃ G m', BR w G ((z.1.arm k last, m') :: y :: r) bads (.slice (some ⟨lb, 0, none⟩) (nn + 2) lc) (.slice (some ⟨cb, 0, none⟩) (nn + 1) cc) (.slice (some ⟨eb, 0, none⟩) (nn + 1) ec) vb
      ((((((wD.setCell ⟨w1.heap.size, 2, none⟩ (.slice (some ⟨g2, 0, none⟩) (m + 1) cap2)).setCell ⟨cb, nn * 3, none⟩ (.int .i64 2)).setCell ⟨cb, nn * 3 + 1, none⟩ (.int .i64 (z.1.line : Int))).setCell ⟨cb, nn * 3 + 2, none⟩ (.slice (some ⟨g2, 0, none⟩) (m + 1) cap2)).setCell ⟨lb, nn + 1, none⟩ (.slice none 0 0)).setCell
        ⟨eb, nn, none⟩ (.bool last)) := by
  subst hn hm
  have tc : IsT w1 cb 120 := own_isT h.inv.con rfl
  have tl : IsT w1 lb 47 := own_isT h.inv.lev rfl
  have te : IsT w1 eb 4 := own_isT h.end_ rfl
  have hcb := tc.lt
  have hlb := tl.lt
  have heb := te.lt
  have hg2 := hoD.lt g2 rfl
  have tg : IsT wD g2 117 := own_isT hoD rfl
  have hgx : g2 ≠ w1.heap.size := tg.ne hxD (by decide)
  have hcl : cb ≠ lb := tc.ne tl (by decide)
  have hce : cb ≠ eb := tc.ne te (by decide)
  have hle : lb ≠ eb := tl.ne te (by decide)
  have hB0 := h.below.size
  have hcb0 := (h.inv.con.lt cb rfl).1
  have hlb0 := (h.inv.lev.lt lb rfl).1
  have heb0 := (h.end_.lt eb rfl).1
  have hz := h.inv.itm z List.mem_cons_self
  have har := h.inv.arm z (by simp)
  have hcap := cap_of hz.1 rfl
  have hcapA := cap_of hoD rfl
  generalize hwF : ((((((wD.setCell ⟨w1.heap.size, 2, none⟩ (.slice (some ⟨g2, 0, none⟩) (z.1.done.length + 1 + 1) cap2)).setCell ⟨cb, r.length * 3, none⟩ (.int .i64 2)).setCell ⟨cb, r.length * 3 + 1, none⟩ (.int .i64 (z.1.line : Int))).setCell ⟨cb, r.length * 3 + 2, none⟩ (.slice (some ⟨g2, 0, none⟩) (z.1.done.length + 1 + 1) cap2)).setCell ⟨lb, r.length + 1, none⟩ (.slice none 0 0)).setCell
        ⟨eb, r.length, none⟩ (.bool last)) = wF
  have hzF : wF.heap.size = wD.heap.size := by
    rw [← hwF]
    simp only [setCell_size]
  have hkD : ∀ b, b ≠ w1.heap.size → b ≠ cb → b ≠ lb → b ≠ eb → wF.heap[b]? = wD.heap[b]? := fun b h1 h2 h3 h4 => by
    rw [← hwF, Below.heap_setCell _ _ _ _ h4, Below.heap_setCell _ _ _ _ h3, Below.heap_setCell _ _ _ _ h2, Below.heap_setCell _ _ _ _ h2, Below.heap_setCell _ _ _ _ h2, Below.heap_setCell _ _ _ _ h1]
  have hk : ∀ b, b < w1.heap.size → b ≠ cb → b ≠ lb → b ≠ eb → wF.heap[b]? = w1.heap[b]? := fun b h0 h2 h3 h4 => (hkD b (by omega) h2 h3 h4).trans (hbD.block b h0)
  have hkt : ∀ b t, IsT w1 b t → t ≠ 120 → t ≠ 47 → t ≠ 4 → wF.heap[b]? = w1.heap[b]? := fun b t ht h1 h2 h3 => hk b ht.lt (ht.ne tc h1) (ht.ne tl h2) (ht.ne te h3)
  have hlev : wF.ownsRow w.heap.size 47 1 (.slice (some ⟨lb, 0, none⟩) (r.length + 2) lc) ((y :: r).length + 1) (lvs (y :: r) ++ [.slice none 0 0]) := by
    have h1 := h.inv.lev
    rw [lvs_cons] at h1
    have h2 : wD.ownsRow w.heap.size 47 1 (.slice (some ⟨lb, 0, none⟩) (r.length + 2) lc) (r.length + 2) (lvs (y :: r) ++ [lvV z]) := own_keep h1 fun b hb => hbD.block b (h.inv.lev.lt b hb).2
    have ob : ∀ {p : Addr}, p.block ≠ lb → (Value.slice (some ⟨lb, 0, none⟩) (r.length + 2) lc).ownBlock ≠ some p.block := fun hp e => hp (Option.some.inj e).symm
    have h3 := own_setCell (own_setCell (own_setCell (own_setCell h2 (a := ⟨w1.heap.size, 2, none⟩) (ob (by show w1.heap.size ≠ lb; omega)) (.slice (some ⟨g2, 0, none⟩) (z.1.done.length + 1 + 1) cap2)) (a := ⟨cb, r.length * 3, none⟩) (ob hcl) (.int .i64 2)) (a := ⟨cb, r.length * 3 + 1, none⟩) (ob hcl) (.int .i64 (z.1.line : Int)))
      (a := ⟨cb, r.length * 3 + 2, none⟩) (ob hcl) (.slice (some ⟨g2, 0, none⟩) (z.1.done.length + 1 + 1) cap2)
    have h4 := (h3.stored (r.length + 1) (.slice none 0 0)).1
    rw [set_last _ _ _ _ (by rw [lvs_len]; simp)] at h4
    have h5 := own_setCell h4 (a := ⟨eb, r.length, none⟩) (ob (fun e => hle e.symm)) (.bool last)
    rw [hwF] at h5
    exact h5
  have hcon : wF.ownsRow w.heap.size 120 3 (.slice (some ⟨cb, 0, none⟩) (r.length + 1) cc) (y :: r).length (cds (y :: r) ++ iCells ⟨2, (z.1.line : Int), some ⟨g2, 0, none⟩, z.1.done.length + 1 + 1, cap2⟩) := by
    have h1 := h.inv.con
    rw [cds_cons] at h1
    have h2 : wD.ownsRow w.heap.size 120 3 (.slice (some ⟨cb, 0, none⟩) (r.length + 1) cc) (r.length + 1) (cds (y :: r) ++ iCells (cdR z)) := own_keep h1 fun b hb => hbD.block b (h.inv.con.lt b hb).2
    have ob : ∀ {p : Addr}, p.block ≠ cb → (Value.slice (some ⟨cb, 0, none⟩) (r.length + 1) cc).ownBlock ≠ some p.block := fun hp e => hp (Option.some.inj e).symm
    have h3 := own_setCell h2 (a := ⟨w1.heap.size, 2, none⟩) (ob (by show w1.heap.size ≠ cb; omega)) (.slice (some ⟨g2, 0, none⟩) (z.1.done.length + 1 + 1) cap2)
    have h4 := (((h3.stored (r.length * 3) (.int .i64 2)).1.stored (r.length * 3 + 1) (.int .i64 (z.1.line : Int))).1.stored (r.length * 3 + 2) (.slice (some ⟨g2, 0, none⟩) (z.1.done.length + 1 + 1) cap2)).1
    rw [cds_set (by rw [cds_len]; simp) rfl] at h4
    have h5 := own_setCell (own_setCell h4 (a := ⟨lb, r.length + 1, none⟩) (ob (fun e => hcl e.symm)) (.slice none 0 0)) (a := ⟨eb, r.length, none⟩) (ob (fun e => hce e.symm)) (.bool last)
    rw [hwF] at h5
    exact h5
  have hend : wF.ownsRow w.heap.size 4 1 (.slice (some ⟨eb, 0, none⟩) (r.length + 1) ec) ((y :: r).length) (endsL (y :: r) ++ [.bool last]) := by
    have h1 := h.end_
    rw [endsL_cons] at h1
    have h2 : wD.ownsRow w.heap.size 4 1 (.slice (some ⟨eb, 0, none⟩) (r.length + 1) ec) (r.length + 1) (endsL (y :: r) ++ [.bool z.1.last]) := own_keep h1 fun b hb => hbD.block b (h.end_.lt b hb).2
    have ob : ∀ {p : Addr}, p.block ≠ eb → (Value.slice (some ⟨eb, 0, none⟩) (r.length + 1) ec).ownBlock ≠ some p.block := fun hp e => hp (Option.some.inj e).symm
    have h3 := own_setCell (own_setCell (own_setCell (own_setCell (own_setCell h2 (a := ⟨w1.heap.size, 2, none⟩) (ob (by show w1.heap.size ≠ eb; omega)) (.slice (some ⟨g2, 0, none⟩) (z.1.done.length + 1 + 1) cap2)) (a := ⟨cb, r.length * 3, none⟩) (ob hce) (.int .i64 2)) (a := ⟨cb, r.length * 3 + 1, none⟩) (ob hce) (.int .i64 (z.1.line : Int)))
      (a := ⟨cb, r.length * 3 + 2, none⟩) (ob hce) (.slice (some ⟨g2, 0, none⟩) (z.1.done.length + 1 + 1) cap2)) (a := ⟨lb, r.length + 1, none⟩) (ob hle) (.slice none 0 0)
    have h4 := (h3.stored r.length (.bool last)).1
    rw [set_last _ _ _ _ (by rw [endsL_len]; simp)] at h4
    rw [hwF] at h4
    exact h4
  have hbF : Below w.heap.size w wF := by
    rw [← hwF]
    exact ((((((h.below.trans (hbD.mono hB0)).setCell (p := ⟨w1.heap.size, 2, none⟩) hB0 _).setCell (p := ⟨cb, r.length * 3, none⟩) hcb0 _).setCell (p := ⟨cb, r.length * 3 + 1, none⟩) hcb0 _).setCell (p := ⟨cb, r.length * 3 + 2, none⟩) hcb0 _).setCell (p := ⟨lb, r.length + 1, none⟩) hlb0 _).setCell (p := ⟨eb, r.length, none⟩) heb0 _
  have hoF : wF.ownsRow w1.heap.size 117 2 (.slice (some ⟨g2, 0, none⟩) (z.1.done.length + 1 + 1) cap2) (z.1.done.length + 1 + 1) ((z.2.arecs ++ ([⟨(z.1.cl : Int), z.2.iA, z.1.cur.length, z.2.iC⟩] : List ARec)).flatMap aCells ++ (#[.int .i64 (k : Int), .slice none 0 0] : Array Value).toList) :=
    own_keep hoD fun b hb => by
      have e : g2 = b := Option.some.inj hb
      subst e
      exact hkD g2 hgx (by omega) (by omega) (by omega)
  have hFk : ∀ b, F b → wF.heap[b]? = w1.heap[b]? := fun b hb => hk b (h.inv.F0 b hb).2 (fun e => h.inv.Fc b hb (by rw [e]; rfl)) (fun e => h.inv.F47 hb (by rw [e]; rfl)) (fun e => by
    rcases h.inv.Ft b hb with h1 | h1
    · exact h1.ne te (by decide) e
    · exact h1.ne te (by decide) e)
  have hzk : ∀ b, (lvV z).ownBlock = some b → wF.heap[b]? = w1.heap[b]? := fun b hb => hk b (hz.1.lt b hb).2 (fun e => h.inv.dc z List.mem_cons_self b hb (by rw [e]; rfl)) (fun e => h.inv.i47 List.mem_cons_self hb (by rw [e]; rfl)) (fun e => (own_isT hz.1 hb).ne te (by decide) e)
  have hcF : Carry w1 wF F (fun b => F b ∨ (lvV z).ownBlock = some b ∨ b = g2) := carry_of hFk fun b hb => .inl hb
  refine ⟨fun b => F b ∨ (lvV z).ownBlock = some b ∨ b = g2, ⟨none, 0, [], some ⟨g2, 0, none⟩, cap2, z.2.arecs ++ ([⟨(z.1.cl : Int), z.2.iA, z.1.cur.length, z.2.iC⟩] : List ARec)⟩, hbF, h.inv.turn (by have := hbD.size; omega) (fun b ht h1 h2 h3 => ?_) ?_ ?_ (World.ownsRow_nil _ _ _ _) ?_ (fun _ => ?_) (fun b hb => by cases hb) (fun b hb => .inl hb) (fun b hb => by cases hb) (fun b hb => .inl hb) (fun b hb => ?_), ?_, ?_⟩
  · refine hk b (ht.elim IsT.lt IsT.lt) (fun e => h2 (by rw [e]; rfl)) (fun e => h1 (by rw [e]; rfl)) (fun e => ?_)
    rcases ht with ht | ht
    · exact ht.ne te (by decide) e
    · exact ht.ne te (by decide) e
  · rw [lvs_cons]
    exact hlev
  · rw [cds_cons]
    have e : cdR (z.1.arm k last, (⟨none, 0, [], some ⟨g2, 0, none⟩, cap2, z.2.arecs ++ ([⟨(z.1.cl : Int), z.2.iA, z.1.cur.length, z.2.iC⟩] : List ARec)⟩ : RMem)) = ⟨2, (z.1.line : Int), some ⟨g2, 0, none⟩, z.1.done.length + 1 + 1, cap2⟩ := by
      simp [cdR, PF.arm]
    rw [e]
    exact hcon
  · simp only [PF.arm, ItsOk]
  · simp only [PF.arm, List.length_append, List.length_cons, List.length_nil]
    refine ⟨?_, (har.2.1.carry hcF).append (ArsOk.one ?_), hcapA.1, hcapA.2⟩
    · have h1 := Sl.of_own (U := fun b => F b ∨ (lvV z).ownBlock = some b ∨ b = g2) hoF (fun g' hg' => .inr (.inr (by injection hg' with hg'; injection hg' with hg'; exact hg'.symm)))
      have e : (arR (z.1.arm k last, (⟨none, 0, [], some ⟨g2, 0, none⟩, cap2, z.2.arecs ++ ([⟨(z.1.cl : Int), z.2.iA, z.1.cur.length, z.2.iC⟩] : List ARec)⟩ : RMem))).flatMap aCells = (z.2.arecs ++ ([⟨(z.1.cl : Int), z.2.iA, z.1.cur.length, z.2.iC⟩] : List ARec)).flatMap aCells ++ (#[.int .i64 (k : Int), .slice none 0 0] : Array Value).toList := by
        simp [arR, PF.arm, aCells]
      simp only [PF.arm] at e
      rw [e]
      exact h1
    · simp only [ArOk]
      exact ⟨trivial, hcap.1, hcap.2, _, Sl.of_own (own_keep hz.1 hzk) (fun g' hg' => .inr (.inl (by rw [lvV, hg']; rfl))), hz.2.carry hcF⟩
  · rcases hb with hb | hb | hb
    · exact .inl hb
    · exact .inr (.inl ⟨hb, rfl, h.inv.dc z List.mem_cons_self b hb, hzk b hb⟩)
    · exact .inr (.inr ⟨by omega, by subst hb; exact own_isT hoF rfl⟩)
  · rw [endsL_cons]
    exact hend
  · exact own_keep h.bad fun b hb => hkt b 3 (own_isT h.bad hb) (by decide) (by decide) (by decide)
/-- The innermost condition ends. -/
theorem BR.pop {w w1 w' : World} {F G : Nat → Prop} {z y : Lev} {r : List Lev} {bads : List Nat} {lb lc cb cc eb ec nn : Nat} {vb : Value} {m' : RMem}
    (h : BR w F (z :: y :: r) bads (.slice (some ⟨lb, 0, none⟩) (nn + 2) lc) (.slice (some ⟨cb, 0, none⟩) (nn + 1) cc) (.slice (some ⟨eb, 0, none⟩) (nn + 1) ec) vb w1) (hn : r.length = nn)
    (hr : RInv w.heap.size G ((y.1.put z.1.item, m') :: r) (.slice (some ⟨lb, 0, none⟩) (nn + 1) lc) (.slice (some ⟨cb, 0, none⟩) nn cc) w') (hb : Below w.heap.size w1 w') (hk : ∀ b t, IsT w1 b t → t ≠ 47 → t ≠ 120 → w'.heap[b]? = w1.heap[b]?) :
    BR w G ((y.1.put z.1.item, m') :: r) bads (.slice (some ⟨lb, 0, none⟩) (nn + 1) lc) (.slice (some ⟨cb, 0, none⟩) nn cc) (.slice (some ⟨eb, 0, none⟩) nn ec) vb w' := by
  subst hn
  have h1 := h.end_
  rw [endsL_cons] at h1
  have h2 := own_keep (w' := w') h1 fun b hb => hk b 4 (own_isT h1 hb) (by decide) (by decide)
  have h3 : endsL ((y.1.put z.1.item, m') :: r) = endsL (y :: r) := by
    cases r with
    | nil => rfl
    | cons q r => rw [endsL_cons, endsL_cons]; rfl
  refine ⟨h.below.trans hb, hr, ?_, own_keep h.bad fun b hb => hk b 3 (own_isT h.bad hb) (by decide) (by decide)⟩
  rw [h3]
  exact ownsRow_pop (by rw [endsL_len]; simp) h2
theorem endsL_swap {z z' : Lev} {r : List Lev} (h : z'.1.last = z.1.last) : endsL (z' :: r) = endsL (z :: r) := by
  cases r with
  | nil => rfl
  | cons q r => rw [endsL_cons, endsL_cons, h]
/-- An item more. -/
theorem BR.put {w w1 wA : World} {F : Nat → Prop} {z : Lev} {r : List Lev} {bads : List Nat} {lb lc nn kd k g cap : Nat} {vc ve vb : Value} (h : BR w F (z :: r) bads (.slice (some ⟨lb, 0, none⟩) (nn + 1) lc) vc ve vb w1) (hn : r.length = nn)
    (hown : wA.ownsRow w.heap.size 120 3 (.slice (some ⟨g, 0, none⟩) (z.1.cur.length + 1) cap) (z.1.cur.length + 1) (z.2.irecs.flatMap iCells ++ (#[.int .i64 (kd : Int), .int .i64 (k : Int), .slice none 0 0] : Array Value).toList)) (hg : w1.grownBy wA (lvV z).ownBlock) (hat : (lvV z).ownBlock = some g ∨ g = w1.heap.size + 1) :
    ∃ m', BR w F ((z.1.put (.mk kd k []), m') :: r) bads (.slice (some ⟨lb, 0, none⟩) (nn + 1) lc) vc ve vb (wA.setCell ⟨lb, nn, none⟩ (.slice (some ⟨g, 0, none⟩) (z.1.cur.length + 1) cap)) := by
  subst hn
  have hx : ItOk w1 F (.mk kd k []) ⟨(kd : Int), (k : Int), none, 0, 0⟩ := by
    simp only [ItOk]
    exact ⟨trivial, trivial, Nat.le_refl _, by simp [maxLen], [], Sl.nil_, by simp only [ArsOk]⟩
  obtain ⟨h1, h2, h3⟩ := h.inv.put (w1 := w1) (G := F) (Below.refl _ _) (fun _ h => h) (fun b hb => .inl hb) hx hown hg (hat.imp id fun e => by omega)
  refine ⟨_, h.below.trans h2, h1, ?_, own_keep h.bad fun b hb => h3 b 3 (own_isT h.bad hb) (by decide) (by decide)⟩
  have e := own_keep h.end_ fun b hb => h3 b 4 (own_isT h.end_ hb) (by decide) (by decide)
  rw [← endsL_swap (z := z) (z' := putZ z (.mk kd k []) (some ⟨g, 0, none⟩) cap ⟨(kd : Int), (k : Int), none, 0, 0⟩) (r := r) rfl] at e
  exact e
section
variable {w w1 wA wB wC : World} {F : Nat → Prop} {zs : List Lev} {bads : List Nat} {vl vc ve vb : Value} {o : Obj} {k gA cA gB cB gC cC nn : Nat}
theorem BR.mid1 (h : BR w F zs bads vl vc ve vb w1) (hgA : (w1.alloc o).grownBy wA vc.ownBlock) : wA.ownsRow w.heap.size 4 1 ve (zs.length - 1) (endsL zs) ∧ wA.ownsRow w.heap.size 47 1 vl zs.length (lvs zs) ∧ wA.ownsRow w.heap.size 3 1 vb bads.length (ints (natsI bads)) :=
  ⟨own_pass (h.end_.alloc o) (h.inv.con.alloc o) (by decide) hgA, own_pass (h.inv.lev.alloc o) (h.inv.con.alloc o) (by decide) hgA, own_pass (h.bad.alloc o) (h.inv.con.alloc o) (by decide) hgA⟩
theorem BR.mid2 (h : BR w F zs bads vl vc ve vb w1) (hgA : (w1.alloc o).grownBy wA vc.ownBlock) (hgB : wA.grownBy wB ve.ownBlock) : wB.ownsRow w.heap.size 47 1 vl zs.length (lvs zs) ∧ wB.ownsRow w.heap.size 3 1 vb bads.length (ints (natsI bads)) :=
  ⟨own_pass (h.mid1 hgA).2.1 (h.mid1 hgA).1 (by decide) hgB, own_pass (h.mid1 hgA).2.2 (h.mid1 hgA).1 (by decide) hgB⟩
/-- A condition begins. -/
theorem BR.push (h : BR w F zs bads vl vc ve vb w1) (hz : zs.length = nn + 1) (ho : o = .cells #[.int .i64 (k : Int), .slice none 0 0] 117)
    (hownA : wA.ownsRow w.heap.size 120 3 (.slice (some ⟨gA, 0, none⟩) (nn + 1) cA) (nn + 1) (cds zs ++ (#[.int .i64 2, .int .i64 (k : Int), .slice (some ⟨w1.heap.size, 0, none⟩) 1 1] : Array Value).toList)) (hgA : (w1.alloc o).grownBy wA vc.ownBlock) (hatA : vc.ownBlock = some gA ∨ gA = w1.heap.size + 1 + 1)
    (hownB : wB.ownsRow w.heap.size 4 1 (.slice (some ⟨gB, 0, none⟩) (nn + 1) cB) (nn + 1) (endsL zs ++ (#[.bool false] : Array Value).toList)) (hgB : wA.grownBy wB ve.ownBlock)
    (hownC : wC.ownsRow w.heap.size 47 1 (.slice (some ⟨gC, 0, none⟩) (nn + 2) cC) (nn + 2) (lvs zs ++ (#[.slice none 0 0] : Array Value).toList)) (hgC : wB.grownBy wC vl.ownBlock) :
    ∃ G m', BR w G ((newF k, m') :: zs) bads (.slice (some ⟨gC, 0, none⟩) (nn + 2) cC) (.slice (some ⟨gA, 0, none⟩) (nn + 1) cA) (.slice (some ⟨gB, 0, none⟩) (nn + 1) cB) vb wC := by
  subst ho
  have hm1 := h.mid1 hgA
  have hm2 := h.mid2 hgA hgB
  have hzA := hgA.size
  rw [World.size_alloc] at hzA
  have hzB := hgB.size
  have hzC := hgC.size
  have hB0 := h.below.size
  have hk : ∀ b, b < w1.heap.size → vl.ownBlock ≠ some b → vc.ownBlock ≠ some b → ve.ownBlock ≠ some b → wC.heap[b]? = w1.heap[b]? := fun b h0 h1 h2 h3 =>
    (hgC.block b (by omega) (fun e => h1 e.symm)).trans ((hgB.block b (by omega) (fun e => h3 e.symm)).trans ((hgA.block b (by simp; omega) (fun e => h2 e.symm)).trans (Below.heap_alloc _ _ _ h0)))
  have hga : wC.heap[w1.heap.size]? = some (.cells #[.int .i64 (k : Int), .slice none 0 0] 117) := by
    refine (hgC.block _ (by omega) (fun e => ?_)).trans ((hgB.block _ (by omega) (fun e => ?_)).trans ((hgA.block _ (by simp) (fun e => ?_)).trans (heap_alloc_new w1 _)))
    · have := (h.inv.lev.lt _ e.symm).2; omega
    · have := (h.end_.lt _ e.symm).2; omega
    · have := (h.inv.con.lt _ e.symm).2; omega
  have hconB := own_pass hownA hm1.1 (by decide) hgB
  have hconC := own_pass hconB hm2.1 (by decide) hgC
  have hendC := own_pass hownB hm2.1 (by decide) hgC
  have hbadC := own_pass hm2.2 hm2.1 (by decide) hgC
  obtain ⟨z, r, rfl⟩ : ∃ z r, zs = z :: r := by
    match zs, hz with
    | z :: r, _ => exact ⟨z, r, rfl⟩
  simp only [List.length_cons, Nat.add_right_cancel_iff] at hz
  subst hz
  refine ⟨_, ⟨none, 0, [], some ⟨w1.heap.size, 0, none⟩, 1, []⟩, ?_, h.inv.push (ga := w1.heap.size) (by omega) (fun b ht h1 h2 => ?_) ?_ ?_ rfl rfl rfl (fun b hb => ?_) (Nat.le_refl _) ⟨_, hga⟩ ?_ rfl rfl (Nat.le_refl _) (by simp [maxLen]), ?_, hbadC⟩
  · exact below_app (below_app (below_app (h.below.alloc hB0 _) (h.inv.con.alloc _) hgA (by simp; omega)) hm1.1 hgB (by omega)) hm2.1 hgC (by omega)
  · refine hk b (ht.elim IsT.lt IsT.lt) h1 h2 (fun e => ?_)
    rcases ht with ht | ht
    · exact ht.ne (own_isT h.end_ e) (by decide) rfl
    · exact ht.ne (own_isT h.end_ e) (by decide) rfl
  · rw [lvs_cons]
    exact hownC
  · rw [cds_cons]
    exact hconC
  · have e : gA = b := Option.some.inj hb
    subst e
    rcases hatA with e | e
    · exact .inl e
    · right; omega
  · refine ⟨by simp [arR, newF, aCells], fun _ => ⟨w1.heap.size, 0, rfl, rfl, fun j u hu => ?_⟩⟩
    rw [cell_of_row wC w1.heap.size (0 + j) _ _ _ hga]
    simpa [arR, newF, aCells] using hu
  · rw [endsL_cons]
    exact hendC
end
/-- Ahead of the first line. -/
theorem BR.start (w : World) : BR w (fun _ => False) [(⟨0, [], 0, [], false⟩, ⟨none, 0, [], none, 0, []⟩)] [] (.slice (some ⟨w.heap.size, 0, none⟩) 1 1) (.slice none 0 0) (.slice none 0 0) (.slice none 0 0) (w.alloc (.cells #[.slice none 0 0] 47)) := by
  refine ⟨(Below.refl _ _).alloc (Nat.le_refl _) _, ⟨by simp, ?_, World.ownsRow_nil _ _ _ _, fun z hz => ?_, fun z hz => ?_, by simp, fun z hz b hb => ?_, fun _ h => h.elim, fun _ h => h.elim, fun _ h => h.elim, fun _ h => h.elim⟩, World.ownsRow_nil _ _ _ _, World.ownsRow_nil _ _ _ _⟩
  · exact World.ownsRow_lit (base := w.heap.size) w #[.slice none 0 0] 1 (Nat.le_refl _) (by simp [maxLen]) rfl
  · simp only [List.mem_singleton] at hz
    subst hz
    exact ⟨World.ownsRow_nil _ _ _ _, by simp only [ItsOk]⟩
  · simp at hz
  · simp only [List.mem_singleton] at hz
    subst hz
    cases hb
theorem BR.put_facts {w w1 wA : World} {F : Nat → Prop} {z : Lev} {r : List Lev} {bads : List Nat} {lb lc nn : Nat} {vc ve vb : Value} (h : BR w F (z :: r) bads (.slice (some ⟨lb, 0, none⟩) (nn + 1) lc) vc ve vb w1) (hn : r.length = nn) (hg : w1.grownBy wA (lvV z).ownBlock) :
    wA.cell? ⟨lb, nn, none⟩ = some (lvV z) ∧ wA.frozen? ⟨lb, nn, none⟩ = false := by
  subst hn
  have hlb := h.inv.lev.lt lb rfl
  have hk : wA.heap[lb]? = w1.heap[lb]? := hg.block lb hlb.2 (fun e => h.inv.i47 List.mem_cons_self e.symm rfl)
  obtain ⟨cs, hcs⟩ := own_type h.inv.lev (b := lb) rfl
  exact ⟨(World.cell?_of_block (w := w1) hk).trans h.inv.lvCell, (World.frozen?_of_block (w := w1) hk).trans (frozen_of_row hcs _)⟩
end Go.Proofs.Ytjklnlocmmnclaa
