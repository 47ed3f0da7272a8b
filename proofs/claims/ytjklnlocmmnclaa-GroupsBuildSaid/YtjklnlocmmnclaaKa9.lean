/- Conditions within conditions, as the document's: how levels and conditions lie in memory. Conditions within conditions, as the document's: an item is put into the innermost level. -/
import Derived.Test.YtjklnlocmmnclaaGd9
import Derived.Test.YtjklnlocmmnclaaMf
import Derived.WalkSmall
namespace Go.Proofs.Ytjklnlocmmnclaa
open Go.RowKit

/-- How a condition that has not ended, and its innermost items, lie in memory. -/
structure RMem where
  iA : Option Addr
  iC : Nat
  irecs : List IRec
  aA : Option Addr
  aC : Nat
  arecs : List ARec
abbrev Lev := PF × RMem
def lvV (z : Lev) : Value := .slice z.2.iA z.1.cur.length z.2.iC
def cdR (z : Lev) : IRec := ⟨2, z.1.line, z.2.aA, z.1.done.length + 1, z.2.aC⟩
def arR (z : Lev) : List ARec := z.2.arecs ++ ([⟨(z.1.cl : Int), none, 0, 0⟩] : List ARec)
def lvs (zs : List Lev) : List Value := zs.reverse.map lvV
def cds (zs : List Lev) : List Value := (zs.dropLast.reverse.map cdR).flatMap iCells
theorem lvs_len (zs : List Lev) : (lvs zs).length = zs.length := by simp [lvs]
theorem lvs_cons (z : Lev) (zs : List Lev) : lvs (z :: zs) = lvs zs ++ [lvV z] := by simp [lvs]
theorem cds_len (zs : List Lev) : (cds zs).length = (zs.length - 1) * 3 := by
  unfold cds
  rw [flat_len iCells 3 iCells_len]
  simp
theorem cds_cons (z y : Lev) (zs : List Lev) : cds (z :: y :: zs) = cds (y :: zs) ++ iCells (cdR z) := by
  simp [cds]

structure RInv (base : Nat) (F : Nat → Prop) (zs : List Lev) (vl vc : Value) (wr : World) : Prop where
  ne : zs ≠ []
  lev : wr.ownsRow base 47 1 vl zs.length (lvs zs)
  con : wr.ownsRow base 120 3 vc (zs.length - 1) (cds zs)
  itm : ∀ z ∈ zs, wr.ownsRow base 120 3 (lvV z) z.1.cur.length (z.2.irecs.flatMap iCells) ∧ ItsOk wr F z.1.cur z.2.irecs
  arm : ∀ z ∈ zs.dropLast, Sl wr F 2 z.2.aA (z.1.done.length + 1) ((arR z).flatMap aCells) ∧ ArsOk wr F z.1.done z.2.arecs ∧ z.1.done.length + 1 ≤ z.2.aC ∧ z.2.aC ≤ maxLen
  dis : zs.Pairwise fun y z => ∀ b, (lvV y).ownBlock = some b → (lvV z).ownBlock ≠ some b
  dc : ∀ z ∈ zs, ∀ b, (lvV z).ownBlock = some b → vc.ownBlock ≠ some b
  F0 : ∀ b, F b → base ≤ b ∧ b < wr.heap.size
  Ft : ∀ b, F b → IsT wr b 117 ∨ IsT wr b 120
  Fc : ∀ b, F b → vc.ownBlock ≠ some b
  Fi : ∀ b, F b → ∀ z ∈ zs, (lvV z).ownBlock ≠ some b
section
variable {w wr w' : World} {base : Nat} {F G : Nat → Prop} {zs r : List Lev} {z z' y : Lev} {vl vc vl' vc' : Value}
theorem RInv.F47 (h : RInv base F zs vl vc wr) {b : Nat} (hb : F b) : vl.ownBlock ≠ some b := fun e => by
  rcases h.Ft b hb with h1 | h1
  · exact h1.ne (own_isT h.lev e) (by decide) rfl
  · exact h1.ne (own_isT h.lev e) (by decide) rfl
theorem RInv.i47 (h : RInv base F zs vl vc wr) (hz : z ∈ zs) {b : Nat} (hb : (lvV z).ownBlock = some b) : vl.ownBlock ≠ some b := fun e =>
  (own_isT (h.itm z hz).1 hb).ne (own_isT h.lev e) (by decide) rfl
/-- What does not touch them. -/
theorem RInv.keep (h : RInv base F zs vl vc wr) (hz : wr.heap.size ≤ w'.heap.size) (hk : ∀ b, IsT wr b 47 ∨ IsT wr b 117 ∨ IsT wr b 120 → w'.heap[b]? = wr.heap[b]?) : RInv base F zs vl vc w' := by
  have hFk : ∀ b, F b → w'.heap[b]? = wr.heap[b]? := fun b hb => hk b (.inr (h.Ft b hb))
  have hc : Carry wr w' F F := carry_of hFk fun _ h => h
  refine ⟨h.ne, own_keep h.lev fun b hb => hk b (.inl (own_isT h.lev hb)), own_keep h.con fun b hb => hk b (.inr (.inr (own_isT h.con hb))), fun z hz => ⟨own_keep (h.itm z hz).1 fun b hb => hk b (.inr (.inr (own_isT (h.itm z hz).1 hb))), (h.itm z hz).2.carry hc⟩,
    fun z hz => ⟨hc _ _ _ _ (h.arm z hz).1, (h.arm z hz).2.1.carry hc, (h.arm z hz).2.2⟩, h.dis, h.dc, fun b hb => ⟨(h.F0 b hb).1, Nat.lt_of_lt_of_le (h.F0 b hb).2 hz⟩, fun b hb => ?_, h.Fc, h.Fi⟩
  rcases h.Ft b hb with h1 | h1
  · exact .inl (h1.keep (hk b (.inr (.inl h1))))
  · exact .inr (h1.keep (hk b (.inr (.inr h1))))
/-- The innermost one turns. -/
theorem RInv.turn (h : RInv base F (z :: r) vl vc wr) (hz : wr.heap.size ≤ w'.heap.size)
    (hk : ∀ b, IsT wr b 117 ∨ IsT wr b 120 → vl.ownBlock ≠ some b → vc.ownBlock ≠ some b → (lvV z).ownBlock ≠ some b → w'.heap[b]? = wr.heap[b]?)
    (hlev : w'.ownsRow base 47 1 vl' (r.length + 1) (lvs (z' :: r))) (hcon : w'.ownsRow base 120 3 vc' r.length (cds (z' :: r)))
    (hitm : w'.ownsRow base 120 3 (lvV z') z'.1.cur.length (z'.2.irecs.flatMap iCells)) (hits : ItsOk w' G z'.1.cur z'.2.irecs)
    (harm : r ≠ [] → Sl w' G 2 z'.2.aA (z'.1.done.length + 1) ((arR z').flatMap aCells) ∧ ArsOk w' G z'.1.done z'.2.arecs ∧ z'.1.done.length + 1 ≤ z'.2.aC ∧ z'.2.aC ≤ maxLen)
    (hzb : ∀ b, (lvV z').ownBlock = some b → (lvV z).ownBlock = some b ∨ wr.heap.size ≤ b) (hcb : ∀ b, vc'.ownBlock = some b → vc.ownBlock = some b ∨ wr.heap.size ≤ b)
    (hzc : ∀ b, (lvV z').ownBlock = some b → vc'.ownBlock ≠ some b)
    (hFG : ∀ b, F b → G b) (hG : ∀ b, G b → F b ∨ ((lvV z).ownBlock = some b ∧ (lvV z').ownBlock = none ∧ vc'.ownBlock ≠ some b ∧ w'.heap[b]? = wr.heap[b]?) ∨ (wr.heap.size ≤ b ∧ IsT w' b 117)) :
    RInv base G (z' :: r) vl' vc' w' := by
  have hd := List.pairwise_cons.1 h.dis
  have hFk : ∀ b, F b → w'.heap[b]? = wr.heap[b]? := fun b hb => hk b (h.Ft b hb) (h.F47 hb) (h.Fc b hb) (h.Fi b hb z List.mem_cons_self)
  have hc : Carry wr w' F G := carry_of hFk hFG
  have hrk : ∀ y ∈ r, ∀ b, (lvV y).ownBlock = some b → w'.heap[b]? = wr.heap[b]? := fun y hy b hb =>
    hk b (.inr (own_isT (h.itm y (List.mem_cons_of_mem _ hy)).1 hb)) (h.i47 (List.mem_cons_of_mem _ hy) hb) (h.dc y (List.mem_cons_of_mem _ hy) b hb) (fun e => hd.1 y hy b e hb)
  have hbase : base ≤ wr.heap.size := by
    have := h.lev.form (by simp)
    obtain ⟨g, cap, hv, hb, hg⟩ := this
    omega
  refine ⟨by simp, by simpa using hlev, by simpa using hcon, fun x hx => ?_, fun x hx => ?_, List.pairwise_cons.2 ⟨fun y hy b hb e => ?_, hd.2⟩, fun x hx b hb => ?_, fun b hb => ?_, fun b hb => ?_, fun b hb e => ?_, fun b hb x hx e => ?_⟩
  · rcases List.mem_cons.1 hx with rfl | hx
    · exact ⟨hitm, hits⟩
    · obtain ⟨h1, h2⟩ := h.itm x (List.mem_cons_of_mem _ hx)
      exact ⟨own_keep h1 fun b hb => hrk x hx b hb, h2.carry hc⟩
  · match r, hx, h, harm with
    | [], hx, _, _ => simp at hx
    | q :: r, hx, h, harm =>
      simp only [List.dropLast_cons_cons, List.mem_cons] at hx
      rcases hx with rfl | hx
      · exact harm (by simp)
      · obtain ⟨h1, h2, h3⟩ := h.arm x (by simp only [List.dropLast_cons_cons, List.mem_cons]; exact .inr hx)
        exact ⟨hc _ _ _ _ h1, h2.carry hc, h3⟩
  · rcases hzb b hb with e2 | e2
    · exact hd.1 y hy b e2 e
    · have := ((h.itm y (List.mem_cons_of_mem _ hy)).1.lt b e).2
      omega
  · rcases List.mem_cons.1 hx with rfl | hx
    · exact hzc b hb
    · intro e
      rcases hcb b e with e2 | e2
      · exact h.dc x (List.mem_cons_of_mem _ hx) b hb e2
      · have := ((h.itm x (List.mem_cons_of_mem _ hx)).1.lt b hb).2
        omega
  · rcases hG b hb with hb | ⟨hb, _, _, _⟩ | ⟨hb, ht⟩
    · exact ⟨(h.F0 b hb).1, Nat.lt_of_lt_of_le (h.F0 b hb).2 hz⟩
    · have := (h.itm z List.mem_cons_self).1.lt b hb
      exact ⟨this.1, by omega⟩
    · exact ⟨by omega, ht.lt⟩
  · rcases hG b hb with hb | ⟨hb, _, _, hkb⟩ | ⟨_, ht⟩
    · rcases h.Ft b hb with h1 | h1
      · exact .inl (h1.keep (hFk b hb))
      · exact .inr (h1.keep (hFk b hb))
    · exact .inr ((own_isT (h.itm z List.mem_cons_self).1 hb).keep hkb)
    · exact .inl ht
  · rcases hG b hb with hb | ⟨_, _, h3, _⟩ | ⟨hb, ht⟩
    · rcases hcb b e with e2 | e2
      · exact h.Fc b hb e2
      · have := (h.F0 b hb).2
        omega
    · exact h3 e
    · exact ht.ne (own_isT hcon e) (by decide) rfl
  · rcases List.mem_cons.1 hx with rfl | hx
    · rcases hG b hb with hb | ⟨_, h2, _, _⟩ | ⟨hb, ht⟩
      · rcases hzb b e with e2 | e2
        · exact h.Fi b hb z List.mem_cons_self e2
        · have := (h.F0 b hb).2
          omega
      · rw [h2] at e
        cases e
      · exact ht.ne (own_isT hitm e) (by decide) rfl
    · rcases hG b hb with hb | ⟨h1, _, _, _⟩ | ⟨hb, ht⟩
      · exact h.Fi b hb x (List.mem_cons_of_mem _ hx) e
      · exact hd.1 x hx b h1 e
      · have := ((h.itm x (List.mem_cons_of_mem _ hx)).1.lt b e).2
        omega
/-- One more. -/
theorem RInv.push (h : RInv base F zs vl vc wr) (hz : wr.heap.size ≤ w'.heap.size) (hk : ∀ b, IsT wr b 117 ∨ IsT wr b 120 → vl.ownBlock ≠ some b → vc.ownBlock ≠ some b → w'.heap[b]? = wr.heap[b]?)
    (hlev : w'.ownsRow base 47 1 vl' (zs.length + 1) (lvs (z' :: zs))) (hcon : w'.ownsRow base 120 3 vc' zs.length (cds (z' :: zs))) (hlz : lvV z' = .slice none 0 0) (h0 : z'.1.cur = []) (h00 : z'.2.irecs = [])
    (hcb : ∀ b, vc'.ownBlock = some b → vc.ownBlock = some b ∨ wr.heap.size ≤ b)
    {ga : Nat} (hga : wr.heap.size ≤ ga) (hgt : IsT w' ga 117) (hs : Sl w' (fun b => b = ga) 2 z'.2.aA (z'.1.done.length + 1) ((arR z').flatMap aCells)) (hd0 : z'.1.done = []) (hr0 : z'.2.arecs = []) (hac : 1 ≤ z'.2.aC) (hacm : z'.2.aC ≤ maxLen) :
    RInv base (fun b => F b ∨ b = ga) (z' :: zs) vl' vc' w' := by
  have hFk : ∀ b, F b → w'.heap[b]? = wr.heap[b]? := fun b hb => hk b (h.Ft b hb) (h.F47 hb) (h.Fc b hb)
  have hc : Carry wr w' F (fun b => F b ∨ b = ga) := carry_of hFk fun b hb => .inl hb
  have hrk : ∀ y ∈ zs, ∀ b, (lvV y).ownBlock = some b → w'.heap[b]? = wr.heap[b]? := fun y hy b hb => hk b (.inr (own_isT (h.itm y hy).1 hb)) (h.i47 hy hb) (h.dc y hy b hb)
  have hbase : base ≤ wr.heap.size := by
    obtain ⟨g, cap, hv, hb, hg⟩ := h.lev.form (by have := h.ne; cases zs <;> simp_all)
    omega
  have hob : (lvV z').ownBlock = none := by rw [hlz]; rfl
  refine ⟨by simp, by simpa using hlev, by simpa using hcon, fun x hx => ?_, fun x hx => ?_, List.pairwise_cons.2 ⟨fun y _ b hb => ?_, h.dis⟩, fun x hx b hb => ?_, fun b hb => ?_, fun b hb => ?_, fun b hb e => ?_, fun b hb x hx e => ?_⟩
  · rcases List.mem_cons.1 hx with rfl | hx
    · rw [hlz, h0, h00]
      exact ⟨World.ownsRow_nil _ _ _ _, by simp only [ItsOk]⟩
    · obtain ⟨h1, h2⟩ := h.itm x hx
      exact ⟨own_keep h1 fun b hb => hrk x hx b hb, h2.carry hc⟩
  · match zs, hx, h with
    | [], hx, _ => simp at hx
    | q :: r, hx, h =>
      simp only [List.dropLast_cons_cons, List.mem_cons] at hx
      rcases hx with rfl | hx
      · refine ⟨hs.more fun b hb _ => .inr hb, ?_, by rw [hd0]; exact hac, hacm⟩
        rw [hd0, hr0]
        simp only [ArsOk]
      · obtain ⟨h1, h2, h3⟩ := h.arm x hx
        exact ⟨hc _ _ _ _ h1, h2.carry hc, h3⟩
  · rw [hob] at hb
    cases hb
  · rcases List.mem_cons.1 hx with rfl | hx
    · rw [hob] at hb
      cases hb
    · intro e
      rcases hcb b e with e2 | e2
      · exact h.dc x hx b hb e2
      · have := ((h.itm x hx).1.lt b hb).2
        omega
  · rcases hb with hb | rfl
    · exact ⟨(h.F0 b hb).1, Nat.lt_of_lt_of_le (h.F0 b hb).2 hz⟩
    · exact ⟨by omega, hgt.lt⟩
  · rcases hb with hb | rfl
    · rcases h.Ft b hb with h1 | h1
      · exact .inl (h1.keep (hFk b hb))
      · exact .inr (h1.keep (hFk b hb))
    · exact .inl hgt
  · rcases hb with hb | rfl
    · rcases hcb b e with e2 | e2
      · exact h.Fc b hb e2
      · have := (h.F0 b hb).2
        omega
    · exact hgt.ne (own_isT hcon e) (by decide) rfl
  · rcases List.mem_cons.1 hx with rfl | hx
    · rw [hob] at e
      cases e
    · rcases hb with hb | rfl
      · exact h.Fi b hb x hx e
      · have := ((h.itm x hx).1.lt _ e).2
        omega
/-- The innermost one is left: its items are no longer turned. -/
theorem RInv.drop {lb lc cb cc : Nat} (h : RInv base F (z :: y :: r) (.slice (some ⟨lb, 0, none⟩) (r.length + 2) lc) (.slice (some ⟨cb, 0, none⟩) (r.length + 1) cc) wr) :
    RInv base (fun b => F b ∨ (lvV z).ownBlock = some b) (y :: r) (.slice (some ⟨lb, 0, none⟩) (r.length + 1) lc) (.slice (some ⟨cb, 0, none⟩) r.length cc) wr := by
  have hd := List.pairwise_cons.1 h.dis
  have hc : Carry wr wr F (fun b => F b ∨ (lvV z).ownBlock = some b) := carry_more fun b hb _ => .inl hb
  have hlev := h.lev
  have hcon := h.con
  rw [lvs_cons] at hlev
  rw [cds_cons] at hcon
  refine ⟨by simp, ?_, ?_, fun x hx => ?_, fun x hx => ?_, hd.2, fun x hx b hb => h.dc x (List.mem_cons_of_mem _ hx) b hb, fun b hb => ?_, fun b hb => ?_, fun b hb => ?_, fun b hb x hx => ?_⟩
  · exact ownsRow_pop (by rw [lvs_len]; simp) hlev
  · exact ownsRow_pop (by rw [cds_len]; simp) hcon
  · obtain ⟨h1, h2⟩ := h.itm x (List.mem_cons_of_mem _ hx)
    exact ⟨h1, h2.carry hc⟩
  · obtain ⟨h1, h2, h3⟩ := h.arm x (by simp only [List.dropLast_cons_cons, List.mem_cons]; exact .inr hx)
    exact ⟨hc _ _ _ _ h1, h2.carry hc, h3⟩
  · rcases hb with hb | hb
    · exact h.F0 b hb
    · exact (h.itm z List.mem_cons_self).1.lt b hb
  · rcases hb with hb | hb
    · exact h.Ft b hb
    · exact .inr (own_isT (h.itm z List.mem_cons_self).1 hb)
  · rcases hb with hb | hb
    · exact h.Fc b hb
    · exact h.dc z List.mem_cons_self b hb
  · rcases hb with hb | hb
    · exact h.Fi b hb x (List.mem_cons_of_mem _ hx)
    · exact hd.1 x hx b hb
end
end Go.Proofs.Ytjklnlocmmnclaa
namespace Go.Proofs.Ytjklnlocmmnclaa
open Go.RowKit

/-- append([]E{}, x...): a copy. -/
theorem app_copy {ops : Array Oper} {rest : List Oper} {o : Oper} {a : Act} {Q : Exit → Act → World → Prop} {w : World} {t e : TypeId} {size bytes : Nat} (hE : El t e size bytes) (hgd : o.guard = none) (s x : Operand)
    (ho : o.op = .call { callee := .builtin .append, args := #[s, x], argTypes := #[t, t] })
    (base B : Nat) (hs : a.eval s = .slice (some ⟨B, 0, none⟩) 0 0) (hown : w.ownsRow base e size (.slice (some ⟨B, 0, none⟩) 0 0) 0 []) {U : Nat → Prop} (A : Option Addr) (m c : Nat) (news : List Value) (hx : a.eval x = .slice A m c)
    (hsl : Sl w U size A m news) (h1 : ∀ u ∈ news, u.oneCell' = true) (hm : 0 < m) (hn : m * bytes ≤ 100000000000000) (hn2 : m ≤ 4611686018427387904) (hb : base ≤ w.heap.size)
    (h : ∀ g cap w', w'.ownsRow base e size (.slice (some ⟨g, 0, none⟩) m cap) m news → w.grownBy w' (some B) → (B = g ∨ g = w.heap.size) → g < w'.heap.size →
      wpList Try.prog ops Q rest (a.put o.dst (.slice (some ⟨g, 0, none⟩) m cap)) w') : wpList Try.prog ops Q (o :: rest) a w := by
  obtain ⟨i, z, h1', h2, h3, h4, h5, h6, h7⟩ := hE.out
  obtain ⟨ad, rfl, hnews⟩ := slice_src hsl hm h7
  refine wpList_plain hgd fun K hK => wp_append_lies w s x t ho base e i z size bytes h1' h2 h3 h4 h5 h6 h7 _ 0 [] hs hown ad m c news hx hsl.1 hnews h1 hm (by unfold maxLen; omega) (by rw [Nat.zero_add]; omega) hb w.heap.size rfl ?_
  intro g cap w' k1 k2 k3 k4
  rw [Nat.zero_add] at k1
  rw [List.nil_append] at k1
  have := hK _ _ (h g cap w' k1 k2 (k3.imp (fun e => by simpa [Value.ownBlock] using e) id) k4)
  rw [Nat.zero_add]
  exact this

theorem cds_swap {z z' : Lev} {r : List Lev} (h : cdR z' = cdR z) : cds (z' :: r) = cds (z :: r) := by
  match r with
  | [] => rfl
  | q :: r => rw [cds_cons, cds_cons, h]
theorem set_last {α : Type} (l : List α) (a b : α) (n : Nat) (h : l.length = n) : (l ++ [a]).set n b = l ++ [b] := by
  subst h
  simp
def putZ (y : Lev) (x : It) (A : Option Addr) (c : Nat) (new : IRec) : Lev := (y.1.put x, { y.2 with iA := A, iC := c, irecs := y.2.irecs ++ [new] })
theorem putZ_cd (y : Lev) (x : It) (A : Option Addr) (c : Nat) (new : IRec) : cdR (putZ y x A c new) = cdR y := rfl
theorem RInv.lvCell {base lb lc : Nat} {F : Nat → Prop} {y : Lev} {r : List Lev} {vc : Value} {w : World} (h : RInv base F (y :: r) (.slice (some ⟨lb, 0, none⟩) (r.length + 1) lc) vc w) : w.cell? ⟨lb, r.length, none⟩ = some (lvV y) := by
  have hs := h.lev
  rw [lvs_cons] at hs
  rw [World.ownsRow.cellAt (n := r.length + 1) hs r.length (by omega), List.getElem?_append_right (by rw [lvs_len]; omega), lvs_len]
  simp
/-- An item is put: levels[top] = append(levels[top], x). -/
theorem RInv.put {base lb lc : Nat} {F G : Nat → Prop} {y : Lev} {r : List Lev} {vc : Value} {w w1 wE : World} {x : It} {new : IRec} {g cap : Nat}
    (h : RInv base F (y :: r) (.slice (some ⟨lb, 0, none⟩) (r.length + 1) lc) vc w) (hb1 : Below w.heap.size w w1) (hFG : ∀ b, F b → G b) (hG : ∀ b, G b → F b ∨ (w.heap.size ≤ b ∧ IsT w1 b 117)) (hx : ItOk w1 G x new)
    (hown : wE.ownsRow base 120 3 (.slice (some ⟨g, 0, none⟩) (y.1.cur.length + 1) cap) (y.1.cur.length + 1) (y.2.irecs.flatMap iCells ++ iCells new)) (hgrow : w1.grownBy wE (lvV y).ownBlock) (hat : (lvV y).ownBlock = some g ∨ w.heap.size ≤ g) :
    RInv base G (putZ y x (some ⟨g, 0, none⟩) cap new :: r) (.slice (some ⟨lb, 0, none⟩) (r.length + 1) lc) vc (wE.setCell ⟨lb, r.length, none⟩ (.slice (some ⟨g, 0, none⟩) (y.1.cur.length + 1) cap)) ∧
      Below base w (wE.setCell ⟨lb, r.length, none⟩ (.slice (some ⟨g, 0, none⟩) (y.1.cur.length + 1) cap)) ∧
      ∀ b t, IsT w b t → t ≠ 47 → t ≠ 120 → (wE.setCell ⟨lb, r.length, none⟩ (.slice (some ⟨g, 0, none⟩) (y.1.cur.length + 1) cap)).heap[b]? = w.heap[b]? := by
  generalize hwF : wE.setCell ⟨lb, r.length, none⟩ (.slice (some ⟨g, 0, none⟩) (y.1.cur.length + 1) cap) = wF
  have hlbl : base ≤ lb ∧ lb < w.heap.size := h.lev.lt lb rfl
  have hy := h.itm y List.mem_cons_self
  have hz1 := hb1.size
  have hzE := hgrow.size
  have hzF : wF.heap.size = wE.heap.size := by rw [← hwF, setCell_size]
  have hE1 : ∀ b, b < w.heap.size → (lvV y).ownBlock ≠ some b → wE.heap[b]? = w.heap[b]? := fun b h1 h2 => (hgrow.block b (by omega) (fun e => h2 e.symm)).trans (hb1.block b h1)
  have hFE : ∀ b, b ≠ lb → wF.heap[b]? = wE.heap[b]? := fun b hb => by rw [← hwF]; exact Below.heap_setCell _ _ _ _ hb
  have hk : ∀ b, b < w.heap.size → b ≠ lb → (lvV y).ownBlock ≠ some b → wF.heap[b]? = w.heap[b]? := fun b h1 h2 h3 => (hFE b h2).trans (hE1 b h1 h3)
  have hylb : (lvV y).ownBlock ≠ some lb := fun e => h.i47 List.mem_cons_self e rfl
  have hglb : g ≠ lb := by
    rcases hat with e | e
    · intro e2
      rw [e2] at e
      exact hylb e
    · omega
  have hgl : ∀ b, b = g → (lvV y).ownBlock = some b ∨ w.heap.size ≤ b := fun b hb => by
    rw [hb]
    exact hat
  have hlevE : wE.ownsRow base 47 1 (.slice (some ⟨lb, 0, none⟩) (r.length + 1) lc) (r.length + 1) (lvs r ++ [lvV y]) := by
    have h1 := own_keep (w' := wE) h.lev fun b hb => by
      have hb' : lb = b := by simpa [Value.ownBlock] using hb
      rw [← hb']
      exact hE1 lb hlbl.2 hylb
    rw [lvs_cons] at h1
    exact h1
  have hsto := (hlevE.stored r.length (.slice (some ⟨g, 0, none⟩) (y.1.cur.length + 1) cap)).1
  rw [hwF, set_last _ _ _ _ (lvs_len r)] at hsto
  have hlv : lvV (putZ y x (some ⟨g, 0, none⟩) cap new) = .slice (some ⟨g, 0, none⟩) (y.1.cur.length + 1) cap := by
    simp [lvV, putZ, PF.put]
  have hbase : base ≤ w.heap.size := by omega
  have hc1 : Carry w w1 F G := (carry_of (fun b hb => hb1.block b (h.F0 b hb).2) fun _ h => h).trans (carry_more fun b hb _ => hFG b hb)
  have hGlb : ∀ b, G b → b ≠ lb := fun b hb e => by
    rcases hG b hb with hb | ⟨hb, _⟩
    · exact h.F47 hb (by rw [e]; rfl)
    · omega
  have hGy : ∀ b, G b → (lvV y).ownBlock ≠ some b := fun b hb e => by
    rcases hG b hb with hb | ⟨hb, _⟩
    · exact h.Fi b hb y List.mem_cons_self e
    · have := (hy.1.lt b e).2
      omega
  have hG1 : ∀ b, G b → b < w1.heap.size := fun b hb => by
    rcases hG b hb with hb | ⟨_, ht⟩
    · have := (h.F0 b hb).2
      omega
    · exact ht.lt
  have hGk : ∀ b, G b → wF.heap[b]? = w1.heap[b]? := fun b hb => (hFE b (hGlb b hb)).trans (hgrow.block b (hG1 b hb) (fun e => hGy b hb e.symm))
  have hc2 : Carry w1 wF G G := carry_of hGk fun _ h => h
  have hitmF : wF.ownsRow base 120 3 (.slice (some ⟨g, 0, none⟩) (y.1.cur.length + 1) cap) (y.1.cur.length + 1) (y.2.irecs.flatMap iCells ++ iCells new) :=
    own_keep hown fun b hb => hFE b (by have e : g = b := by simpa [Value.ownBlock] using hb
                                        rw [← e]; exact hglb)
  refine ⟨h.turn (by omega) (fun b h1 h2 h3 h4 => hk b (h1.elim IsT.lt IsT.lt) (fun e => h2 (by rw [e]; rfl)) h4) ?_ ?_ ?_ ?_ (fun hr => ?_) ?_ (fun b hb => .inl hb) ?_ hFG ?_, ?_, ?_⟩
  · rw [lvs_cons, hlv]
    exact hsto
  · rw [cds_swap (putZ_cd y x _ cap new)]
    refine own_keep h.con fun b hb => hk b (h.con.lt b hb).2 (fun e => (own_isT h.con hb).ne (own_isT h.lev (b := lb) rfl) (by decide) e) (fun e => h.dc y List.mem_cons_self b e hb)
  · rw [hlv]
    simpa [putZ, PF.put] using hitmF
  · simp only [putZ, PF.put]
    exact ((hy.2.carry hc1).carry hc2).append (ItsOk.one (hx.carry hc2))
  · have ha := h.arm y (by cases r with
      | nil => exact absurd rfl hr
      | cons q r => simp)
    obtain ⟨a1, a2, a3⟩ := ha
    exact ⟨hc2 _ _ _ _ (hc1 _ _ _ _ a1), (a2.carry hc1).carry hc2, a3⟩
  · intro b hb
    rw [hlv] at hb
    exact hgl b (by simpa [Value.ownBlock] using hb.symm)
  · intro b hb e
    rw [hlv] at hb
    rcases hgl b (by simpa [Value.ownBlock] using hb.symm) with e2 | e2
    · exact h.dc y List.mem_cons_self b e2 e
    · have := (h.con.lt b e).2
      omega
  · intro b hb
    rcases hG b hb with h1 | ⟨h1, h2⟩
    · exact .inl h1
    · exact .inr (.inr ⟨h1, h2.keep (hGk b hb)⟩)
  · rw [← hwF]
    exact ((hb1.mono hbase).grown hgrow (by omega) (fun k hk => (hy.1.lt k hk).1)).setCell hlbl.1 _
  · intro b t ht h1 h2
    exact hk b ht.lt (fun e => ht.ne (own_isT h.lev (b := lb) rfl) h1 e) (fun e => ht.ne (own_isT hy.1 e) h2 rfl)
end Go.Proofs.Ytjklnlocmmnclaa
