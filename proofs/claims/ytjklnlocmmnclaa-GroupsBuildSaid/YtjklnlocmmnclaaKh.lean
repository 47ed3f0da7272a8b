/- Conditions within conditions, as the document's: what holds behind the last line. -/
import Derived.Test.YtjklnlocmmnclaaKd
import Derived.Test.YtjklnlocmmnclaaKf9
import Derived.Test.YtjklnlocmmnclaaWr9
namespace Go.Proofs.Ytjklnlocmmnclaa
open Go.RowKit

def lenR : Value → Nat
  | .slice _ n _ => n
  | _ => 0
def opR (zs : List Lev) : List Nat := zs.dropLast.reverse.map (·.1.line)
theorem opR_len (zs : List Lev) : (opR zs).length = zs.length - 1 := by simp [opR]
theorem opR_eq {zs : List Lev} {fs : List PF} (h : zs.map (·.1) = fs) : opR zs = (opensOf fs).reverse := by
  subst h
  rw [opensOf_lines, opR, ← List.map_dropLast, List.map_map, List.map_reverse]
  rfl
def ORel (wr : World) (m : Nat) (xs : List Nat) (vo iv : Value) (wx : World) : Prop :=
  ∃ j : Nat, j ≤ m ∧ iv = .int .i64 j ∧ wx.ownsRow wr.heap.size 3 1 vo j (ints (natsI (xs.take j))) ∧ Below wr.heap.size wr wx
theorem cond_line {base : Nat} {F : Nat → Prop} {zs : List Lev} {vl : Value} {cb cc nn j : Nat} {wr : World} (h : RInv base F zs vl (.slice (some ⟨cb, 0, none⟩) nn cc) wr) (hn : zs.length - 1 = nn) (hj : j < nn) :
    ∃ x : Nat, (opR zs)[j]? = some x ∧ wr.cell? ⟨cb, j * 3 + 1, none⟩ = some (.int .i64 (x : Int)) := by
  have hc := h.con
  rw [hn] at hc
  have hs := Sl.of_own (U := fun _ => True) hc fun _ _ => trivial
  unfold cds at hs
  obtain ⟨b, off, x, e, _, _, hx, hcell⟩ := Sl.elem iCells_len (by decide) hs hj
  injection e with e
  injection e with e1 e2
  subst e1
  simp only [List.getElem?_map, Option.map_eq_some_iff] at hx
  obtain ⟨z, hz, rfl⟩ := hx
  refine ⟨z.1.line, by unfold opR; rw [List.getElem?_map, hz]; rfl, ?_⟩
  have := hcell 1 _ rfl
  rw [← e2, Nat.zero_add] at this
  exact this
theorem natsI_next {xs : List Nat} {j x : Nat} (h : xs[j]? = some x) : ints (natsI (xs.take (j + 1))) = ints (natsI (xs.take j)) ++ [.int .i64 (x : Int)] := by
  rw [take_next h, natsI_snoc, ints_append]
  rfl

def CRel (w W2 : World) (items : List It) (vl vc : Value) (wx : World) : Prop :=
  ∃ F zs, RInv w.heap.size F zs vl vc wx ∧ itemsOf (zs.map (·.1)) = items ∧ Below w.heap.size w wx ∧ W2.heap.size ≤ wx.heap.size ∧ (∀ b, IsT W2 b 3 → wx.heap[b]? = W2.heap[b]?) ∧
    (∀ z ∈ zs, z.1.done.length ≤ 100000 ∧ z.1.cur.length + zs.length ≤ 200002) ∧ zs.length ≤ 100001 ∧ (∀ z, (zs.map (·.1)).getLast? = some z → z.done = [])
theorem CRel.closed {w W2 wx w' : World} {items : List It} {G : Nat → Prop} {z y : Lev} {r : List Lev} {vl' vc' : Value} {m' : RMem} (hit : itemsOf ((z :: y :: r).map (·.1)) = items) (hb : Below w.heap.size w wx) (hz : W2.heap.size ≤ wx.heap.size) (h3 : ∀ b, IsT W2 b 3 → wx.heap[b]? = W2.heap[b]?)
    (hbd : ∀ x ∈ z :: y :: r, x.1.done.length ≤ 100000 ∧ x.1.cur.length + (z :: y :: r).length ≤ 200002) (hl : (z :: y :: r).length ≤ 100001) (hla : ∀ x, ((z :: y :: r).map (·.1)).getLast? = some x → x.done = []) (hr : RInv w.heap.size G ((y.1.put z.1.item, m') :: r) vl' vc' w') (hb2 : Below w.heap.size wx w') (hk : ∀ b t, IsT wx b t → t ≠ 47 → t ≠ 120 → w'.heap[b]? = wx.heap[b]?) :
    CRel w W2 items vl' vc' w' := by
  refine ⟨G, _, hr, hit, hb.trans hb2, Nat.le_trans hz hb2.size, fun b ht => ?_, fun x hx => ?_, by simp at hl ⊢; omega, fun x hx => ?_⟩
  · have h1 := h3 b ht
    exact (hk b 3 (ht.keep h1) (by decide) (by decide)).trans h1
  · rcases List.mem_cons.1 hx with rfl | hx
    · have := hbd y (by simp)
      simp only [PF.put, List.length_append, List.length_cons, List.length_nil] at this ⊢
      omega
    · have := hbd x (by simp [hx])
      simp only [List.length_cons] at this ⊢
      omega
  · cases r with
    | nil =>
      simp at hx
      subst hx
      have := hla y.1 (by simp)
      simpa [PF.put] using this
    | cons q r =>
      refine hla x ?_
      simpa using hx
def DRel (W3 : World) (n : Nat) (ll : List (List Tok)) (bads opens : List Nat) (vd iv : Value) (wx : World) : Prop :=
  ∃ i : Nat, i ≤ n ∧ iv = .int .i64 i ∧ wx.ownsRow W3.heap.size 63 4 vd (dUpto ll bads opens i).length ((dUpto ll bads opens i).flatMap dgtCells) ∧ Below W3.heap.size W3 wx
def ERel (W3 : World) (m : Nat) (l : List Tok) (c : Int) (i : Nat) (D : List DgT) (xs : List Nat) (vd iv : Value) (wx : World) : Prop :=
  ∃ j : Nat, j ≤ m ∧ iv = .int .i64 j ∧ wx.ownsRow W3.heap.size 63 4 vd (D ++ hitL l c i (xs.take j)).length ((D ++ hitL l c i (xs.take j)).flatMap dgtCells) ∧ Below W3.heap.size W3 wx
theorem ERel.no {W3 wx : World} {m i j x : Nat} {l : List Tok} {c : Int} {D : List DgT} {xs : List Nat} {vd : Value} (hj : j < m) (hx : xs[j]? = some x) (hn : x ≠ i)
    (hown : wx.ownsRow W3.heap.size 63 4 vd (D ++ hitL l c i (xs.take j)).length ((D ++ hitL l c i (xs.take j)).flatMap dgtCells)) (hb : Below W3.heap.size W3 wx) : ERel W3 m l c i D xs vd (.int .i64 ((j + 1 : Nat) : Int)) wx :=
  ⟨j + 1, hj, rfl, by rw [hitL_no hx hn]; exact hown, hb⟩
theorem ERel.yes {W3 wx : World} {m i j g cap : Nat} {l : List Tok} {c : Int} {D : List DgT} {xs : List Nat} (hj : j < m) (hx : xs[j]? = some i)
    (hown : wx.ownsRow W3.heap.size 63 4 (.slice (some ⟨g, 0, none⟩) ((D ++ hitL l c i (xs.take j)).length + 1) cap) ((D ++ hitL l c i (xs.take j)).length + 1) ((D ++ hitL l c i (xs.take j)).flatMap dgtCells ++ (#[.int .i64 c, .string (l.getD 1 noTok).f, .int .i64 (l.getD 1 noTok).a, .int .i64 (l.getD 1 noTok).b] : Array Value).toList)) (hb : Below W3.heap.size W3 wx) :
    ERel W3 m l c i D xs (.slice (some ⟨g, 0, none⟩) ((D ++ hitL l c i (xs.take j)).length + 1) cap) (.int .i64 ((j + 1 : Nat) : Int)) wx := by
  refine ⟨j + 1, hj, rfl, ?_, hb⟩
  rw [hitL_yes hx, ← List.append_assoc]
  generalize D ++ hitL l c i (xs.take j) = X at hown ⊢
  rw [List.length_append, List.flatMap_append]
  exact hown
theorem told_len {ll : List (List Tok)} {i : Nat} {l : List Tok} (hl : ll[i]? = some l) (h : i ∈ (stP ll).2 ∨ i ∈ (opensOf (stP ll).1).reverse) : 2 ≤ l.length := by
  have hP := POk.run (ksOf ll) _ (Nat.le_refl _)
  rw [List.take_length] at hP
  have key : ∃ y : Nat × Bool, (ksOf ll)[i]? = some y ∧ 2 ≤ y.1 := by
    rcases h with h | h
    · obtain ⟨_, y, h1, h2, _⟩ := hP.bads i h
      exact ⟨y, h1, by omega⟩
    · rw [List.mem_reverse, opensOf_lines] at h
      obtain ⟨g, hg, rfl⟩ := List.mem_map.1 h
      obtain ⟨_, y, h1, h2, _⟩ := hP.opens g hg
      exact ⟨y, h1, h2⟩
  obtain ⟨y, h1, h2⟩ := key
  simp only [ksOf, List.getElem?_map, hl, Option.map_some, Option.some.injEq] at h1
  subst h1
  have h2' : 2 ≤ kindT l := h2
  exact kindT_ge (by omega)
theorem buildR_fin {w W3 wx : World} {F : Nat → Prop} {z : Lev} {vl vc vd : Value} {ll : List (List Tok)} {bads opens : List Nat} {n : Nat} (h : RInv w.heap.size F [z] vl vc W3) (hb : Below w.heap.size w W3) (hit : z.1.cur = itemsP ll)
    (hown : wx.ownsRow W3.heap.size 63 4 vd (dUpto ll bads opens n).length ((dUpto ll bads opens n).flatMap dgtCells)) (hd : dUpto ll bads opens n = diagsP ll) (hbx : Below W3.heap.size W3 wx) :
    BuildRet w ll (.returned (.tuple #[.slice z.2.iA z.1.cur.length z.2.iC, vd])) wx := by
  have hz := h.itm z (by simp)
  have hcap := cap_of hz.1 rfl
  rw [hd] at hown
  have hs := hb.size
  rw [hit] at hcap
  have hz1 := hz.1
  have hz2 := hz.2
  rw [hit] at hz1 hz2
  rw [hit]
  refine ⟨z.2.iA, z.2.iC, vd, rfl, hcap.1, hcap.2, ⟨z.2.irecs, ?_, ?_⟩, own_mono hown hs, hb.trans (hbx.mono hs)⟩
  · have h1 : wx.ownsRow w.heap.size 120 3 (.slice z.2.iA (itemsP ll).length z.2.iC) (itemsP ll).length (z.2.irecs.flatMap iCells) := own_keep (by rw [lvV, hit] at hz1; exact hz1) fun b hb' => hbx.block b (by rw [lvV, hit] at hz1; exact (hz1.lt b hb').2)
    exact Sl.of_own h1 fun g hg => h1.lt g (by rw [hg]; rfl)
  · exact hz2.carry (carry_of (fun b hF => hbx.block b (h.F0 b hF).2) fun b hF => ⟨(h.F0 b hF).1, by have := (h.F0 b hF).2; have := hbx.size; omega⟩)
theorem dUpto_bound {ll : List (List Tok)} {bads opens : List Nat} {i : Nat} (hi : i ≤ 100000) (hb : bads.length ≤ 100000) (ho : opens.length ≤ 100000) : (dUpto ll bads opens i).length ≤ 20000000000 :=
  Nat.le_trans (dUpto_len ll bads opens i) (Nat.le_trans (Nat.mul_le_mul hi (Nat.add_le_add hb ho)) (by decide))
theorem DRel.next {W3 wx : World} {n i : Nat} {ll : List (List Tok)} {l : List Tok} {bads opens : List Nat} {vd : Value} (hi : i < n) (hl : ll[i]? = some l) (hown : wx.ownsRow W3.heap.size 63 4 vd (dUpto ll bads opens i ++ hitL l 12 i bads ++ hitL l 13 i opens).length ((dUpto ll bads opens i ++ hitL l 12 i bads ++ hitL l 13 i opens).flatMap dgtCells)) (hb : Below W3.heap.size W3 wx) :
    DRel W3 n ll bads opens vd (.int .i64 ((i + 1 : Nat) : Int)) wx := by
  refine ⟨i + 1, hi, rfl, ?_, hb⟩
  have e : dUpto ll bads opens (i + 1) = dUpto ll bads opens i ++ hitL l 12 i bads ++ hitL l 13 i opens := by
    simp only [dUpto, dLine, hl, List.append_assoc]
  rw [e]
  exact hown
theorem row_cell {w wx : World} {base nb cbd j x : Nat} {Ab : Option Addr} {xs : List Nat} (h : w.ownsRow base 3 1 (.slice Ab nb cbd) nb (ints (natsI xs))) (hb : Below w.heap.size w wx) (hx : xs[j]? = some x) (hj : j < nb) : ∃ b, Ab = some ⟨b, 0, none⟩ ∧ wx.cell? ⟨b, j, none⟩ = some (.int .i64 (x : Int)) := by
  obtain ⟨g, cap, hv, _, hg⟩ := h.form (by omega)
  injection hv with hv1 _ hv2
  subst hv1 hv2
  refine ⟨g, rfl, (hb.cell (p := ⟨g, j, none⟩) hg).trans ?_⟩
  rw [h.cellAt j (by omega)]
  simp [ints, natsI, hx]
end Go.Proofs.Ytjklnlocmmnclaa
