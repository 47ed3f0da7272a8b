/- Conditions within conditions: what holds in each round. Conditions within conditions: bounds of the pure state; what Build hands back. -/
import Derived.Test.YtjklnlocmmnclaaIb
import Derived.Test.YtjklnlocmmnclaaWm
namespace Go.Proofs.Ytjklnlocmmnclaa
open Go.RowKit

theorem TabOk.isT {w : World} {tb : Nat} (h : TabOk w tb) : IsT w tb 90 := by
  rcases h with h | ⟨mb, h, _, _⟩
  · exact ⟨_, h⟩
  · exact ⟨_, h⟩
theorem TabOk.far {w w' : World} {tb : Nat} (h : TabOk w tb) (hk : ∀ b, b < w.heap.size → (∀ t, t ≠ 90 → ¬ IsT w b t) → w'.heap[b]? = w.heap[b]?) : TabOk w' tb := by
  have ht : w'.heap[tb]? = w.heap[tb]? := hk tb h.isT.lt fun t ht hi => hi.ne h.isT ht rfl
  rcases h with h | ⟨mb, h1, h2, h3⟩
  · exact .inl (ht.trans h)
  · refine .inr ⟨mb, ht.trans h1, ?_, h3⟩
    obtain ⟨es, c, h4, h5⟩ := h2
    refine ⟨es, c, (hk mb (lt_of_blk h4) fun t _ hi => ?_).trans h4, h5⟩
    obtain ⟨cs, h6⟩ := hi
    rw [h4] at h6
    cases h6

def ptrs (ms : List FMem) : List Value := ms.reverse.map fun m => .pointer (some ⟨m.ob, 0, none⟩)
theorem ptrs_len (ms : List FMem) : (ptrs ms).length = ms.length := by simp [ptrs]
theorem ptrs_cons (m : FMem) (ms : List FMem) : ptrs (m :: ms) = ptrs ms ++ [.pointer (some ⟨m.ob, 0, none⟩)] := by simp [ptrs]
structure BInv (w : World) (tb cb L : Nat) (F : Nat → Prop) (fs : List PF) (bads opens : List Nat) (ms : List FMem) (vs : Value) (wr : World) : Prop where
  below : Below w.heap.size w wr
  tab : TabOk wr tb
  tb0 : w.heap.size ≤ tb
  codes : wr.heap[cb]? = some (.cells (ints (codeL L bads opens)).toArray 3)
  cb0 : w.heap.size ≤ cb
  stk : wr.ownsRow w.heap.size 106 1 vs ms.length (ptrs ms)
  frs : FInv wr w.heap.size F fs ms
section
variable {w wr w' : World} {tb cb L : Nat} {F : Nat → Prop} {fs : List PF} {bads opens : List Nat} {ms : List FMem} {vs : Value}
theorem BInv.tcb (h : BInv w tb cb L F fs bads opens ms vs wr) : IsT wr cb 3 := ⟨_, h.codes⟩
theorem BInv.keep (h : BInv w tb cb L F fs bads opens ms vs wr) (hb : Below wr.heap.size wr w') : BInv w tb cb L F fs bads opens ms vs w' :=
  ⟨h.below.trans (hb.mono h.below.size), h.tab.below hb, h.tb0, (hb.block cb h.tcb.lt).trans h.codes, h.cb0, own_keep h.stk fun b hv => hb.block b (h.stk.lt b hv).2, h.frs.keep hb.size fun b hb' => by
    rcases hb' with h1 | h1 | h1
    · exact hb.block b h1.lt
    · exact hb.block b h1.lt
    · exact hb.block b h1.lt⟩
theorem BInv.ask (h : BInv w tb cb L F fs bads opens ms vs wr) (ht : TabOk w' tb) (hb : Bar tb wr w') : BInv w tb cb L F fs bads opens ms vs w' := by
  have hk : ∀ b t, IsT wr b t → t ≠ 90 → w'.heap[b]? = wr.heap[b]? := fun b t hi hn => hb.block b hi.lt (hi.ne h.tab.isT hn)
  refine ⟨⟨hb.os.trans h.below.os, hb.tape.trans h.below.tape, hb.output.trans h.below.output, Nat.le_trans h.below.size hb.size, fun b hl => ?_⟩, ht, h.tb0, (hk cb 3 h.tcb (by decide)).trans h.codes, h.cb0, own_keep h.stk fun b hv => hk b 106 (own_isT h.stk hv) (by decide), h.frs.keep hb.size fun b hb' => ?_⟩
  · have := h.tb0
    have := h.below.size
    exact (hb.block b (by omega) (by omega)).trans (h.below.block b hl)
  · rcases hb' with h1 | h1 | h1
    · exact hk b _ h1 (by decide)
    · exact hk b _ h1 (by decide)
    · exact hk b _ h1 (by decide)
theorem ints_set (l : List Int) (i : Nat) (x : Int) : (ints l).set i (.int .i64 x) = ints (l.set i x) := by
  unfold ints
  rw [List.map_set]
/-- A code is laid. -/
theorem BInv.code {i : Nat} {x : Int} {bads' opens' : List Nat} (h : BInv w tb cb L F fs bads opens ms vs wr) (hc : (codeL L bads opens).set i x = codeL L bads' opens') : BInv w tb cb L F fs bads' opens' ms vs (wr.setCell ⟨cb, i, none⟩ (.int .i64 x)) := by
  have hk : ∀ b, b ≠ cb → (wr.setCell ⟨cb, i, none⟩ (.int .i64 x)).heap[b]? = wr.heap[b]? := fun b hb => Below.heap_setCell _ _ _ _ hb
  have hk2 : ∀ b t, IsT wr b t → t ≠ 3 → (wr.setCell ⟨cb, i, none⟩ (.int .i64 x)).heap[b]? = wr.heap[b]? := fun b t hi hn => hk b (hi.ne h.tcb hn)
  refine ⟨h.below.setCell h.cb0 _, h.tab.far fun b hl ht => hk b fun e => ht 3 (by decide) (by rw [e]; exact h.tcb), h.tb0, ?_, h.cb0, own_keep h.stk fun b hv => hk2 b 106 (own_isT h.stk hv) (by decide), h.frs.keep (by simp [World.setCell]) fun b hb' => ?_⟩
  · rw [blk_set h.codes, ← hc, ← ints_set]
    simp
  · rcases hb' with h1 | h1 | h1
    · exact hk2 b _ h1 (by decide)
    · exact hk2 b _ h1 (by decide)
    · exact hk2 b _ h1 (by decide)
/-- A condition begins. -/
theorem BInv.push {i g cap ob ga : Nat} {w1 : World} (h : BInv w tb cb L F fs bads opens ms vs wr) (hz : wr.heap.size ≤ w1.heap.size) (hbl : Below w.heap.size w w1)
    (hown : w1.ownsRow w.heap.size 106 1 (.slice (some ⟨g, 0, none⟩) (ms.length + 1) cap) (ms.length + 1) (ptrs ms ++ [.pointer (some ⟨ob, 0, none⟩)])) (hk : ∀ b, b < wr.heap.size → vs.ownBlock ≠ some b → w1.heap[b]? = wr.heap[b]?)
    (hob : wr.heap.size ≤ ob) (hga : wr.heap.size ≤ ga) (h1 : w1.heap[ga]? = some (.cells #[.int .i64 (i : Int), .slice none 0 0] 68)) (h2 : w1.heap[ob]? = some (.cells #[.int .i64 (i : Int), .slice (some ⟨ga, 0, none⟩) 1 1, .bool false] 108)) :
    ∃ m, BInv w tb cb L F (newF i :: fs) bads opens (m :: ms) (.slice (some ⟨g, 0, none⟩) ((m :: ms).length) cap) w1 := by
  have hkt : ∀ b t, IsT wr b t → t ≠ 106 → w1.heap[b]? = wr.heap[b]? := fun b t hi hn => hk b hi.lt fun e => hi.ne (own_isT h.stk e) hn rfl
  have hbase := h.below.size
  refine ⟨⟨ob, ga, 1, [], none, 0, []⟩, hbl, h.tab.far fun b hl ht => hk b hl fun e => ht 106 (by decide) (own_isT h.stk e), h.tb0, (hkt cb 3 h.tcb (by decide)).trans h.codes, h.cb0, ?_, ?_⟩
  · rw [ptrs_cons]
    exact hown
  · refine h.frs.push hz (fun b hb' => ?_) ⟨h2, Nat.le_trans hbase hob, ?_, ?_, World.ownsRow_nil _ _ _ _, ?_⟩ hob hga rfl
    · rcases hb' with h1 | h1 | h1
      · exact hkt b _ h1 (by decide)
      · exact hkt b _ h1 (by decide)
      · exact hkt b _ h1 (by decide)
    · refine ⟨rfl, .inr ⟨ga, 1, _, rfl, by omega, h1, Nat.le_refl _, by simp [newF, maxLen], rfl, ?_⟩⟩
      rfl
    · simp only [newF, ArsOk]
    · simp only [newF, ItsOk]
/-- An item is put into the innermost arm. -/
theorem BInv.put {f : PF} {m : FMem} (h : BInv w tb cb L F (f :: fs) bads opens (m :: ms) vs wr) {x : It} {new : IRec} (hx : ItOk wr F x new) (hp : PutRet wr w.heap.size m.ga f.done.length m.ca m.iA f.cur.length m.iC m.arecs f.cl m.irecs new w') :
    ∃ m', BInv w tb cb L F (f.put x :: fs) bads opens (m' :: ms) vs w' := by
  obtain ⟨m', hf, he⟩ := h.frs.put hx hp
  have hm := h.frs.frs.1
  have hkt : ∀ b t, IsT wr b t → t ≠ 68 → t ≠ 66 → w'.heap[b]? = wr.heap[b]? := fun b t hi h1 h2 => hp.far b hi.lt (hi.ne hm.tga h1) (fun e => hi.ne (own_isT hm.itm e) h2 rfl)
  refine ⟨m', ⟨hp.os.trans h.below.os, hp.tape.trans h.below.tape, hp.output.trans h.below.output, Nat.le_trans h.below.size hp.size, fun b hl => ?_⟩, h.tab.far fun b hl ht => ?_, h.tb0, (hkt cb 3 h.tcb (by decide) (by decide)).trans h.codes, h.cb0, ?_, hf⟩
  · have h1 : w.heap.size ≤ m.ga := (hm.arm.lt _ rfl).1
    have := h.below.size
    exact (hp.far b (by omega) (by omega) (fun e => by have := (hm.itm.lt _ e).1; omega)).trans (h.below.block b hl)
  · exact hp.far b hl (fun e => ht 68 (by decide) (by rw [e]; exact hm.tga)) (fun e => ht 66 (by decide) (own_isT hm.itm e))
  · have h2 := own_keep h.stk fun b hv => hkt b 106 (own_isT h.stk hv) (by decide) (by decide)
    rw [ptrs_cons] at h2 ⊢
    rw [he]
    exact h2
/-- A row that loses its last cell. -/
theorem own_less {w : World} {base : Nat} {e : TypeId} {g n cap : Nat} {xs : List Value} {u : Value} (h : w.ownsRow base e 1 (.slice (some ⟨g, 0, none⟩) (n + 1) cap) (n + 1) (xs ++ [u])) : w.ownsRow base e 1 (.slice (some ⟨g, 0, none⟩) n cap) n xs := by
  have hl : xs.length = n := by have := h.1; simp at this; omega
  refine ⟨by simpa using hl, ?_⟩
  rcases h.2 with ⟨hv, _⟩ | ⟨g', cap', cur, hv, h1, h2, h3, h4, h5, h6⟩
  · simp at hv
  · simp only [Value.slice.injEq, Option.some.injEq, Addr.mk.injEq, and_true, true_and] at hv
    obtain ⟨rfl, rfl⟩ := hv
    refine .inr ⟨g, cap, cur, rfl, h1, h2, by omega, h4, h5, ?_⟩
    have h7 := congrArg (List.take n) h6
    rw [List.take_take, List.take_left' hl] at h7
    rw [← h7]
    congr 1
    omega
/-- The innermost condition ends. -/
theorem BInv.pop {f f1 : PF} {m m1 : FMem} {g cap : Nat} (h : BInv w tb cb L F (f1 :: f :: fs) bads opens (m1 :: m :: ms) (.slice (some ⟨g, 0, none⟩) (ms.length + 2) cap) wr)
    (hp : PutRet wr w.heap.size m.ga f.done.length m.ca m.iA f.cur.length m.iC m.arecs f.cl m.irecs ⟨2, f1.line, some ⟨m1.ga, 0, none⟩, f1.done.length + 1, m1.ca⟩ w') :
    ∃ m' G, BInv w tb cb L G (f.put f1.item :: fs) bads opens (m' :: ms) (.slice (some ⟨g, 0, none⟩) (ms.length + 1) cap) w' := by
  have hm1 := h.frs.frs.1
  have hm := h.frs.frs.2.1
  obtain ⟨A1, c1, hv1, hca, hcm, _⟩ := own_form hm1.arm
  injection hv1 with _ _ hc1
  subst hc1
  obtain ⟨A2, c2, hv2, hic, hicm, _⟩ := own_form hm1.itm
  injection hv2 with _ _ hc2
  subst hc2
  obtain ⟨m', G, hf, he⟩ := h.frs.pop hp hca hcm hic hicm
  have hkt : ∀ b t, IsT wr b t → t ≠ 68 → t ≠ 66 → w'.heap[b]? = wr.heap[b]? := fun b t hi h1 h2 => hp.far b hi.lt (hi.ne hm.tga h1) (fun e => hi.ne (own_isT hm.itm e) h2 rfl)
  refine ⟨m', G, ⟨hp.os.trans h.below.os, hp.tape.trans h.below.tape, hp.output.trans h.below.output, Nat.le_trans h.below.size hp.size, fun b hl => ?_⟩, h.tab.far fun b hl ht => ?_, h.tb0, (hkt cb 3 h.tcb (by decide) (by decide)).trans h.codes, h.cb0, ?_, hf⟩
  · have h1 : w.heap.size ≤ m.ga := (hm.arm.lt _ rfl).1
    have := h.below.size
    exact (hp.far b (by omega) (by omega) (fun e => by have := (hm.itm.lt _ e).1; omega)).trans (h.below.block b hl)
  · exact hp.far b hl (fun e => ht 68 (by decide) (by rw [e]; exact hm.tga)) (fun e => ht 66 (by decide) (own_isT hm.itm e))
  · have h2 := own_keep h.stk fun b hv => hkt b 106 (own_isT h.stk hv) (by decide) (by decide)
    rw [ptrs_cons] at h2
    have h3 := own_less (n := ms.length + 1) h2
    rw [ptrs_cons] at h3 ⊢
    rw [he]
    exact h3
/-- An arm more. -/
theorem BInv.arm {f : PF} {m : FMem} {i g cap : Nat} {last : Bool} {w1 : World} (h : BInv w tb cb L F (f :: fs) bads opens (m :: ms) vs wr) (hz : wr.heap.size ≤ w1.heap.size) (hbl : Below w.heap.size w w1)
    (hown : w1.ownsRow w.heap.size 68 2 (.slice (some ⟨g, 0, none⟩) (f.done.length + 1 + 1) cap) (f.done.length + 1 + 1) ((m.arecs ++ ([⟨(f.cl : Int), m.iA, f.cur.length, m.iC⟩] : List ARec)).flatMap aCells ++ [.int .i64 (i : Int), .slice none 0 0]))
    (hk : ∀ b, b < wr.heap.size → b ≠ m.ga → w1.heap[b]? = wr.heap[b]?) (hat : g = m.ga ∨ wr.heap.size ≤ g) :
    ∃ m' G, BInv w tb cb L G (f.arm i last :: fs) bads opens (m' :: ms) vs ((w1.setCell ⟨m.ob, 1, none⟩ (.slice (some ⟨g, 0, none⟩) (f.done.length + 1 + 1) cap)).setCell ⟨m.ob, 2, none⟩ (.bool last)) := by
  have hm := h.frs.frs.1
  have hobl := hm.tob.lt
  have hobg : m.ob ≠ m.ga := hm.tob.ne hm.tga (by decide)
  have hobg2 : m.ob ≠ g := by
    rcases hat with e | e
    · rw [e]; exact hobg
    · omega
  generalize hw2 : (w1.setCell ⟨m.ob, 1, none⟩ (.slice (some ⟨g, 0, none⟩) (f.done.length + 1 + 1) cap)).setCell ⟨m.ob, 2, none⟩ (.bool last) = w2
  have hz2 : w2.heap.size = w1.heap.size := by rw [← hw2, setCell_size, setCell_size]
  have hk2 : ∀ b, b ≠ m.ob → w2.heap[b]? = w1.heap[b]? := fun b hb => by
    rw [← hw2, Below.heap_setCell _ _ _ _ hb, Below.heap_setCell _ _ _ _ hb]
  have hk3 : ∀ b, b < wr.heap.size → b ≠ m.ga → b ≠ m.ob → w2.heap[b]? = wr.heap[b]? := fun b hb h1 h2 => (hk2 b h2).trans (hk b hb h1)
  have hkt : ∀ b t, IsT wr b t → t ≠ 68 → t ≠ 108 → w2.heap[b]? = wr.heap[b]? := fun b t hi h1 h2 => hk3 b hi.lt (hi.ne hm.tga h1) (hi.ne hm.tob h2)
  have hbl2 : Below w.heap.size w w2 := by
    rw [← hw2]
    exact (hbl.setCell (p := ⟨m.ob, 1, none⟩) hm.ob0 _).setCell (p := ⟨m.ob, 2, none⟩) hm.ob0 _
  have hob2 : w2.heap[m.ob]? = some (.cells #[.int .i64 (f.line : Int), .slice (some ⟨g, 0, none⟩) (f.done.length + 1 + 1) cap, .bool last] 108) := by
    have e1 := (hk m.ob hobl hobg).trans hm.blk
    have e2 := blk_set (i := 1) e1 (.slice (some ⟨g, 0, none⟩) (f.done.length + 1 + 1) cap)
    have e3 := blk_set (i := 2) e2 (.bool last)
    rw [hw2] at e3
    simpa using e3
  have hFT : ∀ b, F b → w2.heap[b]? = wr.heap[b]? := fun b hb => hk3 b (h.frs.F0 b hb).2 (fun e => (h.frs.F2 b hb m List.mem_cons_self).1 e.symm) (h.frs.F3 hb (by decide) (by decide) _ hm.tob)
  have hibk : ∀ b, m.ib = some b → w2.heap[b]? = wr.heap[b]? := fun b hb => hkt b 66 (hm.tib hb) (by decide) (by decide)
  have hcF : Carry wr w2 F (fun b => F b ∨ m.ib = some b) := carry_of hFT fun b hb => .inl hb
  have hcI : Carry wr w2 (fun b => m.ib = some b) (fun b => F b ∨ m.ib = some b) := carry_of hibk fun b hb => .inr hb
  obtain ⟨A2, c2, hv2, hic, hicm, _⟩ := own_form hm.itm
  injection hv2 with _ _ hc2
  subst hc2
  refine ⟨⟨m.ob, g, cap, m.arecs ++ ([⟨(f.cl : Int), m.iA, f.cur.length, m.iC⟩] : List ARec), none, 0, []⟩, fun b => F b ∨ m.ib = some b, hbl2, h.tab.far fun b hl ht => ?_, h.tb0, (hkt cb 3 h.tcb (by decide) (by decide)).trans h.codes, h.cb0, ?_, ?_⟩
  · exact hk3 b hl (fun e => ht 68 (by decide) (by rw [e]; exact hm.tga)) (fun e => ht 108 (by decide) (by rw [e]; exact hm.tob))
  · have h2 := own_keep h.stk fun b hv => hkt b 106 (own_isT h.stk hv) (by decide) (by decide)
    rw [ptrs_cons] at h2 ⊢
    exact h2
  · refine h.frs.turn (by omega) (fun b hb ht => hk3 b hb (fun e => ht (.inl e)) (fun e => ht (.inr (.inr e)))) ⟨?_, hm.ob0, ?_, ?_, World.ownsRow_nil _ _ _ _, ?_⟩ rfl hat (fun b hb => by simp [FMem.ib] at hb) (fun b hb => .inl hb) (fun b hb => ?_)
    · simpa [PF.arm] using hob2
    · have h3 : w2.ownsRow w.heap.size 68 2 (.slice (some ⟨g, 0, none⟩) (f.done.length + 1 + 1) cap) (f.done.length + 1 + 1) ((m.arecs ++ ([⟨(f.cl : Int), m.iA, f.cur.length, m.iC⟩] : List ARec)).flatMap aCells ++ [.int .i64 (i : Int), .slice none 0 0]) :=
        own_keep hown fun b hv => hk2 b fun e => hobg2 (by rw [← e]; simpa [Value.ownBlock] using hv.symm)
      simpa [PF.arm, aCells] using h3
    · simp only [PF.arm]
      refine (hm.ars.carry hcF).append (ArsOk.one ?_)
      simp only [ArOk]
      exact ⟨trivial, hic, hicm, _, hcI _ _ _ _ (Sl.of_own hm.itm (fun g hg => by simp [FMem.ib, hg])), hm.its.carry hcF⟩
    · simp only [PF.arm, ItsOk]
    · rcases hb with hb | hb
      · exact .inl hb
      · exact .inr ⟨hb, rfl, (hm.tib hb).keep (hibk b hb)⟩
end
end Go.Proofs.Ytjklnlocmmnclaa
namespace Go.Proofs.Ytjklnlocmmnclaa
open Go.RowKit

structure POk (ks : List (Nat × Bool)) (i : Nat) (s : BSt) : Prop where
  ne : s.1 ≠ []
  len : s.1.length ≤ i + 1
  bnd : ∀ f ∈ s.1, f.done.length ≤ i ∧ f.cur.length ≤ i
  bads : ∀ b ∈ s.2, b < i ∧ ∃ x, ks[b]? = some x ∧ 5 ≤ x.1 ∧ x.1 ≤ 7
  opens : ∀ f ∈ s.1.dropLast, f.line < i ∧ ∃ x, ks[f.line]? = some x ∧ 2 ≤ x.1 ∧ x.1 ≤ 4
  base : ∀ f, s.1.getLast? = some f → f.done = []
theorem POk.init (ks : List (Nat × Bool)) : POk ks 0 initB := by
  refine ⟨by simp [initB], by simp [initB], ?_, ?_, ?_, ?_⟩ <;> simp [initB]
theorem POk.step {ks : List (Nat × Bool)} {i : Nat} {s : BSt} (h : POk ks i s) {kd : Nat} {ne : Bool} (hx : ks[i]? = some (kd, ne)) : POk ks (i + 1) (stepB i kd ne s) := by
  obtain ⟨fs, bads⟩ := s
  obtain ⟨h1, h2, h3, h4, h5, h6⟩ := h
  match fs, h1, h2, h3, h5, h6 with
  | f :: r, h1, h2, h3, h5, h6 =>
    have hb : ∀ b ∈ bads, b < i + 1 ∧ ∃ x, ks[b]? = some x ∧ 5 ≤ x.1 ∧ x.1 ≤ 7 := fun b hb => ⟨by have := (h4 b hb).1; omega, (h4 b hb).2⟩
    have hbb : (5 ≤ kd ∧ kd ≤ 7) → ∀ b ∈ bads ++ [i], b < i + 1 ∧ ∃ x, ks[b]? = some x ∧ 5 ≤ x.1 ∧ x.1 ≤ 7 := fun hk b hb' => by
      rcases List.mem_append.1 hb' with hb' | hb'
      · exact hb b hb'
      · have : b = i := by simpa using hb'
        subst this
        exact ⟨by omega, _, hx, hk⟩
    have hm : ∀ g ∈ f :: r, g.done.length ≤ i + 1 ∧ g.cur.length ≤ i + 1 := fun g hg => by have := h3 g hg; omega
    have ho : ∀ g ∈ (f :: r).dropLast, g.line < i + 1 ∧ ∃ x, ks[g.line]? = some x ∧ 2 ≤ x.1 ∧ x.1 ≤ 4 := fun g hg => ⟨by have := (h5 g hg).1; omega, (h5 g hg).2⟩
    have hswap : ∀ f' : PF, f'.line = f.line → (r = [] → f'.done = f.done) → f'.done.length ≤ i + 1 → f'.cur.length ≤ i + 1 → ∀ bb, (∀ b ∈ bb, b < i + 1 ∧ ∃ x, ks[b]? = some x ∧ 5 ≤ x.1 ∧ x.1 ≤ 7) → POk ks (i + 1) (f' :: r, bb) := fun f' e1 e2 e3 e4 bb hbb' => by
      refine ⟨by simp, by simp at h2 ⊢; omega, fun g hg => ?_, hbb', fun g hg => ?_, fun g hg => ?_⟩
      · rcases List.mem_cons.1 hg with rfl | hg
        · exact ⟨e3, e4⟩
        · exact hm g (List.mem_cons_of_mem _ hg)
      · match r, hg, ho with
        | [], hg, _ => simp at hg
        | x :: r, hg, ho =>
          simp only [List.dropLast_cons_cons, List.mem_cons] at hg
          rcases hg with rfl | hg
          · rw [e1]
            exact ho f (by simp)
          · exact ho g (by simp only [List.dropLast_cons_cons, List.mem_cons]; exact .inr hg)
      · match r, hg, h6, e2 with
        | [], hg, h6, e2 =>
          simp at hg
          subst hg
          rw [e2 rfl]
          exact h6 f (by simp)
        | x :: r, hg, h6, _ =>
          rw [List.getLast?_cons_cons] at hg
          exact h6 g (by rw [List.getLast?_cons_cons]; exact hg)
    simp only [stepB]
    split
    · rename_i hk
      refine ⟨by simp, by simp at h2 ⊢; omega, fun g hg => ?_, hb, fun g hg => ?_, fun g hg => ?_⟩
      · rcases List.mem_cons.1 hg with rfl | hg
        · simp [newF]
        · exact hm g hg
      · simp only [List.dropLast_cons_cons, List.mem_cons] at hg
        rcases hg with rfl | hg
        · exact ⟨by simp [newF], _, hx, hk⟩
        · exact ho g hg
      · rw [List.getLast?_cons_cons] at hg
        exact h6 g hg
    · split
      · rename_i hk
        split
        · exact hswap f rfl (fun _ => rfl) (hm f (by simp)).1 (hm f (by simp)).2 _ (hbb (by omega))
        · rename_i hr
          have hf := h3 f (by simp)
          refine hswap (f.arm i (kd == 6)) rfl (fun e => ?_) (by simp [PF.arm]; omega) (by simp [PF.arm]) _ hb
          subst e
          simp at hr
      · split
        · rename_i hk
          split
          · exact hswap f rfl (fun _ => rfl) (hm f (by simp)).1 (hm f (by simp)).2 _ (hbb (by omega))
          · rename_i g r'
            have hg0 := h3 g (by simp)
            refine ⟨by simp, by simp at h2 ⊢; omega, fun x hg => ?_, hb, fun x hg => ?_, fun x hg => ?_⟩
            · rcases List.mem_cons.1 hg with rfl | hg
              · simp [PF.put]; omega
              · exact hm x (by simp [hg])
            · match r', hg, ho with
              | [], hg, _ => simp at hg
              | y :: r', hg, ho =>
                simp only [List.dropLast_cons_cons, List.mem_cons] at hg
                rcases hg with rfl | hg
                · exact ho g (by simp)
                · exact ho x (by simp only [List.dropLast_cons_cons, List.mem_cons]; exact .inr (.inr hg))
            · match r', hg, h6 with
              | [], hg, h6 =>
                simp at hg
                subst hg
                have := h6 g (by simp)
                simpa [PF.put] using this
              | y :: r', hg, h6 =>
                rw [List.getLast?_cons_cons] at hg
                exact h6 x (by rw [List.getLast?_cons_cons, List.getLast?_cons_cons]; exact hg)
        · split
          · have hf := h3 f (by simp)
            exact hswap (f.put (.mk kd i [])) rfl (fun _ => rfl) (by simp [PF.put]; omega) (by simp [PF.put]; omega) _ hb
          · exact hswap f rfl (fun _ => rfl) (hm f (by simp)).1 (hm f (by simp)).2 _ hb
theorem POk.run (ks : List (Nat × Bool)) : ∀ i, i ≤ ks.length → POk ks i (runB 0 (ks.take i) initB)
  | 0, _ => by simpa [runB] using POk.init ks
  | i + 1, h => by
    have hx : ks[i]? = some ks[i] := List.getElem?_eq_getElem (by omega)
    rw [runB_next hx]
    exact (POk.run ks i (by omega)).step hx

def ksOf (ll : List (List Tok)) : List (Nat × Bool) := ll.map fun l => (kindT l, decide (0 < l.length))
def stP (ll : List (List Tok)) : BSt := runB 0 (ksOf ll) initB
def itemsOf : List PF → List It
  | [] => []
  | f :: r => finB f r
def opensOf : List PF → List Nat
  | [] => []
  | f :: r => opensB f r
def itemsP (ll : List (List Tok)) : List It := itemsOf (stP ll).1
def diagsP (ll : List (List Tok)) : List DgT := diagL ll (codeL ll.length (stP ll).2 (opensOf (stP ll).1))
def BuildRet (w : World) (ll : List (List Tok)) (e : Ending) (w' : World) : Prop :=
  ∃ A c vd, e = .returned (.tuple #[.slice A (itemsP ll).length c, vd]) ∧ (itemsP ll).length ≤ c ∧ c ≤ maxLen ∧ Its w' (fun b => w.heap.size ≤ b ∧ b < w'.heap.size) A (itemsP ll).length (itemsP ll) ∧
    w'.ownsRow w.heap.size 63 4 vd (diagsP ll).length ((diagsP ll).flatMap dgtCells) ∧ Below w.heap.size w w'
theorem opensB_mem : ∀ (r : List PF) (f : PF) (x : Nat), x ∈ opensB f r → ∃ g ∈ (f :: r).dropLast, g.line = x
  | [], f, x, h => by simp [opensB] at h
  | g :: r, f, x, h => by
    simp only [opensB, List.mem_cons] at h
    rcases h with rfl | h
    · exact ⟨f, by simp, rfl⟩
    · obtain ⟨g', h1, h2⟩ := opensB_mem r g x h
      exact ⟨g', by simp [h1], h2⟩
end Go.Proofs.Ytjklnlocmmnclaa
