/- Walks: groups.Build. -/
import Derived.Test.YtjklnlocmmnclaaGf9
import Derived.Laws.MakeOwn
import Derived.Test.YtjklnlocmmnclaaWr9
namespace Go.Proofs.Ytjklnlocmmnclaa
open Go.RowKit

set_option maxRecDepth 100000 in
theorem run_make_ints (n : Nat) (hn : n ≤ 1000000) (w : World) : (Instr.makeSlice 54 (.int .i64 (n : Int)) (.int .i64 (n : Int))).run Try.prog w = .ok (.slice (some ⟨w.heap.size, 0, none⟩) n n) (w.alloc (.cells (ints (codeL n [] [])).toArray 3)) := by
  obtain ⟨i, z, h1, h2, h3, h4, h5, h6, h7⟩ := el54.out
  have hz : (Try.prog.info? 3).map (fun i => (i.zero, i.size, i.bytes)) = some (some (.int .i64 0), 1, 8) := by kernel_rfl
  obtain ⟨i', e1, e2, e3, e4⟩ := info_parts hz
  obtain rfl := Option.some.inj (h2.symm.trans e1)
  have hr := run_make (P := Try.prog) w 54 3 i (.int .i64 0) h1 h2 e2 .i64 .i64 n n (by omega) (by omega) (by rw [e4]; omega) (by omega)
  rw [Int.toNat_natCast, e3, Nat.mul_one] at hr
  rw [hr]
  congr 3
  apply Array.ext'
  have := toList_madeCells_one (.int .i64 0) n
  rw [show (Value.int .i64 0).cells = #[.int .i64 0] from rfl, this]
  simp only [ints, codeL, List.map_map]
  apply List.ext_getElem?
  intro j
  by_cases hj : j < n
  · simp [hj, codeAt]
  · simp [hj]
theorem run_make_arm (w : World) : (Instr.makeSlice 64 (.int .i64 1) (.int .i64 1)).run Try.prog w = .ok (.slice (some ⟨w.heap.size, 0, none⟩) 1 1) (w.alloc (.cells #[.int .i64 0, .slice none 0 0] 68)) := by kernel_rfl

def BRel (w : World) (tb cb L : Nat) (ll : List (List Tok)) (vs iv : Value) (wr : World) : Prop :=
  ∃ (k : Nat) (F : Nat → Prop) (ms : List FMem), k ≤ L ∧ iv = .int .i64 k ∧ BInv w tb cb L F (runB 0 ((ksOf ll).take k) initB).1 (runB 0 ((ksOf ll).take k) initB).2 [] ms vs wr
theorem alloc_get (w : World) (o : Obj) {b : Nat} {o' : Obj} (h : w.heap[b]? = some o') : (w.alloc o).heap[b]? = some o' := (Below.heap_alloc w o b (lt_of_blk h)).trans h
theorem alloc_new {w : World} (o : Obj) {b : Nat} (h : w.heap.size = b) : (w.alloc o).heap[b]? = some o := by rw [← h]; exact heap_alloc_new w o
theorem binv_start (w : World) (n : Nat) : BInv w w.heap.size (w.heap.size + 1) n (fun _ => False) initB.1 initB.2 [] [⟨w.heap.size + 1 + 1 + 1, w.heap.size + 1 + 1, 1, [], none, 0, []⟩] (.slice (some ⟨w.heap.size + 1 + 1 + 1 + 1, 0, none⟩) 1 1)
    (((((w.alloc (Obj.cells #[.int .u32 0, .int .i32 0, .int .u32 0, .map none] 90)).alloc (Obj.cells (ints (codeL n [] [])).toArray 3)).alloc (Obj.cells #[.int .i64 0, .slice none 0 0] 68)).alloc
      (Obj.cells #[.int .i64 0, .slice (some ⟨w.heap.size + 1 + 1, 0, none⟩) 1 1, .bool false] 108)).alloc (Obj.cells #[.pointer (some ⟨w.heap.size + 1 + 1 + 1, 0, none⟩)] 106)) := by
  generalize h1 : w.alloc (Obj.cells #[.int .u32 0, .int .i32 0, .int .u32 0, .map none] 90) = w1
  generalize h2 : w1.alloc (Obj.cells (ints (codeL n [] [])).toArray 3) = w2
  generalize h3 : w2.alloc (Obj.cells #[.int .i64 0, .slice none 0 0] 68) = w3
  generalize h4 : w3.alloc (Obj.cells #[.int .i64 0, .slice (some ⟨w.heap.size + 1 + 1, 0, none⟩) 1 1, .bool false] 108) = w4
  generalize h5 : w4.alloc (Obj.cells #[.pointer (some ⟨w.heap.size + 1 + 1 + 1, 0, none⟩)] 106) = w5
  have s1 : w1.heap.size = w.heap.size + 1 := by rw [← h1]; simp
  have s2 : w2.heap.size = w.heap.size + 1 + 1 := by rw [← h2, World.size_alloc, s1]
  have s3 : w3.heap.size = w.heap.size + 1 + 1 + 1 := by rw [← h3, World.size_alloc, s2]
  have s4 : w4.heap.size = w.heap.size + 1 + 1 + 1 + 1 := by rw [← h4, World.size_alloc, s3]
  have b5 : Below w.heap.size w w5 := by
    rw [← h5, ← h4, ← h3, ← h2, ← h1]
    exact (((((Below.refl _ _).alloc (Nat.le_refl _) _).alloc (by simp) _).alloc (by simp; omega) _).alloc (by simp; omega) _).alloc (by simp; omega) _
  have g1 : w5.heap[w.heap.size]? = some (Obj.cells #[.int .u32 0, .int .i32 0, .int .u32 0, .map none] 90) := by
    rw [← h5]; refine alloc_get _ _ ?_
    rw [← h4]; refine alloc_get _ _ ?_
    rw [← h3]; refine alloc_get _ _ ?_
    rw [← h2]; refine alloc_get _ _ ?_
    rw [← h1]; exact heap_alloc_new w _
  have g2 : w5.heap[w.heap.size + 1]? = some (Obj.cells (ints (codeL n [] [])).toArray 3) := by
    rw [← h5]; refine alloc_get _ _ ?_
    rw [← h4]; refine alloc_get _ _ ?_
    rw [← h3]; refine alloc_get _ _ ?_
    rw [← h2]; exact alloc_new _ s1
  have g3 : w5.heap[w.heap.size + 1 + 1]? = some (Obj.cells #[.int .i64 0, .slice none 0 0] 68) := by
    rw [← h5]; refine alloc_get _ _ ?_
    rw [← h4]; refine alloc_get _ _ ?_
    rw [← h3]; exact alloc_new _ s2
  have g4 : w5.heap[w.heap.size + 1 + 1 + 1]? = some (Obj.cells #[.int .i64 0, .slice (some ⟨w.heap.size + 1 + 1, 0, none⟩) 1 1, .bool false] 108) := by
    rw [← h5]; refine alloc_get _ _ ?_
    rw [← h4]; exact alloc_new _ s3
  have g5 : w5.heap[w.heap.size + 1 + 1 + 1 + 1]? = some (Obj.cells #[.pointer (some ⟨w.heap.size + 1 + 1 + 1, 0, none⟩)] 106) := by
    rw [← h5]; exact alloc_new _ s4
  refine ⟨b5, .inl g1, Nat.le_refl _, g2, by omega, ⟨rfl, .inr ⟨_, 1, _, rfl, by omega, g5, Nat.le_refl _, by simp [maxLen], rfl, rfl⟩⟩, ⟨⟨⟨g4, by simp only []; omega, ⟨rfl, .inr ⟨_, 1, _, rfl, by simp only []; omega, g3, Nat.le_refl _, by simp [maxLen, initB], rfl, rfl⟩⟩, ?_, World.ownsRow_nil _ _ _ _, ?_⟩, trivial⟩, by simp, fun _ h => h.elim, fun _ h => h.elim, fun _ h => h.elim⟩⟩
  · simp only [ArsOk]
  · simp only [ItsOk]
theorem BInv.top_cell {w wr : World} {tb cb L : Nat} {F : Nat → Prop} {fs : List PF} {bads opens : List Nat} {m : FMem} {mr : List FMem} {sb cap : Nat} (h : BInv w tb cb L F fs bads opens (m :: mr) (.slice (some ⟨sb, 0, none⟩) (mr.length + 1) cap) wr) :
    wr.cell? ⟨sb, mr.length, none⟩ = some (.pointer (some ⟨m.ob, 0, none⟩)) := by
  have hs := h.stk
  rw [ptrs_cons] at hs
  rw [World.ownsRow.cellAt (n := mr.length + 1) hs mr.length (by omega), List.getElem?_append_right (by rw [ptrs_len]; omega), ptrs_len]
  simp
theorem BInv.next_cell {w wr : World} {tb cb L : Nat} {F : Nat → Prop} {fs : List PF} {bads opens : List Nat} {m1 m : FMem} {mr : List FMem} {sb cap : Nat} (h : BInv w tb cb L F fs bads opens (m1 :: m :: mr) (.slice (some ⟨sb, 0, none⟩) (mr.length + 2) cap) wr) :
    wr.cell? ⟨sb, mr.length, none⟩ = some (.pointer (some ⟨m.ob, 0, none⟩)) := by
  have hs := h.stk
  rw [ptrs_cons, ptrs_cons] at hs
  rw [World.ownsRow.cellAt (n := mr.length + 2) hs mr.length (by omega), List.append_assoc, List.getElem?_append_right (by rw [ptrs_len]; omega), ptrs_len]
  simp
theorem BInv.code_cell {w wr : World} {tb cb L : Nat} {F : Nat → Prop} {fs : List PF} {bads opens : List Nat} {ms : List FMem} {vs : Value} (h : BInv w tb cb L F fs bads opens ms vs wr) {i : Nat} (hi : i < L) :
    wr.cell? ⟨cb, i, none⟩ = some (.int .i64 (codeAt bads opens i)) := by
  rw [cell_of_row wr cb i _ _ _ h.codes]
  simp [ints, codeL_get _ _ hi]
theorem push_fin {w w1 wA : World} {tb cb L : Nat} {F : Nat → Prop} {fs : List PF} {bads opens : List Nat} {ms : List FMem} {vs : Value} {k g cap : Nat} (h : BInv w tb cb L F fs bads opens ms vs w1)
    (hown : wA.ownsRow w.heap.size 106 1 (.slice (some ⟨g, 0, none⟩) (ms.length + 1) cap) (ms.length + 1) (ptrs ms ++ [.pointer (some ⟨w1.heap.size + 1, 0, none⟩)]))
    (hg : ((w1.alloc (Obj.cells #[.int .i64 (k : Int), .slice none 0 0] 68)).alloc (Obj.cells #[.int .i64 (k : Int), .slice (some ⟨w1.heap.size, 0, none⟩) 1 1, .bool false] 108)).grownBy wA vs.ownBlock) :
    ∃ m, BInv w tb cb L F (newF k :: fs) bads opens (m :: ms) (.slice (some ⟨g, 0, none⟩) ((m :: ms).length) cap) wA := by
  have hz := hg.size
  simp only [World.size_alloc] at hz
  have hvl : ∀ b, vs.ownBlock = some b → b < w1.heap.size := fun b hb => (h.stk.lt b hb).2
  refine h.push (by omega) ?_ hown (fun b hb hne => ?_) (ob := w1.heap.size + 1) (ga := w1.heap.size) (by omega) (Nat.le_refl _) ?_ ?_
  · exact below_app ((h.below.alloc h.below.size _).alloc (by have := h.below.size; simp; omega) _) ((h.stk.alloc _).alloc _) hg (by have := h.below.size; simp; omega)
  · rw [hg.block b (by simp; omega) (fun e => hne e.symm), Below.heap_alloc _ _ _ (by simp; omega), Below.heap_alloc _ _ _ hb]
  · exact (hg.block _ (by simp; omega) (fun e => by have := hvl _ e.symm; omega)).trans (heap_alloc_old2 w1 _ _)
  · refine (hg.block _ (by simp) (fun e => by have := hvl _ e.symm; omega)).trans ?_
    have h2 := heap_alloc_new (w1.alloc (Obj.cells #[.int .i64 (k : Int), .slice none 0 0] 68)) (Obj.cells #[.int .i64 (k : Int), .slice (some ⟨w1.heap.size, 0, none⟩) 1 1, .bool false] 108)
    rw [World.size_alloc] at h2
    exact h2
theorem arm_fin {w w1 wA : World} {tb cb L : Nat} {F : Nat → Prop} {f : PF} {fs : List PF} {bads opens : List Nat} {m : FMem} {ms : List FMem} {vs : Value} {k g cap : Nat} {last : Bool} (h : BInv w tb cb L F (f :: fs) bads opens (m :: ms) vs w1)
    (hown : wA.ownsRow w.heap.size 68 2 (.slice (some ⟨g, 0, none⟩) (f.done.length + 1 + 1) cap) (f.done.length + 1 + 1) ((m.arecs ++ ([⟨(f.cl : Int), m.iA, f.cur.length, m.iC⟩] : List ARec)).flatMap aCells ++ [.int .i64 (k : Int), .slice none 0 0]))
    (hg : w1.grownBy wA (some m.ga)) (hat : (Value.slice (some ⟨m.ga, 0, none⟩) (f.done.length + 1) m.ca).ownBlock = some g ∨ g = w1.heap.size + 1) :
    ∃ m' G, BInv w tb cb L G (f.arm k last :: fs) bads opens (m' :: ms) vs ((wA.setCell ⟨m.ob, 1, none⟩ (.slice (some ⟨g, 0, none⟩) (f.done.length + 1 + 1) cap)).setCell ⟨m.ob, 2, none⟩ (.bool last)) := by
  have hm := h.frs.frs.1
  refine h.arm hg.size (below_app h.below hm.arm hg h.below.size) hown (fun b hb hne => hg.block b hb (fun e => hne (by injection e))) ?_
  rcases hat with e | e
  · left
    simpa [Value.ownBlock] using e.symm
  · right
    omega
def BRel2 (w : World) (tb cb L : Nat) (ll : List (List Tok)) (vs : Value) (wr : World) : Prop :=
  ∃ (f : PF) (r : List PF) (F : Nat → Prop) (ms : List FMem) (os : List Nat), BInv w tb cb L F (f :: r) (stP ll).2 os ms vs wr ∧ finB f r = itemsP ll ∧ os ++ opensB f r = opensOf (stP ll).1 ∧
    (∀ g ∈ f :: r, g.done.length ≤ 100000 ∧ g.cur.length ≤ 100000 + os.length) ∧ os.length + r.length ≤ 100000 ∧ ∀ g, (f :: r).getLast? = some g → g.done = []
theorem told_two {ll : List (List Tok)} {k : Nat} {os : List Nat} (hP : POk (ksOf ll) k (stP ll)) (hos : os = opensOf (stP ll).1) {i : Nat} {l : List Tok} {x : Int} (hl : ll[i]? = some l) (hx : (codeL k (stP ll).2 os)[i]? = some x) (h0 : x ≠ 0) : 2 ≤ l.length := by
  have hi : i < k := by
    have := (List.getElem?_eq_some_iff.1 hx).1
    rwa [codeL_len] at this
  rw [codeL_get _ _ hi] at hx
  have hx' := Option.some.inj hx
  have hk : ∃ y, (ksOf ll)[i]? = some y ∧ 2 ≤ y.1 := by
    unfold codeAt at hx'
    split at hx'
    · rename_i hm
      rw [hos] at hm
      cases hs : (stP ll).1 with
      | nil => rw [hs] at hm; simp [opensOf] at hm
      | cons f r =>
        rw [hs] at hm
        obtain ⟨g, hg, rfl⟩ := opensB_mem r f i hm
        obtain ⟨_, y, h1, h2, _⟩ := hP.opens g (by rw [hs]; exact hg)
        exact ⟨y, h1, h2⟩
    · split at hx'
      · rename_i hm
        obtain ⟨_, y, h1, h2, _⟩ := hP.bads i hm
        exact ⟨y, h1, by omega⟩
      · exact absurd hx'.symm h0
  obtain ⟨y, h1, h2⟩ := hk
  simp only [ksOf, List.getElem?_map, hl, Option.map_some, Option.some.injEq] at h1
  subst h1
  have h2' : 2 ≤ kindT l := h2
  exact kindT_ge (by omega)
theorem build_fin {w wr wF : World} {tb cb L : Nat} {ll : List (List Tok)} {F : Nat → Prop} {f : PF} {bads opens : List Nat} {m : FMem} {vs vd : Value} {W : World} (h : BInv w tb cb L F [f] bads opens [m] vs wr) (hf : f.cur = itemsP ll)
    (hvd : wF.ownsRow W.heap.size 63 4 vd (diagsP ll).length ((diagsP ll).flatMap dgtCells)) (hbF : Below W.heap.size W wF) (hS : Below wr.heap.size wr wF) (hW : wr.heap.size ≤ W.heap.size := by exact Nat.le_refl _) :
    BuildRet w ll (.returned (.tuple #[.slice m.iA f.cur.length m.iC, vd])) wF := by
  have hm := h.frs.frs.1
  obtain ⟨A2, c2, hv2, hic, hicm, _⟩ := own_form hm.itm
  injection hv2 with _ _ hc2
  subst hc2
  have := hbF.size
  rw [hf] at hic ⊢
  refine ⟨m.iA, m.iC, vd, rfl, hic, hicm, ⟨m.irecs, ?_, ?_⟩, own_mono hvd (by have := h.below.size; omega), h.below.trans (hS.mono h.below.size)⟩
  · have h1 := Sl.of_own (U := fun b => w.heap.size ≤ b ∧ b < wr.heap.size) hm.itm (fun g hg => hm.itm.lt g (by rw [hg]; rfl))
    rw [hf] at h1
    exact (Sl.below h1 hS).more fun b hb _ => ⟨hb.1, Nat.lt_of_lt_of_le hb.2 hS.size⟩
  · have h2 := hm.its
    rw [hf] at h2
    exact h2.carry ((carry_more (V := fun b => w.heap.size ≤ b ∧ b < wr.heap.size) fun b hb _ => h.frs.F0 b hb).trans ((carry_below hS).trans (carry_more fun b hb _ => ⟨hb.1, Nat.lt_of_lt_of_le hb.2 hS.size⟩)))
def lenV : Value → Nat
  | .slice _ n _ => n
  | _ => 0

set_option maxRecDepth 1000000 in
set_option maxHeartbeats 4000000 in
theorem build_any {U : Nat → Prop} (A : Option Addr) (n c : Nat) (ll : List (List Tok)) (w : World) (h : Lns w U A n ll) (hn : n ≤ 100000) (hsz : ∀ l ∈ ll, l.length ≤ 1000000 ∧ ∀ x ∈ l, x.t.size ≤ maxLen) :
    Calls Try.prog 23 #[.slice A n c] w (BuildRet w ll) := by
  have hmk := run_make_ints n (by omega)
  have hma := run_make_arm
  have HLEN := Lib.hid h.len
  have HSZ := Lib.hid hsz
  clear hsz
  go_enter Try.func23, Try.ntmps23
  go_wp2_with fail
  have HST := Lib.hid (binv_start w n)
  go_loopw [6, 7, 8, 9, 10, 22] (fun vs _ _ _ _ iv wr => BRel w w.heap.size (w.heap.size + 1) n ll vs iv wr) (fun _ _ _ _ _ iv _ => n - (intOf iv).toNat)
  case atStart => exact ⟨0, _, _, by omega, rfl, HST.out⟩
  case round =>
    clear hmk hma HST
    obtain ⟨k, F, ms, hk, rfl, hI⟩ := hrel
    by_cases hlt : k < n
    · have hP := POk.run (ksOf ll) k (by rw [ksOf, List.length_map, HLEN.out]; omega)
      obtain ⟨b, off, A', n', c', frm, to, opn, l, rfl, hu, hbl, hl, c0, c1, c2, c3, ht, hn', hc'⟩ := h.at_ hlt
      have hlm := HSZ.out l (List.mem_of_getElem? hl)
      have hks : (ksOf ll)[k]? = some (kindT l, decide (0 < l.length)) := by simp [ksOf, hl]
      have HNX := Lib.hid (runB_next hks)
      have htl := ht.len
      have HT := Lib.hid ht
      have hb := hI.below
      rw [← hb.cell (p := ⟨b, _, none⟩) hbl] at c0 c1 c2 c3
      generalize runB 0 ((ksOf ll).take k) initB = st at *
      obtain ⟨fs, bads⟩ := st
      match fs, hP.ne with
      | f :: r, _ =>
        obtain ⟨m, mr, rfl⟩ : ∃ m mr, ms = m :: mr := by
          have := hI.frs.frs.len
          match ms, this with
          | m :: mr, _ => exact ⟨m, mr, rfl⟩
        have hmr : mr.length = r.length := by have := hI.frs.frs.len; simpa using this
        have hrk : r.length ≤ k := by have := hP.len; simp at this; omega
        have hmk : mr.length ≤ 100000 := by omega
        have HMR := Lib.hid hmr
        have HP := Lib.hid hP
        have HI := Lib.hid hI
        obtain ⟨sb, scap, hvs, _, _⟩ := hI.stk.form (by simp)
        rw [show (m :: mr).length = mr.length + 1 from rfl] at hvs
        subst hvs
        clear hI hl hks hmr hP
        go_wp2_with fail
        refine (tkind_any A' n' c' w.heap.size l _ (Sl.below HT.out (hb.alloc hb.size _)) (by have := hlm.1; omega) hlm.2 (HI.out.tab.below ((Below.refl _ _).alloc (Nat.le_refl _) _))).mono ?_
        rintro e w1 ⟨rfl, hT1, hBar⟩
        have hI1 := (HI.out.keep ((Below.refl _ _).alloc (Nat.le_refl _) (Obj.cells #[.slice A' n' c', .int .i64 frm, .int .i64 to, .bool opn] 61))).ask hT1 hBar
        have hx0 : w1.cell? ⟨wr.heap.size, 0, none⟩ = some (.slice A' n' c') := cell_of_row w1 _ 0 _ _ _ ((hBar.block wr.heap.size (by simp) (by have := HI.out.tab.isT.lt; omega)).trans (heap_alloc_new wr _))
        have hs0 := hI1.top_cell
        have hw1 : IntKind.i64.wrap (mr.length : Int) = (mr.length : Int) := IntWalk.i64_in _ (by omega)
        have hw2 : (mr.length : Int).toNat = mr.length := by omega
        have hw3 : (mr.length : Int) < (mr.length : Int) + 1 := by omega
        have HI1 := Lib.hid hI1
        have HHT := Lib.hid htl
        clear hI1 hT1 hBar c0 c1 c2 c3
        generalize kindT l = kd at *
        by_cases hpush : 2 ≤ kd ∧ kd ≤ 4
        · have hstep := Lib.hid (show stepB k kd (decide (0 < l.length)) (f :: r, bads) = (newF k :: f :: r, bads) by simp only [stepB]; rw [if_pos hpush])
          rw [hstep.out] at HNX
          have h234 : kd = 2 ∨ kd = 3 ∨ kd = 4 := by omega
          clear hstep hpush
          rcases h234 with rfl | rfl | rfl
          all_goals
            go_wp2_with (at_builtin; refine app_at el110 (w1.heap.size + 1 + 1) (by simp) _ rfl _ _ rfl w.heap.size _ _ _ rfl ((HI1.out.stk.alloc _).alloc _) rfl rfl (ones_cons rfl ones_nil) (by simp; omega) (by simp; omega) (by have := HI1.out.below.size; omega) ?_; intro g cap wA hownA hgrowA hatA hltA)
            obtain ⟨m', hm'⟩ := push_fin HI1.out hownA hgrowA
            go_roundw
            case rel => exact ⟨k + 1, F, _, by omega, by go_num, by rw [HNX.out]; exact hm'⟩
            case measure => simp [intOf]; omega
        · have hm := HI1.out.frs.frs.1
          have hob1 := cell_of_row w1 m.ob 1 _ _ _ hm.blk
          have hob2 := cell_of_row w1 m.ob 2 _ _ _ hm.blk
          have HM := Lib.hid hm
          clear hm
          by_cases h56 : kd = 5 ∨ kd = 6
          · by_cases hbadc : (r.isEmpty || f.last) = true
            · have hstep := Lib.hid (show stepB k kd (decide (0 < l.length)) (f :: r, bads) = (f :: r, bads ++ [k]) by simp only [stepB]; rw [if_neg hpush, if_pos h56, if_pos hbadc])
              rw [hstep.out] at HNX
              by_cases hr0 : r = []
              · have hm0 : mr = [] := List.eq_nil_of_length_eq_zero (by rw [HMR.out, hr0]; rfl)
                subst hm0
                have hs1 : w1.cell? ⟨sb, 0, none⟩ = some (.pointer (some ⟨m.ob, 0, none⟩)) := hs0
                clear hstep hpush hbadc hr0
                rcases h56 with rfl | rfl
                all_goals
                  have hcc := HI1.out.code_cell hlt
                  have hcf := frozen_of_row HI1.out.codes k
                  have hbad := Lib.hid (HI1.out.code (codeL_bad n k bads))
                  go_wp2_with fail
                  go_roundw
                  case rel => exact ⟨k + 1, F, _, by omega, by go_num, by rw [HNX.out]; exact hbad.out⟩
                  case measure => simp [intOf]; omega
              · have hfl : f.last = true := by
                  have : r.isEmpty = false := by cases r with | nil => exact absurd rfl hr0 | cons a b => rfl
                  simpa [this] using hbadc
                have hrl : 0 < r.length := List.length_pos_iff.2 hr0
                have hmne : ((mr.length : Int) == 0) = false := by have := HMR.out; simpa using (by omega : ¬ (mr.length : Int) = 0)
                have hmne2 : ¬ mr.length = 0 := by have := HMR.out; omega
                rw [hfl] at hob2
                clear hstep hpush hbadc hr0
                rcases h56 with rfl | rfl
                all_goals
                  have hcc := HI1.out.code_cell hlt
                  have hcf := frozen_of_row HI1.out.codes k
                  have hbad := Lib.hid (HI1.out.code (codeL_bad n k bads))
                  go_wp2_with fail
                  go_roundw
                  case rel => exact ⟨k + 1, F, _, by omega, by go_num, by rw [HNX.out]; exact hbad.out⟩
                  case measure => simp [intOf]; omega
            · have hstep := Lib.hid (show stepB k kd (decide (0 < l.length)) (f :: r, bads) = (f.arm k (kd == 6) :: r, bads) by simp only [stepB]; rw [if_neg hpush, if_pos h56, if_neg hbadc])
              rw [hstep.out] at HNX
              have hr0 : r.isEmpty = false := by cases hh : r.isEmpty with | true => simp [hh] at hbadc | false => rfl
              have hfl : f.last = false := by cases hh : f.last with | true => simp [hh] at hbadc | false => rfl
              have hrl : 0 < r.length := by cases r with | nil => simp at hr0 | cons a b => simp
              have hmne : ((mr.length : Int) == 0) = false := by have := HMR.out; simpa using (by omega : ¬ (mr.length : Int) = 0)
              have hmne2 : ¬ mr.length = 0 := by have := HMR.out; omega
              have hdk := (HP.out.bnd f (by simp)).1
              rw [hfl] at hob2
              clear hstep hpush hbadc hr0
              rcases h56 with rfl | rfl
              all_goals
                go_wp2_with (at_builtin; refine app_at el64 w1.heap.size rfl _ rfl _ _ rfl w.heap.size _ _ _ rfl HM.out.arm rfl rfl (ones_cons rfl (ones_cons rfl ones_nil)) (by omega) (by omega) (by have := HI1.out.below.size; omega) ?_; intro g cap wA hownA hgrowA hatA hltA; have hobA := (hgrowA.block m.ob HM.out.tob.lt (fun e => HM.out.tob.ne HM.out.tga (by decide) (by injection e))).trans HM.out.blk; have hA1 := cell_of_row wA m.ob 1 _ _ _ hobA; have hA2 := cell_of_row wA m.ob 2 _ _ _ hobA; have hF1 := frozen_of_row hobA 1; have hF2 := frozen_of_row hobA 2; clear hobA)
                obtain ⟨m', G, hm'⟩ := arm_fin HI1.out hownA hgrowA hatA
                go_roundw
                case rel => exact ⟨k + 1, G, _, by omega, by go_num, by rw [HNX.out]; exact hm'⟩
                case measure => simp [intOf]; omega
          · by_cases h7 : kd = 7
            · subst h7
              match r, hpush with
              | [], hpush =>
                have hstep := Lib.hid (show stepB k 7 (decide (0 < l.length)) (([f] : List PF), bads) = ([f], bads ++ [k]) by simp [stepB])
                rw [hstep.out] at HNX
                have hm0 : mr = [] := List.eq_nil_of_length_eq_zero (by rw [HMR.out]; rfl)
                subst hm0
                have hs1 : w1.cell? ⟨sb, 0, none⟩ = some (.pointer (some ⟨m.ob, 0, none⟩)) := hs0
                clear hstep hpush
                have hcc := HI1.out.code_cell hlt
                have hcf := frozen_of_row HI1.out.codes k
                have hbad := Lib.hid (HI1.out.code (codeL_bad n k bads))
                go_wp2_with fail
                go_roundw
                case rel => exact ⟨k + 1, F, _, by omega, by go_num, by rw [HNX.out]; exact hbad.out⟩
                case measure => simp [intOf]; omega
              | f2 :: r2, hpush =>
                have hstep := Lib.hid (show stepB k 7 (decide (0 < l.length)) ((f :: f2 :: r2 : List PF), bads) = (f2.put f.item :: r2, bads) by simp [stepB])
                rw [hstep.out] at HNX
                obtain ⟨m2, mr2, HM2⟩ : ∃ m2 mr2, Hid (mr = m2 :: mr2) := by
                  have := HMR.out
                  match mr, this with
                  | m2 :: mr2, _ => exact ⟨m2, mr2, rfl⟩
                have hql : mr2.length + 1 = mr.length := by rw [HM2.out]; rfl
                have hmne : ((mr.length : Int) == 0) = false := by simpa using (by omega : ¬ (mr.length : Int) = 0)
                have hmne2 : ¬ mr.length = 0 := by omega
                have hb2 := HP.out.bnd f2 (by simp)
                have HPOP := Lib.hid (show Calls Try.prog 47 #[.slice (some ⟨sb, 0, none⟩) (mr.length + 1) scap] w1 fun e w' => e = .returned (.slice (some ⟨sb, 0, none⟩) mr.length scap) ∧ ∃ m' G, BInv w w.heap.size (w.heap.size + 1) n G (f2.put f.item :: r2) bads [] (m' :: mr2) (.slice (some ⟨sb, 0, none⟩) mr.length scap) w' from by
                  have hJ := HI1.out
                  rw [HM2.out] at hJ ⊢
                  have h2 := hJ.frs.frs.2.1
                  obtain ⟨_, c9, hv9, hc9, hm9, _⟩ := own_form hJ.stk
                  injection hv9 with _ _ hc9'
                  subst hc9'
                  refine (pop_any w.heap.size sb mr2.length scap m2.ob m.ob m2.ga f2.done.length m2.ca f2.cur.length m2.iC f2.line f2.cl f.line f2.last f.last m2.iA _ _ _ m2.arecs m2.irecs w1 hJ.below.size (by omega) (by simpa using hc9) hm9 (by omega) (by omega) hJ.top_cell hJ.frs.frs.1.blk hJ.next_cell h2.blk h2.ars.len h2.arm h2.itm).mono ?_
                  rintro e w' ⟨rfl, hp⟩
                  exact ⟨rfl, hJ.pop hp⟩)
                clear hstep hpush hb2 hql
                go_wp2_with (go_at_call 47; refine HPOP.out.mono ?_; rintro e w2 ⟨rfl, m', G, hm'⟩)
                go_roundw
                case rel => exact ⟨k + 1, G, _, by omega, by go_num, by rw [HNX.out]; exact hm'⟩
                case measure => simp [intOf]; omega
            · have q2 : ((kd : Int) == 2) = false := by simpa using (by omega : ¬ (kd : Int) = 2)
              have q3 : ((kd : Int) == 3) = false := by simpa using (by omega : ¬ (kd : Int) = 3)
              have q4 : ((kd : Int) == 4) = false := by simpa using (by omega : ¬ (kd : Int) = 4)
              have q5 : ((kd : Int) == 5) = false := by simpa using (by omega : ¬ (kd : Int) = 5)
              have q6 : ((kd : Int) == 6) = false := by simpa using (by omega : ¬ (kd : Int) = 6)
              have q7 : ((kd : Int) == 7) = false := by simpa using (by omega : ¬ (kd : Int) = 7)
              by_cases hne : 0 < l.length
              · have hstep := Lib.hid (show stepB k kd (decide (0 < l.length)) (f :: r, bads) = (f.put (.mk kd k []) :: r, bads) by simp only [stepB]; rw [if_neg hpush, if_neg h56, if_neg h7, decide_eq_true hne, if_pos rfl])
                rw [hstep.out] at HNX
                have hn0 : 0 < n' := by rw [← HHT.out]; exact hne
                have hb2 := HP.out.bnd f (by simp)
                have HPUT := Lib.hid (show Calls Try.prog 48 #[.slice (some ⟨sb, 0, none⟩) (mr.length + 1) scap, .agg #[.int .i64 (kd : Int), .int .i64 (k : Int), .slice none 0 0]] w1 fun e w' => e = .returned (.tuple #[]) ∧ ∃ m', BInv w w.heap.size (w.heap.size + 1) n F (f.put (.mk kd k []) :: r) bads [] (m' :: mr) (.slice (some ⟨sb, 0, none⟩) (mr.length + 1) scap) w' from by
                  have hJ := HI1.out
                  have h2 := hJ.frs.frs.1
                  refine (put_any w.heap.size sb (mr.length + 1) scap m.ob m.ga f.done.length m.ca f.cur.length m.iC f.line f.cl kd k f.last m.iA none 0 0 m.arecs m.irecs w1 hJ.below.size (by omega) (by omega) (by omega) (by omega) (by simpa using hs0) h2.blk h2.ars.len h2.arm h2.itm).mono ?_
                  rintro e w' ⟨rfl, hp⟩
                  refine ⟨rfl, hJ.put ?_ hp⟩
                  simp only [ItOk]
                  exact ⟨trivial, trivial, Nat.le_refl _, by simp [maxLen], [], Sl.nil_, by simp only [ArsOk]⟩)
                clear hstep hpush h56 h7 hne hb2
                go_wp2_with (go_at_call 48; refine HPUT.out.mono ?_; rintro e w2 ⟨rfl, m', hm'⟩)
                go_roundw
                case rel => exact ⟨k + 1, F, _, by omega, by go_num, by rw [HNX.out]; exact hm'⟩
                case measure => simp [intOf]; omega
              · have hstep := Lib.hid (show stepB k kd (decide (0 < l.length)) (f :: r, bads) = (f :: r, bads) by simp only [stepB]; rw [if_neg hpush, if_neg h56, if_neg h7, decide_eq_false hne]; rfl)
                rw [hstep.out] at HNX
                have hn0 : n' = 0 := by rw [← HHT.out]; omega
                clear hstep hpush h56 h7 hne
                subst hn0
                go_wp2_with fail
                go_roundw
                case rel => exact ⟨k + 1, F, _, by omega, by go_num, by rw [HNX.out]; exact HI1.out⟩
                case measure => simp [intOf]; omega
    · obtain rfl : k = n := by omega
      have e : (ksOf ll).take k = ksOf ll := by rw [← HLEN.out, ← List.length_map (f := fun l => (kindT l, decide (0 < l.length))), ksOf, List.take_length]
      have hP := POk.run (ksOf ll) k (by rw [ksOf, List.length_map, HLEN.out]; omega)
      rw [e] at hI hP
      have HI := Lib.hid hI
      have HP := Lib.hid hP
      clear hI hP e
      go_wp2_with fail
      go_loopw [6] (fun vs wr => BRel2 w w.heap.size (w.heap.size + 1) k ll vs wr) (fun vs _ => lenV vs)
      case atStart =>
        have hI := HI.out
        have hP : POk (ksOf ll) k (stP ll) := HP.out
        change BInv w w.heap.size (w.heap.size + 1) k F (stP ll).1 (stP ll).2 [] ms _ _ at hI
        cases hs1 : (stP ll).1 with
        | nil => exact absurd hs1 hP.ne
        | cons f r =>
          rw [hs1] at hI
          refine ⟨f, r, F, ms, [], hI, by simp only [itemsP, hs1, itemsOf], by simp only [hs1, opensOf, List.nil_append], fun g hg => ?_, ?_, fun g hg => ?_⟩
          · have := hP.bnd g (by rw [hs1]; exact hg)
            simp only [List.length_nil]
            omega
          · have := hP.len
            rw [hs1] at this
            simp at this ⊢
            omega
          · exact hP.base g (by rw [hs1]; exact hg)
      case round =>
        obtain ⟨f, r, F2, ms2, os, hB, hfin, hop, hbd, hol, hbs⟩ := hrel
        obtain ⟨m, mr, rfl⟩ : ∃ m mr, ms2 = m :: mr := by
          have := hB.frs.frs.len
          match ms2, this with
          | m :: mr, _ => exact ⟨m, mr, rfl⟩
        have hmr : mr.length = r.length := by have := hB.frs.frs.len; simpa using this
        obtain ⟨sb, scap, hvs, _, hsbl⟩ := hB.stk.form (by simp)
        rw [show (m :: mr).length = mr.length + 1 from rfl] at hvs
        subst hvs
        have hs0 := hB.top_cell
        have HB := Lib.hid hB
        have HMR := Lib.hid hmr
        have HFIN := Lib.hid hfin
        have HOP := Lib.hid hop
        clear hB hmr hfin hop
        match r, hol, hbd, hbs with
        | [], hol, hbd, hbs =>
          have hm0 : mr = [] := List.eq_nil_of_length_eq_zero (by rw [HMR.out]; rfl)
          subst hm0
          have HS0 := Lib.hid (show wr.cell? ⟨sb, 0, none⟩ = some (.pointer (some ⟨m.ob, 0, none⟩)) from hs0)
          have hm := HB.out.frs.frs.1
          have hd0 : f.done = [] := hbs f rfl
          have hobl := hm.tob.lt
          have hgal := hm.tga.lt
          have HO1 := Lib.hid (show wr.cell? ⟨m.ob, 1, none⟩ = some (.slice (some ⟨m.ga, 0, none⟩) 1 m.ca) by
            rw [cell_of_row wr m.ob 1 _ _ _ hm.blk, hd0]
            rfl)
          have HG1 := Lib.hid (show wr.cell? ⟨m.ga, 1, none⟩ = some (.slice m.iA f.cur.length m.iC) by
            have h1 := hm.arm
            have h2 := hm.ars.len
            rw [hd0] at h1 h2
            have h3 : m.arecs = [] := List.eq_nil_of_length_eq_zero h2
            rw [h3] at h1
            rw [World.ownsRow.cellAt (n := 0 + 1) h1 1 (by omega)]
            rfl)
          have hops : os = opensOf (stP ll).1 := by have := HOP.out; simpa [opensB] using this
          have HF : Hid (f.cur = itemsP ll) := Lib.hid HFIN.out
          have HTOLD := Lib.hid (show ∀ W : World, Below wr.heap.size wr W → Calls Try.prog 49 #[.slice A k c, .slice (some ⟨w.heap.size + 1, 0, none⟩) k k] W (DgRet W (diagsP ll)) from fun W hW => by
            have hP : POk (ksOf ll) k (stP ll) := HP.out
            have := told_any A k c (w.heap.size + 1) ll (codeL k (stP ll).2 os) W (h.below (HB.out.below.trans (hW.mono HB.out.below.size))) (by omega) (codeL_len _ _ _) ((hW.block _ HB.out.tcb.lt).trans HB.out.codes) (fun i l x h1 h2 h3 => told_two hP hops h1 h2 h3)
            unfold diagsP
            rw [HLEN.out, ← hops]
            exact this)
          clear hs0 hm hd0 hops hol hbd hbs hsbl
          have hsbl := lt_of_cell HS0.out
          go_wp2_with fail
          refine wp_region_held_drew (S := fun W => Below wr.heap.size wr W) (by kernel_rfl) (Below.refl _ _).drew (fun hS => ?_)
          refine wpAnyH_take (i := 0) (v := .slice (some ⟨sb, 0, none⟩) 1 scap) rfl (by kernel_rfl) (by kernel_rfl) (by kernel_rfl) (fun _ _ _ h => h) (Or.inl ⟨by kernel_rfl, fun _ _ => by kernel_rfl⟩) hS ?_
          refine wpAnyH_take (i := 1) (v := .pointer (some ⟨sb, 0, none⟩)) rfl (by kernel_rfl) (by kernel_rfl) (by kernel_rfl) (fun _ _ _ h => h) (Or.inl ⟨by kernel_rfl, fun _ _ => by go_simp⟩) hS ?_
          refine wpAnyH_take (i := 2) (v := .pointer (some ⟨m.ob, 0, none⟩)) rfl (by kernel_rfl) (by kernel_rfl) (by kernel_rfl) (fun _ _ _ h => h) (Or.inl ⟨by kernel_rfl, fun _ hS_ => by have h_ := (hS_.cell (p := ⟨sb, _, none⟩) hsbl).trans HS0.out; go_simp⟩) hS ?_
          refine wpAnyH_take (i := 3) (v := .pointer (some ⟨m.ob, 0, none⟩)) rfl (by kernel_rfl) (by kernel_rfl) (by kernel_rfl) (fun _ _ _ h => h) (Or.inl ⟨by kernel_rfl, fun _ _ => by go_simp⟩) hS ?_
          refine wpAnyH_take (i := 4) (v := .pointer (some ⟨m.ob, 1, none⟩)) rfl (by kernel_rfl) (by kernel_rfl) (by kernel_rfl) (fun _ _ _ h => h) (Or.inl ⟨by kernel_rfl, fun _ _ => by go_simp⟩) hS ?_
          refine wpAnyH_take (i := 5) (v := .slice (some ⟨m.ga, 0, none⟩) 1 m.ca) rfl (by kernel_rfl) (by kernel_rfl) (by kernel_rfl) (fun _ _ _ h => h) (Or.inl ⟨by kernel_rfl, fun _ hS_ => by have h_ := (hS_.cell (p := ⟨m.ob, _, none⟩) hobl).trans HO1.out; go_simp⟩) hS ?_
          refine wpAnyH_take (i := 6) (v := .pointer (some ⟨m.ga, 0, none⟩)) rfl (by kernel_rfl) (by kernel_rfl) (by kernel_rfl) (fun _ _ _ h => h) (Or.inl ⟨by kernel_rfl, fun _ _ => by go_simp⟩) hS ?_
          refine wpAnyH_take (i := 7) (v := .pointer (some ⟨m.ga, 1, none⟩)) rfl (by kernel_rfl) (by kernel_rfl) (by kernel_rfl) (fun _ _ _ h => h) (Or.inl ⟨by kernel_rfl, fun _ _ => by go_simp⟩) hS ?_
          refine wpAnyH_take (i := 8) (v := .slice m.iA f.cur.length m.iC) rfl (by kernel_rfl) (by kernel_rfl) (by kernel_rfl) (fun _ _ _ h => h) (Or.inl ⟨by kernel_rfl, fun _ hS_ => by have h_ := (hS_.cell (p := ⟨m.ga, _, none⟩) hgal).trans HG1.out; go_simp⟩) hS ?_
          refine wpAnyH_take (i := 9) (v := .slice A k c) rfl (by kernel_rfl) (by kernel_rfl) (by kernel_rfl) (fun _ _ _ h => h) (Or.inl ⟨by kernel_rfl, fun _ _ => by kernel_rfl⟩) hS ?_
          refine wpAnyH_take (i := 10) (v := .slice (some ⟨w.heap.size + 1, 0, none⟩) k k) rfl (by kernel_rfl) (by kernel_rfl) (by kernel_rfl) (fun _ _ _ h => h) (Or.inl ⟨by kernel_rfl, fun _ _ => by kernel_rfl⟩) hS ?_
          refine wpAnyH_ready (rs := [11]) (by kernel_rfl) (by simp) ?_
          refine AllReadyH.cons rfl (fun K hK => ?_) AllReadyH.nil
          go_simp
          go_at_call 49
          refine (HTOLD.out _ hS).mono ?_
          rintro e wF ⟨vd, rfl, hvd, hbF⟩
          refine hK.out _ _ (hS.trans (hbF.mono hS.size)) (fun hS => ?_)
          clear hK K
          refine wpAnyH_take (i := 12) (v := .slice m.iA f.cur.length m.iC) rfl (by kernel_rfl) (by kernel_rfl) (by kernel_rfl) (fun _ _ _ h => h) (Or.inl ⟨by kernel_rfl, fun _ _ => by kernel_rfl⟩) hS ?_
          refine wpAnyH_take (i := 13) (v := vd) rfl (by kernel_rfl) (by kernel_rfl) (by kernel_rfl) (fun _ _ _ h => h) (Or.inl ⟨by kernel_rfl, fun _ _ => by kernel_rfl⟩) hS ?_
          refine wpAnyH_done (by kernel_rfl) ?_ _
          have hfin := build_fin HB.out HF.out hvd hbF hS
          clear hS hbF hvd
          go_wp2_with fail
          go_ret2
          exact hfin
        | g :: r', hol, hbd, hbs =>
          obtain ⟨m2, mr2, HM2⟩ : ∃ m2 mr2, Hid (mr = m2 :: mr2) := by
            have := HMR.out
            match mr, this with
            | m2 :: mr2, _ => exact ⟨m2, mr2, rfl⟩
          have hmr2 := HMR.out
          simp only [List.length_cons] at hmr2 hol
          have hql : mr2.length + 1 = mr.length := by rw [HM2.out]; rfl
          have hfl : f.line < k := by
            have hP : POk (ksOf ll) k (stP ll) := HP.out
            have hmem : f.line ∈ opensOf (stP ll).1 := by rw [← HOP.out]; simp [opensB]
            cases hs : (stP ll).1 with
            | nil => rw [hs] at hmem; simp [opensOf] at hmem
            | cons f0 r0 =>
              rw [hs] at hmem
              obtain ⟨g0, hg0, he⟩ := opensB_mem r0 f0 _ hmem
              have := (hP.opens g0 (by rw [hs]; exact hg0)).1
              omega
          have hcc := HB.out.code_cell hfl
          have hcf := frozen_of_row HB.out.codes f.line
          have hob0 := cell_of_row wr m.ob 0 _ _ _ HB.out.frs.frs.1.blk
          have hg1 : (1 : Int) < (mr.length : Int) + 1 := by omega
          have hg2 : 0 < mr.length := by omega
          have hw1 : IntKind.i64.wrap (mr.length : Int) = (mr.length : Int) := IntWalk.i64_in _ (by omega)
          have hw2 : (mr.length : Int).toNat = mr.length := by omega
          have hw3 : (mr.length : Int) < (mr.length : Int) + 1 := by omega
          have hb2 := hbd g (by simp)
          have HPOP := Lib.hid (show Calls Try.prog 47 #[.slice (some ⟨sb, 0, none⟩) (mr.length + 1) scap] (wr.setCell ⟨w.heap.size + 1, f.line, none⟩ (.int .i64 13)) fun e w' => e = .returned (.slice (some ⟨sb, 0, none⟩) mr.length scap) ∧
              ∃ m' G, BInv w w.heap.size (w.heap.size + 1) k G (g.put f.item :: r') (stP ll).2 (os ++ [f.line]) (m' :: mr2) (.slice (some ⟨sb, 0, none⟩) mr.length scap) w' from by
            have hJ := HB.out.code (codeL_open k f.line (stP ll).2 os)
            rw [HM2.out] at hJ ⊢
            have h2 := hJ.frs.frs.2.1
            obtain ⟨_, c9, hv9, hc9, hm9, _⟩ := own_form hJ.stk
            injection hv9 with _ _ hc9'
            subst hc9'
            refine (pop_any w.heap.size sb mr2.length scap m2.ob m.ob m2.ga g.done.length m2.ca g.cur.length m2.iC g.line g.cl f.line g.last f.last m2.iA _ _ _ m2.arecs m2.irecs _ hJ.below.size (by omega) (by simpa using hc9) hm9 (by omega) (by omega) hJ.top_cell hJ.frs.frs.1.blk hJ.next_cell h2.blk h2.ars.len h2.arm h2.itm).mono ?_
            rintro e w' ⟨rfl, hp⟩
            exact ⟨rfl, hJ.pop hp⟩)
          clear hb2 hql hmr2
          go_wp2_with (go_at_call 47; refine HPOP.out.mono ?_; rintro e w2 ⟨rfl, m', G, hm'⟩)
          go_roundw
          case rel =>
            refine ⟨g.put f.item, r', G, m' :: mr2, os ++ [f.line], hm', HFIN.out, ?_, fun x hx => ?_, ?_, fun x hx => ?_⟩
            · have h1 := HOP.out
              rw [opensB_line r' (g.put f.item) g rfl, List.append_assoc]
              exact h1
            · rcases List.mem_cons.1 hx with rfl | hx
              · have h1 := hbd g (by simp)
                simp only [PF.put, List.length_append, List.length_cons, List.length_nil]
                omega
              · have h1 := hbd x (by simp [hx])
                simp only [List.length_append, List.length_cons, List.length_nil]
                omega
            · simp only [List.length_append, List.length_cons, List.length_nil]
              omega
            · match r', hx, hbs with
              | [], hx, hbs =>
                simp at hx
                subst hx
                have := hbs g (by simp)
                simpa [PF.put] using this
              | y :: r2, hx, hbs =>
                rw [List.getLast?_cons_cons] at hx
                exact hbs x (by rw [List.getLast?_cons_cons, List.getLast?_cons_cons]; exact hx)
          case measure => simp [lenV]
end Go.Proofs.Ytjklnlocmmnclaa
