/- Walks: the document's closed. -/
import Derived.Test.YtjklnlocmmnclaaKa9
import Derived.Test.YtjklnlocmmnclaaIa
namespace Go.Proofs.Ytjklnlocmmnclaa
open Go.RowKit

theorem aCells_ones (l : List ARec) : ∀ u ∈ l.flatMap aCells, u.oneCell' = true := by
  intro u hu
  obtain ⟨x, _, hx⟩ := List.mem_flatMap.1 hu
  simp only [aCells, List.mem_cons, List.not_mem_nil, or_false] at hx
  rcases hx with rfl | rfl <;> rfl
theorem empty_row (w : World) (o : Obj) : ((w.alloc o).alloc (.cells #[] 117)).ownsRow w.heap.size 117 2 (.slice (some ⟨w.heap.size + 1, 0, none⟩) 0 0) 0 [] := by
  have h := World.ownsRow_lit (base := w.heap.size) (e := 117) (size := 2) (w.alloc o) #[] 0 (by simp) (by simp [maxLen]) rfl
  rw [World.size_alloc] at h
  exact h
theorem alloc_keep (w : World) (o : Obj) {b : Nat} {o' : Obj} (h : w.heap[b]? = some o') : (w.alloc o).heap[b]? = some o' := (Below.heap_alloc w o b (lt_of_blk h)).trans h
theorem cell_alloc_keep (w : World) (o : Obj) {p : Addr} {v : Value} (h : w.cell? p = some v) : (w.alloc o).cell? p = some v := by
  rw [World.cell?_alloc_some _ _ _ (by simp [h])]
  exact h
def ClosedRet (base lb n lc cb cc : Nat) (z y : Lev) (r : List Lev) (w : World) (e : Ending) (w' : World) : Prop :=
  e = .returned (.tuple #[.slice (some ⟨lb, 0, none⟩) (n + 1) lc, .slice (some ⟨cb, 0, none⟩) n cc]) ∧
    ∃ G m', RInv base G ((y.1.put z.1.item, m') :: r) (.slice (some ⟨lb, 0, none⟩) (n + 1) lc) (.slice (some ⟨cb, 0, none⟩) n cc) w' ∧ Below base w w' ∧
      ∀ b t, IsT w b t → t ≠ 47 → t ≠ 120 → w'.heap[b]? = w.heap[b]?
theorem ClosedRet.drewN {base lb n lc cb cc : Nat} {z y : Lev} {r : List Lev} {w w' : World} {e : Ending} (h : ClosedRet base lb n lc cb cc z y r w e w') (k : Nat) : ClosedRet base lb n lc cb cc z y r w e (w'.drewN k) := by
  obtain ⟨h1, G, m', h2, h3, h4⟩ := h
  exact ⟨h1, G, m', h2.keep (Nat.le_refl _) (fun _ _ => rfl), below_drewN h3 k, h4⟩
theorem closed_fin {base lb n lc cb cc m q g cap xb g2 cap2 : Nat} {F : Nat → Prop} {z y : Lev} {r : List Lev} {w wC wE : World} {o : Obj} (hX : w.heap.size = xb)
    (h : RInv base F (z :: y :: r) (.slice (some ⟨lb, 0, none⟩) (n + 2) lc) (.slice (some ⟨cb, 0, none⟩) (n + 1) cc) w)
    (hd : RInv base (fun b => F b ∨ (lvV z).ownBlock = some b) (y :: r) (.slice (some ⟨lb, 0, none⟩) (n + 1) lc) (.slice (some ⟨cb, 0, none⟩) n cc) w) (hn : r.length = n) (hm : m = z.1.done.length + 1) (hq : q = y.1.cur.length)
    (har : ArsOk w F z.1.done z.2.arecs) (hbC : Below xb w wC) (hoC : wC.ownsRow xb 117 2 (.slice (some ⟨g, 0, none⟩) m cap) m ((z.2.arecs ++ ([⟨(z.1.cl : Int), z.2.iA, z.1.cur.length, z.2.iC⟩] : List ARec)).flatMap aCells)) (hc1 : m ≤ cap) (hc2 : cap ≤ 2 ^ 63 - 1) (hgx : xb < g)
    (hown : wE.ownsRow base 120 3 (.slice (some ⟨g2, 0, none⟩) (q + 1) cap2) (q + 1) (y.2.irecs.flatMap iCells ++ (#[.int .i64 2, .int .i64 (z.1.line : Int), .slice (some ⟨g, 0, none⟩) m cap] : Array Value).toList))
    (hgrow : (wC.alloc o).drew.grownBy wE (Value.slice y.2.iA q y.2.iC).ownBlock) (hat : (Value.slice y.2.iA q y.2.iC).ownBlock = some g2 ∨ g2 = (wC.alloc o).drew.heap.size) :
    ClosedRet base lb n lc cb cc z y r w (.returned (.tuple #[.slice (some ⟨lb, 0, none⟩) (n + 1) lc, .slice (some ⟨cb, 0, none⟩) n cc])) (wE.setCell ⟨lb, n, none⟩ (.slice (some ⟨g2, 0, none⟩) (q + 1) cap2)) := by
  subst hX hn hq
  have hb1 : Below w.heap.size w (wC.alloc o).drew := (hbC.alloc hbC.size o).drew
  have ho1 : (wC.alloc o).drew.ownsRow w.heap.size 117 2 (.slice (some ⟨g, 0, none⟩) m cap) m ((z.2.arecs ++ ([⟨(z.1.cl : Int), z.2.iA, z.1.cur.length, z.2.iC⟩] : List ARec)).flatMap aCells) := (hoC.alloc o).drew
  generalize (wC.alloc o).drew = w1 at *
  have hz := h.itm z List.mem_cons_self
  have hcap := cap_of hz.1 rfl
  have hcF : Carry w w1 F (fun b => (F b ∨ (lvV z).ownBlock = some b) ∨ b = g) := carry_of (fun b hb => hb1.block b (h.F0 b hb).2) fun b hb => .inl (.inl hb)
  have hput := hd.put (x := z.1.item) (new := ⟨2, z.1.line, some ⟨g, 0, none⟩, m, cap⟩) (G := fun b => (F b ∨ (lvV z).ownBlock = some b) ∨ b = g) hb1 (fun b hb => .inl hb)
    (fun b hb => hb.imp id fun e => by subst e; exact ⟨by omega, own_isT ho1 rfl⟩) ?_ hown hgrow (hat.imp id fun e => by have := hb1.size; omega)
  · exact ⟨rfl, _, _, hput.1, hput.2.1, hput.2.2⟩
  · simp only [PF.item, ItOk]
    refine ⟨trivial, trivial, hc1, by unfold maxLen; exact hc2, _, Sl.of_own ho1 (fun g' hg' => .inr (by injection hg' with hg'; injection hg' with hg'; exact hg'.symm)), (har.carry hcF).append (ArsOk.one ?_)⟩
    simp only [ArOk]
    refine ⟨trivial, hcap.1, hcap.2, _, Sl.of_own (own_keep hz.1 fun b hb => hb1.block b (hz.1.lt b hb).2) (fun g' hg' => .inl (.inr (by rw [lvV, hg']; rfl))), hz.2.carry hcF⟩
set_option maxRecDepth 1000000 in
set_option maxHeartbeats 4000000 in
theorem closed_any (base lb n lc cb cc : Nat) (F : Nat → Prop) (z y : Lev) (r : List Lev) (w : World) (hn : r.length = n) (hn1 : n ≤ 1000000)
    (h : RInv base F (z :: y :: r) (.slice (some ⟨lb, 0, none⟩) (n + 2) lc) (.slice (some ⟨cb, 0, none⟩) (n + 1) cc) w) (hm1 : z.1.done.length ≤ 1000000) (hq1 : y.1.cur.length ≤ 1000000) :
    Calls Try.prog 50 #[.slice (some ⟨lb, 0, none⟩) (n + 2) lc, .slice (some ⟨cb, 0, none⟩) (n + 1) cc] w (ClosedRet base lb n lc cb cc z y r w) := by
  have hlen2 : (z :: y :: r).length = n + 2 := by simp [hn]
  have hlen1 : (z :: y :: r).length - 1 = n + 1 := by simp [hn]
  have hlev := h.lev
  have hcon := h.con
  rw [hlen2] at hlev
  rw [hlen1] at hcon
  obtain ⟨hlc, hlcm⟩ := cap_of hlev rfl
  obtain ⟨hcc, hccm⟩ := cap_of hcon rfl
  have hcbl := (h.con.lt cb rfl).2
  have hlbl := (h.lev.lt lb rfl).2
  have hcl : (cds (y :: r)).length = n * 3 := by rw [cds_len]; simp [hn]
  rw [cds_cons] at hcon
  rw [lvs_cons, lvs_cons] at hlev
  have hll : (lvs r).length = n := by rw [lvs_len, hn]
  have c0 : w.cell? ⟨cb, n * 3, none⟩ = some (.int .i64 2) := by
    rw [World.ownsRow.cellAt hcon (n * 3) (by omega), List.getElem?_append_right (by rw [hcl]; omega), hcl, Nat.sub_self]
    rfl
  have c1 : w.cell? ⟨cb, n * 3 + 1, none⟩ = some (.int .i64 (z.1.line : Int)) := by
    rw [World.ownsRow.cellAt hcon (n * 3 + 1) (by omega), List.getElem?_append_right (by rw [hcl]; omega), hcl, show n * 3 + 1 - n * 3 = 1 by omega]
    rfl
  have c2 : w.cell? ⟨cb, n * 3 + 2, none⟩ = some (.slice z.2.aA (z.1.done.length + 1) z.2.aC) := by
    rw [World.ownsRow.cellAt hcon (n * 3 + 2) (by omega), List.getElem?_append_right (by rw [hcl]; omega), hcl, show n * 3 + 2 - n * 3 = 2 by omega]
    rfl
  have l1 : w.cell? ⟨lb, n + 1, none⟩ = some (.slice z.2.iA z.1.cur.length z.2.iC) := by
    rw [World.ownsRow.cellAt hlev (n + 1) (by omega), List.getElem?_append_right (by simp [hll]), List.length_append, hll]
    simp [lvV]
  have l0 : w.cell? ⟨lb, n, none⟩ = some (.slice y.2.iA y.1.cur.length y.2.iC) := by
    rw [World.ownsRow.cellAt hlev n (by omega), List.getElem?_append_left (by simp [hll]), List.getElem?_append_right (by rw [hll]; omega), hll]
    simp [lvV]
  have L1 := Lib.hid l1
  have L0 := Lib.hid l0
  have harm := h.arm z (by simp)
  have HS := Lib.hid harm.1
  have hdrop : RInv base (fun b => F b ∨ (lvV z).ownBlock = some b) (y :: r) (.slice (some ⟨lb, 0, none⟩) (n + 1) lc) (.slice (some ⟨cb, 0, none⟩) n cc) w := by
    subst hn
    exact h.drop
  have HD := Lib.hid hdrop
  have H := Lib.hid h
  have HN := Lib.hid hn
  obtain ⟨m, hm⟩ : ∃ m, m = z.1.done.length + 1 := ⟨_, rfl⟩
  have hm0 : 1 ≤ m := by omega
  have hm2 : m ≤ 1000001 := by omega
  have HM := Lib.hid hm
  rw [← hm] at c2 HS
  have HAL := Lib.hid (show z.2.arecs.length = m - 1 by rw [harm.2.1.len]; omega)
  have HAR := Lib.hid harm.2.1
  obtain ⟨q, hq⟩ : ∃ q, q = y.1.cur.length := ⟨_, rfl⟩
  have HQ := Lib.hid hq
  rw [← hq] at L0 hq1
  obtain ⟨xb, hxb⟩ : ∃ xb, w.heap.size = xb := ⟨_, rfl⟩
  have HX := Lib.hid hxb
  clear h hn hm hcon hlev hlen1 hlen2 hll hcl l1 l0 harm hdrop hm1 hq hxb
  unfold maxLen at hlcm hccm
  have hw1 : IntKind.i64.wrap ((n : Int) + 1 - 1) = (n : Int) := IntWalk.i64_in _ (by omega) |>.trans (by omega)
  have hw2 : (n : Int).toNat = n := by omega
  have HE0 := fun o => Lib.hid (empty_row w o)
  go_enter Try.func50, Try.ntmps50
  go_wp2_with (at_builtin; refine app_copy el118 rfl _ _ rfl w.heap.size (w.heap.size + 1) rfl (HE0 _).out z.2.aA m z.2.aC _ rfl ((HS.out.alloc _).alloc _) (aCells_ones _) (by omega) (by omega) (by omega) (by simp; omega) ?_; intro g cap wA hownA hgrowA hatA hltA; have hXA := (hgrowA.block w.heap.size (by simp; omega) (by simp)).trans (heap_alloc_old2 w _ _); have x2 := cell_of_row wA w.heap.size 2 _ _ _ hXA; have x3 := frozen_of_row hXA 2)
  have hXlt : w.heap.size < wA.heap.size := lt_of_blk hXA
  have hgx : w.heap.size < g := by
    rcases hatA with e | e
    · omega
    · simp at e; omega
  have hzA : w.heap.size + 1 + 1 ≤ wA.heap.size := by have := hgrowA.size; simp at this; omega
  have hkA : ∀ b, b < w.heap.size → wA.heap[b]? = w.heap[b]? := fun b hb => (hgrowA.block b (by simp; omega) (by simp; omega)).trans ((Below.heap_alloc _ _ b (by simp; omega)).trans (Below.heap_alloc w _ b hb))
  have hbA : Below w.heap.size w wA := ((((Below.refl _ _).alloc (Nat.le_refl _) _).alloc (by simp) _).grown hgrowA (by simp; omega) (fun k hk => by have := Option.some.inj hk; omega))
  generalize hwB : wA.setCell ⟨w.heap.size, 2, none⟩ (.slice (some ⟨g, 0, none⟩) m cap) = wB
  have hXB : wB.heap[w.heap.size]? = some (.cells #[.int .i64 2, .int .i64 (z.1.line : Int), .slice (some ⟨g, 0, none⟩) m cap] 120) := by
    rw [← hwB, blk_set hXA]
    rfl
  have hzB : wB.heap.size = wA.heap.size := by rw [← hwB, setCell_size]
  have hbB : Below w.heap.size w wB := by rw [← hwB]; exact hbA.setCell (Nat.le_refl _) _
  have hownB : wB.ownsRow w.heap.size 117 2 (.slice (some ⟨g, 0, none⟩) m cap) m ((arR z).flatMap aCells) := by
    rw [← hwB]
    exact own_setCell hownA (by simp [Value.ownBlock]; omega) _
  have gm := cap_of hownB rfl
  obtain ⟨hcap1, hcap2⟩ := gm
  unfold maxLen at hcap2
  have g1 : wB.cell? ⟨g, (m - 1) * 2 + 1, none⟩ = some (.slice none 0 0) := by
    rw [hownB.cellAt ((m - 1) * 2 + 1) (by omega)]
    unfold arR
    have hl := flat_len aCells 2 aCells_len z.2.arecs
    rw [HAL.out] at hl
    rw [List.flatMap_append, List.getElem?_append_right (by rw [hl]; omega), hl, show (m - 1) * 2 + 1 - (m - 1) * 2 = 1 by omega]
    rfl
  have g2 : wB.frozen? ⟨g, (m - 1) * 2 + 1, none⟩ = false := hownB.frozenAt _
  have hlbB : wB.cell? ⟨lb, n + 1, none⟩ = some (.slice z.2.iA z.1.cur.length z.2.iC) := (hbB.cell (p := ⟨lb, _, none⟩) hlbl).trans L1.out
  have G1 := Lib.hid g1
  have G2 := Lib.hid g2
  have HB := Lib.hid hbB
  have HOB := Lib.hid hownB
  have HXB := Lib.hid hXB
  have HLB := Lib.hid hlbB
  have HZB := Lib.hid hzB
  have HKA := Lib.hid hkA
  clear hwB g1 g2 hbB hownB hXB hlbB hzB hkA hXA x2 x3 hbA hgrowA hatA hownA hltA c0 c1 c2
  have hw3 : IntKind.i64.wrap ((m : Int) - 1) = (m : Int) - 1 := IntWalk.i64_in _ (by omega)
  have hw4 : ((m : Int) - 1).toNat = m - 1 := by omega
  have hw5 : 0 ≤ (m : Int) - 1 := by omega
  have hw6 : (m : Int) - 1 < (m : Int) := by omega
  have hw7 : IntKind.i64.wrap ((n : Int) + 1) = (n : Int) + 1 := IntWalk.i64_in _ (by omega)
  have hw8 : ((n : Int) + 1).toNat = n + 1 := by omega
  have hw9 : 0 ≤ (n : Int) + 1 := by omega
  have hw10 : (n : Int) + 1 < (n : Int) + 2 := by omega
  simp only [HX.out] at HB HOB HXB HZB HKA hXlt hgx hzA ⊢
  refine wp_region_held_drew (S := fun W => W.heap[xb]? = some (.cells #[.int .i64 2, .int .i64 (z.1.line : Int), .slice (some ⟨g, 0, none⟩) m cap] 120) ∧ W.cell? ⟨lb, n + 1, none⟩ = some (.slice z.2.iA z.1.cur.length z.2.iC)) (by kernel_rfl) ⟨HXB.out, HLB.out⟩ (fun hS => ?_)
  refine wpAnyH_take (i := 0) (v := .pointer (some ⟨xb, 2, none⟩)) rfl (by kernel_rfl) (by kernel_rfl) (by kernel_rfl) (fun _ _ _ h => h) (Or.inl ⟨by kernel_rfl, fun _ _ => by go_simp⟩) hS ?_
  refine wpAnyH_take (i := 1) (v := .slice (some ⟨g, 0, none⟩) m cap) rfl (by kernel_rfl) (by kernel_rfl) (by kernel_rfl) (fun _ _ _ h => h) (Or.inl ⟨by kernel_rfl, fun _ hS_ => by have f2 := cell_of_row _ xb 2 _ _ _ hS_.1; go_simp⟩) hS ?_
  refine wpAnyH_take (i := 2) (v := .pointer (some ⟨xb, 2, none⟩)) rfl (by kernel_rfl) (by kernel_rfl) (by kernel_rfl) (fun _ _ _ h => h) (Or.inl ⟨by kernel_rfl, fun _ _ => by go_simp⟩) hS ?_
  refine wpAnyH_take (i := 3) (v := .slice (some ⟨g, 0, none⟩) m cap) rfl (by kernel_rfl) (by kernel_rfl) (by kernel_rfl) (fun _ _ _ h => h) (Or.inl ⟨by kernel_rfl, fun _ hS_ => by have f2 := cell_of_row _ xb 2 _ _ _ hS_.1; go_simp⟩) hS ?_
  refine wpAnyH_take (i := 4) (v := .int .i64 m) rfl (by kernel_rfl) (by kernel_rfl) (by kernel_rfl) (fun _ _ _ h => h) (Or.inl ⟨by kernel_rfl, fun _ _ => by go_simp⟩) hS ?_
  refine wpAnyH_take (i := 5) (v := .int .i64 ((m : Int) - 1)) rfl (by kernel_rfl) (by kernel_rfl) (by kernel_rfl) (fun _ _ _ h => h) (Or.inl ⟨by kernel_rfl, fun _ _ => by go_simp⟩) hS ?_
  refine wpAnyH_take (i := 6) (v := .slice (some ⟨lb, 0, none⟩) (n + 2) lc) rfl (by kernel_rfl) (by kernel_rfl) (by kernel_rfl) (fun _ _ _ h => h) (Or.inl ⟨by kernel_rfl, fun _ _ => by kernel_rfl⟩) hS ?_
  refine wpAnyH_take (i := 7) (v := .int .i64 n) rfl (by kernel_rfl) (by kernel_rfl) (by kernel_rfl) (fun _ _ _ h => h) (Or.inl ⟨by kernel_rfl, fun _ _ => by kernel_rfl⟩) hS ?_
  refine wpAnyH_take (i := 8) (v := .int .i64 ((n : Int) + 1)) rfl (by kernel_rfl) (by kernel_rfl) (by kernel_rfl) (fun _ _ _ h => h) (Or.inl ⟨by kernel_rfl, fun _ _ => by go_simp⟩) hS ?_
  refine wpAnyH_take (i := 9) (v := .pointer (some ⟨lb, n + 1, none⟩)) rfl (by kernel_rfl) (by kernel_rfl) (by kernel_rfl) (fun _ _ _ h => h) (Or.inl ⟨by kernel_rfl, fun _ _ => by go_simp⟩) hS ?_
  refine wpAnyH_take (i := 10) (v := .slice z.2.iA z.1.cur.length z.2.iC) rfl (by kernel_rfl) (by kernel_rfl) (by kernel_rfl) (fun _ _ _ h => h) (Or.inl ⟨by kernel_rfl, fun _ hS_ => by have f3 := hS_.2; go_simp⟩) hS ?_
  refine wpAnyH_take (i := 11) (v := .pointer (some ⟨g, (m - 1) * 2, none⟩)) rfl (by kernel_rfl) (by kernel_rfl) (by kernel_rfl) (fun _ _ _ h => h) (Or.inl ⟨by kernel_rfl, fun _ _ => by (go_simp; intro h_; omega)⟩) hS ?_
  refine wpAnyH_take (i := 12) (v := .pointer (some ⟨g, (m - 1) * 2 + 1, none⟩)) rfl (by kernel_rfl) (by kernel_rfl) (by kernel_rfl) (fun _ _ _ h => h) (Or.inl ⟨by kernel_rfl, fun _ _ => by go_simp⟩) hS ?_
  refine wpAnyH_ready (rs := [13]) (by kernel_rfl) (by simp) ?_
  refine AllReadyH.cons rfl (fun K hK => ?_) AllReadyH.nil
  have d1 := G1.out
  have d2 := G2.out
  go_simp
  refine hK.out _ _ ⟨?_, ?_⟩ (fun hS => ?_)
  · exact (Below.heap_setCell _ _ _ _ (by show xb ≠ g; omega)).trans HXB.out
  · exact (World.cell?_setCell_far _ _ _ _ (by show g ≠ lb; have := HX.out; omega)).trans HLB.out
  clear hK K d1 d2
  refine wpAnyH_done (by kernel_rfl) ?_ _
  generalize hwC : (wB.setCell ⟨g, (m - 1) * 2 + 1, none⟩ (.slice z.2.iA z.1.cur.length z.2.iC)).drew = wC at hS ⊢
  have hzC : wC.heap.size = wA.heap.size := by
    rw [← hwC]
    exact (setCell_size _ _ _).trans HZB.out
  have hbC : Below xb w wC := by
    rw [← hwC]
    exact (HB.out.setCell (p := ⟨g, _, none⟩) (by show xb ≤ g; omega) _).drew
  have hownC : wC.ownsRow xb 117 2 (.slice (some ⟨g, 0, none⟩) m cap) m ((z.2.arecs ++ ([⟨(z.1.cl : Int), z.2.iA, z.1.cur.length, z.2.iC⟩] : List ARec)).flatMap aCells) := by
    rw [← hwC, ← put_last (cl := (z.1.cl : Int)) (iA := none) (q := 0) (iC := 0) HAL.out]
    exact (HOB.out.stored ((m - 1) * 2 + 1) (.slice z.2.iA z.1.cur.length z.2.iC)).1.drew
  have hXC := hS.1
  have hlbC : wC.cell? ⟨lb, n, none⟩ = some (.slice y.2.iA q y.2.iC) := (hbC.cell (p := ⟨lb, _, none⟩) (by show lb < xb; have := HX.out; omega)).trans L0.out
  have hyC : wC.ownsRow base 120 3 (.slice y.2.iA q y.2.iC) q (y.2.irecs.flatMap iCells) := by
    have h1 := (HD.out.itm y List.mem_cons_self).1
    rw [HQ.out]
    exact own_keep h1 fun b hb => hbC.block b (by rw [← HX.out]; exact (h1.lt b hb).2)
  have hyl : ∀ b, (Value.slice y.2.iA q y.2.iC).ownBlock = some b → base ≤ b ∧ b < xb := fun b hb => by
    have h1 := (HD.out.itm y List.mem_cons_self).1
    rw [← HX.out]
    exact h1.lt b (by rw [lvV, ← HQ.out]; exact hb)
  have hylb : (Value.slice y.2.iA q y.2.iC).ownBlock ≠ some lb := fun e => HD.out.i47 List.mem_cons_self (z := y) (by rw [lvV, ← HQ.out]; exact e) rfl
  have hbase : base ≤ w.heap.size := by
    have := (HD.out.lev.lt lb rfl)
    omega
  have HZC := Lib.hid hzC
  have HBC := Lib.hid hbC
  have HOC := Lib.hid hownC
  have HXC := Lib.hid hXC
  have HLC := Lib.hid hlbC
  have HYC := Lib.hid hyC
  have HYL := Lib.hid hyl
  have HYLB := Lib.hid hylb
  clear hwC hzC hbC hownC hXC hlbC hyC hyl hylb hS
  have hu1 : (n : Int) + 1 ≤ (lc : Int) := by omega
  have hu2 : n + 1 ≤ lc := by omega
  have hu3 : (n : Int) < (n : Int) + 1 := by omega
  have hu4 : 0 ≤ (n : Int) := by omega
  have hu5 : n < n + 1 := by omega
  go_wp2_with fail
  refine wp_region_held_drew (S := fun W => w.heap.size ≤ W.heap.size ∧ W.heap[xb]? = some (.cells #[.int .i64 2, .int .i64 (z.1.line : Int), .slice (some ⟨g, 0, none⟩) m cap] 120)) (by kernel_rfl) ⟨HBC.out.size, HXC.out⟩ (fun hS => ?_)
  refine wpAnyH_take (i := 0) (v := .slice (some ⟨lb, 0, none⟩) (n + 1) lc) rfl (by kernel_rfl) (by kernel_rfl) (by kernel_rfl) (fun _ _ _ h => h) (Or.inl ⟨by kernel_rfl, fun _ _ => by kernel_rfl⟩) hS ?_
  refine wpAnyH_take (i := 1) (v := .int .i64 n) rfl (by kernel_rfl) (by kernel_rfl) (by kernel_rfl) (fun _ _ _ h => h) (Or.inl ⟨by kernel_rfl, fun _ _ => by kernel_rfl⟩) hS ?_
  refine wpAnyH_take (i := 2) (v := .slice (some ⟨lb, 0, none⟩) (n + 1) lc) rfl (by kernel_rfl) (by kernel_rfl) (by kernel_rfl) (fun _ _ _ h => h) (Or.inl ⟨by kernel_rfl, fun _ _ => by kernel_rfl⟩) hS ?_
  refine wpAnyH_take (i := 3) (v := .int .i64 n) rfl (by kernel_rfl) (by kernel_rfl) (by kernel_rfl) (fun _ _ _ h => h) (Or.inl ⟨by kernel_rfl, fun _ _ => by kernel_rfl⟩) hS ?_
  refine wpAnyH_take (i := 4) (v := .pointer (some ⟨lb, n, none⟩)) rfl (by kernel_rfl) (by kernel_rfl) (by kernel_rfl) (fun _ _ _ h => h) (Or.inl ⟨by kernel_rfl, fun _ _ => by go_simp⟩) hS ?_
  refine wpAnyH_take (i := 6) (v := .agg #[.int .i64 2, .int .i64 (z.1.line : Int), .slice (some ⟨g, 0, none⟩) m cap]) rfl (by kernel_rfl) (by kernel_rfl) (by kernel_rfl) (fun _ _ _ h => h) (Or.inl ⟨by kernel_rfl, fun _ hS_ => by have f0 := cell_of_row _ xb 0 _ _ _ hS_.2; have f1 := cell_of_row _ xb 1 _ _ _ hS_.2; have f2 := cell_of_row _ xb 2 _ _ _ hS_.2; go_simp⟩) hS ?_
  refine wpAnyH_ready (rs := [5, 7]) (by kernel_rfl) (by simp) ?_
  refine AllReadyH.cons rfl (fun K hK => ?gA) (AllReadyH.cons rfl (fun K hK => ?gB) AllReadyH.nil)
  case' gA =>
    have d1 := HLC.out
    go_simp
    refine hK.out _ _ hS (fun hS => ?_)
    clear hK K d1
    refine wpAnyH_ready (rs := [7]) (by kernel_rfl) (by simp) ?_
    refine AllReadyH.cons rfl (fun K hK => ?_) AllReadyH.nil
    go_simp
    refine hK.out _ _ ⟨?_, ?_⟩ (fun hS => ?_)
    · exact Nat.le_trans HBC.out.size (by simp)
    · exact alloc_keep _ _ HXC.out
    clear hK K
  case' gB =>
    go_simp
    refine hK.out _ _ ⟨?_, ?_⟩ (fun hS => ?_)
    · exact Nat.le_trans HBC.out.size (by simp)
    · exact alloc_keep _ _ HXC.out
    clear hK K
    refine wpAnyH_ready (rs := [5]) (by kernel_rfl) (by simp) ?_
    refine AllReadyH.cons rfl (fun K hK => ?_) AllReadyH.nil
    have d1 := fun o => cell_alloc_keep wC o HLC.out
    go_simp
    refine hK.out _ _ hS (fun hS => ?_)
    clear hK K d1
  all_goals
    refine wpAnyH_ready (rs := [8]) (by kernel_rfl) (by simp) ?_
    refine AllReadyH.cons rfl (fun K hK => ?_) AllReadyH.nil
    refine app_step el47 wC.heap.size _ (heap_alloc_new wC _) rfl _ _ rfl base (.slice y.2.iA q y.2.iC) q _ rfl (HYC.out.alloc _) rfl rfl (ones_cons rfl (ones_cons rfl (ones_cons rfl ones_nil))) (by omega) (by omega) (by have := HBC.out.size; simp; omega) ?_
    intro g2 cap2 wE hownE hgrowE hatE hltE
    have hzE : wC.heap.size + 1 ≤ wE.heap.size := Nat.le_trans (Nat.le_of_eq (World.size_alloc _ _).symm) hgrowE.size
    have hXE := (hgrowE.block xb (lt_of_blk hS.2) (fun e => by have := (HYL.out xb e.symm).2; omega)).trans hS.2
    have hlbE : wE.heap[lb]? = w.heap[lb]? := (hgrowE.block lb (by have := HBC.out.size; simp; omega) (fun e => HYLB.out e.symm)).trans ((Below.heap_alloc wC _ lb (by have := HBC.out.size; omega)).trans (HBC.out.block lb (by rw [← HX.out]; exact hlbl)))
    refine hK.out _ _ ⟨by have := HBC.out.size; omega, hXE⟩ (fun hS => ?_)
    clear hK K
    refine wpAnyH_take (i := 9) (v := .pointer (some ⟨lb, n, none⟩)) rfl (by kernel_rfl) (by kernel_rfl) (by kernel_rfl) (fun _ _ _ h => h) (Or.inl ⟨by kernel_rfl, fun _ _ => by go_simp⟩) hS ?_
    refine wpAnyH_ready (rs := [10]) (by kernel_rfl) (by simp) ?_
    refine AllReadyH.cons rfl (fun K hK => ?_) AllReadyH.nil
    have hfin : ClosedRet base lb n lc cb cc z y r w (.returned (.tuple #[.slice (some ⟨lb, 0, none⟩) (n + 1) lc, .slice (some ⟨cb, 0, none⟩) n cc])) (wE.setCell ⟨lb, n, none⟩ (.slice (some ⟨g2, 0, none⟩) (q + 1) cap2)) :=
      closed_fin HX.out H.out HD.out HN.out HM.out HQ.out HAR.out HBC.out HOC.out hcap1 hcap2 hgx hownE hgrowE hatE
    have HFIN := Lib.hid hfin
    have d1 : wE.cell? ⟨lb, n, none⟩ = some (.slice y.2.iA q y.2.iC) := (World.cell?_of_block (w := w) hlbE).trans L0.out
    have d2 : wE.frozen? ⟨lb, n, none⟩ = false := by
      obtain ⟨cs, hcs⟩ := own_type HD.out.lev (b := lb) rfl
      exact (World.frozen?_of_block (w := w) hlbE).trans (frozen_of_row hcs n)
    have hXlb : xb ≠ lb := by have := HX.out; omega
    clear hfin hownE hgrowE hatE hlbE
    go_simp
    refine hK.out _ _ ⟨?_, ?_⟩ (fun hS => ?_)
    · rw [setCell_size]; have := HBC.out.size; omega
    · exact (Below.heap_setCell _ _ _ _ hXlb).trans hXE
    clear hK K d1 d2 hXE hXlb hzE hS
    refine wpAnyH_done (by kernel_rfl) ?_ _
    generalize wE.setCell ⟨lb, n, none⟩ (.slice (some ⟨g2, 0, none⟩) (q + 1) cap2) = wF at HFIN ⊢
    go_wp2_with fail
    go_quiet (fail)
    go_wp2_with fail
    go_ret2
    exact HFIN.out.drewN nq
end Go.Proofs.Ytjklnlocmmnclaa
