/- A round of the document's Build's first loop: arm5, badn5, badn6, badn7, pop. -/
import Derived.Test.YtjklnlocmmnclaaKi
namespace Go.Proofs.Ytjklnlocmmnclaa
open Go.RowKit

set_option maxRecDepth 1000000 in
set_option maxHeartbeats 4000000 in
theorem c25_arm5 {U : Nat → Prop} {b off n c k : Nat} {A' : Option Addr} {n' c' : Nat} {l : List Tok} {w wr : World} {F : Nat → Prop} {z y : Lev} {r : List Lev} {bads : List Nat} {lb lc nn : Nat} {vc ve vb : Value} (u : Nat → Value) (Q0 : Exit → Act → World → Prop) (hlt : k < n) (hn : n ≤ 100000) 
    (hL : LnAt wr U b off k A' n' c' l) (hI : BR w F (z :: y :: r) bads (.slice (some ⟨lb, 0, none⟩) (nn + 1 + 1) lc) vc ve vb wr) (hnn : r.length = nn) (hnk : nn ≤ k) (hbk : bads.length ≤ k) (hzk : z.1.done.length ≤ k ∧ z.1.cur.length ≤ k) (hk : kindT l = 5) (hla : z.1.last = false) (hQ0 : ∀ ch a a' w, Q0 (.panic ch) a w → Q0 (.panic ch) a' w) :
    Code.wp Try.prog body25 (Exit.then (P25 (some ⟨b, off, none⟩) n c w k (z.1.arm k false :: (y :: r).map (·.1), bads)) Q0) (fr25 (some ⟨b, off, none⟩) n c w.heap.size (.slice (some ⟨lb, 0, none⟩) (nn + 1 + 1) lc) vc ve vb (.int .i64 k) u) wr := by
  obtain ⟨hbl, c0, ht, hn6⟩ := hL
  have HT := Lib.hid ht
  have HI := Lib.hid hI
  have hB0 := hI.below.size
  have HNN := Lib.hid hnn
  have HK := Lib.hid hk
  have htl := ht.len
  clear ht hI hnn hk
  conv => arg 2; whnf
  unfold fr25
  go_wp2_with fail
  refine (kindR_any A' n' c' l _ HT.out hn6).mono ?_
  rintro e w1 ⟨rfl, hb1⟩
  rw [HK.out]
  have HI1 := Lib.hid (HI.out.keep hb1)
  have hz1 := hb1.size
  have q0 := (hb1.cell (p := ⟨b, off + k * 4, none⟩) hbl).trans c0
  clear hb1 c0 HI
  have HLA := Lib.hid hla
  clear hla
  obtain ⟨cb, cc, hvc, _, _⟩ := HI1.out.inv.con.form (by simp)
  rw [show (z :: y :: r).length - 1 = nn + 1 by simp [HNN.out]] at hvc
  subst hvc
  obtain ⟨eb, ec, hve, _, _⟩ := HI1.out.end_.form (by simp)
  rw [show (z :: y :: r).length - 1 = nn + 1 by simp [HNN.out]] at hve
  subst hve
  have hnk5 : nn ≤ 100000 := by omega
  have hw1 : IntKind.i64.wrap ((nn : Int) + 1 - 1) = (nn : Int) := IntWalk.i64_in _ (by omega) |>.trans (by omega)
  have hw2 : (nn : Int).toNat = nn := by omega
  have hw3 : IntKind.i64.wrap ((nn : Int) + 1 + 1 - 1) = (nn : Int) + 1 := IntWalk.i64_in _ (by omega) |>.trans (by omega)
  have hcells := HI1.out.cells HNN.out
  obtain ⟨⟨d0, d1, d2⟩, l1, e1, hcbl, hlbl, hebl⟩ := hcells
  have harm := HI1.out.inv.arm z (by simp)
  have HS := Lib.hid harm.1
  obtain ⟨m, hm⟩ : ∃ m, m = z.1.done.length + 1 := ⟨_, rfl⟩
  have hmk : m ≤ k + 1 := by omega
  have hm0 : 1 ≤ m := by omega
  have HM := Lib.hid hm
  rw [← hm] at d2 HS
  have HAL := Lib.hid (show z.2.arecs.length = m - 1 by rw [harm.2.1.len]; omega)
  rw [HLA.out] at e1
  have HL1 := Lib.hid l1
  have HE0 := fun o => Lib.hid (empty_row w1 o)
  obtain ⟨xb, hxb⟩ : ∃ xb, w1.heap.size = xb := ⟨_, rfl⟩
  have HX := Lib.hid hxb
  clear harm hm l1 hxb htl
  go_wp2_with (at_builtin; refine app_copy el118 rfl _ _ rfl w1.heap.size (w1.heap.size + 1) rfl (HE0 _).out z.2.aA m z.2.aC _ rfl ((HS.out.alloc _).alloc _) (aCells_ones _) (by omega) (by omega) (by omega) (by simp; omega) ?_; intro g cap wA hownA hgrowA hatA hltA; have hXA := (hgrowA.block w1.heap.size (by simp; omega) (by simp)).trans (heap_alloc_old2 w1 _ _); have x2 := cell_of_row wA w1.heap.size 2 _ _ _ hXA; have x3 := frozen_of_row hXA 2)
  have hXlt : w1.heap.size < wA.heap.size := lt_of_blk hXA
  have hgx : w1.heap.size < g := by
    rcases hatA with e | e
    · omega
    · simp at e; omega
  have hzA : w1.heap.size + 1 + 1 ≤ wA.heap.size := by have := hgrowA.size; simp at this; omega
  have hbA : Below w1.heap.size w1 wA := ((((Below.refl _ _).alloc (Nat.le_refl _) _).alloc (by simp) _).grown hgrowA (by simp; omega) (fun k hk => by have := Option.some.inj hk; omega))
  generalize hwB : wA.setCell ⟨w1.heap.size, 2, none⟩ (.slice (some ⟨g, 0, none⟩) m cap) = wB
  have hXB : wB.heap[w1.heap.size]? = some (.cells #[.int .i64 2, .int .i64 (z.1.line : Int), .slice (some ⟨g, 0, none⟩) m cap] 120) := by
    rw [← hwB, blk_set hXA]
    rfl
  have hbB : Below w1.heap.size w1 wB := by rw [← hwB]; exact hbA.setCell (Nat.le_refl _) _
  have hownB : wB.ownsRow w1.heap.size 117 2 (.slice (some ⟨g, 0, none⟩) m cap) m ((arR z).flatMap aCells) := by
    rw [← hwB]
    exact own_setCell hownA (by simp [Value.ownBlock]; omega) _
  obtain ⟨hcap1, hcap2⟩ := cap_of hownB rfl
  unfold maxLen at hcap2
  have g1 : wB.cell? ⟨g, (m - 1) * 2 + 1, none⟩ = some (.slice none 0 0) := by
    rw [hownB.cellAt ((m - 1) * 2 + 1) (by omega)]
    unfold arR
    have hl := flat_len aCells 2 aCells_len z.2.arecs
    rw [HAL.out] at hl
    rw [List.flatMap_append, List.getElem?_append_right (by rw [hl]; omega), hl, show (m - 1) * 2 + 1 - (m - 1) * 2 = 1 by omega]
    rfl
  have g2 : wB.frozen? ⟨g, (m - 1) * 2 + 1, none⟩ = false := hownB.frozenAt _
  have hlbB : wB.cell? ⟨lb, nn + 1, none⟩ = some (.slice z.2.iA z.1.cur.length z.2.iC) := (hbB.cell (p := ⟨lb, _, none⟩) hlbl).trans HL1.out
  have G1 := Lib.hid g1
  have G2 := Lib.hid g2
  have HB := Lib.hid hbB
  have HOB := Lib.hid hownB
  have HXB := Lib.hid hXB
  have HLB := Lib.hid hlbB
  clear hwB g1 g2 hbB hownB hXB hlbB hzA hXA x2 x3 hbA hgrowA hatA hownA hltA
  have hv1 : IntKind.i64.wrap ((m : Int) - 1) = (m : Int) - 1 := IntWalk.i64_in _ (by omega)
  have hv2 : ((m : Int) - 1).toNat = m - 1 := by omega
  have hv3 : 0 ≤ (m : Int) - 1 := by omega
  have hv4 : (m : Int) - 1 < (m : Int) := by omega
  have hv5 : ((nn : Int) + 1).toNat = nn + 1 := by omega
  have hv6 : 0 ≤ (nn : Int) + 1 := by omega
  have hv7 : (nn : Int) + 1 < (nn : Int) + 2 := by omega
  simp only [HX.out] at HB HOB HXB hXlt hgx ⊢
  refine wp_region_held_drew (S := fun W => W.heap[xb]? = some (.cells #[.int .i64 2, .int .i64 (z.1.line : Int), .slice (some ⟨g, 0, none⟩) m cap] 120) ∧ W.cell? ⟨lb, nn + 1, none⟩ = some (.slice z.2.iA z.1.cur.length z.2.iC)) (by kernel_rfl) ⟨HXB.out, HLB.out⟩ (fun hS => ?_)
  refine wpAnyH_take (i := 0) (v := .pointer (some ⟨xb, 2, none⟩)) rfl (by kernel_rfl) (by kernel_rfl) (by kernel_rfl) (fun _ _ _ h => hQ0 _ _ _ _ h) (Or.inl ⟨by kernel_rfl, fun _ _ => by go_simp⟩) hS ?_
  refine wpAnyH_take (i := 1) (v := .slice (some ⟨g, 0, none⟩) m cap) rfl (by kernel_rfl) (by kernel_rfl) (by kernel_rfl) (fun _ _ _ h => hQ0 _ _ _ _ h) (Or.inl ⟨by kernel_rfl, fun _ hS_ => by have f2 := cell_of_row _ xb 2 _ _ _ hS_.1; go_simp⟩) hS ?_
  refine wpAnyH_take (i := 2) (v := .pointer (some ⟨xb, 2, none⟩)) rfl (by kernel_rfl) (by kernel_rfl) (by kernel_rfl) (fun _ _ _ h => hQ0 _ _ _ _ h) (Or.inl ⟨by kernel_rfl, fun _ _ => by go_simp⟩) hS ?_
  refine wpAnyH_take (i := 3) (v := .slice (some ⟨g, 0, none⟩) m cap) rfl (by kernel_rfl) (by kernel_rfl) (by kernel_rfl) (fun _ _ _ h => hQ0 _ _ _ _ h) (Or.inl ⟨by kernel_rfl, fun _ hS_ => by have f2 := cell_of_row _ xb 2 _ _ _ hS_.1; go_simp⟩) hS ?_
  refine wpAnyH_take (i := 4) (v := .int .i64 m) rfl (by kernel_rfl) (by kernel_rfl) (by kernel_rfl) (fun _ _ _ h => hQ0 _ _ _ _ h) (Or.inl ⟨by kernel_rfl, fun _ _ => by go_simp⟩) hS ?_
  refine wpAnyH_take (i := 5) (v := .int .i64 ((m : Int) - 1)) rfl (by kernel_rfl) (by kernel_rfl) (by kernel_rfl) (fun _ _ _ h => hQ0 _ _ _ _ h) (Or.inl ⟨by kernel_rfl, fun _ _ => by go_simp⟩) hS ?_
  refine wpAnyH_take (i := 6) (v := .slice (some ⟨lb, 0, none⟩) (nn + 2) lc) rfl (by kernel_rfl) (by kernel_rfl) (by kernel_rfl) (fun _ _ _ h => hQ0 _ _ _ _ h) (Or.inl ⟨by kernel_rfl, fun _ _ => by kernel_rfl⟩) hS ?_
  refine wpAnyH_take (i := 7) (v := .int .i64 ((nn : Int) + 1)) rfl (by kernel_rfl) (by kernel_rfl) (by kernel_rfl) (fun _ _ _ h => hQ0 _ _ _ _ h) (Or.inl ⟨by kernel_rfl, fun _ _ => by kernel_rfl⟩) hS ?_
  refine wpAnyH_take (i := 8) (v := .pointer (some ⟨lb, nn + 1, none⟩)) rfl (by kernel_rfl) (by kernel_rfl) (by kernel_rfl) (fun _ _ _ h => hQ0 _ _ _ _ h) (Or.inl ⟨by kernel_rfl, fun _ _ => by go_simp⟩) hS ?_
  refine wpAnyH_take (i := 9) (v := .slice z.2.iA z.1.cur.length z.2.iC) rfl (by kernel_rfl) (by kernel_rfl) (by kernel_rfl) (fun _ _ _ h => hQ0 _ _ _ _ h) (Or.inl ⟨by kernel_rfl, fun _ hS_ => by have f3 := hS_.2; go_simp⟩) hS ?_
  refine wpAnyH_take (i := 10) (v := .pointer (some ⟨g, (m - 1) * 2, none⟩)) rfl (by kernel_rfl) (by kernel_rfl) (by kernel_rfl) (fun _ _ _ h => hQ0 _ _ _ _ h) (Or.inl ⟨by kernel_rfl, fun _ _ => by (go_simp; intro h_; omega)⟩) hS ?_
  refine wpAnyH_take (i := 11) (v := .pointer (some ⟨g, (m - 1) * 2 + 1, none⟩)) rfl (by kernel_rfl) (by kernel_rfl) (by kernel_rfl) (fun _ _ _ h => hQ0 _ _ _ _ h) (Or.inl ⟨by kernel_rfl, fun _ _ => by go_simp⟩) hS ?_
  refine wpAnyH_ready (rs := [12]) (by kernel_rfl) (by simp) ?_
  refine AllReadyH.cons rfl (fun K hK => ?_) AllReadyH.nil
  have s1 := G1.out
  have s2 := G2.out
  go_simp
  refine hK.out _ _ ⟨?_, ?_⟩ (fun hS => ?_)
  · exact (Below.heap_setCell _ _ _ _ (by show xb ≠ g; omega)).trans HXB.out
  · exact (World.cell?_setCell_far _ _ _ _ (by show g ≠ lb; have := HX.out; omega)).trans HLB.out
  clear hK K s1 s2
  refine wpAnyH_done (by kernel_rfl) ?_ _
  generalize hwC : (wB.setCell ⟨g, (m - 1) * 2 + 1, none⟩ (.slice z.2.iA z.1.cur.length z.2.iC)).drew = wC at hS ⊢
  have hbC : Below xb w1 wC := by
    rw [← hwC]
    exact (HB.out.setCell (p := ⟨g, _, none⟩) (by show xb ≤ g; omega) _).drew
  have hownC : wC.ownsRow xb 117 2 (.slice (some ⟨g, 0, none⟩) m cap) m ((z.2.arecs ++ ([⟨(z.1.cl : Int), z.2.iA, z.1.cur.length, z.2.iC⟩] : List ARec)).flatMap aCells) := by
    rw [← hwC, ← put_last (cl := (z.1.cl : Int)) (iA := none) (q := 0) (iC := 0) HAL.out]
    exact (HOB.out.stored ((m - 1) * 2 + 1) (.slice z.2.iA z.1.cur.length z.2.iC)).1.drew
  have hXC := hS.1
  have x0 := cell_of_row wC xb 2 _ _ _ hXC
  have hxCz : xb < wC.heap.size := lt_of_blk hXC
  have HBC := Lib.hid hbC
  have HOC := Lib.hid hownC
  have HXC := Lib.hid hXC
  clear hwC hbC hownC hXC hS
  go_wp2_with (at_builtin; refine app_at el118 wC.heap.size rfl _ rfl _ _ rfl xb (.slice (some ⟨g, 0, none⟩) m cap) m _ rfl HOC.out rfl rfl (ones_cons rfl (ones_cons rfl ones_nil)) (by omega) (by omega) (by omega) ?_; intro g2 cap2 wD hownD hgrowD hatD hltD; obtain ⟨hbD, hXD, y0, y1, y2, y3, ⟨n1, n2, n3, n4, n5, n6, n7, n8, n9, n10, n11, n12⟩, q0, q1, q2, q3, q4, q5, q6, q7⟩ := arm_facts HI1.out HNN.out HX.out HBC.out HXC.out hgrowD hgx)
  have hfin := HI1.out.arm (k := k) (last := false) HNN.out HM.out (by rw [HX.out]; exact hbD) (by rw [HX.out]; exact ⟨_, hXD⟩) (by rw [HX.out]; exact hownD)
  simp only [HX.out] at hfin
  obtain ⟨G, m', hfin⟩ := hfin
  have HFIN := Lib.hid hfin
  clear hfin hownD hgrowD hatD hltD hXD hbD
  exact p25_mk _ _ _ _ _ rfl (by go_num) ⟨_, _, rfl, HFIN.out⟩
set_option maxRecDepth 1000000 in
set_option maxHeartbeats 4000000 in
theorem c25_badn5 {U : Nat → Prop} {b off n c k : Nat} {A' : Option Addr} {n' c' : Nat} {l : List Tok} {w wr : World} {F : Nat → Prop} {z y : Lev} {r : List Lev} {bads : List Nat} {lb lc nn : Nat} {vc ve vb : Value} (u : Nat → Value) (Q0 : Exit → Act → World → Prop) (hlt : k < n) (hn : n ≤ 100000) 
    (hL : LnAt wr U b off k A' n' c' l) (hI : BR w F ([z]) bads (.slice (some ⟨lb, 0, none⟩) (nn + 1) lc) vc ve vb wr) (hnn : nn = 0) (hnk : nn ≤ k) (hbk : bads.length ≤ k) (hzk : z.1.done.length ≤ k ∧ z.1.cur.length ≤ k) (hk : kindT l = 5) :
    Code.wp Try.prog body25 (Exit.then (P25 (some ⟨b, off, none⟩) n c w k (z.1 :: ([] : List Lev).map (·.1), bads ++ [k])) Q0) (fr25 (some ⟨b, off, none⟩) n c w.heap.size (.slice (some ⟨lb, 0, none⟩) (nn + 1) lc) vc ve vb (.int .i64 k) u) wr := by
  obtain ⟨hbl, c0, ht, hn6⟩ := hL
  have HT := Lib.hid ht
  have HI := Lib.hid hI
  have hB0 := hI.below.size
  have HNN := Lib.hid hnn
  have HK := Lib.hid hk
  have htl := ht.len
  clear ht hI hnn hk
  conv => arg 2; whnf
  unfold fr25
  go_wp2_with fail
  refine (kindR_any A' n' c' l _ HT.out hn6).mono ?_
  rintro e w1 ⟨rfl, hb1⟩
  rw [HK.out]
  have HI1 := Lib.hid (HI.out.keep hb1)
  have hz1 := hb1.size
  have q0 := (hb1.cell (p := ⟨b, off + k * 4, none⟩) hbl).trans c0
  clear hb1 c0 HI
  obtain rfl := HNN.out
  obtain ⟨Ac, cc0, hvc, _, _, _⟩ := own_form HI1.out.inv.con
  rw [show ([z] : List Lev).length - 1 = 0 from rfl] at hvc
  subst hvc
  go_wp2_with (at_builtin; refine app_at el54 w1.heap.size rfl _ rfl _ _ rfl w.heap.size vb bads.length _ rfl HI1.out.bad rfl rfl (ones_cons rfl ones_nil) (by omega) (by omega) (by omega) ?_; intro gA cA wA hownA hgA hatA hltA)
  have HFIN := Lib.hid (HI1.out.badd hownA hgA)
  clear hownA hgA hatA hltA
  exact p25_mk _ _ _ _ _ rfl (by go_num) ⟨_, _, rfl, HFIN.out⟩
set_option maxRecDepth 1000000 in
set_option maxHeartbeats 4000000 in
theorem c25_badn6 {U : Nat → Prop} {b off n c k : Nat} {A' : Option Addr} {n' c' : Nat} {l : List Tok} {w wr : World} {F : Nat → Prop} {z y : Lev} {r : List Lev} {bads : List Nat} {lb lc nn : Nat} {vc ve vb : Value} (u : Nat → Value) (Q0 : Exit → Act → World → Prop) (hlt : k < n) (hn : n ≤ 100000) 
    (hL : LnAt wr U b off k A' n' c' l) (hI : BR w F ([z]) bads (.slice (some ⟨lb, 0, none⟩) (nn + 1) lc) vc ve vb wr) (hnn : nn = 0) (hnk : nn ≤ k) (hbk : bads.length ≤ k) (hzk : z.1.done.length ≤ k ∧ z.1.cur.length ≤ k) (hk : kindT l = 6) :
    Code.wp Try.prog body25 (Exit.then (P25 (some ⟨b, off, none⟩) n c w k (z.1 :: ([] : List Lev).map (·.1), bads ++ [k])) Q0) (fr25 (some ⟨b, off, none⟩) n c w.heap.size (.slice (some ⟨lb, 0, none⟩) (nn + 1) lc) vc ve vb (.int .i64 k) u) wr := by
  obtain ⟨hbl, c0, ht, hn6⟩ := hL
  have HT := Lib.hid ht
  have HI := Lib.hid hI
  have hB0 := hI.below.size
  have HNN := Lib.hid hnn
  have HK := Lib.hid hk
  have htl := ht.len
  clear ht hI hnn hk
  conv => arg 2; whnf
  unfold fr25
  go_wp2_with fail
  refine (kindR_any A' n' c' l _ HT.out hn6).mono ?_
  rintro e w1 ⟨rfl, hb1⟩
  rw [HK.out]
  have HI1 := Lib.hid (HI.out.keep hb1)
  have hz1 := hb1.size
  have q0 := (hb1.cell (p := ⟨b, off + k * 4, none⟩) hbl).trans c0
  clear hb1 c0 HI
  obtain rfl := HNN.out
  obtain ⟨Ac, cc0, hvc, _, _, _⟩ := own_form HI1.out.inv.con
  rw [show ([z] : List Lev).length - 1 = 0 from rfl] at hvc
  subst hvc
  go_wp2_with (at_builtin; refine app_at el54 w1.heap.size rfl _ rfl _ _ rfl w.heap.size vb bads.length _ rfl HI1.out.bad rfl rfl (ones_cons rfl ones_nil) (by omega) (by omega) (by omega) ?_; intro gA cA wA hownA hgA hatA hltA)
  have HFIN := Lib.hid (HI1.out.badd hownA hgA)
  clear hownA hgA hatA hltA
  exact p25_mk _ _ _ _ _ rfl (by go_num) ⟨_, _, rfl, HFIN.out⟩
set_option maxRecDepth 1000000 in
set_option maxHeartbeats 4000000 in
theorem c25_badn7 {U : Nat → Prop} {b off n c k : Nat} {A' : Option Addr} {n' c' : Nat} {l : List Tok} {w wr : World} {F : Nat → Prop} {z y : Lev} {r : List Lev} {bads : List Nat} {lb lc nn : Nat} {vc ve vb : Value} (u : Nat → Value) (Q0 : Exit → Act → World → Prop) (hlt : k < n) (hn : n ≤ 100000) 
    (hL : LnAt wr U b off k A' n' c' l) (hI : BR w F ([z]) bads (.slice (some ⟨lb, 0, none⟩) (nn + 1) lc) vc ve vb wr) (hnn : nn = 0) (hnk : nn ≤ k) (hbk : bads.length ≤ k) (hzk : z.1.done.length ≤ k ∧ z.1.cur.length ≤ k) (hk : kindT l = 7) :
    Code.wp Try.prog body25 (Exit.then (P25 (some ⟨b, off, none⟩) n c w k (z.1 :: ([] : List Lev).map (·.1), bads ++ [k])) Q0) (fr25 (some ⟨b, off, none⟩) n c w.heap.size (.slice (some ⟨lb, 0, none⟩) (nn + 1) lc) vc ve vb (.int .i64 k) u) wr := by
  obtain ⟨hbl, c0, ht, hn6⟩ := hL
  have HT := Lib.hid ht
  have HI := Lib.hid hI
  have hB0 := hI.below.size
  have HNN := Lib.hid hnn
  have HK := Lib.hid hk
  have htl := ht.len
  clear ht hI hnn hk
  conv => arg 2; whnf
  unfold fr25
  go_wp2_with fail
  refine (kindR_any A' n' c' l _ HT.out hn6).mono ?_
  rintro e w1 ⟨rfl, hb1⟩
  rw [HK.out]
  have HI1 := Lib.hid (HI.out.keep hb1)
  have hz1 := hb1.size
  have q0 := (hb1.cell (p := ⟨b, off + k * 4, none⟩) hbl).trans c0
  clear hb1 c0 HI
  obtain rfl := HNN.out
  obtain ⟨Ac, cc0, hvc, _, _, _⟩ := own_form HI1.out.inv.con
  rw [show ([z] : List Lev).length - 1 = 0 from rfl] at hvc
  subst hvc
  go_wp2_with (at_builtin; refine app_at el54 w1.heap.size rfl _ rfl _ _ rfl w.heap.size vb bads.length _ rfl HI1.out.bad rfl rfl (ones_cons rfl ones_nil) (by omega) (by omega) (by omega) ?_; intro gA cA wA hownA hgA hatA hltA)
  have HFIN := Lib.hid (HI1.out.badd hownA hgA)
  clear hownA hgA hatA hltA
  exact p25_mk _ _ _ _ _ rfl (by go_num) ⟨_, _, rfl, HFIN.out⟩
set_option maxRecDepth 1000000 in
set_option maxHeartbeats 4000000 in
theorem c25_pop {U : Nat → Prop} {b off n c k : Nat} {A' : Option Addr} {n' c' : Nat} {l : List Tok} {w wr : World} {F : Nat → Prop} {z y : Lev} {r : List Lev} {bads : List Nat} {lb lc nn : Nat} {vc ve vb : Value} (u : Nat → Value) (Q0 : Exit → Act → World → Prop) (hlt : k < n) (hn : n ≤ 100000) 
    (hL : LnAt wr U b off k A' n' c' l) (hI : BR w F (z :: y :: r) bads (.slice (some ⟨lb, 0, none⟩) (nn + 1 + 1) lc) vc ve vb wr) (hnn : r.length = nn) (hnk : nn ≤ k) (hbk : bads.length ≤ k) (hzk : z.1.done.length ≤ k ∧ z.1.cur.length ≤ k) (hk : kindT l = 7) (hyk : y.1.cur.length ≤ k) :
    Code.wp Try.prog body25 (Exit.then (P25 (some ⟨b, off, none⟩) n c w k (y.1.put z.1.item :: r.map (·.1), bads)) Q0) (fr25 (some ⟨b, off, none⟩) n c w.heap.size (.slice (some ⟨lb, 0, none⟩) (nn + 1 + 1) lc) vc ve vb (.int .i64 k) u) wr := by
  obtain ⟨hbl, c0, ht, hn6⟩ := hL
  have HT := Lib.hid ht
  have HI := Lib.hid hI
  have hB0 := hI.below.size
  have HNN := Lib.hid hnn
  have HK := Lib.hid hk
  have htl := ht.len
  clear ht hI hnn hk
  conv => arg 2; whnf
  unfold fr25
  go_wp2_with fail
  refine (kindR_any A' n' c' l _ HT.out hn6).mono ?_
  rintro e w1 ⟨rfl, hb1⟩
  rw [HK.out]
  have HI1 := Lib.hid (HI.out.keep hb1)
  have hz1 := hb1.size
  have q0 := (hb1.cell (p := ⟨b, off + k * 4, none⟩) hbl).trans c0
  clear hb1 c0 HI
  obtain ⟨cb, cc, hvc, _, _⟩ := HI1.out.inv.con.form (by simp)
  rw [show (z :: y :: r).length - 1 = nn + 1 by simp [HNN.out]] at hvc
  subst hvc
  obtain ⟨eb, ec, hve, _, _⟩ := HI1.out.end_.form (by simp)
  rw [show (z :: y :: r).length - 1 = nn + 1 by simp [HNN.out]] at hve
  subst hve
  have hnk5 : nn ≤ 100000 := by omega
  have hw1 : IntKind.i64.wrap ((nn : Int) + 1 - 1) = (nn : Int) := IntWalk.i64_in _ (by omega) |>.trans (by omega)
  have hw2 : (nn : Int).toNat = nn := by omega
  have hw3 : IntKind.i64.wrap ((nn : Int) + 1 + 1 - 1) = (nn : Int) + 1 := IntWalk.i64_in _ (by omega) |>.trans (by omega)
  have hend := HI1.out.end_
  rw [show (z :: y :: r).length - 1 = nn + 1 by simp [HNN.out]] at hend
  have hec := (cap_of hend rfl).1
  have HCL := Lib.hid (closed_any w.heap.size lb nn lc cb cc F z y r w1 HNN.out (by omega) HI1.out.inv (by omega) (by omega))
  have hu1 : (nn : Int) ≤ (ec : Int) := by omega
  have hu2 : nn ≤ ec := by omega
  have hu3 : 0 ≤ (nn : Int) := by omega
  clear hend
  go_wp2_with fail
  refine HCL.out.mono ?_
  rintro e w2 ⟨rfl, G, m', hr, hb2, hk2⟩
  have HFIN := Lib.hid (HI1.out.pop HNN.out hr hb2 hk2)
  clear hr hb2 hk2
  go_wp2_with fail
  exact p25_mk _ _ _ _ _ rfl (by go_num) ⟨_, _, rfl, HFIN.out⟩
end Go.Proofs.Ytjklnlocmmnclaa
