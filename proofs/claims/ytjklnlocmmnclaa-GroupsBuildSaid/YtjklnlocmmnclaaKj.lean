/- A round of the document's Build's first loop: push2, push3, push4, none. -/
import Derived.Test.YtjklnlocmmnclaaKi
namespace Go.Proofs.Ytjklnlocmmnclaa
open Go.RowKit

set_option maxRecDepth 1000000 in
set_option maxHeartbeats 4000000 in
theorem c25_push2 {U : Nat → Prop} {b off n c k : Nat} {A' : Option Addr} {n' c' : Nat} {l : List Tok} {w wr : World} {F : Nat → Prop} {z y : Lev} {r : List Lev} {bads : List Nat} {lb lc nn : Nat} {vc ve vb : Value} (u : Nat → Value) (Q0 : Exit → Act → World → Prop) (hlt : k < n) (hn : n ≤ 100000) 
    (hL : LnAt wr U b off k A' n' c' l) (hI : BR w F (z :: r) bads (.slice (some ⟨lb, 0, none⟩) (nn + 1) lc) vc ve vb wr) (hnn : r.length = nn) (hnk : nn ≤ k) (hbk : bads.length ≤ k) (hzk : z.1.done.length ≤ k ∧ z.1.cur.length ≤ k) (hk : kindT l = 2) :
    Code.wp Try.prog body25 (Exit.then (P25 (some ⟨b, off, none⟩) n c w k (newF k :: z.1 :: r.map (·.1), bads)) Q0) (fr25 (some ⟨b, off, none⟩) n c w.heap.size (.slice (some ⟨lb, 0, none⟩) (nn + 1) lc) vc ve vb (.int .i64 k) u) wr := by
  obtain ⟨hbl, c0, ht, hn6⟩ := hL
  have HT := Lib.hid ht
  have HI := Lib.hid hI
  have hB0 := hI.below.size
  have HNN := Lib.hid hnn
  have HK := Lib.hid hk
  have htl := ht.len
  clear ht hI hnn hk
  conv => arg 2; whnf
  unfold fr25
  go_wp2_with fail
  refine (kindR_any A' n' c' l _ HT.out hn6).mono ?_
  rintro e w1 ⟨rfl, hb1⟩
  rw [HK.out]
  have HI1 := Lib.hid (HI.out.keep hb1)
  have hz1 := hb1.size
  have q0 := (hb1.cell (p := ⟨b, off + k * 4, none⟩) hbl).trans c0
  clear hb1 c0 HI
  have HLV := Lib.hid HI1.out.inv.lev
  have HCN := Lib.hid HI1.out.inv.con
  rw [show (z :: r).length = nn + 1 by simp [HNN.out]] at HLV HCN
  have HZL := Lib.hid (show (z :: r).length = nn + 1 by simp [HNN.out])
  go_wp2_with (first
    | (at_builtin; refine app_at el47 (w1.heap.size + 1) (by simp) _ rfl _ _ rfl w.heap.size vc nn _ rfl (HCN.out.alloc _) rfl rfl (ones_cons rfl (ones_cons rfl (ones_cons rfl ones_nil))) (by omega) (by omega) (by omega) ?_; intro gA cA wA hownA hgA hatA hltA; have hzA := hgA.size; have hm1 := HI1.out.mid1 hgA; rw [HZL.out] at hm1)
    | (at_builtin; refine app_at el115 wA.heap.size rfl _ rfl _ _ rfl w.heap.size ve nn _ rfl hm1.1 rfl rfl (ones_cons rfl ones_nil) (by omega) (by omega) (by simp at hzA; omega) ?_; intro gB cB wB hownB hgB hatB hltB; have hzB := hgB.size; have hm2 := HI1.out.mid2 hgA hgB; rw [HZL.out] at hm2)
    | (at_builtin; refine app_at el114 wB.heap.size rfl _ rfl _ _ rfl w.heap.size _ (nn + 1) _ rfl hm2.1 rfl rfl (ones_cons rfl ones_nil) (by omega) (by omega) (by simp at hzA; omega) ?_; intro gC cC wC hownC hgC hatC hltC))
  obtain ⟨G, m', hfin⟩ := HI1.out.push HZL.out rfl hownA hgA hatA hownB hgB hownC hgC
  have HFIN := Lib.hid hfin
  clear hfin hownA hgA hatA hltA hownB hgB hatB hltB hownC hgC hatC hltC hm1 hm2 hzA hzB
  exact p25_mk _ _ _ _ _ rfl (by go_num) ⟨_, _, rfl, HFIN.out⟩
set_option maxRecDepth 1000000 in
set_option maxHeartbeats 4000000 in
theorem c25_push3 {U : Nat → Prop} {b off n c k : Nat} {A' : Option Addr} {n' c' : Nat} {l : List Tok} {w wr : World} {F : Nat → Prop} {z y : Lev} {r : List Lev} {bads : List Nat} {lb lc nn : Nat} {vc ve vb : Value} (u : Nat → Value) (Q0 : Exit → Act → World → Prop) (hlt : k < n) (hn : n ≤ 100000) 
    (hL : LnAt wr U b off k A' n' c' l) (hI : BR w F (z :: r) bads (.slice (some ⟨lb, 0, none⟩) (nn + 1) lc) vc ve vb wr) (hnn : r.length = nn) (hnk : nn ≤ k) (hbk : bads.length ≤ k) (hzk : z.1.done.length ≤ k ∧ z.1.cur.length ≤ k) (hk : kindT l = 3) :
    Code.wp Try.prog body25 (Exit.then (P25 (some ⟨b, off, none⟩) n c w k (newF k :: z.1 :: r.map (·.1), bads)) Q0) (fr25 (some ⟨b, off, none⟩) n c w.heap.size (.slice (some ⟨lb, 0, none⟩) (nn + 1) lc) vc ve vb (.int .i64 k) u) wr := by
  obtain ⟨hbl, c0, ht, hn6⟩ := hL
  have HT := Lib.hid ht
  have HI := Lib.hid hI
  have hB0 := hI.below.size
  have HNN := Lib.hid hnn
  have HK := Lib.hid hk
  have htl := ht.len
  clear ht hI hnn hk
  conv => arg 2; whnf
  unfold fr25
  go_wp2_with fail
  refine (kindR_any A' n' c' l _ HT.out hn6).mono ?_
  rintro e w1 ⟨rfl, hb1⟩
  rw [HK.out]
  have HI1 := Lib.hid (HI.out.keep hb1)
  have hz1 := hb1.size
  have q0 := (hb1.cell (p := ⟨b, off + k * 4, none⟩) hbl).trans c0
  clear hb1 c0 HI
  have HLV := Lib.hid HI1.out.inv.lev
  have HCN := Lib.hid HI1.out.inv.con
  rw [show (z :: r).length = nn + 1 by simp [HNN.out]] at HLV HCN
  have HZL := Lib.hid (show (z :: r).length = nn + 1 by simp [HNN.out])
  go_wp2_with (first
    | (at_builtin; refine app_at el47 (w1.heap.size + 1) (by simp) _ rfl _ _ rfl w.heap.size vc nn _ rfl (HCN.out.alloc _) rfl rfl (ones_cons rfl (ones_cons rfl (ones_cons rfl ones_nil))) (by omega) (by omega) (by omega) ?_; intro gA cA wA hownA hgA hatA hltA; have hzA := hgA.size; have hm1 := HI1.out.mid1 hgA; rw [HZL.out] at hm1)
    | (at_builtin; refine app_at el115 wA.heap.size rfl _ rfl _ _ rfl w.heap.size ve nn _ rfl hm1.1 rfl rfl (ones_cons rfl ones_nil) (by omega) (by omega) (by simp at hzA; omega) ?_; intro gB cB wB hownB hgB hatB hltB; have hzB := hgB.size; have hm2 := HI1.out.mid2 hgA hgB; rw [HZL.out] at hm2)
    | (at_builtin; refine app_at el114 wB.heap.size rfl _ rfl _ _ rfl w.heap.size _ (nn + 1) _ rfl hm2.1 rfl rfl (ones_cons rfl ones_nil) (by omega) (by omega) (by simp at hzA; omega) ?_; intro gC cC wC hownC hgC hatC hltC))
  obtain ⟨G, m', hfin⟩ := HI1.out.push HZL.out rfl hownA hgA hatA hownB hgB hownC hgC
  have HFIN := Lib.hid hfin
  clear hfin hownA hgA hatA hltA hownB hgB hatB hltB hownC hgC hatC hltC hm1 hm2 hzA hzB
  exact p25_mk _ _ _ _ _ rfl (by go_num) ⟨_, _, rfl, HFIN.out⟩
set_option maxRecDepth 1000000 in
set_option maxHeartbeats 4000000 in
theorem c25_push4 {U : Nat → Prop} {b off n c k : Nat} {A' : Option Addr} {n' c' : Nat} {l : List Tok} {w wr : World} {F : Nat → Prop} {z y : Lev} {r : List Lev} {bads : List Nat} {lb lc nn : Nat} {vc ve vb : Value} (u : Nat → Value) (Q0 : Exit → Act → World → Prop) (hlt : k < n) (hn : n ≤ 100000) 
    (hL : LnAt wr U b off k A' n' c' l) (hI : BR w F (z :: r) bads (.slice (some ⟨lb, 0, none⟩) (nn + 1) lc) vc ve vb wr) (hnn : r.length = nn) (hnk : nn ≤ k) (hbk : bads.length ≤ k) (hzk : z.1.done.length ≤ k ∧ z.1.cur.length ≤ k) (hk : kindT l = 4) :
    Code.wp Try.prog body25 (Exit.then (P25 (some ⟨b, off, none⟩) n c w k (newF k :: z.1 :: r.map (·.1), bads)) Q0) (fr25 (some ⟨b, off, none⟩) n c w.heap.size (.slice (some ⟨lb, 0, none⟩) (nn + 1) lc) vc ve vb (.int .i64 k) u) wr := by
  obtain ⟨hbl, c0, ht, hn6⟩ := hL
  have HT := Lib.hid ht
  have HI := Lib.hid hI
  have hB0 := hI.below.size
  have HNN := Lib.hid hnn
  have HK := Lib.hid hk
  have htl := ht.len
  clear ht hI hnn hk
  conv => arg 2; whnf
  unfold fr25
  go_wp2_with fail
  refine (kindR_any A' n' c' l _ HT.out hn6).mono ?_
  rintro e w1 ⟨rfl, hb1⟩
  rw [HK.out]
  have HI1 := Lib.hid (HI.out.keep hb1)
  have hz1 := hb1.size
  have q0 := (hb1.cell (p := ⟨b, off + k * 4, none⟩) hbl).trans c0
  clear hb1 c0 HI
  have HLV := Lib.hid HI1.out.inv.lev
  have HCN := Lib.hid HI1.out.inv.con
  rw [show (z :: r).length = nn + 1 by simp [HNN.out]] at HLV HCN
  have HZL := Lib.hid (show (z :: r).length = nn + 1 by simp [HNN.out])
  go_wp2_with (first
    | (at_builtin; refine app_at el47 (w1.heap.size + 1) (by simp) _ rfl _ _ rfl w.heap.size vc nn _ rfl (HCN.out.alloc _) rfl rfl (ones_cons rfl (ones_cons rfl (ones_cons rfl ones_nil))) (by omega) (by omega) (by omega) ?_; intro gA cA wA hownA hgA hatA hltA; have hzA := hgA.size; have hm1 := HI1.out.mid1 hgA; rw [HZL.out] at hm1)
    | (at_builtin; refine app_at el115 wA.heap.size rfl _ rfl _ _ rfl w.heap.size ve nn _ rfl hm1.1 rfl rfl (ones_cons rfl ones_nil) (by omega) (by omega) (by simp at hzA; omega) ?_; intro gB cB wB hownB hgB hatB hltB; have hzB := hgB.size; have hm2 := HI1.out.mid2 hgA hgB; rw [HZL.out] at hm2)
    | (at_builtin; refine app_at el114 wB.heap.size rfl _ rfl _ _ rfl w.heap.size _ (nn + 1) _ rfl hm2.1 rfl rfl (ones_cons rfl ones_nil) (by omega) (by omega) (by simp at hzA; omega) ?_; intro gC cC wC hownC hgC hatC hltC))
  obtain ⟨G, m', hfin⟩ := HI1.out.push HZL.out rfl hownA hgA hatA hownB hgB hownC hgC
  have HFIN := Lib.hid hfin
  clear hfin hownA hgA hatA hltA hownB hgB hatB hltB hownC hgC hatC hltC hm1 hm2 hzA hzB
  exact p25_mk _ _ _ _ _ rfl (by go_num) ⟨_, _, rfl, HFIN.out⟩
set_option maxRecDepth 1000000 in
set_option maxHeartbeats 4000000 in
theorem c25_none {U : Nat → Prop} {b off n c k : Nat} {A' : Option Addr} {n' c' : Nat} {l : List Tok} {w wr : World} {F : Nat → Prop} {z y : Lev} {r : List Lev} {bads : List Nat} {lb lc nn : Nat} {vc ve vb : Value} (u : Nat → Value) (Q0 : Exit → Act → World → Prop) (hlt : k < n) (hn : n ≤ 100000) 
    (hL : LnAt wr U b off k A' n' c' l) (hI : BR w F (z :: r) bads (.slice (some ⟨lb, 0, none⟩) (nn + 1) lc) vc ve vb wr) (hnn : r.length = nn) (hnk : nn ≤ k) (hbk : bads.length ≤ k) (hzk : z.1.done.length ≤ k ∧ z.1.cur.length ≤ k) (hk : kindT l = 0) (hne : ¬ 0 < l.length) :
    Code.wp Try.prog body25 (Exit.then (P25 (some ⟨b, off, none⟩) n c w k (z.1 :: r.map (·.1), bads)) Q0) (fr25 (some ⟨b, off, none⟩) n c w.heap.size (.slice (some ⟨lb, 0, none⟩) (nn + 1) lc) vc ve vb (.int .i64 k) u) wr := by
  obtain ⟨hbl, c0, ht, hn6⟩ := hL
  have HT := Lib.hid ht
  have HI := Lib.hid hI
  have hB0 := hI.below.size
  have HNN := Lib.hid hnn
  have HK := Lib.hid hk
  have htl := ht.len
  clear ht hI hnn hk
  conv => arg 2; whnf
  unfold fr25
  go_wp2_with fail
  refine (kindR_any A' n' c' l _ HT.out hn6).mono ?_
  rintro e w1 ⟨rfl, hb1⟩
  rw [HK.out]
  have HI1 := Lib.hid (HI.out.keep hb1)
  have hz1 := hb1.size
  have q0 := (hb1.cell (p := ⟨b, off + k * 4, none⟩) hbl).trans c0
  clear hb1 c0 HI
  have hn0 : n' = 0 := by omega
  subst hn0
  clear htl
  go_wp2_with fail
  have HFIN := HI1
  exact p25_mk _ _ _ _ _ rfl (by go_num) ⟨_, _, rfl, HFIN.out⟩
end Go.Proofs.Ytjklnlocmmnclaa
