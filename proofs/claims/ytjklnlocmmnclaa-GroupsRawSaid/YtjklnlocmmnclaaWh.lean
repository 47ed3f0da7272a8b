/- Walks: the reference's lines. -/
import Derived.Test.YtjklnlocmmnclaaWd
import Derived.Test.YtjklnlocmmnclaaWg
import Derived.Test.YtjklnlocmmnclaaPa9
import Derived.Deep.RegionLaw
namespace Go.Proofs.Ytjklnlocmmnclaa
open Go.RowKit

theorem grown_drew {w w' : World} {row : Option Nat} (h : w.drew.grownBy w' row) : w.grownBy w' row := ⟨h.os, h.tape, h.output, h.size, h.block⟩
theorem addr_add (b off n : Nat) : (⟨b, off, none⟩ : Addr).add n = ⟨b, off + n, none⟩ := by unfold Addr.add; split <;> simp_all
theorem below_of_drew {B : Nat} {w w' : World} (h : Below B w.drew w') : Below B w w' := ⟨h.os, h.tape, h.output, h.size, h.block⟩
theorem tok_span {w : World} {f : ByteArray} {F : Nat → Prop} {vout vd tv : Value} {recs : List LRec} {dgs : List Dg} {toks : List Tk} {frm to : Nat} {opn : Bool} {wr w' : World} {sB : Nat} {cs : Array Value}
    (h : LInv w f F vout vd tv recs dgs toks frm to opn wr) (hs : wr.heap[sB]? = some (.cells cs 33)) (hne : sB ≠ w.heap.size) (hg : wr.grownBy w' tv.ownBlock) (v : Value) :
    (w'.setCell ⟨w.heap.size, 0, none⟩ v).heap[sB]? = some (.cells cs 33) := by
  rw [Below.heap_setCell _ _ _ _ hne, hg.block _ (lt_of_blk hs) (fun e => own_ne_blk h.cur hs (by decide) e.symm)]
  exact hs
set_option maxHeartbeats 8000000 in
set_option maxRecDepth 1000000 in
theorem lines_any (f s : ByteArray) (w : World) (hn : s.size ≤ 99999) :
    Calls Try.prog 22 #[.string f, .string s] w (LEnd w f (linesP s.data.toList)) := by
  have hlen := charsP_len s.data.toList
  have hsl : s.data.toList.length = s.size := by simp
  have HLP := Lib.hid (show linesP s.data.toList = lx s.size 0 (charsP s.data.toList) ⟨[], [], [], 0, false⟩ by unfold linesP; rw [hsl])
  rw [hsl] at hlen
  clear hsl
  generalize hrs : charsP s.data.toList = rs at *
  have HRS := Lib.hid hrs
  clear hrs
  generalize hfin : linesP s.data.toList = fin at *
  have HFIN := Lib.hid hfin
  clear hfin
  go_enter Try.func22, Try.ntmps22
  go_wp2_with fail
  refine (chars_any s _ (by omega)).mono ?_
  rw [HRS.out]
  rintro e w1 ⟨v1, rfl, hown1, hb1⟩
  obtain ⟨A, c, rfl, _, _, _⟩ := own_form hown1
  have hR := Sl.more (V := fun b => b < w1.heap.size) (runes_own hown1) (fun _ _ h => h)
  clear hown1
  generalize hn' : rs.length = n at *
  have HN := Lib.hid hn'
  clear hn'
  go_wp2_with fail
  go_loopw [7, 8, 10, 11] (fun vo vd sv iv wr => LRel w1 f rs n s.size fin vo vd sv iv wr) (fun _ _ _ iv _ => n - (intOf iv).toNat)
  case atStart =>
    exact ⟨0, ⟨[], [], [], 0, false⟩, [], .slice none 0 0, fun _ => False, by omega, rfl, rfl, HLP.out, rfl, by simp, by simp, by simp,
      ⟨(Below.refl _ _).alloc (Nat.le_refl _) _, World.ownsRow_nil _ _ 95 4, World.ownsRow_nil _ _ 63 4, heap_alloc_new w1 _, World.ownsRow_nil _ _ 36 8, by simp [Value.ownBlock], by simp, fun _ hf => hf.elim, fun _ hf => hf.elim, by simp⟩⟩
  case round =>
    obtain ⟨k, st, recs, tv, F, hk, rfl, rfl, hfin, hst, ht, hrl, hdl, hI⟩ := hrel
    obtain ⟨hn0, hn1, hn2, hn3⟩ := hI.cells
    obtain ⟨hf0, hf1, hf2, hf3⟩ := hI.frz
    obtain ⟨TA, tc, htv, _, _, _⟩ := own_form hI.cur
    have HTV := Lib.hid htv
    clear htv
    have HFN := Lib.hid hfin
    have HST := Lib.hid hst
    clear hfin hst
    by_cases hlt : k < n
    · obtain ⟨b, off, r, rfl, _, hblt, hr, hc, hc1, hc2⟩ := Runes.at_ hR hlt
      have HC := Lib.hid (show ∀ w' : World, Below w1.heap.size w1 w' → w'.cell? ⟨b, off + k * 3, none⟩ = some (.int .u8 (r.c.toNat : Int)) ∧
        w'.cell? ⟨b, off + k * 3 + 1, none⟩ = some (.int .i64 (r.frm : Int)) ∧ w'.cell? ⟨b, off + k * 3 + 2, none⟩ = some (.int .i64 (r.to : Int)) from fun w' hb' =>
          ⟨(hb'.cell (p := ⟨b, _, none⟩) hblt).trans hc, (hb'.cell (p := ⟨b, _, none⟩) hblt).trans hc1, (hb'.cell (p := ⟨b, _, none⟩) hblt).trans hc2⟩)
      clear hc hc1 hc2
      obtain ⟨hc, hc1, hc2⟩ := HC.out wr hI.below
      have HR := Lib.hid hr
      clear hr
      by_cases h10 : (r.c.toNat : Int) = 10
      · have hone := own_one hI.cur
        have hIs := hI.store 2 (.int .i64 (r.to : Int)) (to' := r.to) (opn' := false) rfl
        go_wp2_with (at_builtin; refine app_at el38 wr.heap.size (setCell_size _ _ _) _ rfl _ _ rfl w1.heap.size _ _ _ rfl hIs.out rfl rfl (ones_cons hone (ones_cons rfl (ones_cons rfl (ones_cons rfl ones_nil)))) (by omega) (by omega) hI.below.size ?_; intro g cap w2 hown2 hgrow hat hlt1; have hIp := hIs.push r.to HTV.out hown2 hgrow (by rw [setCell_size]; exact hat); obtain ⟨hg0, hg1, hg2⟩ := HC.out w2 (below_app hIs.below hIs.out hgrow hIs.below.size); have hq := hIs.pushed hown2 hgrow; obtain ⟨hq0, hq1, hq2, hq3, hz0, hz1, hz2, hz3⟩ := hq)
        go_roundw
        case rel =>
          exact ⟨k + 1, ⟨st.out ++ [⟨st.toks, st.frm, r.to, false⟩], st.dgs, [], r.to, false⟩, recs ++ [⟨TA, tc, ⟨st.toks, st.frm, r.to, false⟩⟩], .slice none 0 0, _, by omega, by go_num, rfl,
            by rw [HFN.out, drop_at HR.out, lx_nl h10], by rw [List.map_append, HST.out]; rfl, by simp, by simp; omega, by simp only []; omega, hIp⟩
        case measure => simp [intOf]; omega
      · cases hwh : whiteB (r.c.toNat : Int)
        · have hcl := commentP_le (rs.drop k)
          rw [List.length_drop, HN.out] at hcl
          cases hco : (commentP (rs.drop k)).2
          · by_cases hcp0 : 0 < (commentP (rs.drop k)).1
            · go_wp2_with (first | (go_at_call 43; refine (white_any _ _).mono ?_; rintro e w' ⟨rfl, rfl⟩) | (go_at_call 44; refine (comment_any (some ⟨b, off, none⟩) n c rs k wr (Sl.below hR hI.below) (by omega) (by omega)).mono ?_; rintro e w' ⟨rfl, rfl⟩))
              go_roundw
              case rel =>
                exact ⟨k + (commentP (rs.drop k)).1, { st with space := true }, recs, tv, F, by omega, by go_num, rfl,
                  by rw [HFN.out, lx_cm HR.out h10 hwh hcp0 hco], HST.out, by simp only []; omega, by omega, by simp only []; omega, hI⟩
              case measure => simp [intOf]; omega
            · have hcp : (commentP (rs.drop k)).1 = 0 := by omega
              obtain ⟨m, hm⟩ : ∃ m, (nextP (rs.drop k)).2.1 = m := ⟨_, rfl⟩
              have hm1 : 1 ≤ m := by rw [← hm]; exact nextP_pos _
              have hm2 : k + m ≤ n := by
                have h1 := nextP_len (l := rs.drop k) (by intro e; have h2 := congrArg List.length e; rw [List.length_drop, HN.out] at h2; simp at h2; omega)
                rw [List.length_drop, HN.out, hm] at h1
                omega
              obtain ⟨kd, hkd⟩ : ∃ x, (nextP (rs.drop k)).1 = x := ⟨_, rfl⟩
              obtain ⟨bad, hbad⟩ : ∃ x, (nextP (rs.drop k)).2.2 = x := ⟨_, rfl⟩
              have hnx : ∀ wx : World, Runes wx (fun b => b < w1.heap.size) (some ⟨b, off, none⟩) n rs → Calls Try.prog 45 #[.slice (some ⟨b, off, none⟩) n c, .int .i64 (k : Int)] wx fun e w' => e = .returned (.tuple #[.int .i64 kd, .int .i64 ((k : Int) + (m : Int)), .bool bad]) ∧ Below wx.heap.size wx w' := by
                intro wx hx
                rw [← hm, ← hkd, ← hbad]
                exact next_any _ n c rs k wx hx (by omega) hlt
              have HNX := Lib.hid hnx
              have HM := Lib.hid hm
              have HKD := Lib.hid hkd
              have HBD := Lib.hid hbad
              clear hnx hm hkd hbad
              obtain ⟨b2, off2, r2, e2, _, _, hr2, _, _, hd2⟩ := Runes.at_ hR (show k + m - 1 < n by omega)
              injection e2 with e2
              injection e2 with e3 e4
              subst e3
              subst e4
              have HR2 := Lib.hid hr2
              have HC2 := Lib.hid (show ∀ w' : World, Below w1.heap.size w1 w' → w'.cell? ⟨b, off + (k + m - 1) * 3 + 2, none⟩ = some (.int .i64 (r2.to : Int)) from fun w' hb' => (hb'.cell (p := ⟨b, _, none⟩) hblt).trans hd2)
              clear hd2 hr2
              go_wp2_with (first | (go_at_call 43; refine (white_any _ _).mono ?_; rintro e w' ⟨rfl, rfl⟩) | (go_at_call 44; refine (comment_any (some ⟨b, off, none⟩) n c rs k wr (Sl.below hR hI.below) (by omega) (by omega)).mono ?_; rintro e w' ⟨rfl, rfl⟩) | (go_at_call 45; refine (HNX.out wr (Sl.below hR hI.below)).mono ?_; rintro e wN ⟨rfl, hbN⟩; have hIN := hI.grow hbN; obtain ⟨hg0, hg1, hg2⟩ := HC.out wN hIN.below; have hg3 := HC2.out wN hIN.below))
              clear hn0 hn1 hn2 hn3 hf0 hf1 hf2 hf3 hc hc1 hc2
              have hbl : b < wN.heap.size := by have := hIN.below.size; omega
              have hwr1 : IntKind.i64.wrap ((k : Int) + (m : Int) - 1) = (k : Int) + (m : Int) - 1 := IntWalk.i64_in _ (by omega)
              have hge1 : 0 ≤ (k : Int) + (m : Int) - 1 := by omega
              have hlt1 : (k : Int) + (m : Int) - 1 < (n : Int) := by omega
              have htn1 : ((k : Int) + (m : Int) - 1).toNat = k + m - 1 := by omega
              go_region
              have hsb : (wN.alloc (Obj.cells #[Value.string f, Value.int IntKind.i64 (r.frm : Int), Value.int IntKind.i64 (r2.to : Int)] 33)).drew.heap[wN.heap.size]? = some (.cells #[Value.string f, .int .i64 (r.frm : Int), .int .i64 (r2.to : Int)] 33) := heap_alloc_new wN _
              have hbS : Below wN.heap.size wN (wN.alloc (Obj.cells #[Value.string f, Value.int IntKind.i64 (r.frm : Int), Value.int IntKind.i64 (r2.to : Int)] 33)).drew := ((Below.refl _ _).alloc (Nat.le_refl _) _).drew
              have hsz : (wN.alloc (Obj.cells #[Value.string f, Value.int IntKind.i64 (r.frm : Int), Value.int IntKind.i64 (r2.to : Int)] 33)).drew.heap.size = wN.heap.size + 1 := by simp
              generalize (wN.alloc (Obj.cells #[Value.string f, Value.int IntKind.i64 (r.frm : Int), Value.int IntKind.i64 (r2.to : Int)] 33)).drew = wS at *
              have hIS := hIN.grow hbS
              clear hIN hbN hg0 hg1 hg2 hg3 hbl hwr1 hge1 hlt1 htn1
              generalize wN.heap.size = sB at *
              obtain ⟨hn0, hn1, hn2, hn3⟩ := hIS.cells
              obtain ⟨hf0, hf1, hf2, hf3⟩ := hIS.frz
              have hs0 : wS.cell? ⟨sB, 0, none⟩ = some (.string f) := cell_of_row wS _ _ _ _ _ hsb
              have hs1 : wS.cell? ⟨sB, 1, none⟩ = some (.int .i64 (r.frm : Int)) := cell_of_row wS _ _ _ _ _ hsb
              have hs2 : wS.cell? ⟨sB, 2, none⟩ = some (.int .i64 (r2.to : Int)) := cell_of_row wS _ _ _ _ _ hsb
              have HRT := Lib.hid (show ∀ wx : World, Below w1.heap.size w1 wx → Runes wx (fun b => b < w1.heap.size) (some ⟨b, off + k * 3, none⟩) m ((rs.drop k).take m) from fun wx hx => by
                have h1 := (Sl.below hR hx).cut (k := k) (cap := n + 1) (by omega) (by omega)
                have h2 := h1.upto (k := m) (by omega)
                rw [flat_drop _ 3 rnCells_len, flat_take _ 3 rnCells_len, if_neg (by omega)] at h2
                have e : (some (⟨b, off, none⟩ : Addr)).map (·.add (k * 3)) = some ⟨b, off + k * 3, none⟩ := by rw [Option.map_some, addr_add]
                rw [e] at h2
                exact h2)
              have hz1 : 0 ≤ (k : Int) + (m : Int) := by omega
              have hz2 : (k : Int) + (m : Int) ≤ (c : Int) := by omega
              have hz3 : ((k : Int) + (m : Int)).toNat = k + m := by omega
              have hz4 : k + m - k = m := by omega
              have hz5 : k ≤ k + m := by omega
              have hz6 : ¬ c = k := by omega
              have HTX := Lib.hid (show ∀ wx : World, Below w1.heap.size w1 wx → Calls Try.prog 46 #[.slice (some ⟨b, off + k * 3, none⟩) m (c - k)] wx fun e w' => e = .returned (.string ⟨(textP ((rs.drop k).take m)).toArray⟩) ∧ Below wx.heap.size wx w' from
                fun wx hx => text_any _ m _ _ wx (HRT.out wx hx) (by omega))
              have hsbl : sB < wS.heap.size := by omega
              have hsn : sB ≠ w1.heap.size := by have := hIS.now; intro e; rw [e] at hsb; rw [hsb] at this; injection this with this; injection this with _ h9 _; revert h9; decide
              go_wp2_with fail
              go_region_law (first | (go_simp; go_at_call 46; refine (HTX.out _ hIS.below.drew).mono ?_; rintro e wT ⟨rfl, hbT⟩; have hIT := hIS.grow (below_of_drew hbT); obtain ⟨ht0, ht1, ht2, ht3⟩ := hIT.cells; obtain ⟨hy0, hy1, hy2, hy3⟩ := hIT.frz; have hsbT := ((below_of_drew hbT).block sB hsbl).trans hsb; have hx0 : wT.cell? ⟨sB, 0, none⟩ = some (.string f) := cell_of_row wT _ _ _ _ _ hsbT; have hx1 : wT.cell? ⟨sB, 1, none⟩ = some (.int .i64 (r.frm : Int)) := cell_of_row wT _ _ _ _ _ hsbT; have hx2 : wT.cell? ⟨sB, 2, none⟩ = some (.int .i64 (r2.to : Int)) := cell_of_row wT _ _ _ _ _ hsbT; have HSB := Lib.hid hsbT; clear hsbT; have hltT := hIT.lt; have hltS : sB < wT.heap.size := Nat.lt_of_lt_of_le hsbl (below_of_drew hbT).size) | (refine app_step el22 wT.heap.size _ (heap_alloc_new _ _) rfl _ _ rfl w1.heap.size tv _ _ rfl (hIT.cur.alloc _) rfl rfl (ones_cons rfl (ones_cons rfl (ones_cons rfl (ones_cons rfl (ones_cons rfl (ones_cons rfl (ones_cons rfl (ones_cons rfl ones_nil)))))))) (by omega) (by omega) (by have := hIT.below.size; simp; omega) ?_; intro g cap wU hownU hgrowU hatU hltU; have hgU := (World.grownBy_alloc wT _ _).trans hgrowU; have hnU := (hgU.block _ hIT.lt (fun e => own_ne_blk hIT.cur hIT.now (by decide) e.symm)).trans hIT.now; have hU0 : wU.cell? ⟨w1.heap.size, 0, none⟩ = some tv := cell_of_row wU _ _ _ _ _ hnU; have hU1 := frozen_of_row hnU 0; clear hnU; have hITok := hIT.tok ⟨kd, textP ((rs.drop k).take m), st.space, r.frm, r2.to⟩ hownU hgU (by rcases hatU with hatU | hatU; exact .inl hatU; right; rw [hatU]; simp); have HSX := Lib.hid (tok_span hIT HSB.out hsn hgU (.slice (some ⟨g, 0, none⟩) (st.toks.length + 1) cap)); clear hownU hgrowU hatU hgU))
              all_goals
                have hX := HSX.out
                generalize (wU.setCell ⟨w1.heap.size, 0, none⟩ (.slice (some ⟨g, 0, none⟩) (st.toks.length + 1) cap)) = wX at *
                clear hn0 hn1 hn2 hn3 hf0 hf1 hf2 hf3 hs0 hs1 hs2 ht0 ht1 ht2 ht3 hy0 hy1 hy2 hy3 hx0 hx1 hx2 HSX HSB hU0 hU1 hz1 hz2 hz3 hz4 hz5 hz6 hltT hltS
                have hs0 : wX.cell? ⟨sB, 0, none⟩ = some (.string f) := cell_of_row wX _ _ _ _ _ hX
                have hs1 : wX.cell? ⟨sB, 1, none⟩ = some (.int .i64 (r.frm : Int)) := cell_of_row wX _ _ _ _ _ hX
                have hs2 : wX.cell? ⟨sB, 2, none⟩ = some (.int .i64 (r2.to : Int)) := cell_of_row wX _ _ _ _ _ hX
                have hlx := lx_tok (sz := s.size) (st := st) HR.out h10 hwh hcp (by rw [HM.out]; exact hm1)
                rw [HM.out, HBD.out, tokAt_eq HR.out (by rw [HM.out]; exact hm1) (by rw [HM.out]; exact HR2.out), HKD.out, HM.out] at hlx
                have HLX := Lib.hid hlx
                clear hlx
                cases bad
                · go_wp2
                  go_roundw
                  case rel =>
                    exact ⟨k + m, ⟨st.out, st.dgs, st.toks ++ [⟨kd, textP ((rs.drop k).take m), st.space, r.frm, r2.to⟩], st.frm, false⟩, recs, _, F, by omega, by go_num, rfl, by rw [HFN.out, HLX.out]; rfl, HST.out, by simp; omega, by omega, by simp only []; omega, hITok⟩
                  case measure => simp [intOf]; omega
                · go_wp2_with (at_builtin; refine app_one el39 _ rfl _ _ rfl w1.heap.size u8 _ _ rfl hITok.dg rfl rfl (ones_cons rfl (ones_cons rfl (ones_cons rfl (ones_cons rfl ones_nil)))) (by omega) (by omega) hITok.below.size ?_; intro g2 cap2 wD hownD hgrowD hatD hltD; have hID := hITok.diag ⟨2, r.frm, r2.to⟩ hownD hgrowD (by rcases hatD with hatD | hatD; exact .inl hatD; right; omega))
                  go_roundw
                  case rel =>
                    exact ⟨k + m, ⟨st.out, st.dgs ++ [⟨2, r.frm, r2.to⟩], st.toks ++ [⟨kd, textP ((rs.drop k).take m), st.space, r.frm, r2.to⟩], st.frm, false⟩, recs, _, F, by omega, by go_num, rfl, by rw [HFN.out, HLX.out]; rfl, HST.out, by simp; omega, by omega, by simp; omega, hID⟩
                  case measure => simp [intOf]; omega
          · have hcp : 0 < (commentP (rs.drop k)).1 := commentP_open hco
            have hk1 : k + 1 < n := by rw [← HN.out]; exact commentP_open2 hco
            obtain ⟨b2, off2, r2, e2, _, _, hr2, _, _, hd2⟩ := Runes.at_ hR hk1
            injection e2 with e2
            injection e2 with e3 e4
            subst e3
            subst e4
            have hd2' : wr.cell? ⟨b, off + (k + 1) * 3 + 2, none⟩ = some (.int .i64 (r2.to : Int)) := (hI.below.cell (p := ⟨b, _, none⟩) hblt).trans hd2
            have HFO := Lib.hid (lx_open (st := st) (sz := s.size) HR.out hr2 h10 hwh hco)
            clear hd2 hr2
            go_wp2_with (first | (go_at_call 43; refine (white_any _ _).mono ?_; rintro e w' ⟨rfl, rfl⟩) | (go_at_call 44; refine (comment_any (some ⟨b, off, none⟩) n c rs k wr (Sl.below hR hI.below) (by omega) (by omega)).mono ?_; rintro e w' ⟨rfl, rfl⟩))
            have hwr1 : IntKind.i64.wrap ((k : Int) + 1) = (k : Int) + 1 := IntWalk.i64_in _ (by omega)
            have hge1 : 0 ≤ (k : Int) + 1 := by omega
            have hlt1 : (k : Int) + 1 < (n : Int) := by omega
            have htn1 : ((k : Int) + 1).toNat = k + 1 := by omega
            go_region_law (refine app_step el39 wr.heap.size _ (heap_alloc_new _ _) rfl _ _ rfl w1.heap.size u8 _ _ rfl (hI.dg.alloc _) rfl rfl (ones_cons rfl (ones_cons rfl (ones_cons rfl (ones_cons rfl ones_nil)))) (by omega) (by omega) (by have := hI.below.size; simp; omega) ?_; intro g cap w2 hown2 hgrow hat hltg)
            all_goals
              have hI2 := hI.diag ⟨1, r.frm, r2.to⟩ hown2 ((World.grownBy_alloc wr _ _).trans (grown_drew hgrow)) (by rcases hat with hat | hat; exact .inl hat; right; rw [hat]; simp)
              clear hown2 hgrow hat hn0 hn1 hn2 hn3 hf0 hf1 hf2 hf3 hc hc1 hc2
              obtain ⟨hn0, hn1, hn2, hn3⟩ := hI2.cells
              obtain ⟨hf0, hf1, hf2, hf3⟩ := hI2.frz
              have hone := own_one hI2.cur
              have hIs := (hI2.store 2 (.int .i64 (s.size : Int)) (to' := s.size) (opn' := false) rfl).store 3 (.bool true) (to' := s.size) (opn' := true) rfl
              go_wp2_with (at_builtin; refine app_at el38 w2.heap.size ((setCell_size _ _ _).trans (setCell_size _ _ _)) _ rfl _ _ rfl w1.heap.size u7 _ _ rfl hIs.out rfl rfl (ones_cons hone (ones_cons rfl (ones_cons rfl (ones_cons rfl ones_nil)))) (by omega) (by omega) hI2.below.size ?_; intro g2 cap2 w3 hown3 hgrow3 hat3 hlt3; have hD := Lib.hid ((hIs.close HTV.out hown3 hgrow3 (by rw [setCell_size, setCell_size]; exact hat3)).lift hb1))
              go_ret2
              refine ⟨_, _, rfl, ?_⟩
              rw [HFN.out, HFO.out, ← HST.out]
              exact hD.out
        · go_wp2_with (go_at_call 43; refine (white_any _ _).mono ?_; rintro e w' ⟨rfl, rfl⟩)
          go_roundw
          case rel =>
            exact ⟨k + 1, { st with space := true }, recs, tv, F, by omega, by go_num, rfl,
              by rw [HFN.out, drop_at HR.out, lx_white h10 hwh], HST.out, by simp only []; omega, by omega, by simp only []; omega, hI⟩
          case measure => simp [intOf]; omega
    · obtain ⟨OA, oc, hov, _, _, hOA⟩ := own_form hI.out
      have hke : rs.drop k = [] := List.drop_of_length_le (by rw [HN.out]; omega)
      have HF2 := Lib.hid (show fin = (setTo s.size st.out, st.dgs) by rw [HFN.out, hke]; rfl)
      clear hke
      subst hov
      by_cases h0 : recs.length = 0
      · have HD := Lib.hid ((hI.done0 h0).lift hb1)
        go_wp2
        go_ret2
        refine ⟨_, _, rfl, ?_⟩
        rw [HF2.out, ← HST.out]
        have hm : recs.map (·.ln) = [] := by rw [List.eq_nil_of_length_eq_zero h0]; rfl
        rw [hm]
        exact HD.out
      · obtain ⟨g, rfl⟩ : ∃ g, OA = some ⟨g, 0, none⟩ := by
          rcases hOA with ⟨_, h2⟩ | ⟨g, h2, _⟩
          · exact absurd h2 h0
          · exact ⟨g, h2⟩
        have hp0 : 0 < recs.length := by omega
        have hpI : (0 : Int) < (recs.length : Int) := by omega
        have hidx : (recs.length - 1) * 4 + 2 < recs.length * 4 := by omega
        have HD := Lib.hid ((hI.done1 rfl hp0 s.size).lift hb1)
        obtain ⟨u, hu⟩ : ∃ u, wr.cell? ⟨g, (recs.length - 1) * 4 + 2, none⟩ = some u := by
          rw [hI.out.cellAt _ hidx]
          exact ⟨_, List.getElem?_eq_getElem (by rw [flat_len _ 4 lnCells_len]; exact hidx)⟩
        have hfz := hI.out.frozenAt ((recs.length - 1) * 4 + 2)
        go_wp2
        go_ret2
        refine ⟨_, _, rfl, ?_⟩
        rw [HF2.out, ← HST.out]
        exact HD.out
end Go.Proofs.Ytjklnlocmmnclaa
