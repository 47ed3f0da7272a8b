/- Walks: the document's Build. -/
import Derived.Test.YtjklnlocmmnclaaKh
import Derived.Test.YtjklnlocmmnclaaKj
import Derived.Test.YtjklnlocmmnclaaKk
import Derived.Test.YtjklnlocmmnclaaKl
namespace Go.Proofs.Ytjklnlocmmnclaa
open Go.RowKit

def RRel (w : World) (L : Nat) (ll : List (List Tok)) (vl vc ve vb iv : Value) (wr : World) : Prop :=
  ∃ (k : Nat) (F : Nat → Prop) (zs : List Lev), k ≤ L ∧ iv = .int .i64 k ∧ zs.map (·.1) = (runB 0 ((ksOf ll).take k) initB).1 ∧ BR w F zs (runB 0 ((ksOf ll).take k) initB).2 vl vc ve vb wr
theorem round25 {U : Nat → Prop} {A : Option Addr} {n c k : Nat} {ll : List (List Tok)} {w wr : World} {F : Nat → Prop} {zs : List Lev} {vl vc ve vb : Value} (u : Nat → Value) (Q0 : Exit → Act → World → Prop) (h : Lns w U A n ll) (hn : n ≤ 100000) (hsz : ∀ l ∈ ll, l.length ≤ 1000000) (hlt : k < n)
    (hfs : zs.map (·.1) = (runB 0 ((ksOf ll).take k) initB).1) (hI : BR w F zs (runB 0 ((ksOf ll).take k) initB).2 vl vc ve vb wr) (hQ0 : ∀ ch a a' w, Q0 (.panic ch) a w → Q0 (.panic ch) a' w) :
    Code.wp Try.prog body25 (Exit.then (P25 A n c w k (runB 0 ((ksOf ll).take (k + 1)) initB)) Q0) (fr25 A n c w.heap.size vl vc ve vb (.int .i64 k) u) wr := by
  have hll := h.len
  have hkl : k ≤ (ksOf ll).length := by rw [ksOf, List.length_map]; omega
  have hP := POk.run (ksOf ll) k hkl
  have hbk := bads_len (ksOf ll) k hkl
  obtain ⟨b, off, A', n', c', frm, to, opn, l, rfl, hu, hbl, hl, c0, _, _, _, ht, hn', hc'⟩ := h.at_ hlt
  have hlm := hsz l (List.mem_of_getElem? hl)
  have htl := ht.len
  have hb := hI.below
  have hbs := hb.size
  have hL : LnAt wr U b off k A' n' c' l := ⟨by omega, (hb.cell (p := ⟨b, _, none⟩) hbl).trans c0, Sl.below ht hb, by omega⟩
  have hks : (ksOf ll)[k]? = some (kindT l, decide (0 < l.length)) := by simp [ksOf, hl]
  rw [runB_next hks]
  generalize runB 0 ((ksOf ll).take k) initB = st at *
  obtain ⟨fs, bads⟩ := st
  match zs, hI.inv.ne with
  | z :: r, _ =>
    have hfs' : fs = z.1 :: r.map (·.1) := hfs.symm
    subst hfs'
    obtain ⟨lb, lc, hvl, _, _⟩ := hI.inv.lev.form (by simp)
    rw [show (z :: r).length = r.length + 1 from rfl] at hvl
    subst hvl
    have hzk := hP.bnd z.1 (by simp)
    have hrk : r.length ≤ k := by have := hP.len; simp at this; omega
    have hbk' : bads.length ≤ k := hbk
    by_cases h234 : 2 ≤ kindT l ∧ kindT l ≤ 4
    · have e : stepB k (kindT l) (decide (0 < l.length)) (z.1 :: r.map (·.1), bads) = (newF k :: z.1 :: r.map (·.1), bads) := by simp only [stepB]; rw [if_pos h234]
      show Code.wp Try.prog body25 (Exit.then (P25 (some ⟨b, off, none⟩) n c w k (stepB k (kindT l) (decide (0 < l.length)) (z.1 :: r.map (·.1), bads))) Q0) _ _
      rw [e]
      have h3 : kindT l = 2 ∨ kindT l = 3 ∨ kindT l = 4 := by omega
      rcases h3 with h3 | h3 | h3
      · exact c25_push2 (y := z) u Q0 hlt hn hL hI rfl hrk hbk' hzk h3
      · exact c25_push3 (y := z) u Q0 hlt hn hL hI rfl hrk hbk' hzk h3
      · exact c25_push4 (y := z) u Q0 hlt hn hL hI rfl hrk hbk' hzk h3
    · by_cases h56 : kindT l = 5 ∨ kindT l = 6
      · match r with
        | [] =>
          have e : stepB k (kindT l) (decide (0 < l.length)) (z.1 :: ([] : List Lev).map (·.1), bads) = (z.1 :: ([] : List Lev).map (·.1), bads ++ [k]) := by simp only [stepB]; rw [if_neg h234, if_pos h56]; rfl
          show Code.wp Try.prog body25 (Exit.then (P25 (some ⟨b, off, none⟩) n c w k (stepB k (kindT l) (decide (0 < l.length)) (z.1 :: ([] : List Lev).map (·.1), bads))) Q0) _ _
          rw [e]
          rcases h56 with h5 | h5
          · exact c25_badn5 (y := z) (r := []) u Q0 hlt hn hL hI rfl (Nat.zero_le _) hbk' hzk h5
          · exact c25_badn6 (y := z) (r := []) u Q0 hlt hn hL hI rfl (Nat.zero_le _) hbk' hzk h5
        | y :: r =>
          have e : stepB k (kindT l) (decide (0 < l.length)) (z.1 :: (y :: r).map (·.1), bads) = (if z.1.last then (z.1 :: (y :: r).map (·.1), bads ++ [k]) else (z.1.arm k (kindT l == 6) :: (y :: r).map (·.1), bads)) := by simp only [stepB]; rw [if_neg h234, if_pos h56]; simp
          show Code.wp Try.prog body25 (Exit.then (P25 (some ⟨b, off, none⟩) n c w k (stepB k (kindT l) (decide (0 < l.length)) (z.1 :: (y :: r).map (·.1), bads))) Q0) _ _
          rw [e]
          have hrk2 : r.length ≤ k := by simp at hrk; omega
          by_cases hla : z.1.last = true
          · rw [if_pos hla]
            rcases h56 with h5 | h5
            · exact c25_bade5 u Q0 hlt hn hL hI rfl hrk2 hbk' hzk h5 hla
            · exact c25_bade6 u Q0 hlt hn hL hI rfl hrk2 hbk' hzk h5 hla
          · rw [if_neg hla]
            have hla' : z.1.last = false := by simpa using hla
            rcases h56 with h5 | h5
            · rw [h5]
              exact c25_arm5 u Q0 hlt hn hL hI rfl hrk2 hbk' hzk h5 hla' hQ0
            · rw [h5]
              exact c25_arm6 u Q0 hlt hn hL hI rfl hrk2 hbk' hzk h5 hla' hQ0
      · by_cases h7 : kindT l = 7
        · match r with
          | [] =>
            have e : stepB k (kindT l) (decide (0 < l.length)) (z.1 :: ([] : List Lev).map (·.1), bads) = (z.1 :: ([] : List Lev).map (·.1), bads ++ [k]) := by rw [h7]; rfl
            show Code.wp Try.prog body25 (Exit.then (P25 (some ⟨b, off, none⟩) n c w k (stepB k (kindT l) (decide (0 < l.length)) (z.1 :: ([] : List Lev).map (·.1), bads))) Q0) _ _
            rw [e]
            exact c25_badn7 (y := z) (r := []) u Q0 hlt hn hL hI rfl (Nat.zero_le _) hbk' hzk h7
          | y :: r =>
            have e : stepB k (kindT l) (decide (0 < l.length)) (z.1 :: (y :: r).map (·.1), bads) = (y.1.put z.1.item :: r.map (·.1), bads) := by rw [h7]; rfl
            show Code.wp Try.prog body25 (Exit.then (P25 (some ⟨b, off, none⟩) n c w k (stepB k (kindT l) (decide (0 < l.length)) (z.1 :: (y :: r).map (·.1), bads))) Q0) _ _
            rw [e]
            have hrk2 : r.length ≤ k := by simp at hrk; omega
            exact c25_pop u Q0 hlt hn hL hI rfl hrk2 hbk' hzk h7 (hP.bnd y.1 (by simp)).2
        · by_cases hne : 0 < l.length
          · have e : stepB k (kindT l) (decide (0 < l.length)) (z.1 :: r.map (·.1), bads) = (z.1.put (.mk (kindT l) k []) :: r.map (·.1), bads) := by simp only [stepB]; rw [if_neg h234, if_neg h56, if_neg h7, decide_eq_true hne, if_pos rfl]
            show Code.wp Try.prog body25 (Exit.then (P25 (some ⟨b, off, none⟩) n c w k (stepB k (kindT l) (decide (0 < l.length)) (z.1 :: r.map (·.1), bads))) Q0) _ _
            rw [e]
            have h018 : kindT l = 0 ∨ kindT l = 1 ∨ 8 ≤ kindT l := by omega
            rcases h018 with h0 | h0 | h0
            · rw [h0]
              exact c25_put0 (y := z) u Q0 hlt hn hL hI rfl hrk hbk' hzk h0 hne
            · rw [h0]
              exact c25_put1 (y := z) u Q0 hlt hn hL hI rfl hrk hbk' hzk h0 hne
            · exact c25_put8 (y := z) u Q0 hlt hn h0 hL hI rfl hrk hbk' hzk rfl hne
          · have hl0 : l = [] := List.eq_nil_of_length_eq_zero (by omega)
            have h0 : kindT l = 0 := by rw [hl0]; rfl
            have e : stepB k (kindT l) (decide (0 < l.length)) (z.1 :: r.map (·.1), bads) = (z.1 :: r.map (·.1), bads) := by simp only [stepB]; rw [if_neg h234, if_neg h56, if_neg h7, decide_eq_false hne]; rfl
            show Code.wp Try.prog body25 (Exit.then (P25 (some ⟨b, off, none⟩) n c w k (stepB k (kindT l) (decide (0 < l.length)) (z.1 :: r.map (·.1), bads))) Q0) _ _
            rw [e]
            exact c25_none (y := z) u Q0 hlt hn hL hI rfl hrk hbk' hzk h0 hne
def noPanic (Q : Exit → Act → World → Prop) : Exit → Act → World → Prop
  | .panic _, _, _ => False
  | e, a, w => Q e a w
theorem wp_use {p : Program} {c : Code} {a : Act} {w : World} {P : Act → World → Prop} {Q : Exit → Act → World → Prop} (h : Code.wp p c (Exit.then P (noPanic Q)) a w) (hP : ∀ a' w', P a' w' → Q .normal a' w') : Code.wp p c Q a w :=
  wp_mono h fun e a' w' hq => by
    cases e with
    | normal => exact hP a' w' hq
    | panic _ => exact False.elim hq
    | _ => exact hq
set_option maxRecDepth 1000000 in
set_option maxHeartbeats 8000000 in
theorem buildR_any {U : Nat → Prop} (A : Option Addr) (n c : Nat) (ll : List (List Tok)) (w : World) (h : Lns w U A n ll) (hn : n ≤ 100000) (hsz : ∀ l ∈ ll, l.length ≤ 1000000) :
    Calls Try.prog 25 #[.slice A n c] w (BuildRet w ll) := by
  have HLEN := Lib.hid h.len
  have HSZ := Lib.hid hsz
  clear hsz
  go_enter Try.func25, Try.ntmps25
  go_wp2_with fail
  have HST := Lib.hid (BR.start w)
  go_loopw [4, 5, 6, 7, 8] (fun vl vc ve vb iv wr => RRel w n ll vl vc ve vb iv wr) (fun _ _ _ _ iv _ => n - (intOf iv).toNat)
  case atStart => exact ⟨0, _, _, by omega, rfl, rfl, HST.out⟩
  case round =>
    clear HST
    obtain ⟨k, F, zs, hk, rfl, hfs, hI⟩ := hrel
    by_cases hlt : k < n
    · have hround := fun Q0 hQ0 => round25 (c := c) (fun i => (#[undef, undef, undef, undef, undef, undef, undef, undef, undef, u9, u10, u11, undef, undef, undef, undef, undef, undef, undef, u19, u20, u21, u22, u23, u24, u25, u26, u27, u28, u29, u30, u31, u32, u33, u34, u35, u36, u37, u38, u39, u40, u41, u42, u43, u44, u45, u46, u47, u48, u49, u50, u51, u52, u53, u54, u55, u56, u57, u58, u59, u60, u61, u62, u63, u64, u65, u66, u67, u68, u69, u70, u71, u72, u73, u74, u75, u76, u77, u78, u79, u80, u81, u82, u83, u84, u85, u86, u87, u88, u89, u90, u91, u92, u93, u94, u95, u96, u97, u98, u99, u100, u101, u102, u103, u104, u105, u106, u107, u108, u109, u110, u111, u112, u113, u114, u115, u116, u117, u118, u119, u120, u121, u122, u123, u124, u125, u126, u127, u128, u129, u130, u131, u132, u133, u134, u135, u136, u137, u138, u139, u140, u141, u142, u143, u144, u145, u146, u147, u148, u149, u150, u151, u152, u153, u154, u155, u156, u157, u158, u159, u160, u161, u162, u163, u164, u165, u166, u167, u168, u169, u170, u171, u172, u173, u174, u175, u176, u177, u178, u179, u180] : Array Value).getD i undef) Q0 h hn HSZ.out hlt hfs hI hQ0
      have HKN := Lib.hid hlt
      clear hfs hI h HLEN HSZ hk
      refine wp_use (hround _ ?hpan) (fun a' w' hq => ?_)
      case hpan => exact fun _ _ _ _ h => False.elim h
      · obtain ⟨vl', vc', ve', vb', u', rfl, F', zs', h1, h2⟩ := hq
        refine ⟨⟨vl', vc', ve', vb', .int .i64 ((k + 1 : Nat) : Int), u' 9, u' 10, u' 11, u' 19, u' 20, u' 21, u' 22, u' 23, u' 24, u' 25, u' 26, u' 27, u' 28, u' 29, u' 30, u' 31, u' 32, u' 33, u' 34, u' 35, u' 36, u' 37, u' 38, u' 39, u' 40, u' 41, u' 42, u' 43, u' 44, u' 45, u' 46, u' 47, u' 48, u' 49, u' 50, u' 51, u' 52, u' 53, u' 54, u' 55, u' 56, u' 57, u' 58, u' 59, u' 60, u' 61, u' 62, u' 63, u' 64, u' 65, u' 66, u' 67, u' 68, u' 69, u' 70, u' 71, u' 72, u' 73, u' 74, u' 75, u' 76, u' 77, u' 78, u' 79, u' 80, u' 81, u' 82, u' 83, u' 84, u' 85, u' 86, u' 87, u' 88, u' 89, u' 90, u' 91, u' 92, u' 93, u' 94, u' 95, u' 96, u' 97, u' 98, u' 99, u' 100, u' 101, u' 102, u' 103, u' 104, u' 105, u' 106, u' 107, u' 108, u' 109, u' 110, u' 111, u' 112, u' 113, u' 114, u' 115, u' 116, u' 117, u' 118, u' 119, u' 120, u' 121, u' 122, u' 123, u' 124, u' 125, u' 126, u' 127, u' 128, u' 129, u' 130, u' 131, u' 132, u' 133, u' 134, u' 135, u' 136, u' 137, u' 138, u' 139, u' 140, u' 141, u' 142, u' 143, u' 144, u' 145, u' 146, u' 147, u' 148, u' 149, u' 150, u' 151, u' 152, u' 153, u' 154, u' 155, u' 156, u' 157, u' 158, u' 159, u' 160, u' 161, u' 162, u' 163, u' 164, u' 165, u' 166, u' 167, u' 168, u' 169, u' 170, u' 171, u' 172, u' 173, u' 174, u' 175, u' 176, u' 177, u' 178, u' 179, u' 180, ⟨k + 1, F', zs', HKN.out, rfl, h1, h2⟩, rfl⟩, ?_⟩
        have := HKN.out
        show n - ((k + 1 : Nat) : Int).toNat < n - ((k : Nat) : Int).toNat
        omega
    · obtain rfl : k = n := by omega
      have e : (ksOf ll).take k = ksOf ll := by rw [← HLEN.out, ← List.length_map (f := fun l => (kindT l, decide (0 < l.length))), ksOf, List.take_length]
      have hP := POk.run (ksOf ll) k (by rw [ksOf, List.length_map, HLEN.out]; omega)
      have hbl := bads_len (ksOf ll) k (by rw [ksOf, List.length_map, HLEN.out]; omega)
      rw [e] at hI hfs hP hbl
      change zs.map (·.1) = (stP ll).1 at hfs
      change BR w F zs (stP ll).2 _ _ _ _ _ at hI
      change POk (ksOf ll) k (stP ll) at hP
      change (stP ll).2.length ≤ k at hbl
      have hzl : zs.length ≤ k + 1 := by have h1 := hP.len; rw [← hfs, List.length_map] at h1; exact h1
      have hzn := hI.inv.ne
      obtain ⟨nn, hnn⟩ : ∃ nn, zs.length - 1 = nn := ⟨_, rfl⟩
      have hnk : nn ≤ k := by omega
      have HZ := Lib.hid (show zs.length = nn + 1 by cases zs with | nil => exact absurd rfl hzn | cons a b => simp at hnn ⊢; omega)
      obtain ⟨Ac, cc, hvc, hcc, hccm, _⟩ := own_form hI.inv.con
      rw [hnn] at hvc hcc
      subst hvc
      obtain ⟨Ab, cbd, hvb, hcb, hcbm, _⟩ := own_form hI.bad
      subst hvb
      obtain ⟨lb, lc, hvl, _, _⟩ := hI.inv.lev.form (by rw [HZ.out]; omega)
      rw [HZ.out] at hvl
      subst hvl
      obtain ⟨nb, hnb⟩ : ∃ nb, nb = (stP ll).2.length := ⟨_, rfl⟩
      rw [← hnb] at hcb hbl ⊢
      have HNB := Lib.hid hnb
      have HNN := Lib.hid hnn
      have HI := Lib.hid hI
      have HFS := Lib.hid hfs
      have HP := Lib.hid hP
      clear hI hfs hP hzn hnn e hzl hnb
      unfold maxLen at hccm hcbm
      obtain ⟨W1, rfl⟩ : ∃ W1, W1 = wr := ⟨_, rfl⟩
      go_wp2_with fail
      go_loopw [12, 13] (fun vo iv wx => ORel W1 nn (opR zs) vo iv wx) (fun _ iv _ => nn - (intOf iv).toNat)
      case atStart => exact ⟨0, by omega, rfl, World.ownsRow_nil _ _ _ _, Below.refl _ _⟩
      case round =>
        obtain ⟨j, hj, rfl, hown, hb⟩ := hrel
        by_cases hlt2 : j < nn
        · as_aux_lemma =>
            obtain ⟨cb, cc2, hvc, _, _⟩ := HI.out.inv.con.form (by rw [HNN.out]; omega)
            rw [HNN.out] at hvc
            injection hvc with hv1 _ hv2
            subst hv1 hv2
            obtain ⟨x, hx, hc⟩ := cond_line HI.out.inv HNN.out hlt2
            have c0 := (hb.cell (p := ⟨cb, _, none⟩) (lt_of_cell hc)).trans hc
            have HN := Lib.hid (natsI_next hx)
            have HOWN := Lib.hid hown
            have hbz := hb.size
            clear hx hc hown
            go_wp2_with (at_builtin; refine app_at el54 wr.heap.size rfl _ rfl _ _ rfl W1.heap.size _ j _ rfl HOWN.out rfl rfl (ones_cons rfl ones_nil) (by omega) (by omega) (by omega) ?_; intro gA cA wA hownA hgA hatA hltA)
            have HF := Lib.hid (below_app hb HOWN.out hgA hbz)
            go_roundw
            case rel => exact ⟨j + 1, by omega, by go_num, by rw [HN.out]; exact hownA, HF.out⟩
            case measure => simp [intOf]; omega
        · obtain rfl : j = nn := by omega
          obtain ⟨W2, rfl⟩ : ∃ W2, W2 = wr := ⟨_, rfl⟩
          rw [List.take_of_length_le (by rw [opR_len, HNN.out]; exact Nat.le_refl _)] at hown
          have hI2 := HI.out.keep hb
          have hown2 := own_mono hown HI.out.below.size
          rw [opR_eq HFS.out] at hown2
          have hol : j = (opensOf (stP ll).1).reverse.length := by rw [← opR_eq HFS.out, opR_len, HNN.out]
          obtain ⟨Ao, co, hvo, hco, hcom, _⟩ := own_form hown2
          subst hvo
          have HOL := Lib.hid hol
          have HO2 := Lib.hid hown2
          have HI2 := Lib.hid hI2
          clear hown hb hI2 hown2 hol
          unfold maxLen at hcom
          go_wp2_with fail
          go_loopw [4, 5] (fun vl vc wx => CRel w W2 (itemsP ll) vl vc wx) (fun _ vc _ => lenR vc)
          case atStart =>
            as_aux_lemma =>
              have h1 := HI2.out
              refine ⟨F, zs, h1.inv, by unfold itemsP; rw [HFS.out], h1.below, Nat.le_refl _, fun _ _ => rfl, fun z hz => ?_, by rw [HZ.out]; omega, fun z hz => ?_⟩
              · have := HP.out.bnd z.1 (by rw [← HFS.out]; exact List.mem_map_of_mem hz)
                rw [HZ.out]
                omega
              · exact HP.out.base z (by rw [← HFS.out]; exact hz)
          case round =>
            obtain ⟨F2, zs2, hR, hit, hb2, hz2, h3, hbd, hl2, hla⟩ := hrel
            match zs2, hR, hit, hbd, hl2, hla with
            | [], hR, _, _, _, _ => exact absurd rfl hR.ne
            | z :: y :: r, hR, hit, hbd, hl2, hla =>
              as_aux_lemma =>
                obtain ⟨nr, hnr⟩ : ∃ nr, r.length = nr := ⟨_, rfl⟩
                obtain ⟨lb2, lc2, hv2, _, _⟩ := hR.lev.form (by simp)
                rw [show (z :: y :: r).length = nr + 2 by simp [hnr]] at hv2
                subst hv2
                obtain ⟨cb2, cc2, hv2, _, _⟩ := hR.con.form (by simp)
                rw [show (z :: y :: r).length - 1 = nr + 1 by simp [hnr]] at hv2
                subst hv2
                have hnr2 : nr ≤ 100000 := by simp at hl2; omega
                have HCL := Lib.hid (closed_any w.heap.size lb2 nr lc2 cb2 cc2 F2 z y r wr hnr (by omega) hR (by have := (hbd z (by simp)).1; omega) (by have := (hbd y (by simp)).2; omega))
                have HCR := Lib.hid (fun (G : Nat → Prop) (m' : RMem) (w' : World) (h1 : RInv w.heap.size G ((y.1.put z.1.item, m') :: r) (.slice (some ⟨lb2, 0, none⟩) (nr + 1) lc2) (.slice (some ⟨cb2, 0, none⟩) nr cc2) w') (h2 : Below w.heap.size wr w') (h4 : ∀ b t, IsT wr b t → t ≠ 47 → t ≠ 120 → w'.heap[b]? = wr.heap[b]?) => CRel.closed hit hb2 hz2 h3 hbd hl2 hla h1 h2 h4)
                clear hR hit hb2 hz2 h3 hbd hl2 hla hnr
                go_wp2_with fail
                refine HCL.out.mono ?_
                rintro e w2 ⟨rfl, G, m', hr, hb2, hk2⟩
                have HF := Lib.hid (HCR.out G m' w2 hr hb2 hk2)
                clear hr hb2 hk2
                go_wp2_with fail
                go_roundw
                case rel => exact HF.out
                case measure => simp [lenR]
            | [z], hR, hit, hbd, hl2, hla =>
              obtain ⟨W3, rfl⟩ : ∃ W3, W3 = wr := ⟨_, rfl⟩
              obtain ⟨Ac3, cc3, hvc3, _, _, _⟩ := own_form hR.con
              rw [show ([z] : List Lev).length - 1 = 0 from rfl] at hvc3
              subst hvc3
              obtain ⟨lb3, lc3, hvl3, _, hlb3⟩ := hR.lev.form (by simp)
              rw [show ([z] : List Lev).length = 1 from rfl] at hvl3
              subst hvl3
              have hb3 := own_keep HI2.out.bad fun b hb => h3 b (own_isT HI2.out.bad hb)
              have ho3 := own_keep HO2.out fun b hb => h3 b (own_isT HO2.out hb)
              rw [← HNB.out] at hb3
              have hdu := dUpto_all ll
              have htl := fun (i : Nat) (l : List Tok) => @told_len ll i l
              have HITM := Lib.hid (show z.1.cur = itemsP ll from hit)
              have HB3 := Lib.hid hb3
              have HO3 := Lib.hid ho3
              have HLN := Lib.hid (h.below hb2)
              have hll3 := hR.lvCell
              have HR := Lib.hid hR
              have HBW := Lib.hid hb2
              have HNO := Lib.hid HOL.out
              rw [HLEN.out] at hdu
              generalize (opensOf (stP ll).1).reverse = opens at *
              generalize (stP ll).2 = bads at *
              have HDU := Lib.hid hdu
              have HTL := Lib.hid htl
              have LB3 := Lib.hid (show W3.cell? ⟨lb3, 0, none⟩ = some (.slice z.2.iA z.1.cur.length z.2.iC) from hll3)
              clear hR hit hb2 hz2 h3 hbd hl2 hla hb3 ho3 hdu htl hll3 HI2 HO2 HI HP
              go_wp2_with fail
              go_loopw [14, 15] (fun vd iv wx => DRel W3 k ll bads opens vd iv wx) (fun _ iv _ => k - (intOf iv).toNat)
              case atStart => exact ⟨0, by omega, rfl, World.ownsRow_nil _ _ _ _, Below.refl _ _⟩
              case round =>
                obtain ⟨i, hi, rfl, hown4, hb4⟩ := hrel
                by_cases hlti : i < k
                · obtain ⟨b, off, A', n', c', frm, to, opn, l, rfl, hu, hblk, hl, c0, c1, c2, c3, ht, hn', hc'⟩ := HLN.out.at_ hlti
                  have hlm := HSZ.out l (List.mem_of_getElem? hl)
                  have htn := ht.len
                  have hn6 : n' ≤ 1000000 := by omega
                  have HL4 := Lib.hid hl
                  have HT4 := Lib.hid ht
                  have C0 := Lib.hid c0
                  have C1 := Lib.hid c1
                  have C2 := Lib.hid c2
                  have C3 := Lib.hid c3
                  have HBND := Lib.hid (dUpto_bound (ll := ll) (bads := bads) (opens := opens) (i := i) (by omega) (by rw [← HNB.out]; omega) (by rw [← HNO.out]; omega))
                  clear hl ht c0 c1 c2 c3 hlm htn
                  go_wp2_with fail
                  go_loopw [14, 16] (fun vd jv wx => ERel W3 nb l 12 i (dUpto ll bads opens i) bads vd jv wx) (fun _ jv _ => nb - (intOf jv).toNat)
                  case atStart => exact ⟨0, by omega, rfl, by simpa [hitL] using hown4, hb4⟩
                  case round =>
                    obtain ⟨j2, hj2, rfl, hown5, hb5⟩ := hrel
                    by_cases hltj : j2 < nb
                    · as_aux_lemma =>
                        obtain ⟨x, hx⟩ : ∃ x, (bads)[j2]? = some x := ⟨_, List.getElem?_eq_getElem (by rw [← HNB.out]; exact hltj)⟩
                        obtain ⟨rb, rfl, q0⟩ := row_cell HB3.out hb5 hx hltj
                        by_cases hxi : x = i
                        · subst hxi
                          have h2l := HTL.out _ _ HL4.out (Or.inl  (List.mem_of_getElem? hx))
                          have hn2 : 2 ≤ n' := by have := HT4.out.len; omega
                          have HX := Lib.hid hx
                          have HOWN5 := Lib.hid hown5
                          have hlen5 : ((dUpto ll bads opens x) ++ hitL l 12 x ((bads).take j2)).length ≤ 20000200000 := by
                            have h1 := hitL_len l 12 x ((bads).take j2)
                            have h2 := List.length_take_le j2 (bads)
                            rw [List.length_append]
                            have h3 := HBND.out; have h4 := HNB.out; omega
                          generalize hDD : (dUpto ll bads opens x) ++ hitL l 12 x ((bads).take j2) = D5 at hlen5 HOWN5
                          have HDD := Lib.hid hDD
                          have c0 := (hb5.cell (p := ⟨b, _, none⟩) hblk).trans C0.out
                          have c1 := (hb5.cell (p := ⟨b, _, none⟩) hblk).trans C1.out
                          have c2 := (hb5.cell (p := ⟨b, _, none⟩) hblk).trans C2.out
                          have c3 := (hb5.cell (p := ⟨b, _, none⟩) hblk).trans C3.out
                          have HSEC := Lib.hid (second_any A' n' c' frm to opn l wr (Sl.below HT4.out hb5) hn2 (by omega))
                          have hz5 := hb5.size
                          clear hx hDD hown5 h2l
                          go_wp2_with (first
                            | (go_at_call 51; refine HSEC.out.mono ?_; rintro e w5 ⟨rfl, hb6⟩; have hz6 := hb6.size)
                            | (at_builtin; refine app_at el39 w5.heap.size rfl _ rfl _ _ rfl W3.heap.size u14 D5.length _ rfl (own_keep HOWN5.out fun b hb => hb6.block b (HOWN5.out.lt b hb).2) rfl rfl (ones_cons rfl (ones_cons rfl (ones_cons rfl (ones_cons rfl ones_nil)))) (by omega) (by omega) (by omega) ?_; intro gA cA wA hownA hgA hatA hltA))
                          have hbA := below_app (hb5.trans (hb6.mono hz5)) (own_keep HOWN5.out fun b hb => hb6.block b (HOWN5.out.lt b hb).2) hgA (by omega)
                          rw [← HDD.out] at hownA ⊢
                          have HFIN := Lib.hid (ERel.yes (m := nb) hltj HX.out hownA hbA)
                          clear hownA hgA hatA hltA hbA hb6
                          go_roundw
                          case rel => exact HFIN.out
                          case measure => simp [intOf]; omega
                        · have hxe : ((x : Int) == (i : Int)) = false := by simpa using (by omega : ¬ (x : Int) = (i : Int))
                          have hxe2 : ¬ x = i := hxi
                          have HFIN := Lib.hid (ERel.no (m := nb) hltj hx hxi hown5 hb5)
                          clear hx hown5 hxi
                          go_wp2_with fail
                          go_roundw
                          case rel => exact HFIN.out
                          case measure => simp [intOf]; omega
                    · obtain rfl : j2 = nb := by omega
                      rw [List.take_of_length_le (by rw [← HNB.out]; exact Nat.le_refl _)] at hown5
                      have HOW := Lib.hid hown5
                      clear hown5 hown4 hb4
                      go_wp2_with fail
                      go_loopw [14, 17] (fun vd jv wx => ERel W3 j l 13 i (dUpto ll bads opens i ++ hitL l 12 i bads) opens vd jv wx) (fun _ jv _ => j - (intOf jv).toNat)
                      case atStart => exact ⟨0, by omega, rfl, by simpa [hitL] using HOW.out, hb5⟩
                      case round =>
                        obtain ⟨j3, hj3, rfl, hown5, hb5⟩ := hrel
                        by_cases hltj : j3 < j
                        · as_aux_lemma =>
                            obtain ⟨x, hx⟩ : ∃ x, (opens)[j3]? = some x := ⟨_, List.getElem?_eq_getElem (by rw [← HNO.out]; exact hltj)⟩
                            obtain ⟨rb, rfl, q0⟩ := row_cell HO3.out hb5 hx hltj
                            by_cases hxi : x = i
                            · subst hxi
                              have h2l := HTL.out _ _ HL4.out (Or.inr  (List.mem_of_getElem? hx))
                              have hn2 : 2 ≤ n' := by have := HT4.out.len; omega
                              have HX := Lib.hid hx
                              have HOWN5 := Lib.hid hown5
                              have hlen5 : ((dUpto ll bads opens x ++ hitL l 12 x bads) ++ hitL l 13 x ((opens).take j3)).length ≤ 20000200000 := by
                                have h1 := hitL_len l 13 x ((opens).take j3)
                                have h2 := List.length_take_le j3 (opens)
                                rw [List.length_append]
                                have h3 := HBND.out; have h4 := HNO.out; have h5 := hitL_len l 12 x bads; have h6 := HNB.out; rw [List.length_append]; omega
                              generalize hDD : (dUpto ll bads opens x ++ hitL l 12 x bads) ++ hitL l 13 x ((opens).take j3) = D5 at hlen5 HOWN5
                              have HDD := Lib.hid hDD
                              have c0 := (hb5.cell (p := ⟨b, _, none⟩) hblk).trans C0.out
                              have c1 := (hb5.cell (p := ⟨b, _, none⟩) hblk).trans C1.out
                              have c2 := (hb5.cell (p := ⟨b, _, none⟩) hblk).trans C2.out
                              have c3 := (hb5.cell (p := ⟨b, _, none⟩) hblk).trans C3.out
                              have HSEC := Lib.hid (second_any A' n' c' frm to opn l wr (Sl.below HT4.out hb5) hn2 (by omega))
                              have hz5 := hb5.size
                              clear hx hDD hown5 h2l
                              go_wp2_with (first
                                | (go_at_call 51; refine HSEC.out.mono ?_; rintro e w5 ⟨rfl, hb6⟩; have hz6 := hb6.size)
                                | (at_builtin; refine app_at el39 w5.heap.size rfl _ rfl _ _ rfl W3.heap.size u14 D5.length _ rfl (own_keep HOWN5.out fun b hb => hb6.block b (HOWN5.out.lt b hb).2) rfl rfl (ones_cons rfl (ones_cons rfl (ones_cons rfl (ones_cons rfl ones_nil)))) (by omega) (by omega) (by omega) ?_; intro gA cA wA hownA hgA hatA hltA))
                              have hbA := below_app (hb5.trans (hb6.mono hz5)) (own_keep HOWN5.out fun b hb => hb6.block b (HOWN5.out.lt b hb).2) hgA (by omega)
                              rw [← HDD.out] at hownA ⊢
                              have HFIN := Lib.hid (ERel.yes (m := j) hltj HX.out hownA hbA)
                              clear hownA hgA hatA hltA hbA hb6
                              go_roundw
                              case rel => exact HFIN.out
                              case measure => simp [intOf]; omega
                            · have hxe : ((x : Int) == (i : Int)) = false := by simpa using (by omega : ¬ (x : Int) = (i : Int))
                              have hxe2 : ¬ x = i := hxi
                              have HFIN := Lib.hid (ERel.no (m := j) hltj hx hxi hown5 hb5)
                              clear hx hown5 hxi
                              go_wp2_with fail
                              go_roundw
                              case rel => exact HFIN.out
                              case measure => simp [intOf]; omega
                        · obtain rfl : j3 = j := by omega
                          rw [List.take_of_length_le (by rw [← HNO.out]; exact Nat.le_refl _)] at hown5
                          have HF := Lib.hid (DRel.next hlti HL4.out hown5 hb5)
                          go_wp2_with fail
                          go_roundw
                          case rel => exact HF.out
                          case measure => simp [intOf]; omega
                · obtain rfl : i = k := by omega
                  have HF := Lib.hid (buildR_fin HR.out HBW.out HITM.out hown4 HDU.out hb4)
                  have hl0 := (hb4.cell (p := ⟨lb3, _, none⟩) hlb3).trans LB3.out
                  clear hown4 hb4
                  go_wp2_with fail
                  go_ret2
                  exact HF.out
end Go.Proofs.Ytjklnlocmmnclaa
