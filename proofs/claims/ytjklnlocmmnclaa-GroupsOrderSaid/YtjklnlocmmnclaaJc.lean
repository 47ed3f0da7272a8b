/- Walks: the law of the order of lines. -/
import Derived.Test.YtjklnlocmmnclaaJb
import Derived.Test.YtjklnlocmmnclaaIe
import Derived.Test.YtjklnlocmmnclaaWo
import Derived.Deep.QuietTactic
import Derived.BigQuiet
namespace Go.Proofs.Ytjklnlocmmnclaa
open Go.RowKit

def OrdRel (w3 : World) (ks : List (Nat × Bool)) (n : Nat) (atv endv oddv iv : Value) (wr : World) : Prop :=
  ∃ k : Nat, k ≤ n ∧ atv = .int .i64 ((kept ks k).length : Nat) ∧ endv = .int .i64 (ends7 ks k : Nat) ∧ oddv = .int .i64 (odd56 ks k : Nat) ∧ iv = .int .i64 k ∧ Below w3.heap.size w3 wr
theorem kept_next_yes {ks : List (Nat × Bool)} {k : Nat} (h : keptB ks k = true) : (kept ks (k + 1)).length = (kept ks k).length + 1 := by simp [kept, h]
theorem kept_next_no {ks : List (Nat × Bool)} {k : Nat} (h : keptB ks k = false) : (kept ks (k + 1)).length = (kept ks k).length := by simp [kept, h]
theorem ends7_at {ks : List (Nat × Bool)} {k : Nat} {x : Nat × Bool} (h : ks[k]? = some x) : ends7 ks (k + 1) = ends7 ks k + if x.1 = 7 then 1 else 0 := by simp only [ends7, h]
theorem odd56_at {ks : List (Nat × Bool)} {k : Nat} {x : Nat × Bool} (h : ks[k]? = some x) : odd56 ks (k + 1) = odd56 ks k + if (x.1 = 5 ∨ x.1 = 6) ∧ keptB ks k = false then 1 else 0 := by simp only [odd56, h]
theorem kept_not7 {ks : List (Nat × Bool)} {k : Nat} {x : Nat × Bool} (h : ks[k]? = some x) (hk : keptB ks k = true) : x.1 ≠ 7 := by
  unfold keptB at hk
  rw [h] at hk
  intro e
  simp [keepB, e] at hk

set_option maxRecDepth 1000000 in
set_option maxHeartbeats 4000000 in
theorem groupsOrder_any (s : ByteArray) (w : World) (hs : s.size ≤ maxLen) :
    Calls Try.prog 7 #[.string s] w fun e w' => e = .returned (.bool true) ∧ Below w.heap.size w w' := by
  unfold maxLen at hs
  by_cases hbig : 3000 < s.size
  · go_enter Try.func7, Try.ntmps7
    go_wp2_with fail
    refine (awake8_any w).mono ?_
    rintro e w1 ⟨rfl, hb⟩
    go_wp2_with fail
    go_ret
    exact ⟨rfl, hb⟩
  · have hll := llP_len s
    have hfew := llP_few s
    have hok := llP_ok s (by omega)
    have HL := Lib.hid (lines8_any s w (by omega) (by omega))
    have HBU := Lib.hid (fun (w1 : World) (A : Option Addr) (c : Nat) (h : Lns w1 (fun _ => True) A (llP s).length (llP s)) => build_any A (llP s).length c (llP s) w1 h (by omega) (fun l hl => ⟨by have := hfew l hl; omega, hok l hl⟩))
    have hfl := flat_items (llP s)
    have hkl : (ksOf (llP s)).length = (llP s).length := by simp [ksOf]
    have hkn := kept_len (ksOf (llP s)) (ksOf (llP s)).length
    have HFL := fun (w' : World) (V : Nat → Prop) (A' : Option Addr) (c' : Nat) (hI : Its w' V A' (itemsP (llP s)).length (itemsP (llP s))) h1 h2 => Lib.hid (flat_any A' (itemsP (llP s)).length c' (itemsP (llP s)) w' hI h1 h2 (by rw [hfl]; omega))
    have HFE := Lib.hid hfl
    have HKL := Lib.hid hkl
    have hcb := count_bads (ksOf (llP s)) (ksOf (llP s)).length
    have hel := elses_diagsP (llP s)
    rw [← hel] at hcb
    have HCB := Lib.hid hcb
    have HFEW := Lib.hid hfew
    have hdl : (diagsP (llP s)).length ≤ (llP s).length := by unfold diagsP; exact diagL_len _ _
    have HNK := Lib.hid (fun (i : Nat) (l : List Tok) (h : (llP s)[i]? = some l) => @not_kept (llP s) i l h)
    clear hfl hcb hel hok hfew hkl
    generalize llP s = ll at *
    generalize hks : ksOf ll = ks at *
    have HKS := Lib.hid hks
    clear hks
    obtain ⟨n, hn⟩ : ∃ n, n = ll.length := ⟨_, rfl⟩
    have HN := Lib.hid hn
    have hn1 : n ≤ 3001 := by omega
    have hksn : ks.length = n := by rw [HKL.out, hn]
    rw [hksn] at HFE HCB hkn
    rw [← hn] at hdl
    clear hll hn
    obtain ⟨N, HNN⟩ : ∃ N, Hid (N = (kept ks n).length) := ⟨_, Lib.hid rfl⟩
    rw [← HNN.out] at hkn
    obtain ⟨D, HD⟩ : ∃ D, Hid (D = (diagsP ll).length) := ⟨_, Lib.hid rfl⟩
    rw [← HD.out] at hdl
    have HKSN := Lib.hid hksn
    clear hksn
    go_enter Try.func7, Try.ntmps7
    go_wp2_with fail
    refine HL.out.mono ?_
    rintro e w1 ⟨A, c, rfl, hc, hcm, hLn, hb1⟩
    go_wp2_with fail
    refine (HBU.out _ _ _ hLn).mono ?_
    rintro e w2 ⟨A2, c2, vd, rfl, hc2, hcm2, hI2, hD2, hb2⟩
    obtain ⟨AD, cD, rfl, _, _, _⟩ := own_form hD2
    have hbb2 := below_chain hb1 hb2
    have hLn2 := hLn.below hb2
    have hDs := Sl.of_own (U := fun _ => True) hD2 fun _ _ => trivial
    clear hb1 hb2 hLn hD2 HL HBU
    go_wp2_with fail
    refine (HFL _ _ _ _ hI2 hc2 hcm2).out.mono ?_
    rintro e w3 ⟨v3, rfl, hown3, hb3⟩
    have hbb3 := below_chain hbb2 hb3
    have hLn3 := hLn2.below hb3
    have hDs3 := Sl.below hDs hb3
    obtain ⟨A3, c3, rfl, _⟩ := own_form hown3
    rw [HFE.out] at hown3 ⊢
    have hFs := Sl.of_own (U := fun _ => True) hown3 fun _ _ => trivial
    rw [← HNN.out] at hFs ⊢
    rw [← HN.out] at hLn3 hc ⊢
    rw [← HD.out] at hDs3 ⊢
    have HDS := Lib.hid hDs3
    have HFS := Lib.hid hFs
    have HLN := Lib.hid hLn3
    clear hDs3 hFs hLn3 hDs hLn2 hbb2 hb3 hown3 HFL hI2
    unfold maxLen at hcm hcm2
    go_wp2_with fail
    go_loopw [7, 8, 9, 10] (fun atv endv oddv iv wr => OrdRel w3 ks n atv endv oddv iv wr) (fun _ _ _ iv _ => n - (intOf iv).toNat)
    case atStart => exact ⟨0, by omega, rfl, rfl, rfl, rfl, Below.refl _ _⟩
    case round =>
      obtain ⟨k, hk, rfl, rfl, rfl, rfl, hb⟩ := hrel
      obtain ⟨a, HA⟩ : ∃ a, Hid (a = (kept ks k).length) := ⟨_, Lib.hid rfl⟩
      obtain ⟨e7, HE⟩ : ∃ a, Hid (a = ends7 ks k) := ⟨_, Lib.hid rfl⟩
      obtain ⟨o5, HO⟩ : ∃ a, Hid (a = odd56 ks k) := ⟨_, Lib.hid rfl⟩
      rw [← HA.out, ← HE.out, ← HO.out]
      have haN : a ≤ N := by rw [HA.out, HNN.out]; exact kept_less hk
      have he7 : e7 ≤ k := by rw [HE.out]; exact ends7_le ks k
      have ho5 : o5 ≤ k := by rw [HO.out]; exact odd56_le ks k
      by_cases hlt : k < n
      · obtain ⟨b, off, A', n', c', frm, to, opn, l, rfl, hu, hbl, hl, c0, _, _, _, ht, hn', hc'⟩ := HLN.out.at_ hlt
        have hx : ks[k]? = some (kindT l, decide (0 < l.length)) := by rw [← HKS.out]; simp [ksOf, hl]
        have hka := kept_at (ks := ks) hlt
        have C0 := Lib.hid c0
        have htl := ht.len
        have hfw := HFEW.out l (List.mem_of_getElem? hl)
        have HT := Lib.hid ht
        unfold maxLen at hc'
        rw [← hb.cell (p := ⟨b, _, none⟩) hbl] at c0
        cases hkp : keptB ks k with
        | true =>
          have hat := hka.1 hkp
          have hlt2 : a < N := by
            rw [HA.out, HNN.out]
            exact (List.getElem?_eq_some_iff.1 hat).1
          obtain ⟨fb, fo, rfl, _, hcl⟩ := HFS.out.2 (by rw [ints_len, ← HNN.out]; omega)
          have f0 := hcl a (.int .i64 k) (by rw [HA.out]; simp [ints, hat])
          rw [← hb.cell (p := ⟨fb, _, none⟩) (lt_of_cell f0)] at f0
          have h7 := kept_not7 hx hkp
          have HRE := Lib.hid (show (kept ks (k + 1)).length = a + 1 ∧ ends7 ks (k + 1) = e7 ∧ odd56 ks (k + 1) = o5 from by
            rw [ends7_at hx, odd56_at hx, kept_next_yes hkp, if_neg h7, if_neg (by rw [hkp]; simp), ← HA.out, ← HE.out, ← HO.out]
            exact ⟨rfl, rfl, rfl⟩)
          clear hx hka hkp hat hcl h7 htl hfw hl
          go_wp2_with fail
          go_roundw
          case rel => exact ⟨k + 1, by omega, by rw [HRE.out.1]; go_num, by rw [HRE.out.2.1], by rw [HRE.out.2.2], by go_num, hb⟩
          case measure => simp [intOf]; omega
        | false =>
          have hno := hka.2 hkp
          have hnk := HNK.out k l hl hkp
          have HRE := Lib.hid (show (kept ks (k + 1)).length = a ∧ ends7 ks (k + 1) = e7 + (if kindT l = 7 then 1 else 0) ∧ odd56 ks (k + 1) = o5 + (if kindT l = 5 ∨ kindT l = 6 then 1 else 0) from by
            rw [ends7_at hx, odd56_at hx, kept_next_no hkp, ← HA.out, ← HE.out, ← HO.out, hkp]
            simp)
          have HKI := fun W hW => Lib.hid (kindR_any A' n' c' l W (Sl.below HT.out (hb.trans (Below.mono hW hb.size))) (by omega))
          have hcell : (∃ fb fo x, A3 = some ⟨fb, fo, none⟩ ∧ a < N ∧ ¬ x = (k : Int) ∧ fb < w3.heap.size ∧ wr.cell? ⟨fb, fo + a, none⟩ = some (.int .i64 x)) ∨ a = N := by
            by_cases hlt2 : a < N
            · left
              obtain ⟨fb, fo, rfl, _, hcl⟩ := HFS.out.2 (by rw [ints_len, ← HNN.out]; omega)
              obtain ⟨x, hxx⟩ : ∃ x, (kept ks n)[a]? = some x := ⟨_, List.getElem?_eq_getElem (by rw [← HNN.out]; exact hlt2)⟩
              have f0 := hcl a (.int .i64 x) (by simp [ints, hxx])
              rw [HA.out] at hxx
              refine ⟨fb, fo, x, rfl, hlt2, hno x hxx, lt_of_cell f0, ?_⟩
              rw [hb.cell (p := ⟨fb, _, none⟩) (lt_of_cell f0)]
              exact f0
            · right
              omega
          clear hx hka hkp hno hl
          rcases hcell with ⟨fb, fo, x, rfl, hlt2, hxk, hfb, f0⟩ | rfl
          all_goals
            rcases hnk with ⟨h0, h1⟩ | h7 | h5 | h6
            · have e0 : ((kindT l : Nat) : Int) = 0 := by rw [h0]; rfl
              obtain rfl : n' = 0 := by omega
              rw [e0] at HKI
              rw [h0] at HRE
              clear h0 h1 e0 htl hfw
              go_wp2_with fail
              refine (HKI _ (Below.refl _ _)).out.mono ?_
              rintro e w' ⟨rfl, hb'⟩
              have hbb := hb.trans (hb'.mono hb.size)
              have c0' := (hbb.cell (p := ⟨b, _, none⟩) hbl).trans C0.out
              clear c0 hb hb'
              go_wp2_with fail
              go_roundw
              case rel => exact ⟨k + 1, by omega, by rw [HRE.out.1], by rw [HRE.out.2.1]; rfl, by rw [HRE.out.2.2]; rfl, by go_num, hbb⟩
              case measure => simp [intOf]; omega
            · have e0 : ((kindT l : Nat) : Int) = 7 := by rw [h7]; rfl
              rw [e0] at HKI
              rw [h7] at HRE
              clear h7 e0 htl hfw
              go_wp2_with fail
              refine (HKI _ (Below.refl _ _)).out.mono ?_
              rintro e w' ⟨rfl, hb'⟩
              have hbb := hb.trans (hb'.mono hb.size)
              have c0' := (hbb.cell (p := ⟨b, _, none⟩) hbl).trans C0.out
              clear c0 hb hb'
              go_wp2_with fail
              go_roundw
              case rel => exact ⟨k + 1, by omega, by rw [HRE.out.1], by rw [HRE.out.2.1]; go_num, by rw [HRE.out.2.2]; rfl, by go_num, hbb⟩
              case measure => simp [intOf]; omega
            · have e0 : ((kindT l : Nat) : Int) = 5 := by rw [h5]; rfl
              rw [e0] at HKI
              rw [h5] at HRE
              clear h5 e0 htl hfw
              go_wp2_with fail
              refine (HKI _ (Below.refl _ _)).out.mono ?_
              rintro e w' ⟨rfl, hb'⟩
              have hbb := hb.trans (hb'.mono hb.size)
              have c0' := (hbb.cell (p := ⟨b, _, none⟩) hbl).trans C0.out
              clear c0 hb hb'
              go_wp2_with fail
              go_roundw
              case rel => exact ⟨k + 1, by omega, by rw [HRE.out.1], by rw [HRE.out.2.1]; rfl, by rw [HRE.out.2.2]; go_num, by go_num, hbb⟩
              case measure => simp [intOf]; omega
            · have e0 : ((kindT l : Nat) : Int) = 6 := by rw [h6]; rfl
              rw [e0] at HKI
              rw [h6] at HRE
              clear h6 e0 htl hfw
              go_wp2_with fail
              refine (HKI _ (Below.refl _ _)).out.mono ?_
              rintro e w' ⟨rfl, hb'⟩
              have hbb := hb.trans (hb'.mono hb.size)
              have c0' := (hbb.cell (p := ⟨b, _, none⟩) hbl).trans C0.out
              clear c0 hb hb'
              go_wp2_with fail
              go_roundw
              case rel => exact ⟨k + 1, by omega, by rw [HRE.out.1], by rw [HRE.out.2.1]; rfl, by rw [HRE.out.2.2]; go_num, by go_num, hbb⟩
              case measure => simp [intOf]; omega
      · obtain rfl : k = n := by omega
        have haN2 : a = N := by rw [HA.out, HNN.out]
        subst haN2
        have hcb := HCB.out
        rw [← HE.out, ← HO.out] at hcb
        obtain ⟨L, HL⟩ : ∃ L, Hid (L = elses (diagsP ll)) := ⟨_, Lib.hid rfl⟩
        rw [← HL.out] at hcb
        obtain ⟨hcb1, hcb2⟩ := hcb
        clear haN
        go_wp2_with fail
        go_loopw [11, 12] (fun elv iv wx => ∃ j : Nat, j ≤ D ∧ iv = .int .i64 j ∧ elv = .int .i64 (elses ((diagsP ll).take j) : Nat) ∧ Below w3.heap.size w3 wx) (fun _ iv _ => D - (intOf iv).toNat)
        case atStart => exact ⟨0, by omega, rfl, rfl, hb⟩
        case round =>
          obtain ⟨j, hj, rfl, rfl, hb2⟩ := hrel
          obtain ⟨el, HEL⟩ : ∃ el, Hid (el = elses ((diagsP ll).take j)) := ⟨_, Lib.hid rfl⟩
          rw [← HEL.out]
          have hel : el ≤ j := by
            rw [HEL.out]
            exact Nat.le_trans (elses_le _) (List.length_take_le _ _)
          by_cases hlt : j < D
          · obtain ⟨b, off, d, rfl, _, hbl, hd, hcl⟩ := Sl.elem dgtCells_len (by decide) HDS.out hlt
            have c0 := hcl 0 (.int .i64 d.1) rfl
            rw [Nat.add_zero, ← hb2.cell (p := ⟨b, _, none⟩) hbl] at c0
            have HRE := Lib.hid (show elses ((diagsP ll).take (j + 1)) = el + (if d.1 = 12 then 1 else 0) from by
              rw [take_next hd, elses_append, ← HEL.out]
              simp [elses])
            clear hd hcl
            by_cases h12 : d.1 = 12
            · rw [if_pos h12] at HRE
              rw [h12] at c0
              clear h12
              go_wp2_with fail
              go_roundw
              case rel => exact ⟨j + 1, by omega, by go_num, by rw [HRE.out]; go_num, hb2⟩
              case measure => simp [intOf]; omega
            · rw [if_neg h12] at HRE
              go_wp2_with fail
              go_roundw
              case rel => exact ⟨j + 1, by omega, by go_num, by rw [HRE.out]; rfl, hb2⟩
              case measure => simp [intOf]; omega
          · obtain rfl : j = D := by omega
            have e : el = L := by rw [HEL.out, HL.out, HD.out, List.take_length]
            subst e
            go_wp2_with fail
            refine (awake8_any _).mono ?_
            rintro e w9 ⟨rfl, hb9⟩
            have hbz := hbb3.trans ((hb2.trans (hb9.mono hb2.size)).mono hbb3.size)
            clear hb9 hb2 hb hbb3
            go_wp2_with fail
            go_ret
            exact ⟨rfl, hbz⟩
end Go.Proofs.Ytjklnlocmmnclaa
