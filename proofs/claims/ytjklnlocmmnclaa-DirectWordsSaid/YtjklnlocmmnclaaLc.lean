/- The law of directives' words returns true. -/
import Derived.Test.YtjklnlocmmnclaaLb
import Derived.Test.YtjklnlocmmnclaaJa9
namespace Go.Proofs.Ytjklnlocmmnclaa
open Go.RowKit

theorem words_str : ∀ m : Nat, m < 12 → ∃ ws : ByteArray, wordsP[m]? = some ws.data.toList ∧ (⟨(wordT (2 + (m : Int))).toArray⟩ : ByteArray) = ws ∧ ws.size ≤ 8 ∧ 2 ≤ ws.size := by
  intro m hm
  match m, hm with
  | 0, _ => exact ⟨_, rfl, rfl, by decide, by decide⟩
  | 1, _ => exact ⟨_, rfl, rfl, by decide, by decide⟩
  | 2, _ => exact ⟨_, rfl, rfl, by decide, by decide⟩
  | 3, _ => exact ⟨_, rfl, rfl, by decide, by decide⟩
  | 4, _ => exact ⟨_, rfl, rfl, by decide, by decide⟩
  | 5, _ => exact ⟨_, rfl, rfl, by decide, by decide⟩
  | 6, _ => exact ⟨_, rfl, rfl, by decide, by decide⟩
  | 7, _ => exact ⟨_, rfl, rfl, by decide, by decide⟩
  | 8, _ => exact ⟨_, rfl, rfl, by decide, by decide⟩
  | 9, _ => exact ⟨_, rfl, rfl, by decide, by decide⟩
  | 10, _ => exact ⟨_, rfl, rfl, by decide, by decide⟩
  | 11, _ => exact ⟨_, rfl, rfl, by decide, by decide⟩
/-- The first of the bytes are blanks. -/
def BlankTo (s : ByteArray) (k : Nat) : Prop := blankB (s.data.toList.take k)
def RestTo (s : ByteArray) (k : Nat) : Prop := restB (s.data.toList.take k)
theorem byte_at {s : ByteArray} {k : Nat} (h : k < s.size) : s.data.toList[k]? = some s[k] := by
  have h' : k < s.data.toList.length := by simpa using h
  rw [List.getElem?_eq_getElem h']
  simp only [Array.getElem_toList]
  rfl
theorem BlankTo.next {s : ByteArray} {k : Nat} (h : BlankTo s k) (hk : k < s.size) (hb : (s[k].toNat : Int) = 32 ∨ (s[k].toNat : Int) = 9) : BlankTo s (k + 1) := by
  unfold BlankTo at *
  rw [take_next (byte_at hk)]
  intro b hb'
  rcases List.mem_append.1 hb' with hb' | hb'
  · exact h b hb'
  · simp at hb'
    subst hb'
    rcases hb with hb | hb
    · exact .inl (UInt8.toNat_inj.1 (by show s[k].toNat = 32; omega))
    · exact .inr (UInt8.toNat_inj.1 (by show s[k].toNat = 9; omega))
theorem RestTo.next {s : ByteArray} {k : Nat} (h : RestTo s k) (hk : k < s.size) (h1 : 32 ≤ (s[k].toNat : Int)) (h2 : (s[k].toNat : Int) ≠ 47) (h3 : (s[k].toNat : Int) ≠ 63) (h4 : (s[k].toNat : Int) ≠ 92) : RestTo s (k + 1) := by
  unfold RestTo at *
  rw [take_next (byte_at hk)]
  intro b hb'
  rcases List.mem_append.1 hb' with hb' | hb'
  · exact h b hb'
  · simp at hb'
    subst hb'
    refine ⟨fun e => ?_, fun e => ?_, fun e => ?_, fun e => ?_⟩
    · have : s[k].toNat = 10 := by rw [e]; rfl
      omega
    · have : s[k].toNat = 47 := by rw [e]; rfl
      omega
    · have : s[k].toNat = 63 := by rw [e]; rfl
      omega
    · have : s[k].toNat = 92 := by rw [e]; rfl
      omega
theorem BlankTo.all {s : ByteArray} {k : Nat} (h : BlankTo s k) (hk : k = s.size) : blankB s.data.toList := by
  subst hk
  unfold BlankTo at h
  rwa [List.take_of_length_le (by simp)] at h
theorem RestTo.all {s : ByteArray} {k : Nat} (h : RestTo s k) (hk : k = s.size) : restB s.data.toList := by
  subst hk
  unfold RestTo at h
  rwa [List.take_of_length_le (by simp)] at h
theorem toksP_few (s : ByteArray) : (toksP s).length ≤ s.size + 1 := by
  have h2 := charsP_len s.data.toList
  have hsl : s.data.toList.length = s.size := by simp
  have h : LnFew (s.size + 1) (linesP s.data.toList).1 := lx_few (N := s.size + 1) (sz := s.data.toList.length) 0 (charsP s.data.toList) ⟨[], [], [], 0, false⟩ (by intro x hx; simp at hx) (by simp; omega)
  rw [toksP_eq, List.length_map]
  unfold firstK
  split
  · simp
  · rename_i x l e
    rw [e] at h
    exact h x List.mem_cons_self

theorem tokN_any (s : ByteArray) (w : World) (n : Nat) (hs : s.size ≤ 99999) (hl : (toksP s).length = n) : Calls Try.prog 20 #[.string s] w (TokN w (toksP s) n) :=
  (toks_any s w hs).mono fun _ _ h => TokRet.n h hl
/-- What stands behind a directive's word: so many tokens. -/
theorem rest_len {s : ByteArray} {A : Option Addr} {N c : Nat} (w : World) (h : Toks w (fun _ => True) A (2 + N) (toksP s)) (hs : s.size ≤ 900) (hk : 2 ≤ kindT (toksP s)) (hc : 2 + N ≤ c) (hcm : c ≤ maxLen) :
    Calls Try.prog 15 #[.slice A (2 + N) c] w fun e w' => ∃ A' c', e = .returned (.slice A' N c') ∧ Below w.heap.size w w' := by
  have hl := h.len
  have hf := toksP_few s
  refine (restO_any A (2 + N) c (toksP s) (List.replicate (2 + N) []) w h (by omega) hc hcm (fun x hx => (toksP_ok s (by omega) x hx).1) (by simp) ?_).mono ?_
  · intro i x ss hx hss
    obtain ⟨_, h1, h2, _⟩ := toksP_ok s (by omega) x (List.mem_of_getElem? hx)
    rw [h1, h2]
    have hs' : ss = [] := List.eq_of_mem_replicate (List.mem_of_getElem? hss)
    subst hs'
    exact ⟨by omega, Sl.nil_⟩
  · rintro e w1 ⟨l', ⟨A', c', rfl, hlc, hT, hb⟩, hll, _, _⟩
    have e1 : l'.length = N := by
      rw [hll, tailT, if_neg (by omega), List.length_drop, hl]
      omega
    rw [e1]
    exact ⟨A', c', rfl, hb⟩
theorem kind_le0 {A : Option Addr} {n c : Nat} {l : List Tok} {s : ByteArray} (w : World) (h : Toks w (fun _ => True) A n l) (hl : l = toksP s) (hs : s.size ≤ 99999) (hn : n ≤ 1000000) (hk : kindT l = 0) :
    Calls Try.prog 12 #[.slice A n c] w fun e w' => e = .returned (.int .i64 0) ∧ Below w.heap.size w w' :=
  kind_le w h hl hs hn hk
theorem bytes_ne {s : ByteArray} (h : 2 ≤ s.size) : ¬ s.toList = [] := by
  intro e
  rw [ByteArray.toList_eq] at e
  have h2 : s.data.toList.length = s.size := by simp
  rw [e] at h2
  simp at h2
  omega

set_option maxRecDepth 1000000 in
set_option maxHeartbeats 20000000 in
theorem directWords_any (kind : Int) (bl : ByteArray) (dg : Bool) (re : ByteArray) (w : World) (hbs : bl.size ≤ maxLen) (hrs : re.size ≤ maxLen) :
    Calls Try.prog 4 #[.int .i64 kind, .string bl, .bool dg, .string re] w fun e w' => e = .returned (.bool true) ∧ Below w.heap.size w w' := by
  unfold maxLen at hbs hrs
  by_cases hbig : bl.size ≤ 20 ∧ re.size ≤ 100
  · obtain ⟨hb20, hr100⟩ := hbig
    go_enter Try.func4, Try.ntmps4
    go_wp2_with fail
    go_loopw [9] (fun iv wr => ∃ k : Nat, k ≤ bl.size ∧ iv = .int .i64 k ∧ BlankTo bl k ∧ wr = w) (fun iv _ => bl.size - (intOf iv).toNat)
    case atStart => exact ⟨0, by omega, rfl, by simp [BlankTo, blankB], rfl⟩
    case round =>
      obtain ⟨k, hk, rfl, hB, rfl⟩ := hrel
      by_cases hlt : k < bl.size
      · go_wp2_with (first | (go_at_call 11; refine (awake7_any _).mono ?_; rintro e w' ⟨rfl, hb'⟩))
        · have h32 : (bl[k].toNat : Int) = 32 := by assumption
          go_roundw
          case rel => exact ⟨k + 1, by omega, by go_num, hB.next hlt (.inl h32), trivial⟩
          case measure => simp [intOf]; omega
        · go_ret
          exact ⟨rfl, hb'⟩
        · have h9 : (bl[k].toNat : Int) = 9 := by
            have h1 : ¬ (bl[k].toNat : Int) = 32 := by assumption
            have h2 : ((bl[k].toNat : Int) != 32) = false ∨ ((bl[k].toNat : Int) != 9) = false := by assumption
            rcases h2 with h2 | h2
            · exact absurd (by simpa using h2) h1
            · simpa using h2
          go_roundw
          case rel => exact ⟨k + 1, by omega, by go_num, hB.next hlt (.inr h9), trivial⟩
          case measure => simp [intOf]; omega
      · have HB := Lib.hid (hB.all (by omega))
        obtain rfl : k = bl.size := by omega
        clear hB hk
        go_wp2_with fail
        go_loopw [10] (fun iv wx => ∃ j : Nat, j ≤ re.size ∧ iv = .int .i64 j ∧ RestTo re j ∧ wx = wr) (fun iv _ => re.size - (intOf iv).toNat)
        case atStart => exact ⟨0, by omega, rfl, by simp [RestTo, restB], rfl⟩
        case round =>
          obtain ⟨j, hj, rfl, hR, rfl⟩ := hrel
          by_cases hlt2 : j < re.size
          · go_wp2_with (first | (go_at_call 11; refine (awake7_any _).mono ?_; rintro e w' ⟨rfl, hb'⟩))
            all_goals first
              | (go_ret
                 exact ⟨rfl, hb'⟩)
              | (have hx : (((32 ≤ (re[j].toNat : Int) ∧ (re[j].toNat : Int) ≤ 126) ∧ ((re[j].toNat : Int) == 92) = false) ∧ ((re[j].toNat : Int) == 63) = false) ∧ ((re[j].toNat : Int) == 47) = false := by assumption
                 simp only [beq_eq_false_iff_ne, ne_eq] at hx
                 go_roundw
                 case rel => exact ⟨j + 1, by omega, by go_num, hR.next hlt2 hx.1.1.1.1 hx.2 hx.1.2 hx.1.1.2, trivial⟩
                 case measure => simp [intOf]; omega)
          · have HR := Lib.hid (hR.all (by omega))
            obtain rfl : j = re.size := by omega
            clear hR hj
            go_wp2_with fail
            refine (round_any kind _).mono ?_
            rintro e w' ⟨m, hm, rfl, rfl⟩
            obtain ⟨ws, hws, hwe, hws8, hws2⟩ := words_str m hm
            have HW := fun W => Lib.hid (word_any (2 + (m : Int)) W)
            rw [hwe] at HW
            go_wp2_with fail
            refine (HW _).out.mono ?_
            rintro e w1 ⟨rfl, hb1⟩
            clear hwe HW
            have hwm := List.mem_of_getElem? hws
            obtain ⟨N, hN⟩ : ∃ N, Hid (N = (toksP re).length) := ⟨_, Lib.hid rfl⟩
            have hfew : N ≤ 101 := by have := toksP_few re; rw [hN.out]; omega
            have z1 : ({ data := #[35] } : ByteArray).size = 1 := rfl
            have z2 : ({ data := #[37, 58] } : ByteArray).size = 2 := rfl
            have z3 : ({ data := #[32] } : ByteArray).size = 1 := rfl
            have z4 : ({ data := #[10] } : ByteArray).size = 1 := rfl
            have z5 : ({ data := #[120, 32] } : ByteArray).size = 2 := rfl
            have z6 : ({ data := #[120] } : ByteArray).size = 1 := rfl
            have hne := bytes_ne hws2
            have hne2 : ws.toList.isEmpty = false := by cases h : ws.toList <;> simp_all
            have F1 := fun (dg : Bool) (s : ByteArray) hs => Lib.hid (tok_words (i := m) (s := s) (r := re) (dg := dg) HB.out hws HR.out rfl hs)
            have F2 := fun (s : ByteArray) hs => Lib.hid (tok_word (s := s) hwm HR.out hs)
            have F3 := fun (dg : Bool) (s : ByteArray) hs => Lib.hid (tok_x (s := s) (dg := dg) hwm hs)
            have F4 := fun (dg : Bool) (s : ByteArray) hs => Lib.hid (tok_wx (s := s) (dg := dg) hwm hs)
            have F5 := fun (dg : Bool) (s : ByteArray) hs => Lib.hid (tok_hash (s := s) (dg := dg) HB.out hs)
            cases dg with
            | false =>
              have G1 := Lib.hid (F1 false (bl ++ { data := #[35] } ++ bl ++ ws ++ { data := #[32] } ++ re ++ { data := #[10] }) (by simp [hashL])).out
              have HL := Lib.hid (tokN_any (bl ++ { data := #[35] } ++ bl ++ ws ++ { data := #[32] } ++ re ++ { data := #[10] }) w1 (2 + N) (by simp [z1, z2, z3, z4, z5, z6]; omega) (by rw [G1.out.2, hN.out]))
              have hz1 : (bl ++ { data := #[35] } ++ bl ++ ws ++ { data := #[32] } ++ re ++ { data := #[10] }).size ≤ 900 := by simp [z1, z2, z3, z4, z5, z6]; omega
              generalize hs1 : bl ++ { data := #[35] } ++ bl ++ ws ++ { data := #[32] } ++ re ++ { data := #[10] } = s1 at G1 HL hz1
              go_wp2_with fail
              refine HL.out.mono ?_
              rintro e w2 ⟨A2, c2, rfl, hc2, hcm2, hT2, hb2⟩
              go_wp2_with fail
              refine (kind_le (k := 2 + m) w2 hT2 rfl (by omega) (by omega) G1.out.1).mono ?_
              rintro e w3 ⟨rfl, hb3⟩
              go_wp2_with fail
              refine (rest_len w3 (Sl.below hT2 hb3) hz1 (by rw [G1.out.1]; omega) hc2 hcm2).mono ?_
              rintro e w4 ⟨A4, c4, rfl, hb4⟩
              have hbb4 := below_chain (below_chain (below_chain hb1 hb2) hb3) hb4
              clear hb1 hb2 hb3 hb4 hT2 HL G1 hc2 hcm2 hz1 hs1
              go_wp2_with fail
              refine (tokN_any re w4 N (by omega) hN.out.symm).mono ?_
              rintro e w5 ⟨A5, c5, rfl, hc5, hcm5, hT5, hb5⟩
              have HY := Lib.hid (tokN_any (ws ++ { data := #[32] } ++ re) w5 _ (by simp [z1, z2, z3, z4, z5, z6]; omega) rfl)
              have hy1 := toksP_few (ws ++ { data := #[32] } ++ re)
              have hy2 : (ws ++ { data := #[32] } ++ re).size ≤ 900 := by simp [z1, z2, z3, z4, z5, z6]; omega
              have GY := Lib.hid (F2 (ws ++ { data := #[32] } ++ re) (by simp)).out
              generalize hey : ws ++ { data := #[32] } ++ re = sy at HY hy1 hy2 GY
              obtain ⟨ny, hny⟩ : ∃ ny, ny = (toksP sy).length := ⟨_, rfl⟩
              rw [← hny] at HY hy1
              clear hny
              go_wp2_with fail
              refine HY.out.mono ?_
              clear hey
              rintro e w6 ⟨A6, c6, rfl, hc6, hcm6, hT6, hb6⟩
              go_wp2_with fail
              refine (kind_le0 w6 hT6 rfl (by omega) (by omega) GY.out).mono ?_
              rintro e w7 ⟨rfl, hb7⟩
              have hbb7 := below_chain (below_chain (below_chain hbb4 hb5) hb6) hb7
              clear hbb4 hb5 hb6 hb7 hT5 hT6 hc5 hcm5 hc6 hcm6 HY GY hy1 hy2
              have HX := Lib.hid (tokN_any ({ data := #[120, 32] } ++ { data := #[35] } ++ ws) w7 _ (by simp [z1, z2, z3, z4, z5, z6]; omega) rfl)
              have hx1 := toksP_few ({ data := #[120, 32] } ++ { data := #[35] } ++ ws)
              have hx2 : ({ data := #[120, 32] } ++ { data := #[35] } ++ ws).size ≤ 900 := by simp [z1, z2, z3, z4, z5, z6]; omega
              have GX := Lib.hid (F3 false ({ data := #[120, 32] } ++ { data := #[35] } ++ ws) (by simp [hashL])).out
              generalize hey : { data := #[120, 32] } ++ { data := #[35] } ++ ws = sx at HX hx1 hx2 GX
              obtain ⟨nx, hnx⟩ : ∃ nx, nx = (toksP sx).length := ⟨_, rfl⟩
              rw [← hnx] at HX hx1
              clear hnx
              go_wp2_with fail
              refine HX.out.mono ?_
              clear hey
              rintro e w8 ⟨A8, c8, rfl, hc8, hcm8, hT8, hb8⟩
              go_wp2_with fail
              refine (kind_le0 w8 hT8 rfl (by omega) (by omega) GX.out).mono ?_
              rintro e w9 ⟨rfl, hb9⟩
              have hbb9 := below_chain (below_chain hbb7 hb8) hb9
              clear hbb7 hb8 hb9 hT8 hc8 hcm8 HX GX hx1 hx2
              have HU := Lib.hid (tokN_any ({ data := #[35] } ++ ws ++ { data := #[120] }) w9 _ (by simp [z1, z2, z3, z4, z5, z6]; omega) rfl)
              have hu1 := toksP_few ({ data := #[35] } ++ ws ++ { data := #[120] })
              have hu2 : ({ data := #[35] } ++ ws ++ { data := #[120] }).size ≤ 900 := by simp [z1, z2, z3, z4, z5, z6]; omega
              have GU := Lib.hid (F4 false ({ data := #[35] } ++ ws ++ { data := #[120] }) (by simp [hashL])).out
              generalize hey : { data := #[35] } ++ ws ++ { data := #[120] } = su at HU hu1 hu2 GU
              obtain ⟨nu, hnu⟩ : ∃ nu, nu = (toksP su).length := ⟨_, rfl⟩
              rw [← hnu] at HU hu1
              clear hnu
              go_wp2_with fail
              refine HU.out.mono ?_
              clear hey
              rintro e w10 ⟨A10, c10, rfl, hc10, hcm10, hT10, hb10⟩
              go_wp2_with fail
              refine (kind_le (k := 14) w10 hT10 rfl (by omega) (by omega) GU.out).mono ?_
              rintro e w11 ⟨rfl, hb11⟩
              have hbb11 := below_chain (below_chain hbb9 hb10) hb11
              clear hbb9 hb10 hb11 hT10 hc10 hcm10 HU GU hu1 hu2
              have HV := Lib.hid (tokN_any (bl ++ { data := #[35] } ++ bl) w11 _ (by simp [z1, z2, z3, z4, z5, z6]; omega) rfl)
              have hv1 := toksP_few (bl ++ { data := #[35] } ++ bl)
              have hv2 : (bl ++ { data := #[35] } ++ bl).size ≤ 900 := by simp [z1, z2, z3, z4, z5, z6]; omega
              have GV := Lib.hid (F5 false (bl ++ { data := #[35] } ++ bl) (by simp [hashL])).out
              generalize hey : bl ++ { data := #[35] } ++ bl = sv at HV hv1 hv2 GV
              obtain ⟨nv, hnv⟩ : ∃ nv, nv = (toksP sv).length := ⟨_, rfl⟩
              rw [← hnv] at HV hv1
              clear hnv
              go_wp2_with fail
              refine HV.out.mono ?_
              clear hey
              rintro e w12 ⟨A12, c12, rfl, hc12, hcm12, hT12, hb12⟩
              go_wp2_with fail
              refine (kind_le (k := 1) w12 hT12 rfl (by omega) (by omega) GV.out).mono ?_
              rintro e w13 ⟨rfl, hb13⟩
              have hbb13 := below_chain (below_chain hbb11 hb12) hb13
              clear hbb11 hb12 hb13 hT12 hc12 hcm12 HV GV hv1 hv2
              go_wp2_with fail
              refine (awake7_any w13).mono ?_
              rintro e w14 ⟨rfl, hb14⟩
              have hbb14 := below_chain hbb13 hb14
              go_wp2_with fail
              go_ret
              exact ⟨rfl, hbb14⟩
            | true =>
              have G1 := Lib.hid (F1 true (bl ++ { data := #[37, 58] } ++ bl ++ ws ++ { data := #[32] } ++ re ++ { data := #[10] }) (by simp [hashL])).out
              have HL := Lib.hid (tokN_any (bl ++ { data := #[37, 58] } ++ bl ++ ws ++ { data := #[32] } ++ re ++ { data := #[10] }) w1 (2 + N) (by simp [z1, z2, z3, z4, z5, z6]; omega) (by rw [G1.out.2, hN.out]))
              have hz1 : (bl ++ { data := #[37, 58] } ++ bl ++ ws ++ { data := #[32] } ++ re ++ { data := #[10] }).size ≤ 900 := by simp [z1, z2, z3, z4, z5, z6]; omega
              generalize hs1 : bl ++ { data := #[37, 58] } ++ bl ++ ws ++ { data := #[32] } ++ re ++ { data := #[10] } = s1 at G1 HL hz1
              go_wp2_with fail
              refine HL.out.mono ?_
              rintro e w2 ⟨A2, c2, rfl, hc2, hcm2, hT2, hb2⟩
              go_wp2_with fail
              refine (kind_le (k := 2 + m) w2 hT2 rfl (by omega) (by omega) G1.out.1).mono ?_
              rintro e w3 ⟨rfl, hb3⟩
              go_wp2_with fail
              refine (rest_len w3 (Sl.below hT2 hb3) hz1 (by rw [G1.out.1]; omega) hc2 hcm2).mono ?_
              rintro e w4 ⟨A4, c4, rfl, hb4⟩
              have hbb4 := below_chain (below_chain (below_chain hb1 hb2) hb3) hb4
              clear hb1 hb2 hb3 hb4 hT2 HL G1 hc2 hcm2 hz1 hs1
              go_wp2_with fail
              refine (tokN_any re w4 N (by omega) hN.out.symm).mono ?_
              rintro e w5 ⟨A5, c5, rfl, hc5, hcm5, hT5, hb5⟩
              have HY := Lib.hid (tokN_any (ws ++ { data := #[32] } ++ re) w5 _ (by simp [z1, z2, z3, z4, z5, z6]; omega) rfl)
              have hy1 := toksP_few (ws ++ { data := #[32] } ++ re)
              have hy2 : (ws ++ { data := #[32] } ++ re).size ≤ 900 := by simp [z1, z2, z3, z4, z5, z6]; omega
              have GY := Lib.hid (F2 (ws ++ { data := #[32] } ++ re) (by simp)).out
              generalize hey : ws ++ { data := #[32] } ++ re = sy at HY hy1 hy2 GY
              obtain ⟨ny, hny⟩ : ∃ ny, ny = (toksP sy).length := ⟨_, rfl⟩
              rw [← hny] at HY hy1
              clear hny
              go_wp2_with fail
              refine HY.out.mono ?_
              clear hey
              rintro e w6 ⟨A6, c6, rfl, hc6, hcm6, hT6, hb6⟩
              go_wp2_with fail
              refine (kind_le0 w6 hT6 rfl (by omega) (by omega) GY.out).mono ?_
              rintro e w7 ⟨rfl, hb7⟩
              have hbb7 := below_chain (below_chain (below_chain hbb4 hb5) hb6) hb7
              clear hbb4 hb5 hb6 hb7 hT5 hT6 hc5 hcm5 hc6 hcm6 HY GY hy1 hy2
              have HX := Lib.hid (tokN_any ({ data := #[120, 32] } ++ { data := #[37, 58] } ++ ws) w7 _ (by simp [z1, z2, z3, z4, z5, z6]; omega) rfl)
              have hx1 := toksP_few ({ data := #[120, 32] } ++ { data := #[37, 58] } ++ ws)
              have hx2 : ({ data := #[120, 32] } ++ { data := #[37, 58] } ++ ws).size ≤ 900 := by simp [z1, z2, z3, z4, z5, z6]; omega
              have GX := Lib.hid (F3 true ({ data := #[120, 32] } ++ { data := #[37, 58] } ++ ws) (by simp [hashL])).out
              generalize hey : { data := #[120, 32] } ++ { data := #[37, 58] } ++ ws = sx at HX hx1 hx2 GX
              obtain ⟨nx, hnx⟩ : ∃ nx, nx = (toksP sx).length := ⟨_, rfl⟩
              rw [← hnx] at HX hx1
              clear hnx
              go_wp2_with fail
              refine HX.out.mono ?_
              clear hey
              rintro e w8 ⟨A8, c8, rfl, hc8, hcm8, hT8, hb8⟩
              go_wp2_with fail
              refine (kind_le0 w8 hT8 rfl (by omega) (by omega) GX.out).mono ?_
              rintro e w9 ⟨rfl, hb9⟩
              have hbb9 := below_chain (below_chain hbb7 hb8) hb9
              clear hbb7 hb8 hb9 hT8 hc8 hcm8 HX GX hx1 hx2
              have HU := Lib.hid (tokN_any ({ data := #[37, 58] } ++ ws ++ { data := #[120] }) w9 _ (by simp [z1, z2, z3, z4, z5, z6]; omega) rfl)
              have hu1 := toksP_few ({ data := #[37, 58] } ++ ws ++ { data := #[120] })
              have hu2 : ({ data := #[37, 58] } ++ ws ++ { data := #[120] }).size ≤ 900 := by simp [z1, z2, z3, z4, z5, z6]; omega
              have GU := Lib.hid (F4 true ({ data := #[37, 58] } ++ ws ++ { data := #[120] }) (by simp [hashL])).out
              generalize hey : { data := #[37, 58] } ++ ws ++ { data := #[120] } = su at HU hu1 hu2 GU
              obtain ⟨nu, hnu⟩ : ∃ nu, nu = (toksP su).length := ⟨_, rfl⟩
              rw [← hnu] at HU hu1
              clear hnu
              go_wp2_with fail
              refine HU.out.mono ?_
              clear hey
              rintro e w10 ⟨A10, c10, rfl, hc10, hcm10, hT10, hb10⟩
              go_wp2_with fail
              refine (kind_le (k := 14) w10 hT10 rfl (by omega) (by omega) GU.out).mono ?_
              rintro e w11 ⟨rfl, hb11⟩
              have hbb11 := below_chain (below_chain hbb9 hb10) hb11
              clear hbb9 hb10 hb11 hT10 hc10 hcm10 HU GU hu1 hu2
              have HV := Lib.hid (tokN_any (bl ++ { data := #[37, 58] } ++ bl) w11 _ (by simp [z1, z2, z3, z4, z5, z6]; omega) rfl)
              have hv1 := toksP_few (bl ++ { data := #[37, 58] } ++ bl)
              have hv2 : (bl ++ { data := #[37, 58] } ++ bl).size ≤ 900 := by simp [z1, z2, z3, z4, z5, z6]; omega
              have GV := Lib.hid (F5 true (bl ++ { data := #[37, 58] } ++ bl) (by simp [hashL])).out
              generalize hey : bl ++ { data := #[37, 58] } ++ bl = sv at HV hv1 hv2 GV
              obtain ⟨nv, hnv⟩ : ∃ nv, nv = (toksP sv).length := ⟨_, rfl⟩
              rw [← hnv] at HV hv1
              clear hnv
              go_wp2_with fail
              refine HV.out.mono ?_
              clear hey
              rintro e w12 ⟨A12, c12, rfl, hc12, hcm12, hT12, hb12⟩
              go_wp2_with fail
              refine (kind_le (k := 1) w12 hT12 rfl (by omega) (by omega) GV.out).mono ?_
              rintro e w13 ⟨rfl, hb13⟩
              have hbb13 := below_chain (below_chain hbb11 hb12) hb13
              clear hbb11 hb12 hb13 hT12 hc12 hcm12 HV GV hv1 hv2
              go_wp2_with fail
              refine (awake7_any w13).mono ?_
              rintro e w14 ⟨rfl, hb14⟩
              have hbb14 := below_chain hbb13 hb14
              go_wp2_with fail
              go_ret
              exact ⟨rfl, hbb14⟩
  · have hbig2 : (20 : Int) < (bl.size : Int) ∨ (¬ (20 : Int) < (bl.size : Int) ∧ (100 : Int) < (re.size : Int)) := by omega
    clear hbig
    rcases hbig2 with h1 | ⟨h1, h2⟩
    all_goals
      go_enter Try.func4, Try.ntmps4
      go_wp2_with fail
      refine (awake7_any w).mono ?_
      rintro e w1 ⟨rfl, hb⟩
      go_wp2_with fail
      go_ret
      exact ⟨rfl, hb⟩
end Go.Proofs.Ytjklnlocmmnclaa
