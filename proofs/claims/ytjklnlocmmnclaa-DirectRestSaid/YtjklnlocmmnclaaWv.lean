/- Walks: the law of the rest. -/
import Derived.Test.YtjklnlocmmnclaaWu
import Derived.StillTailTactics
namespace Go.Proofs.Ytjklnlocmmnclaa
open Go.RowKit

theorem kindFrom_word (t : List UInt8) : ∀ (ws : List (List UInt8)) (k : Nat), kindFrom t k ws < 14 → k ≤ kindFrom t k ws ∧ ws[kindFrom t k ws - k]? = some t
  | [], k, h => by simp [kindFrom] at h
  | w :: ws, k, h => by
    unfold kindFrom at *
    by_cases hw : w = t
    · rw [if_pos hw] at *
      simp [hw]
    · rw [if_neg hw] at *
      obtain ⟨h1, h2⟩ := kindFrom_word t ws (k + 1) h
      refine ⟨by omega, ?_⟩
      rw [show kindFrom t (k + 1) ws - k = (kindFrom t (k + 1) ws - (k + 1)) + 1 by omega, List.getElem?_cons_succ]
      exact h2
theorem kindFrom_le (t : List UInt8) : ∀ (ws : List (List UInt8)) (k : Nat), k + ws.length ≤ 14 → kindFrom t k ws ≤ 14
  | [], k, h => by simp [kindFrom]
  | w :: ws, k, h => by
    unfold kindFrom
    simp only [List.length_cons] at h
    split
    · omega
    · exact kindFrom_le t ws (k + 1) (by omega)
theorem kindT_le (l : List Tok) : kindT l ≤ 14 := by
  match l with
  | [] => decide
  | [x] => simp only [kindT, List.map, kindP]; split <;> decide
  | x :: y :: l =>
    simp only [kindT, List.map_cons, kindP]
    split
    · split
      · exact kindFrom_le _ _ _ (by decide)
      · omega
    · omega
theorem kindT_word {l : List Tok} (h2 : 2 ≤ kindT l) (h : kindT l < 14) : ∃ x, l[1]? = some x ∧ (⟨(wordT (kindT l)).toArray⟩ : ByteArray) = x.t := by
  match l, h2, h with
  | [], h2, _ => exact absurd h2 (by decide)
  | [x], h2, _ =>
    exfalso
    simp only [kindT, List.map, kindP] at h2
    split at h2 <;> omega
  | x :: y :: l, h2, h =>
    refine ⟨y, rfl, ?_⟩
    have hk : kindT (x :: y :: l) = kindW y.t.data.toList := by
      simp only [kindT, List.map_cons, kindP, kt] at *
      split at h2
      · split at h2
        · rename_i h3 h4
          rw [if_pos h3, if_pos h4]
        · rename_i h3 h4
          rw [if_pos h3, if_neg h4] at h
          omega
      · omega
    rw [hk] at h2 h ⊢
    obtain ⟨_, h4⟩ := kindFrom_word y.t.data.toList wordsP 2 h
    have : wordT (kindW y.t.data.toList) = y.t.data.toList := by
      unfold wordT
      rw [if_neg (by omega)]
      have e : (((kindW y.t.data.toList : Nat) : Int) - 2).toNat = kindW y.t.data.toList - 2 := by omega
      rw [e]
      unfold kindW
      rw [h4]
      rfl
    rw [this]

set_option maxRecDepth 1000000 in
set_option maxHeartbeats 20000000 in
theorem directRest_any (A : Option Addr) (n c : Nat) (l : List Tok) (ss : List (List Site)) (w : World) (h : Toks w (fun _ => True) A n l) (hc : n ≤ c) (hcm : c ≤ maxLen) (hsz : ∀ x ∈ l, x.t.size ≤ maxLen ∧ x.sn ≤ maxLen)
    (hs : SitesOk w l ss) : Calls Try.prog 5 #[.slice A n c] w fun e w' => e = .returned (.bool true) ∧ Below w.heap.size w w' := by
  have HF := Lib.hid (few_any A n c 60 l w h (by unfold maxLen at hcm; omega) (by omega) hsz)
  by_cases hf : fewB 60 l = true
  · obtain ⟨hl60, hx⟩ := fewB_true hf
    have hlen := h.len
    have hn60 : n ≤ 60 := by omega
    have hk := fun w' hb => Lib.hid (kind_any A n c l w' (Sl.below (w' := w') h hb) (by omega) fun x hx => (hsz x hx).1)
    have hO := fun w' hb => Lib.hid (restO_any A n c l ss w' (Sl.below (w' := w') h hb) (by omega) hc hcm (fun x hx => (hsz x hx).1) (by rw [hs.1, hlen]) fun i x s h1 h2 => ⟨by have := (hx x (List.mem_of_getElem? h1)).2; omega, Sl.below (hs.2 i x s h1 h2) hb⟩)
    have HS := fun w1 w2 l' => Lib.hid (@tail_alike w w1 w2 l l' ss hs (fun x hx' => (hx x hx').2))
    rw [hf] at HF
    by_cases hk2 : kindT l < 2
    · have HT := Lib.hid (show tailT l = [] by unfold tailT; rw [if_pos hk2])
      have hki : (kindT l : Int) = 0 ∨ (kindT l : Int) = 1 := by omega
      clear h hs hx hsz hlen HS
      go_enter Try.func5, Try.ntmps5
      go_wp2_with (go_at_call 10; refine HF.out.mono ?_; rintro e w0 ⟨rfl, rfl⟩)
      refine (hk _ (Below.refl _ _)).out.mono ?_
      rintro e w1 ⟨rfl, hb1⟩
      go_wp2_with fail
      refine (hO _ hb1).out.mono ?_
      rintro e w3 ⟨l', ⟨A3, c3, rfl, hc3, hT3, hb3⟩, hl', htok, hsites⟩
      have hbb3 := below_chain hb1 hb3
      rw [HT.out] at hl'
      have hl0 : l'.length = 0 := hl'
      rw [hl0] at hT3 hc3 ⊢
      clear hl' hl0 hT3 htok hsites hk hO hk2
      generalize (kindT l : Int) = k at hki
      rcases hki with rfl | rfl
      · go_wp2_with fail
        refine (awake7_any w3).mono ?_
        rintro e w8 ⟨rfl, hb8⟩
        have hbb8 := below_chain hbb3 hb8
        go_wp2_with fail
        go_ret
        exact ⟨rfl, hbb8⟩
      · go_wp2_with fail
        refine (awake7_any w3).mono ?_
        rintro e w8 ⟨rfl, hb8⟩
        have hbb8 := below_chain hbb3 hb8
        go_wp2_with fail
        go_ret
        exact ⟨rfl, hbb8⟩
    · have hn2 := kindT_ge hk2
      have hT := show tailT l = l.drop 2 by unfold tailT; rw [if_neg hk2]
      have hki : ¬ (kindT l : Int) = 0 := by omega
      have hki1 : ¬ (kindT l : Int) = 1 := by omega
      have hkb0 : ((kindT l : Int) == 0) = false := by simpa using hki
      have hkb1 : ((kindT l : Int) == 1) = false := by simpa using hki1
      have hki2 : (2 : Int) ≤ (kindT l : Int) := by omega
      have hki14 : (kindT l : Int) ≤ 14 := by have := kindT_le l; omega
      have hn2' : ¬ (n : Int) < 2 := by omega
      have hnb2 : decide ((n : Int) < 2) = false := by simpa using hn2'
      have hwr : IntKind.i64.wrap ((n : Int) - 2) = (n : Int) - 2 := IntWalk.i64_in _ (by omega)
      have hcast : ((n - 2 : Nat) : Int) = (n : Int) - 2 := by omega
      have h1n : (1 : Int) < (n : Int) := by omega
      obtain ⟨b, off, x1, rfl, _, hblt, hx1, hd0, hd1, _⟩ := Toks.at_ h (i := 1) (by omega)
      simp only [Nat.one_mul] at hd0 hd1
      have h2n : 2 ≤ n := by omega
      have HT := Lib.hid (show ∀ w' : World, Below w.heap.size w w' → Toks w' (fun _ => True) (if c = 2 then some ⟨b, off, none⟩ else some ⟨b, off + 16, none⟩) (n - 2) (tailT l) from fun w' hb => by
        have h1 := (Sl.below h hb).cut (k := 2) (cap := c) (by omega) hc
        rw [flat_drop _ 8 tokCells_len, Option.map_some, addr_add, ← hT] at h1
        exact h1)
      have HL : (tailT l).length = n - 2 := by rw [hT, List.length_drop, hlen]
      have HX := Lib.hid (show kindT l < 14 → ∀ w' : World, Calls Try.prog 17 #[.int .i64 (kindT l)] w' fun e w'' => e = .returned (.string x1.t) ∧ Below w'.heap.size w' w'' from fun hlt w' => by
        obtain ⟨x, h3, h4⟩ := kindT_word (by omega) hlt
        rw [hx1] at h3
        obtain rfl := Option.some.inj h3
        have := word_any (kindT l) w'
        rw [h4] at this
        exact this)
      have hx1t := (hsz x1 (List.mem_of_getElem? hx1)).1
      unfold maxLen at hx1t hcm
      clear hs hx hsz hlen hn2 hT hx1 hd0
      by_cases hc2 : c = 2
      · obtain rfl : n = 2 := by omega
        subst hc2
        clear hnb2 hwr hcast h1n hn2'
        go_enter Try.func5, Try.ntmps5
        go_wp2_with (go_at_call 10; refine HF.out.mono ?_; rintro e w0 ⟨rfl, rfl⟩)
        refine (hk _ (Below.refl _ _)).out.mono ?_
        rintro e w1 ⟨rfl, hb1⟩
        go_wp2_with fail
        refine (hO _ hb1).out.mono ?_
        rintro e w3 ⟨l', ⟨A3, c3, rfl, hc3, hT3, hb3⟩, hl', htok, hsites⟩
        have hbb3 := below_chain hb1 hb3
        have hS := (HS w3 w3 l').out hbb3 (Below.refl _ _) hl' htok hsites
        rw [hl', HL, Nat.sub_self] at hT3 hc3 ⊢
        have hT4 : Toks w3 (fun _ => True) (some ⟨b, off, none⟩) 0 (tailT l) := HT.out w3 hbb3
        have HST := Lib.hid (sameTokens_any A3 _ 0 0 c3 0 l' (tailT l) w3 (by omega) hT3 hT4 hS)
        have he1 : w3.cell? ⟨b, off + 8 + 1, none⟩ = some (.string x1.t) := (hbb3.cell (p := ⟨b, _, none⟩) hblt).trans hd1
        have hblt3 : b < w3.heap.size := Nat.lt_of_lt_of_le hblt hbb3.size
        clear HS hO hk hT4 hT3 hS htok hsites hl' HT h
        go_wp2_with fail
        go_at_call 14
        refine HST.out.mono ?_
        rintro e w5 ⟨rfl, hb5⟩
        have hbb5 := below_chain hbb3 hb5
        have he5 : w5.cell? ⟨b, off + 8 + 1, none⟩ = some (.string x1.t) := (hb5.cell (p := ⟨b, _, none⟩) hblt3).trans he1
        have hblt5 : b < w5.heap.size := Nat.lt_of_lt_of_le hblt3 hb5.size
        clear HST
        go_wp2_with fail
        by_cases h14 : kindT l = 14
        · have h14i : (kindT l : Int) = 14 := by omega
          clear HX hx1t hkb0 hkb1 hki hki1 hki2 hki14
          rw [h14i]
          refine wp_region_any (by kernel_rfl) ?_
          change wpAny _ _ _ _ _ _ _ (World.drew _)
          refine wpAny_take (i := 0) (v := .int .i64 14) rfl (by kernel_rfl) (by kernel_rfl) (by kernel_rfl) (fun _ _ _ h => h) (Or.inl ⟨by kernel_rfl, fun _ => by kernel_rfl⟩) ?_
          refine wpAny_take (i := 1) (v := .bool true) rfl (by kernel_rfl) (by kernel_rfl) (by kernel_rfl) (fun _ _ _ h => h) (Or.inl ⟨by kernel_rfl, fun _ => by kernel_rfl⟩) ?_
          refine wpAny_take (i := 2) (v := .bool true) rfl (by kernel_rfl) (by kernel_rfl) (by kernel_rfl) (fun _ _ _ h => h) (Or.inl ⟨by kernel_rfl, fun _ => by kernel_rfl⟩) ?_
          refine wpAny_take (i := 3) (v := undef) rfl (by kernel_rfl) (by kernel_rfl) (by kernel_rfl) (fun _ _ _ h => h) (Or.inr ⟨by kernel_rfl, rfl⟩) ?_
          refine wpAny_take (i := 4) (v := undef) rfl (by kernel_rfl) (by kernel_rfl) (by kernel_rfl) (fun _ _ _ h => h) (Or.inr ⟨by kernel_rfl, rfl⟩) ?_
          refine wpAny_take (i := 5) (v := undef) rfl (by kernel_rfl) (by kernel_rfl) (by kernel_rfl) (fun _ _ _ h => h) (Or.inr ⟨by kernel_rfl, rfl⟩) ?_
          refine wpAny_take (i := 6) (v := undef) rfl (by kernel_rfl) (by kernel_rfl) (by kernel_rfl) (fun _ _ _ h => h) (Or.inr ⟨by kernel_rfl, rfl⟩) ?_
          refine wpAny_take (i := 7) (v := undef) rfl (by kernel_rfl) (by kernel_rfl) (by kernel_rfl) (fun _ _ _ h => h) (Or.inr ⟨by kernel_rfl, rfl⟩) ?_
          refine wpAny_take (i := 8) (v := undef) rfl (by kernel_rfl) (by kernel_rfl) (by kernel_rfl) (fun _ _ _ h => h) (Or.inr ⟨by kernel_rfl, rfl⟩) ?_
          refine wpAny_take (i := 9) (v := undef) rfl (by kernel_rfl) (by kernel_rfl) (by kernel_rfl) (fun _ _ _ h => h) (Or.inr ⟨by kernel_rfl, rfl⟩) ?_
          refine wpAny_take (i := 10) (v := .bool true) rfl (by kernel_rfl) (by kernel_rfl) (by kernel_rfl) (fun _ _ _ h => h) (Or.inl ⟨by kernel_rfl, fun _ => by kernel_rfl⟩) ?_
          refine wpAny_take (i := 11) (v := .bool true) rfl (by kernel_rfl) (by kernel_rfl) (by kernel_rfl) (fun _ _ _ h => h) (Or.inl ⟨by kernel_rfl, fun _ => by kernel_rfl⟩) ?_
          refine wpAny_take (i := 12) (v := .int .i64 14) rfl (by kernel_rfl) (by kernel_rfl) (by kernel_rfl) (fun _ _ _ h => h) (Or.inl ⟨by kernel_rfl, fun _ => by kernel_rfl⟩) ?_
          refine wpAny_take (i := 13) (v := .bool true) rfl (by kernel_rfl) (by kernel_rfl) (by kernel_rfl) (fun _ _ _ h => h) (Or.inl ⟨by kernel_rfl, fun _ => by kernel_rfl⟩) ?_
          refine wpAny_take (i := 14) (v := .bool true) rfl (by kernel_rfl) (by kernel_rfl) (by kernel_rfl) (fun _ _ _ h => h) (Or.inl ⟨by kernel_rfl, fun _ => by kernel_rfl⟩) ?_
          refine wpAny_take (i := 15) (v := .bool true) rfl (by kernel_rfl) (by kernel_rfl) (by kernel_rfl) (fun _ _ _ h => h) (Or.inl ⟨by kernel_rfl, fun _ => by kernel_rfl⟩) ?_
          refine wpAny_take (i := 16) (v := .int .i64 14) rfl (by kernel_rfl) (by kernel_rfl) (by kernel_rfl) (fun _ _ _ h => h) (Or.inl ⟨by kernel_rfl, fun _ => by kernel_rfl⟩) ?_
          refine wpAny_take (i := 17) (v := .bool true) rfl (by kernel_rfl) (by kernel_rfl) (by kernel_rfl) (fun _ _ _ h => h) (Or.inl ⟨by kernel_rfl, fun _ => by kernel_rfl⟩) ?_
          refine wpAny_take (i := 18) (v := .bool true) rfl (by kernel_rfl) (by kernel_rfl) (by kernel_rfl) (fun _ _ _ h => h) (Or.inl ⟨by kernel_rfl, fun _ => by kernel_rfl⟩) ?_
          refine wpAny_take (i := 19) (v := .bool true) rfl (by kernel_rfl) (by kernel_rfl) (by kernel_rfl) (fun _ _ _ h => h) (Or.inl ⟨by kernel_rfl, fun _ => by kernel_rfl⟩) ?_
          refine wpAny_ready (rs := [20]) (by kernel_rfl) (by simp) ?_
          refine AllReady.cons rfl (fun K hK => ?_) AllReady.nil
          go_simp
          go_at_call 11
          refine (awake7_any _).mono ?_
          rintro e w8 ⟨rfl, hb8⟩
          refine hK _ _ ?_
          clear hK K
          refine wpAny_take (i := 21) (v := .bool true) rfl (by kernel_rfl) (by kernel_rfl) (by kernel_rfl) (fun _ _ _ h => h) (Or.inl ⟨by kernel_rfl, fun _ => by kernel_rfl⟩) ?_
          refine wpAny_take (i := 22) (v := .bool true) rfl (by kernel_rfl) (by kernel_rfl) (by kernel_rfl) (fun _ _ _ h => h) (Or.inl ⟨by kernel_rfl, fun _ => by kernel_rfl⟩) ?_
          refine wpAny_done (by kernel_rfl) ?_ _
          go_wp2
          go_ret
          exact ⟨rfl, hbb5.trans (below_drew2 (hb8.mono hbb5.size))⟩
        · have hlt14 : kindT l < 14 := by have := kindT_le l; omega
          have hkb14 : ((kindT l : Int) == 14) = false := by simpa using (show ¬ (kindT l : Int) = 14 by omega)
          have hg2 : decide ((2 : Int) ≤ (kindT l : Int)) = true := by simpa using hki2
          have hg14 : decide ((kindT l : Int) ≤ 14) = true := by simpa using hki14
          have HX' := fun w' => Lib.hid (HX.out hlt14 w')
          clear HX
          have hbb6 : ∀ wA wB : World, Below w5.drew.heap.size w5.drew wA → Below wA.heap.size wA wB → Below w.heap.size w wB := fun wA wB h1 h2 => hbb5.trans (below_drew2 ((below_chain h1 h2).mono hbb5.size))
          refine wp_region_any (by kernel_rfl) ?_
          change wpAny _ _ _ _ _ _ _ (World.drew _)
          refine wpAny_take (i := 0) (v := .int .i64 (kindT l)) rfl (by kernel_rfl) (by kernel_rfl) (by kernel_rfl) (fun _ _ _ h => h) (Or.inl ⟨by kernel_rfl, fun _ => by kernel_rfl⟩) ?_
          refine wpAny_take (i := 1) (v := .bool ((kindT l : Int) == 14)) rfl (by kernel_rfl) (by kernel_rfl) (by kernel_rfl) (fun _ _ _ h => h) (Or.inl ⟨by kernel_rfl, fun _ => by kernel_rfl⟩) ?_
          rw [hkb14]
          refine wpAny_take (i := 2) (v := .bool false) rfl (by kernel_rfl) (by kernel_rfl) (by kernel_rfl) (fun _ _ _ h => h) (Or.inl ⟨by kernel_rfl, fun _ => by kernel_rfl⟩) ?_
          refine wpAny_take (i := 3) (v := .int .i64 (kindT l)) rfl (by kernel_rfl) (by kernel_rfl) (by kernel_rfl) (fun _ _ _ h => h) (Or.inl ⟨by kernel_rfl, fun _ => by kernel_rfl⟩) ?_
          refine wpAny_take (i := 5) (v := .slice (some ⟨b, off, none⟩) 2 2) rfl (by kernel_rfl) (by kernel_rfl) (by kernel_rfl) (fun _ _ _ h => h) (Or.inl ⟨by kernel_rfl, fun _ => by kernel_rfl⟩) ?_
          refine wpAny_take (i := 6) (v := .pointer (some ⟨b, off + 8, none⟩)) rfl (by kernel_rfl) (by kernel_rfl) (by kernel_rfl) (fun _ _ _ h => h) (Or.inl ⟨by kernel_rfl, fun _ => by go_simp⟩) ?_
          refine wpAny_take (i := 7) (v := .pointer (some ⟨b, off + 8 + 1, none⟩)) rfl (by kernel_rfl) (by kernel_rfl) (by kernel_rfl) (fun _ _ _ h => h) (Or.inl ⟨by kernel_rfl, fun _ => by go_simp⟩) ?_
          refine wpAny_ready (rs := [4, 8]) (by kernel_rfl) (by simp) ?_
          refine AllReady.cons rfl (fun K hK => ?_) (AllReady.cons rfl (fun K hK => ?_) AllReady.nil)
          · go_simp
            go_at_call 17
            refine (HX' _).out.mono ?_
            rintro e w6 ⟨rfl, hb6⟩
            have he6 : w6.cell? ⟨b, off + 8 + 1, none⟩ = some (.string x1.t) := (hb6.cell (p := ⟨b, _, none⟩) hblt5).trans he5
            refine hK _ _ ?_
            clear hK K
            refine wpAny_ready (rs := [8]) (by kernel_rfl) (by simp) ?_
            refine AllReady.cons rfl (fun K hK => ?_) AllReady.nil
            go_simp
            refine hK _ _ ?_
            clear hK K
            refine wpAny_take (i := 9) (v := .bool true) rfl (by kernel_rfl) (by kernel_rfl) (by kernel_rfl) (fun _ _ _ h => h) (Or.inl ⟨by kernel_rfl, fun _ => by go_simp⟩) ?_
            refine wpAny_take (i := 10) (v := .bool true) rfl (by kernel_rfl) (by kernel_rfl) (by kernel_rfl) (fun _ _ _ h => h) (Or.inl ⟨by kernel_rfl, fun _ => by kernel_rfl⟩) ?_
            refine wpAny_take (i := 11) (v := .bool true) rfl (by kernel_rfl) (by kernel_rfl) (by kernel_rfl) (fun _ _ _ h => h) (Or.inl ⟨by kernel_rfl, fun _ => by kernel_rfl⟩) ?_
            refine wpAny_take (i := 12) (v := .int .i64 (kindT l)) rfl (by kernel_rfl) (by kernel_rfl) (by kernel_rfl) (fun _ _ _ h => h) (Or.inl ⟨by kernel_rfl, fun _ => by kernel_rfl⟩) ?_
            refine wpAny_take (i := 13) (v := .bool (decide ((2 : Int) ≤ (kindT l : Int)))) rfl (by kernel_rfl) (by kernel_rfl) (by kernel_rfl) (fun _ _ _ h => h) (Or.inl ⟨by kernel_rfl, fun _ => by kernel_rfl⟩) ?_
            rw [hg2]
            refine wpAny_take (i := 14) (v := .bool true) rfl (by kernel_rfl) (by kernel_rfl) (by kernel_rfl) (fun _ _ _ h => h) (Or.inl ⟨by kernel_rfl, fun _ => by kernel_rfl⟩) ?_
            refine wpAny_take (i := 15) (v := .bool true) rfl (by kernel_rfl) (by kernel_rfl) (by kernel_rfl) (fun _ _ _ h => h) (Or.inl ⟨by kernel_rfl, fun _ => by kernel_rfl⟩) ?_
            refine wpAny_take (i := 16) (v := .int .i64 (kindT l)) rfl (by kernel_rfl) (by kernel_rfl) (by kernel_rfl) (fun _ _ _ h => h) (Or.inl ⟨by kernel_rfl, fun _ => by kernel_rfl⟩) ?_
            refine wpAny_take (i := 17) (v := .bool (decide ((kindT l : Int) ≤ 14))) rfl (by kernel_rfl) (by kernel_rfl) (by kernel_rfl) (fun _ _ _ h => h) (Or.inl ⟨by kernel_rfl, fun _ => by kernel_rfl⟩) ?_
            rw [hg14]
            refine wpAny_take (i := 18) (v := .bool true) rfl (by kernel_rfl) (by kernel_rfl) (by kernel_rfl) (fun _ _ _ h => h) (Or.inl ⟨by kernel_rfl, fun _ => by kernel_rfl⟩) ?_
            refine wpAny_take (i := 19) (v := .bool true) rfl (by kernel_rfl) (by kernel_rfl) (by kernel_rfl) (fun _ _ _ h => h) (Or.inl ⟨by kernel_rfl, fun _ => by kernel_rfl⟩) ?_
            refine wpAny_ready (rs := [20]) (by kernel_rfl) (by simp) ?_
            refine AllReady.cons rfl (fun K hK => ?_) AllReady.nil
            go_simp
            go_at_call 11
            refine (awake7_any _).mono ?_
            rintro e w8 ⟨rfl, hb8⟩
            refine hK _ _ ?_
            clear hK K
            refine wpAny_take (i := 21) (v := .bool true) rfl (by kernel_rfl) (by kernel_rfl) (by kernel_rfl) (fun _ _ _ h => h) (Or.inl ⟨by kernel_rfl, fun _ => by kernel_rfl⟩) ?_
            refine wpAny_take (i := 22) (v := .bool true) rfl (by kernel_rfl) (by kernel_rfl) (by kernel_rfl) (fun _ _ _ h => h) (Or.inl ⟨by kernel_rfl, fun _ => by kernel_rfl⟩) ?_
            refine wpAny_done (by kernel_rfl) ?_ _
            go_wp2
            go_ret
            exact ⟨rfl, hbb6 _ _ hb6 hb8⟩
          · go_simp
            refine hK _ _ ?_
            clear hK K
            refine wpAny_ready (rs := [4]) (by kernel_rfl) (by simp) ?_
            refine AllReady.cons rfl (fun K hK => ?_) AllReady.nil
            go_simp
            go_at_call 17
            refine (HX' _).out.mono ?_
            rintro e w6 ⟨rfl, hb6⟩
            refine hK _ _ ?_
            clear hK K
            refine wpAny_take (i := 9) (v := .bool true) rfl (by kernel_rfl) (by kernel_rfl) (by kernel_rfl) (fun _ _ _ h => h) (Or.inl ⟨by kernel_rfl, fun _ => by go_simp⟩) ?_
            refine wpAny_take (i := 10) (v := .bool true) rfl (by kernel_rfl) (by kernel_rfl) (by kernel_rfl) (fun _ _ _ h => h) (Or.inl ⟨by kernel_rfl, fun _ => by kernel_rfl⟩) ?_
            refine wpAny_take (i := 11) (v := .bool true) rfl (by kernel_rfl) (by kernel_rfl) (by kernel_rfl) (fun _ _ _ h => h) (Or.inl ⟨by kernel_rfl, fun _ => by kernel_rfl⟩) ?_
            refine wpAny_take (i := 12) (v := .int .i64 (kindT l)) rfl (by kernel_rfl) (by kernel_rfl) (by kernel_rfl) (fun _ _ _ h => h) (Or.inl ⟨by kernel_rfl, fun _ => by kernel_rfl⟩) ?_
            refine wpAny_take (i := 13) (v := .bool (decide ((2 : Int) ≤ (kindT l : Int)))) rfl (by kernel_rfl) (by kernel_rfl) (by kernel_rfl) (fun _ _ _ h => h) (Or.inl ⟨by kernel_rfl, fun _ => by kernel_rfl⟩) ?_
            rw [hg2]
            refine wpAny_take (i := 14) (v := .bool true) rfl (by kernel_rfl) (by kernel_rfl) (by kernel_rfl) (fun _ _ _ h => h) (Or.inl ⟨by kernel_rfl, fun _ => by kernel_rfl⟩) ?_
            refine wpAny_take (i := 15) (v := .bool true) rfl (by kernel_rfl) (by kernel_rfl) (by kernel_rfl) (fun _ _ _ h => h) (Or.inl ⟨by kernel_rfl, fun _ => by kernel_rfl⟩) ?_
            refine wpAny_take (i := 16) (v := .int .i64 (kindT l)) rfl (by kernel_rfl) (by kernel_rfl) (by kernel_rfl) (fun _ _ _ h => h) (Or.inl ⟨by kernel_rfl, fun _ => by kernel_rfl⟩) ?_
            refine wpAny_take (i := 17) (v := .bool (decide ((kindT l : Int) ≤ 14))) rfl (by kernel_rfl) (by kernel_rfl) (by kernel_rfl) (fun _ _ _ h => h) (Or.inl ⟨by kernel_rfl, fun _ => by kernel_rfl⟩) ?_
            rw [hg14]
            refine wpAny_take (i := 18) (v := .bool true) rfl (by kernel_rfl) (by kernel_rfl) (by kernel_rfl) (fun _ _ _ h => h) (Or.inl ⟨by kernel_rfl, fun _ => by kernel_rfl⟩) ?_
            refine wpAny_take (i := 19) (v := .bool true) rfl (by kernel_rfl) (by kernel_rfl) (by kernel_rfl) (fun _ _ _ h => h) (Or.inl ⟨by kernel_rfl, fun _ => by kernel_rfl⟩) ?_
            refine wpAny_ready (rs := [20]) (by kernel_rfl) (by simp) ?_
            refine AllReady.cons rfl (fun K hK => ?_) AllReady.nil
            go_simp
            go_at_call 11
            refine (awake7_any _).mono ?_
            rintro e w8 ⟨rfl, hb8⟩
            refine hK _ _ ?_
            clear hK K
            refine wpAny_take (i := 21) (v := .bool true) rfl (by kernel_rfl) (by kernel_rfl) (by kernel_rfl) (fun _ _ _ h => h) (Or.inl ⟨by kernel_rfl, fun _ => by kernel_rfl⟩) ?_
            refine wpAny_take (i := 22) (v := .bool true) rfl (by kernel_rfl) (by kernel_rfl) (by kernel_rfl) (fun _ _ _ h => h) (Or.inl ⟨by kernel_rfl, fun _ => by kernel_rfl⟩) ?_
            refine wpAny_done (by kernel_rfl) ?_ _
            go_wp2
            go_ret
            exact ⟨rfl, hbb6 _ _ hb6 hb8⟩
      · go_enter Try.func5, Try.ntmps5
        go_wp2_with (go_at_call 10; refine HF.out.mono ?_; rintro e w0 ⟨rfl, rfl⟩)
        refine (hk _ (Below.refl _ _)).out.mono ?_
        rintro e w1 ⟨rfl, hb1⟩
        go_wp2_with fail
        refine (hO _ hb1).out.mono ?_
        rintro e w3 ⟨l', ⟨A3, c3, rfl, hc3, hT3, hb3⟩, hl', htok, hsites⟩
        have hbb3 := below_chain hb1 hb3
        have hS := (HS w3 w3 l').out hbb3 (Below.refl _ _) hl' htok hsites
        rw [hl', HL] at hT3 hc3 ⊢
        have hT4 := HT.out w3 hbb3
        rw [if_neg hc2] at hT4
        have HST := Lib.hid (sameTokens_any A3 _ (n - 2) (n - 2) c3 (c - 2) l' (tailT l) w3 (by omega) hT3 hT4 hS)
        have he1 : w3.cell? ⟨b, off + 8 + 1, none⟩ = some (.string x1.t) := (hbb3.cell (p := ⟨b, _, none⟩) hblt).trans hd1
        have hblt3 : b < w3.heap.size := Nat.lt_of_lt_of_le hblt hbb3.size
        clear HS hO hk hT4 hT3 hS htok hsites hl' HT h
        go_wp2_with fail
        go_at_call 14
        refine HST.out.mono ?_
        rintro e w5 ⟨rfl, hb5⟩
        have hbb5 := below_chain hbb3 hb5
        have he5 : w5.cell? ⟨b, off + 8 + 1, none⟩ = some (.string x1.t) := (hb5.cell (p := ⟨b, _, none⟩) hblt3).trans he1
        have hblt5 : b < w5.heap.size := Nat.lt_of_lt_of_le hblt3 hb5.size
        clear HST
        go_wp2_with fail
        by_cases h14 : kindT l = 14
        · have h14i : (kindT l : Int) = 14 := by omega
          clear HX hx1t hkb0 hkb1 hki hki1 hki2 hki14
          rw [h14i]
          refine wp_region_any (by kernel_rfl) ?_
          change wpAny _ _ _ _ _ _ _ (World.drew _)
          refine wpAny_take (i := 0) (v := .int .i64 14) rfl (by kernel_rfl) (by kernel_rfl) (by kernel_rfl) (fun _ _ _ h => h) (Or.inl ⟨by kernel_rfl, fun _ => by kernel_rfl⟩) ?_
          refine wpAny_take (i := 1) (v := .bool true) rfl (by kernel_rfl) (by kernel_rfl) (by kernel_rfl) (fun _ _ _ h => h) (Or.inl ⟨by kernel_rfl, fun _ => by kernel_rfl⟩) ?_
          refine wpAny_take (i := 2) (v := .bool true) rfl (by kernel_rfl) (by kernel_rfl) (by kernel_rfl) (fun _ _ _ h => h) (Or.inl ⟨by kernel_rfl, fun _ => by kernel_rfl⟩) ?_
          refine wpAny_take (i := 3) (v := undef) rfl (by kernel_rfl) (by kernel_rfl) (by kernel_rfl) (fun _ _ _ h => h) (Or.inr ⟨by kernel_rfl, rfl⟩) ?_
          refine wpAny_take (i := 4) (v := undef) rfl (by kernel_rfl) (by kernel_rfl) (by kernel_rfl) (fun _ _ _ h => h) (Or.inr ⟨by kernel_rfl, rfl⟩) ?_
          refine wpAny_take (i := 5) (v := undef) rfl (by kernel_rfl) (by kernel_rfl) (by kernel_rfl) (fun _ _ _ h => h) (Or.inr ⟨by kernel_rfl, rfl⟩) ?_
          refine wpAny_take (i := 6) (v := undef) rfl (by kernel_rfl) (by kernel_rfl) (by kernel_rfl) (fun _ _ _ h => h) (Or.inr ⟨by kernel_rfl, rfl⟩) ?_
          refine wpAny_take (i := 7) (v := undef) rfl (by kernel_rfl) (by kernel_rfl) (by kernel_rfl) (fun _ _ _ h => h) (Or.inr ⟨by kernel_rfl, rfl⟩) ?_
          refine wpAny_take (i := 8) (v := undef) rfl (by kernel_rfl) (by kernel_rfl) (by kernel_rfl) (fun _ _ _ h => h) (Or.inr ⟨by kernel_rfl, rfl⟩) ?_
          refine wpAny_take (i := 9) (v := undef) rfl (by kernel_rfl) (by kernel_rfl) (by kernel_rfl) (fun _ _ _ h => h) (Or.inr ⟨by kernel_rfl, rfl⟩) ?_
          refine wpAny_take (i := 10) (v := .bool true) rfl (by kernel_rfl) (by kernel_rfl) (by kernel_rfl) (fun _ _ _ h => h) (Or.inl ⟨by kernel_rfl, fun _ => by kernel_rfl⟩) ?_
          refine wpAny_take (i := 11) (v := .bool true) rfl (by kernel_rfl) (by kernel_rfl) (by kernel_rfl) (fun _ _ _ h => h) (Or.inl ⟨by kernel_rfl, fun _ => by kernel_rfl⟩) ?_
          refine wpAny_take (i := 12) (v := .int .i64 14) rfl (by kernel_rfl) (by kernel_rfl) (by kernel_rfl) (fun _ _ _ h => h) (Or.inl ⟨by kernel_rfl, fun _ => by kernel_rfl⟩) ?_
          refine wpAny_take (i := 13) (v := .bool true) rfl (by kernel_rfl) (by kernel_rfl) (by kernel_rfl) (fun _ _ _ h => h) (Or.inl ⟨by kernel_rfl, fun _ => by kernel_rfl⟩) ?_
          refine wpAny_take (i := 14) (v := .bool true) rfl (by kernel_rfl) (by kernel_rfl) (by kernel_rfl) (fun _ _ _ h => h) (Or.inl ⟨by kernel_rfl, fun _ => by kernel_rfl⟩) ?_
          refine wpAny_take (i := 15) (v := .bool true) rfl (by kernel_rfl) (by kernel_rfl) (by kernel_rfl) (fun _ _ _ h => h) (Or.inl ⟨by kernel_rfl, fun _ => by kernel_rfl⟩) ?_
          refine wpAny_take (i := 16) (v := .int .i64 14) rfl (by kernel_rfl) (by kernel_rfl) (by kernel_rfl) (fun _ _ _ h => h) (Or.inl ⟨by kernel_rfl, fun _ => by kernel_rfl⟩) ?_
          refine wpAny_take (i := 17) (v := .bool true) rfl (by kernel_rfl) (by kernel_rfl) (by kernel_rfl) (fun _ _ _ h => h) (Or.inl ⟨by kernel_rfl, fun _ => by kernel_rfl⟩) ?_
          refine wpAny_take (i := 18) (v := .bool true) rfl (by kernel_rfl) (by kernel_rfl) (by kernel_rfl) (fun _ _ _ h => h) (Or.inl ⟨by kernel_rfl, fun _ => by kernel_rfl⟩) ?_
          refine wpAny_take (i := 19) (v := .bool true) rfl (by kernel_rfl) (by kernel_rfl) (by kernel_rfl) (fun _ _ _ h => h) (Or.inl ⟨by kernel_rfl, fun _ => by kernel_rfl⟩) ?_
          refine wpAny_ready (rs := [20]) (by kernel_rfl) (by simp) ?_
          refine AllReady.cons rfl (fun K hK => ?_) AllReady.nil
          go_simp
          go_at_call 11
          refine (awake7_any _).mono ?_
          rintro e w8 ⟨rfl, hb8⟩
          refine hK _ _ ?_
          clear hK K
          refine wpAny_take (i := 21) (v := .bool true) rfl (by kernel_rfl) (by kernel_rfl) (by kernel_rfl) (fun _ _ _ h => h) (Or.inl ⟨by kernel_rfl, fun _ => by kernel_rfl⟩) ?_
          refine wpAny_take (i := 22) (v := .bool true) rfl (by kernel_rfl) (by kernel_rfl) (by kernel_rfl) (fun _ _ _ h => h) (Or.inl ⟨by kernel_rfl, fun _ => by kernel_rfl⟩) ?_
          refine wpAny_done (by kernel_rfl) ?_ _
          go_wp2
          go_ret
          exact ⟨rfl, hbb5.trans (below_drew2 (hb8.mono hbb5.size))⟩
        · have hlt14 : kindT l < 14 := by have := kindT_le l; omega
          have hkb14 : ((kindT l : Int) == 14) = false := by simpa using (show ¬ (kindT l : Int) = 14 by omega)
          have hg2 : decide ((2 : Int) ≤ (kindT l : Int)) = true := by simpa using hki2
          have hg14 : decide ((kindT l : Int) ≤ 14) = true := by simpa using hki14
          have HX' := fun w' => Lib.hid (HX.out hlt14 w')
          clear HX
          have hbb6 : ∀ wA wB : World, Below w5.drew.heap.size w5.drew wA → Below wA.heap.size wA wB → Below w.heap.size w wB := fun wA wB h1 h2 => hbb5.trans (below_drew2 ((below_chain h1 h2).mono hbb5.size))
          refine wp_region_any (by kernel_rfl) ?_
          change wpAny _ _ _ _ _ _ _ (World.drew _)
          refine wpAny_take (i := 0) (v := .int .i64 (kindT l)) rfl (by kernel_rfl) (by kernel_rfl) (by kernel_rfl) (fun _ _ _ h => h) (Or.inl ⟨by kernel_rfl, fun _ => by kernel_rfl⟩) ?_
          refine wpAny_take (i := 1) (v := .bool ((kindT l : Int) == 14)) rfl (by kernel_rfl) (by kernel_rfl) (by kernel_rfl) (fun _ _ _ h => h) (Or.inl ⟨by kernel_rfl, fun _ => by kernel_rfl⟩) ?_
          rw [hkb14]
          refine wpAny_take (i := 2) (v := .bool false) rfl (by kernel_rfl) (by kernel_rfl) (by kernel_rfl) (fun _ _ _ h => h) (Or.inl ⟨by kernel_rfl, fun _ => by kernel_rfl⟩) ?_
          refine wpAny_take (i := 3) (v := .int .i64 (kindT l)) rfl (by kernel_rfl) (by kernel_rfl) (by kernel_rfl) (fun _ _ _ h => h) (Or.inl ⟨by kernel_rfl, fun _ => by kernel_rfl⟩) ?_
          refine wpAny_take (i := 5) (v := .slice (some ⟨b, off, none⟩) n c) rfl (by kernel_rfl) (by kernel_rfl) (by kernel_rfl) (fun _ _ _ h => h) (Or.inl ⟨by kernel_rfl, fun _ => by kernel_rfl⟩) ?_
          refine wpAny_take (i := 6) (v := .pointer (some ⟨b, off + 8, none⟩)) rfl (by kernel_rfl) (by kernel_rfl) (by kernel_rfl) (fun _ _ _ h => h) (Or.inl ⟨by kernel_rfl, fun _ => by go_simp⟩) ?_
          refine wpAny_take (i := 7) (v := .pointer (some ⟨b, off + 8 + 1, none⟩)) rfl (by kernel_rfl) (by kernel_rfl) (by kernel_rfl) (fun _ _ _ h => h) (Or.inl ⟨by kernel_rfl, fun _ => by go_simp⟩) ?_
          refine wpAny_ready (rs := [4, 8]) (by kernel_rfl) (by simp) ?_
          refine AllReady.cons rfl (fun K hK => ?_) (AllReady.cons rfl (fun K hK => ?_) AllReady.nil)
          · go_simp
            go_at_call 17
            refine (HX' _).out.mono ?_
            rintro e w6 ⟨rfl, hb6⟩
            have he6 : w6.cell? ⟨b, off + 8 + 1, none⟩ = some (.string x1.t) := (hb6.cell (p := ⟨b, _, none⟩) hblt5).trans he5
            refine hK _ _ ?_
            clear hK K
            refine wpAny_ready (rs := [8]) (by kernel_rfl) (by simp) ?_
            refine AllReady.cons rfl (fun K hK => ?_) AllReady.nil
            go_simp
            refine hK _ _ ?_
            clear hK K
            refine wpAny_take (i := 9) (v := .bool true) rfl (by kernel_rfl) (by kernel_rfl) (by kernel_rfl) (fun _ _ _ h => h) (Or.inl ⟨by kernel_rfl, fun _ => by go_simp⟩) ?_
            refine wpAny_take (i := 10) (v := .bool true) rfl (by kernel_rfl) (by kernel_rfl) (by kernel_rfl) (fun _ _ _ h => h) (Or.inl ⟨by kernel_rfl, fun _ => by kernel_rfl⟩) ?_
            refine wpAny_take (i := 11) (v := .bool true) rfl (by kernel_rfl) (by kernel_rfl) (by kernel_rfl) (fun _ _ _ h => h) (Or.inl ⟨by kernel_rfl, fun _ => by kernel_rfl⟩) ?_
            refine wpAny_take (i := 12) (v := .int .i64 (kindT l)) rfl (by kernel_rfl) (by kernel_rfl) (by kernel_rfl) (fun _ _ _ h => h) (Or.inl ⟨by kernel_rfl, fun _ => by kernel_rfl⟩) ?_
            refine wpAny_take (i := 13) (v := .bool (decide ((2 : Int) ≤ (kindT l : Int)))) rfl (by kernel_rfl) (by kernel_rfl) (by kernel_rfl) (fun _ _ _ h => h) (Or.inl ⟨by kernel_rfl, fun _ => by kernel_rfl⟩) ?_
            rw [hg2]
            refine wpAny_take (i := 14) (v := .bool true) rfl (by kernel_rfl) (by kernel_rfl) (by kernel_rfl) (fun _ _ _ h => h) (Or.inl ⟨by kernel_rfl, fun _ => by kernel_rfl⟩) ?_
            refine wpAny_take (i := 15) (v := .bool true) rfl (by kernel_rfl) (by kernel_rfl) (by kernel_rfl) (fun _ _ _ h => h) (Or.inl ⟨by kernel_rfl, fun _ => by kernel_rfl⟩) ?_
            refine wpAny_take (i := 16) (v := .int .i64 (kindT l)) rfl (by kernel_rfl) (by kernel_rfl) (by kernel_rfl) (fun _ _ _ h => h) (Or.inl ⟨by kernel_rfl, fun _ => by kernel_rfl⟩) ?_
            refine wpAny_take (i := 17) (v := .bool (decide ((kindT l : Int) ≤ 14))) rfl (by kernel_rfl) (by kernel_rfl) (by kernel_rfl) (fun _ _ _ h => h) (Or.inl ⟨by kernel_rfl, fun _ => by kernel_rfl⟩) ?_
            rw [hg14]
            refine wpAny_take (i := 18) (v := .bool true) rfl (by kernel_rfl) (by kernel_rfl) (by kernel_rfl) (fun _ _ _ h => h) (Or.inl ⟨by kernel_rfl, fun _ => by kernel_rfl⟩) ?_
            refine wpAny_take (i := 19) (v := .bool true) rfl (by kernel_rfl) (by kernel_rfl) (by kernel_rfl) (fun _ _ _ h => h) (Or.inl ⟨by kernel_rfl, fun _ => by kernel_rfl⟩) ?_
            refine wpAny_ready (rs := [20]) (by kernel_rfl) (by simp) ?_
            refine AllReady.cons rfl (fun K hK => ?_) AllReady.nil
            go_simp
            go_at_call 11
            refine (awake7_any _).mono ?_
            rintro e w8 ⟨rfl, hb8⟩
            refine hK _ _ ?_
            clear hK K
            refine wpAny_take (i := 21) (v := .bool true) rfl (by kernel_rfl) (by kernel_rfl) (by kernel_rfl) (fun _ _ _ h => h) (Or.inl ⟨by kernel_rfl, fun _ => by kernel_rfl⟩) ?_
            refine wpAny_take (i := 22) (v := .bool true) rfl (by kernel_rfl) (by kernel_rfl) (by kernel_rfl) (fun _ _ _ h => h) (Or.inl ⟨by kernel_rfl, fun _ => by kernel_rfl⟩) ?_
            refine wpAny_done (by kernel_rfl) ?_ _
            go_wp2
            go_ret
            exact ⟨rfl, hbb6 _ _ hb6 hb8⟩
          · go_simp
            refine hK _ _ ?_
            clear hK K
            refine wpAny_ready (rs := [4]) (by kernel_rfl) (by simp) ?_
            refine AllReady.cons rfl (fun K hK => ?_) AllReady.nil
            go_simp
            go_at_call 17
            refine (HX' _).out.mono ?_
            rintro e w6 ⟨rfl, hb6⟩
            refine hK _ _ ?_
            clear hK K
            refine wpAny_take (i := 9) (v := .bool true) rfl (by kernel_rfl) (by kernel_rfl) (by kernel_rfl) (fun _ _ _ h => h) (Or.inl ⟨by kernel_rfl, fun _ => by go_simp⟩) ?_
            refine wpAny_take (i := 10) (v := .bool true) rfl (by kernel_rfl) (by kernel_rfl) (by kernel_rfl) (fun _ _ _ h => h) (Or.inl ⟨by kernel_rfl, fun _ => by kernel_rfl⟩) ?_
            refine wpAny_take (i := 11) (v := .bool true) rfl (by kernel_rfl) (by kernel_rfl) (by kernel_rfl) (fun _ _ _ h => h) (Or.inl ⟨by kernel_rfl, fun _ => by kernel_rfl⟩) ?_
            refine wpAny_take (i := 12) (v := .int .i64 (kindT l)) rfl (by kernel_rfl) (by kernel_rfl) (by kernel_rfl) (fun _ _ _ h => h) (Or.inl ⟨by kernel_rfl, fun _ => by kernel_rfl⟩) ?_
            refine wpAny_take (i := 13) (v := .bool (decide ((2 : Int) ≤ (kindT l : Int)))) rfl (by kernel_rfl) (by kernel_rfl) (by kernel_rfl) (fun _ _ _ h => h) (Or.inl ⟨by kernel_rfl, fun _ => by kernel_rfl⟩) ?_
            rw [hg2]
            refine wpAny_take (i := 14) (v := .bool true) rfl (by kernel_rfl) (by kernel_rfl) (by kernel_rfl) (fun _ _ _ h => h) (Or.inl ⟨by kernel_rfl, fun _ => by kernel_rfl⟩) ?_
            refine wpAny_take (i := 15) (v := .bool true) rfl (by kernel_rfl) (by kernel_rfl) (by kernel_rfl) (fun _ _ _ h => h) (Or.inl ⟨by kernel_rfl, fun _ => by kernel_rfl⟩) ?_
            refine wpAny_take (i := 16) (v := .int .i64 (kindT l)) rfl (by kernel_rfl) (by kernel_rfl) (by kernel_rfl) (fun _ _ _ h => h) (Or.inl ⟨by kernel_rfl, fun _ => by kernel_rfl⟩) ?_
            refine wpAny_take (i := 17) (v := .bool (decide ((kindT l : Int) ≤ 14))) rfl (by kernel_rfl) (by kernel_rfl) (by kernel_rfl) (fun _ _ _ h => h) (Or.inl ⟨by kernel_rfl, fun _ => by kernel_rfl⟩) ?_
            rw [hg14]
            refine wpAny_take (i := 18) (v := .bool true) rfl (by kernel_rfl) (by kernel_rfl) (by kernel_rfl) (fun _ _ _ h => h) (Or.inl ⟨by kernel_rfl, fun _ => by kernel_rfl⟩) ?_
            refine wpAny_take (i := 19) (v := .bool true) rfl (by kernel_rfl) (by kernel_rfl) (by kernel_rfl) (fun _ _ _ h => h) (Or.inl ⟨by kernel_rfl, fun _ => by kernel_rfl⟩) ?_
            refine wpAny_ready (rs := [20]) (by kernel_rfl) (by simp) ?_
            refine AllReady.cons rfl (fun K hK => ?_) AllReady.nil
            go_simp
            go_at_call 11
            refine (awake7_any _).mono ?_
            rintro e w8 ⟨rfl, hb8⟩
            refine hK _ _ ?_
            clear hK K
            refine wpAny_take (i := 21) (v := .bool true) rfl (by kernel_rfl) (by kernel_rfl) (by kernel_rfl) (fun _ _ _ h => h) (Or.inl ⟨by kernel_rfl, fun _ => by kernel_rfl⟩) ?_
            refine wpAny_take (i := 22) (v := .bool true) rfl (by kernel_rfl) (by kernel_rfl) (by kernel_rfl) (fun _ _ _ h => h) (Or.inl ⟨by kernel_rfl, fun _ => by kernel_rfl⟩) ?_
            refine wpAny_done (by kernel_rfl) ?_ _
            go_wp2
            go_ret
            exact ⟨rfl, hbb6 _ _ hb6 hb8⟩
  · have hf' : fewB 60 l = false := by simpa using hf
    rw [hf'] at HF
    clear hs hsz h
    go_enter Try.func5, Try.ntmps5
    go_wp2_with (go_at_call 10; refine HF.out.mono ?_; rintro e w0 ⟨rfl, rfl⟩)
    refine (awake7_any w).mono ?_
    rintro e w8 ⟨rfl, hb8⟩
    go_wp2_with fail
    go_ret
    exact ⟨rfl, hb8⟩
end Go.Proofs.Ytjklnlocmmnclaa
