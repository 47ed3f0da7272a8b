/- Walks: the law of kinds. -/
import Derived.Test.YtjklnlocmmnclaaWt
namespace Go.Proofs.Ytjklnlocmmnclaa
open Go.RowKit

/-- What the sites of a list of tokens read as. -/
def SitesOk (w : World) (l : List Tok) (ss : List (List Site)) : Prop := ss.length = l.length ∧ ∀ (i : Nat) (x : Tok) (s : List Site), l[i]? = some x → ss[i]? = some s → Sites w (fun _ => True) x.sA x.sn s
theorem SitesOk.below {w w' : World} {l : List Tok} {ss : List (List Site)} (h : SitesOk w l ss) (hb : Below w.heap.size w w') : SitesOk w' l ss :=
  ⟨h.1, fun i x s h1 h2 => Sl.below (h.2 i x s h1 h2) hb⟩
theorem fewB_true {m : Nat} {l : List Tok} (h : fewB m l = true) : l.length ≤ m ∧ ∀ x ∈ l, x.t.size ≤ 300 ∧ x.sn ≤ 20 := by
  simp only [fewB, Bool.and_eq_true, decide_eq_true_eq, List.all_eq_true] at h
  exact h
/-- The two rests are alike. -/
theorem tail_alike {w w1 w2 : World} {l l' : List Tok} {ss : List (List Site)} (h : SitesOk w l ss) (hsn : ∀ x ∈ l, x.sn ≤ 20) (hb : Below w.heap.size w w2) (hb2 : Below w1.heap.size w1 w2) (hl : l'.length = (tailT l).length)
    (ht : ∀ (i : Nat) (x y : Tok), (tailT l)[i]? = some x → l'[i]? = some y → y = { x with sA := y.sA, sc := y.sc })
    (hs : ∀ (i : Nat) (y : Tok) (s : List Site), l'[i]? = some y → (ss.drop 2)[i]? = some s → Sites w1 (fun _ => True) y.sA y.sn s) : TokAlike w2 l' (tailT l) := by
  refine ⟨hl, ?_⟩
  intro i x y hx hy
  have he := ht i y x hy hx
  have hsn' : x.sn = y.sn := by rw [he]
  have hyl : l[2 + i]? = some y := by
    unfold tailT at hy
    split at hy
    · simp at hy
    · rw [List.getElem?_drop] at hy
      exact hy
  have hlt := (List.getElem?_eq_some_iff.1 hyl).1
  obtain ⟨s, hs2⟩ : ∃ s, ss[2 + i]? = some s := ⟨ss[2 + i]'(by rw [h.1]; exact hlt), by rw [List.getElem?_eq_getElem]⟩
  have h1 := h.2 _ y s hyl hs2
  have h2 := hs i x s hx (by rw [List.getElem?_drop]; exact hs2)
  refine ⟨?_, ?_, s, Sl.below h2 hb2, ?_⟩
  · rw [he]
  · have := hsn y (List.mem_of_getElem? hyl)
    omega
  · rw [hsn']
    exact Sl.below h1 hb

set_option maxRecDepth 1000000 in
set_option maxHeartbeats 2000000 in
theorem directKinds_any (A : Option Addr) (n c : Nat) (kind : Int) (l : List Tok) (ss : List (List Site)) (w : World) (h : Toks w (fun _ => True) A n l) (hc : n ≤ c) (hcm : c ≤ maxLen) (hsz : ∀ x ∈ l, x.t.size ≤ maxLen ∧ x.sn ≤ maxLen)
    (hs : SitesOk w l ss) : Calls Try.prog 3 #[.slice A n c, .int .i64 kind] w fun e w' => e = .returned (.bool true) ∧ Below w.heap.size w w' := by
  have HF := Lib.hid (few_any A n c 60 l w h (by unfold maxLen at hcm; omega) (by omega) hsz)
  by_cases hf : fewB 60 l = true
  · obtain ⟨hl60, hx⟩ := fewB_true hf
    have hlen := h.len
    have hn60 : n ≤ 60 := by omega
    have hk := fun w' hb => Lib.hid (kind_any A n c l w' (Sl.below (w' := w') h hb) (by omega) fun x hx => (hsz x hx).1)
    have hkR := fun w' hb => Lib.hid (kindR_any A n c l w' (Sl.below (w' := w') h hb) (by omega))
    have hO := fun w' hb => Lib.hid (restO_any A n c l ss w' (Sl.below (w' := w') h hb) (by omega) hc hcm (fun x hx => (hsz x hx).1) (by rw [hs.1, hlen]) fun i x s h1 h2 => ⟨by have := (hx x (List.mem_of_getElem? h1)).2; omega, Sl.below (hs.2 i x s h1 h2) hb⟩)
    have hR := fun w' hb => Lib.hid (restR_any A n c l w' (Sl.below (w' := w') h hb) (by omega) hc hcm)
    have hAl := @tail_alike w
    have HS := fun w1 w2 l' => Lib.hid (@tail_alike w w1 w2 l l' ss hs (fun x hx' => (hx x hx').2))
    have hlt : (tailT l).length ≤ 1000000 := by unfold tailT; split <;> simp <;> omega
    rw [hf] at HF
    clear hAl h hs hx hsz hlen
    go_enter Try.func3, Try.ntmps3
    go_wp2_with (go_at_call 10; refine HF.out.mono ?_; rintro e w0 ⟨rfl, rfl⟩)
    refine (hk _ (Below.refl _ _)).out.mono ?_
    rintro e w1 ⟨rfl, hb1⟩
    go_wp2_with fail
    refine (hkR _ hb1).out.mono ?_
    rintro e w2 ⟨rfl, hb2⟩
    have hbb2 := below_chain hb1 hb2
    clear hb1 hb2 hk hkR
    go_wp2_with fail
    refine (hO _ hbb2).out.mono ?_
    rintro e w3 ⟨l', ⟨A3, c3, rfl, hc3, hT3, hb3⟩, hl', htok, hsites⟩
    have hbb3 := below_chain hbb2 hb3
    go_wp2_with fail
    refine (hR _ hbb3).out.mono ?_
    rintro e w4 ⟨A4, c4, rfl, hc4, hT4, hb4⟩
    have hbb4 := below_chain hbb3 hb4
    have hS := (HS w3 w4 l').out hbb4 hb4 hl' htok hsites
    rw [hl'] at hT3
    have HST := Lib.hid (sameTokens_any A3 A4 (tailT l).length (tailT l).length c3 c4 l' (tailT l) w4 (by omega) (Sl.below hT3 hb4) hT4 hS)
    clear HS hR hO hT3 hT4 hS
    go_wp2_with fail
    go_at_call 14
    refine HST.out.mono ?_
    rintro e w5 ⟨rfl, hb5⟩
    have hbb5 := below_chain hbb4 hb5
    clear htok hsites
    go_wp2_with fail
    refine (word_any kind w5).mono ?_
    rintro e w6 ⟨rfl, hb6⟩
    have hbb6 := below_chain hbb5 hb6
    go_wp2_with fail
    refine (wordR_any kind w6).mono ?_
    rintro e w7 ⟨rfl, hb7⟩
    have hbb7 := below_chain hbb6 hb7
    go_wp2_with fail
    refine (awake7_any w7).mono ?_
    rintro e w8 ⟨rfl, hb8⟩
    have hbb8 := below_chain hbb7 hb8
    go_wp2_with fail
    go_ret
    exact ⟨rfl, hbb8⟩
  · have hf' : fewB 60 l = false := by simpa using hf
    rw [hf'] at HF
    clear hs hsz h
    go_enter Try.func3, Try.ntmps3
    go_wp2_with (go_at_call 10; refine HF.out.mono ?_; rintro e w0 ⟨rfl, rfl⟩)
    refine (awake7_any w).mono ?_
    rintro e w8 ⟨rfl, hb8⟩
    go_wp2_with fail
    go_ret
    exact ⟨rfl, hb8⟩
end Go.Proofs.Ytjklnlocmmnclaa
