/- Walks: what the document fixes of directives. -/
import Derived.Test.YtjklnlocmmnclaaWr9
namespace Go.Proofs.Ytjklnlocmmnclaa
open Go.RowKit

def txtA : ByteArray := { data := #[35, 32, 100, 101, 102, 105, 110, 101, 32, 65] }
def txtB : ByteArray := { data := #[37, 58] }
def txtC : ByteArray := { data := #[35, 120] }
theorem kA : kindT (toksP txtA) = 9 := by decide +kernel
theorem kB : kindT (toksP txtB) = 1 := by decide +kernel
theorem kC : kindT (toksP txtC) = 14 := by decide +kernel
theorem rA : (tailT (toksP txtA)).map (·.t.data) = [#[65]] := by decide +kernel
theorem lA : (toksP txtA).length = 3 := by decide +kernel
theorem lB : (toksP txtB).length = 1 := by decide +kernel
theorem lC : (toksP txtC).length = 2 := by decide +kernel
/-- Tokens of a text of which no more is known than how many and their kind. -/
def TokN (w : World) (l : List Tok) (n : Nat) (e : Ending) (w' : World) : Prop :=
  ∃ A c, e = .returned (.slice A n c) ∧ n ≤ c ∧ c ≤ maxLen ∧ Toks w' (fun _ => True) A n l ∧ Below w.heap.size w w'
theorem TokRet.n {w w' : World} {l : List Tok} {n : Nat} {e : Ending} (h : TokRet w l e w') (hl : l.length = n) : TokN w l n e w' := by
  subst hl
  exact h
theorem kind_le {A : Option Addr} {n c k : Nat} {l : List Tok} {s : ByteArray} (w : World) (h : Toks w (fun _ => True) A n l) (hl : l = toksP s) (hs : s.size ≤ 99999) (hn : n ≤ 1000000) (hk : kindT l = k) :
    Calls Try.prog 12 #[.slice A n c] w fun e w' => e = .returned (.int .i64 (k : Int)) ∧ Below w.heap.size w w' := by
  subst hl
  subst hk
  exact kind_any A n c _ w h hn fun x hx => (toksP_ok s hs x hx).1
/-- The rest of the text '# define A'. -/
def RestA (w : World) (e : Ending) (w' : World) : Prop :=
  ∃ b off c, e = .returned (.slice (some ⟨b, off, none⟩) 1 c) ∧ b < w'.heap.size ∧ w'.cell? ⟨b, off + 1, none⟩ = some (.string { data := #[65] }) ∧ Below w.heap.size w w'
theorem restA {A : Option Addr} {c : Nat} (w : World) (h : Toks w (fun _ => True) A 3 (toksP txtA)) (hc : 3 ≤ c) (hcm : c ≤ maxLen) : Calls Try.prog 15 #[.slice A 3 c] w (RestA w) := by
  refine (restO_any A 3 c (toksP txtA) [[], [], []] w h (by omega) hc hcm (fun x hx => (toksP_ok txtA (by decide) x hx).1) rfl ?_).mono ?_
  · intro i x s hx hs
    obtain ⟨_, h1, h2, _⟩ := toksP_ok txtA (by decide) x (List.mem_of_getElem? hx)
    rw [h1, h2]
    have hs' : s = [] := by
      have := List.mem_of_getElem? hs
      simpa using this
    subst hs'
    exact ⟨by omega, Sl.nil_⟩
  · rintro e w1 ⟨l', ⟨A', c', rfl, hlc, hT, hb⟩, hll, htok, _⟩
    have hr := rA
    obtain ⟨y, hm⟩ : ∃ y, tailT (toksP txtA) = [y] := List.length_eq_one_iff.1 (by simpa using congrArg List.length hr)
    · rw [hm] at hll htok hr
      have h1 : l'.length = 1 := hll
      rw [h1] at hT hlc ⊢
      obtain ⟨b, off, x, rfl, _, hlt, hx, _, hx1, _⟩ := Toks.at_ hT (i := 0) (by omega)
      have := htok 0 y x rfl hx
      have hxt : x.t = y.t := by rw [this]
      have hyt : y.t = { data := #[65] } := by
        simp only [List.map_cons, List.map_nil, List.cons.injEq, and_true] at hr
        cases hy : y.t with
        | mk d => rw [hy] at hr; simp only at hr; rw [hr]
      rw [hxt, hyt] at hx1
      simp only [Nat.zero_mul, Nat.add_zero] at hx1
      exact ⟨b, off, c', rfl, hlt, hx1, hb⟩
theorem word5 (w : World) : Calls Try.prog 17 #[.int .i64 5] w fun e w' => e = .returned (.string { data := #[101, 108, 105, 102] }) ∧ Below w.heap.size w w' := by
  have h := word_any 5 w
  have e : (⟨(wordT 5).toArray⟩ : ByteArray) = { data := #[101, 108, 105, 102] } := by
    have : wordT 5 = [101, 108, 105, 102] := by decide +kernel
    rw [this]
  rw [e] at h
  exact h
theorem word99 (w : World) : Calls Try.prog 17 #[.int .i64 99] w fun e w' => e = .returned (.string { data := #[] }) ∧ Below w.heap.size w w' := by
  have h := word_any 99 w
  have e : (⟨(wordT 99).toArray⟩ : ByteArray) = { data := #[] } := by
    have : wordT 99 = [] := by decide +kernel
    rw [this]
  rw [e] at h
  exact h

set_option maxRecDepth 1000000 in
set_option maxHeartbeats 2000000 in
theorem awake7_any (w : World) : Calls Try.prog 11 #[] w fun e w' => e = .returned (.bool true) ∧ Below w.heap.size w w' := by
  have HA := fun w : World => Lib.hid ((toks_any txtA w (by decide)).mono fun e w' h => TokRet.n h lA)
  have HB := fun w : World => Lib.hid ((toks_any txtB w (by decide)).mono fun e w' h => TokRet.n h lB)
  have HC := fun w : World => Lib.hid ((toks_any txtC w (by decide)).mono fun e w' h => TokRet.n h lC)
  have K0 := fun w : World => Lib.hid (kind_any (U := fun _ => True) none 0 0 [] w Sl.nil_ (by omega) fun x hx => by simp at hx)
  have hk0 : ((kindT [] : Nat) : Int) = 0 := rfl
  rw [hk0] at K0
  go_enter Try.func11, Try.ntmps11
  go_wp2_with fail
  refine (HA _).out.mono ?_
  rintro e w1 ⟨A1, c1, rfl, hc1, hcm1, hT1, hb1⟩
  go_wp2_with fail
  refine (restA w1 hT1 hc1 hcm1).mono ?_
  rintro e w2 ⟨b2, o2, c2, rfl, hlt2, h2, hb2⟩
  have hT2 : Toks w2 (fun _ => True) A1 3 (toksP txtA) := Sl.below hT1 hb2
  go_wp2_with fail
  refine (kind_le w2 hT2 rfl (by decide) (by omega) kA).mono ?_
  rintro e w3 ⟨rfl, hb3⟩
  have h3 : w3.cell? ⟨b2, o2 + 1, none⟩ = some (.string { data := #[65] }) := by rw [hb3.cell hlt2]; exact h2
  have hbb := below_chain (below_chain hb1 hb2) hb3
  clear hT1 hT2 h2 hb1 hb2 hb3
  go_wp2_with fail
  refine (K0 w3).out.mono ?_
  rintro e w4 ⟨rfl, hb4⟩
  have hbb4 := below_chain hbb hb4
  clear hbb hb4 h3
  go_wp2_with fail
  refine (HB w4).out.mono ?_
  rintro e w5 ⟨A5, c5, rfl, hc5, hcm5, hT5, hb5⟩
  go_wp2_with fail
  refine (kind_le w5 hT5 rfl (by decide) (by omega) kB).mono ?_
  rintro e w6 ⟨rfl, hb6⟩
  have hbb6 := below_chain (below_chain hbb4 hb5) hb6
  clear hbb4 hb5 hT5 hb6
  go_wp2_with fail
  refine (HC w6).out.mono ?_
  rintro e w7 ⟨A7, c7, rfl, hc7, hcm7, hT7, hb7⟩
  go_wp2_with fail
  refine (kind_le w7 hT7 rfl (by decide) (by omega) kC).mono ?_
  rintro e w8 ⟨rfl, hb8⟩
  have hbb8 := below_chain (below_chain hbb6 hb7) hb8
  clear hbb6 hb7 hT7 hb8
  go_wp2_with fail
  refine (word5 w8).mono ?_
  rintro e w9 ⟨rfl, hb9⟩
  have hbb9 := below_chain hbb8 hb9
  go_wp2_with fail
  refine (word99 w9).mono ?_
  rintro e w10 ⟨rfl, hb10⟩
  have hbb10 := below_chain hbb9 hb10
  go_wp2_with fail
  go_ret
  exact ⟨rfl, hbb10⟩
end Go.Proofs.Ytjklnlocmmnclaa
