/- Walks: what the document fixes of conditions. -/
import Derived.Test.YtjklnlocmmnclaaIc
import Derived.Test.YtjklnlocmmnclaaId
import Derived.Test.YtjklnlocmmnclaaHa
import Derived.Test.YtjklnlocmmnclaaHb
namespace Go.Proofs.Ytjklnlocmmnclaa
open Go.RowKit

def txt8 : ByteArray := { data := #[35, 105, 102, 32, 97, 10, 98, 10, 35, 101, 108, 115, 101, 10, 99, 10, 35, 101, 110, 100, 105, 102, 10, 35, 101, 110, 100, 105, 102, 10, 35, 105, 102, 32, 120, 10] }
def its8 : List It := [.mk 2 0 [.mk 0 [.mk 0 1 []], .mk 2 [.mk 0 3 []]], .mk 2 6 [.mk 6 []]]
theorem it8 : itemsP (llP txt8) = its8 := by kernel_rfl
theorem ll8 : (llP txt8).length = 7 := by decide +kernel
theorem lt8 : ∀ l ∈ llP txt8, l.length ≤ 1000000 := by decide +kernel
theorem dg8 : (diagsP (llP txt8)).map (·.1) = [12, 13] := by decide +kernel
theorem dp8 : deepIs its8 = 1 := by decide +kernel
theorem fl8 : flatIs its8 = [0, 1, 2, 3, 6] := by decide +kernel

theorem build8 (w : World) {A : Option Addr} {c : Nat} (h : Lns w (fun _ => True) A 7 (llP txt8)) : Calls Try.prog 23 #[.slice A 7 c] w fun e w' => ∃ b off cI b2 off2 c2 k0 l0 A3 c3 gd cd,
    e = .returned (.tuple #[.slice (some ⟨b, off, none⟩) 2 cI, .slice (some ⟨gd, 0, none⟩) 2 cd]) ∧ Below w.heap.size w w' ∧ Its w' (fun _ => True) (some ⟨b, off, none⟩) 2 its8 ∧ 2 ≤ cI ∧ cI ≤ maxLen ∧ b < w'.heap.size ∧ b2 < w'.heap.size ∧ gd < w'.heap.size ∧
    w'.cell? ⟨b, off, none⟩ = some (.int .i64 k0) ∧ w'.cell? ⟨b, off + 2, none⟩ = some (.slice (some ⟨b2, off2, none⟩) 2 c2) ∧ w'.cell? ⟨b2, off2, none⟩ = some (.int .i64 l0) ∧ w'.cell? ⟨b2, off2 + 1, none⟩ = some (.slice A3 1 c3) ∧
    w'.cell? ⟨gd, 0, none⟩ = some (.int .i64 12) ∧ w'.cell? ⟨gd, 4, none⟩ = some (.int .i64 13) := by
  refine (build_any A 7 c (llP txt8) w h (by omega) (fun l hl => ⟨lt8 l hl, llP_ok txt8 (by decide) l hl⟩)).mono ?_
  rintro e w' ⟨A1, cI, vd, rfl, h1, h2, h3, h4, h5⟩
  rw [it8] at h1 h3 ⊢
  have h3' := h3.any
  have hl : its8.length = 2 := rfl
  rw [hl] at h1 h3' ⊢
  obtain ⟨b, off, k0, line, arms, A', n', c', rfl, _, hbl, hx, c0, _, c2, hn', hc', ha⟩ := h3'.at_ (i := 0) (by omega)
  have hx' : It.mk 2 0 [.mk 0 [.mk 0 1 []], .mk 2 [.mk 0 3 []]] = It.mk k0 line arms := Option.some.inj hx
  injection hx' with _ _ hx3
  subst hx3
  have hn2 : n' = 2 := ha.len.symm
  subst hn2
  obtain ⟨b2, off2, line2, items, A3, n3, c3, rfl, _, hbl2, hx2, d0, d1, hn3, hc3, hi⟩ := ha.at_ (i := 0) (by omega)
  have hx2' : Ar.mk 0 [.mk 0 1 []] = Ar.mk line2 items := Option.some.inj hx2
  injection hx2' with _ hx4
  subst hx4
  have hn4 : n3 = 1 := hi.len.symm
  subst hn4
  have hd := dg8
  obtain ⟨d1', d2', hds⟩ : ∃ d1 d2, diagsP (llP txt8) = [d1, d2] := by
    have hl2 := congrArg List.length hd
    rw [List.length_map] at hl2
    match hh : diagsP (llP txt8), hl2 with
    | [x, y], _ => exact ⟨x, y, rfl⟩
  rw [hds] at h4 hd
  simp only [List.map_cons, List.map_nil, List.cons.injEq, and_true] at hd
  obtain ⟨gd, cd, rfl, _, hgd⟩ := h4.form (by simp)
  simp only [Nat.zero_mul, Nat.add_zero] at c0 c2 d0 d1
  refine ⟨b, off, cI, b2, off2, c', k0, line2, A3, c3, gd, cd, rfl, h5, h3', h1, h2, hbl, hbl2, hgd, c0, c2, d0, d1, ?_, ?_⟩
  · rw [World.ownsRow.cellAt (n := 2) h4 0 (by omega)]
    simp [dgtCells, hd.1]
  · rw [World.ownsRow.cellAt (n := 2) h4 4 (by omega)]
    simp [dgtCells, hd.2]

set_option maxRecDepth 1000000 in
set_option maxHeartbeats 2000000 in
theorem awake8_any (w : World) : Calls Try.prog 21 #[] w fun e w' => e = .returned (.bool true) ∧ Below w.heap.size w w' := by
  have HA := Lib.hid ((lines8_any txt8 w (by decide) (by rw [ll8]; omega)).mono (fun e w' (h : LnsRet w (llP txt8) e w') => (show ∃ A c, e = .returned (.slice A 7 c) ∧ Lns w' (fun _ => True) A 7 (llP txt8) ∧ Below w.heap.size w w' by
    obtain ⟨A, c, rfl, _, _, h1, h2⟩ := h
    rw [ll8] at h1 ⊢
    exact ⟨A, c, rfl, h1, h2⟩)))
  go_enter Try.func21, Try.ntmps21
  go_wp2_with fail
  refine HA.out.mono ?_
  rintro e w1 ⟨A, c, rfl, hL, hb1⟩
  go_wp2_with fail
  refine (build8 w1 hL).mono ?_
  rintro e w2 ⟨b, off, cI, b2, off2, c2, k0, l0, A3, c3, gd, cd, rfl, hb2, hI, hcI, hcm, hbl, hbl2, hgd, e0, e2, f0, f1, g0, g4⟩
  have hbb := below_chain hb1 hb2
  have HD := Lib.hid (deep_any _ 2 cI its8 w2 hI hcI hcm (by rw [dp8]; omega))
  have HF := fun w' hb => Lib.hid (flat_any _ 2 cI its8 w' (hI.below (w' := w') hb) hcI hcm (by rw [fl8]; simp))
  have hd1 := dp8
  have hfl : (flatIs its8).length = 5 := by rw [fl8]; rfl
  have HFL := Lib.hid hfl
  rw [hd1] at HD
  clear hd1 hfl hb1 hb2 hI hL HA
  go_wp2_with fail
  refine HD.out.mono ?_
  rintro e w3 ⟨rfl, hb3⟩
  go_wp2_with fail
  refine (HF _ hb3).out.mono ?_
  rintro e w4 ⟨v, rfl, hown, hb4⟩
  obtain ⟨A4, c4, rfl, _⟩ := own_form hown
  rw [HFL.out]
  have hbz := below_chain (below_chain hbb hb3) hb4
  clear hown hb3 hb4 hbb HF HD
  go_wp2_with fail
  go_ret
  exact ⟨rfl, hbz⟩
end Go.Proofs.Ytjklnlocmmnclaa
