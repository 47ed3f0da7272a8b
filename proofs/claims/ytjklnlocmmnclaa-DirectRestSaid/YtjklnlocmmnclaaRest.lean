/- DirectRest: for all tokens the law returns true, and the tokens read as before. -/
import Derived.Test.YtjklnlocmmnclaaRows
import Derived.Test.YtjklnlocmmnclaaFa
import Derived.Test.YtjklnlocmmnclaaWv
namespace Go.Proofs.Ytjklnlocmmnclaa
open Go.ChangeShapes Go.WideShapes Go.ChangeAt Go.RowKit

theorem lawRest_own : ownKnob Try.prog.godebug = none := by kernel_rfl
theorem lawRest_laid : laidOutB Try.prog = true := by kernel_rfl
set_option maxRecDepth 100000 in
theorem lawRest_lifted (os : Os) (started : os.Started) (H : Type) (enc : TypeId × Value → H) :
    ReturnsInHanded {} Try.checked os 5 .any (Rows.directRestSpec.pre6 enc Try.prog Try.f5 Rows.directRestRow.domain false) (Rows.directRestSpec.post enc Try.prog Try.f5 false true false false) := by
  refine returnsInHanded_of_change (C := Try.checked) lawRest_own started (by kernel_rfl) Try.func5
    (ChangeSpec.witness6 (enc := enc) (C := Try.checked) false ⟨#[], #[.slice none 0 0], []⟩ 8 (by kernel_rfl) (by kernel_rfl) (by kernel_rfl) (by kernel_rfl)) ?_
  intro W base args ds gs before hval0 hW hcnd _
  have hval : ∀ (j : Nat) t v, Try.f5.params[j]? = some t → args[j]? = some v → Value.okWide Try.prog W .any base t v := hval0
  have hW' := hW
  obtain ⟨p, q, hA0, hV, rfl, hfz, hnd⟩ := hW
  have hA : DataW.TrodAll enc Try.prog W 0 (fun _ => true) true Try.f5.params.toList args.toList ds p := hA0
  rw [Try.params5] at hA hval
  obtain ⟨v0, d0, rfl, rfl, h0⟩ := trodAll_one hA
  obtain ⟨rfl, rfl⟩ := trodVars_none hV
  obtain ⟨A0, n0, c0, rfl⟩ := okWide_slice Try.underlying22 (hval 0 22 v0 rfl rfl)
  have h0' := h0
  obtain ⟨fuel, h00⟩ := h0
  obtain ⟨A, n, c, l, ss, hcs, hnc, hcm, hT, hsz, hsl, hss⟩ := open_toks h00
  simp only [Value.cells, List.cons.injEq, Value.slice.injEq, and_true] at hcs
  obtain ⟨rfl, rfl, rfl⟩ := hcs
  clear hA0 hval0 h00
  simp only [List.append_nil] at hW'
  refine (directRest_any A0 n0 c0 l ss W hT hnc hcm hsz ⟨hsl, hss⟩).mono fun e W' ⟨he, hb⟩ => ?_
  subst he
  have hlt : ∀ x ∈ p, x.block < W.heap.size := fun x hx => hW'.lt x hx
  exact ⟨_, rfl, post_of_below (pa := p) (pv := []) hW' (fun _ _ _ => trodAll_mk1 (shut_bool Try.underlying4 _))
    (fun sp hsp => by
      have := trodAll_mk1 (WideElems.Trod_stays (sp' := sp) lawRest_laid (by kernel_rfl) (of_decide_eq_true (by kernel_rfl)) h0' (fun x hx => hb.same (hlt x hx)) (fun x hx => hsp x hx))
      exact this)
    (fun _ _ => rfl) (by simp) hb (ok_one (by kernel_rfl) rfl (okWide_bool_mk Try.underlying4 _))⟩

theorem lawRest_holds : Rows.DirectRestSaid :=
  OpenClaim.holds_of_wide 5 Try.f5 rfl rfl rfl rfl rfl rfl rfl ⟨rfl, rfl, rfl, rfl, rfl⟩ rfl rfl rfl rfl rfl (by kernel_rfl) Try.func5 (by kernel_rfl)
    (of_decide_eq_true (by kernel_rfl)) (by unfold Func.isWrapper; first | (rw [if_pos (by decide +kernel)]; kernel_rfl) | (rw [if_neg (by decide +kernel)]; exact ⟨rfl, rfl⟩))
    (fun os started H enc _ => lawRest_lifted os started H enc)
#print axioms lawRest_holds
end Go.Proofs.Ytjklnlocmmnclaa
