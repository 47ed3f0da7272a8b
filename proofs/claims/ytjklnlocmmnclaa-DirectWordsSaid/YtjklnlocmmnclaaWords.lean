/- DirectWords: for every kind, blanks, spelling of the hash and rest the law returns true, and the texts read as before. -/
import Derived.Test.YtjklnlocmmnclaaRows
import Derived.Test.YtjklnlocmmnclaaFa
import Derived.Test.YtjklnlocmmnclaaLc
import Derived.ChangeMaps5
import Derived.Carry
namespace Go.Proofs.Ytjklnlocmmnclaa
open Go.ChangeShapes Go.WideShapes Go.ChangeAt Go.RowKit

theorem words_own : ownKnob Try.prog.godebug = none := by kernel_rfl
set_option maxRecDepth 100000 in
theorem words_lifted (os : Os) (started : os.Started) (H : Type) (enc : TypeId × Value → H) :
    ReturnsInHanded {} Try.checked os 4 .any (Rows.directWordsSpec.pre6 enc Try.prog Try.f4 Rows.directWordsRow.domain false) (Rows.directWordsSpec.post enc Try.prog Try.f4 false true false false) := by
  refine returnsInHanded_of_change (C := Try.checked) words_own started (by kernel_rfl) Try.func4
    (ChangeSpec.witness6 (enc := enc) (C := Try.checked) false ⟨#[], #[.int .i64 0, .string ⟨#[]⟩, .bool false, .string ⟨#[]⟩], []⟩ 8 (by kernel_rfl) (by kernel_rfl) (by kernel_rfl) (by kernel_rfl)) ?_
  intro W base args ds gs before hval0 hW hcnd _
  have hval : ∀ (j : Nat) t v, Try.f4.params[j]? = some t → args[j]? = some v → Value.okWide Try.prog W .any base t v := hval0
  have hW' := hW
  obtain ⟨p, q, hA0, hV, rfl, hfz, hnd⟩ := hW
  have hA : DataW.TrodAll enc Try.prog W 0 (fun _ => true) true Try.f4.params.toList args.toList ds p := hA0
  rw [Try.params4] at hA hval
  obtain ⟨v0, v1, v2, v3, d0, d1, d2, d3, p0, p1, p2, p3, rfl, rfl, rfl, h0, h1, h2, h3⟩ := trodAll_four hA
  obtain ⟨rfl, rfl⟩ := trodVars_none hV
  obtain ⟨k, rfl, rfl, rfl, wk⟩ := open_int Try.underlying3 (hval 0 3 v0 rfl rfl) h0
  obtain ⟨bl, rfl, rfl, rfl, hbl⟩ := Go.ChangeMaps.open_string Try.underlying9 (hval 1 9 v1 rfl rfl) h1
  obtain ⟨dg, rfl, rfl, rfl⟩ := open_bool Try.underlying4 (hval 2 4 v2 rfl rfl) h2
  obtain ⟨re, rfl, rfl, rfl, hre⟩ := Go.ChangeMaps.open_string Try.underlying9 (hval 3 9 v3 rfl rfl) h3
  clear hA0 hval0
  simp only [List.append_nil] at hW'
  refine (directWords_any k bl dg re W hbl hre).mono fun e W' ⟨he, hb⟩ => ?_
  subst he
  exact ⟨_, rfl, post_of_below (pa := []) (pv := []) hW' (fun _ _ _ => trodAll_mk1 (shut_bool Try.underlying4 _))
    (fun sp _ => trodAll_mk4 (shut_int (enc := enc) (w := W') (base := 0) (spare := sp) (held := true) Try.underlying3 wk) (Go.ChangeMaps.shut_string (enc := enc) (w := W') (base := 0) (sp := sp) (held := true) Try.underlying9 hbl)
      (shut_bool (enc := enc) (w := W') (base := 0) (spare := sp) (held := true) Try.underlying4 dg) (Go.ChangeMaps.shut_string (enc := enc) (w := W') (base := 0) (sp := sp) (held := true) Try.underlying9 hre))
    (fun _ _ => rfl) (by simp) hb (ok_one (by kernel_rfl) rfl (okWide_bool_mk Try.underlying4 _))⟩

theorem words_holds : Rows.DirectWordsSaid :=
  OpenClaim.holds_of_wide 4 Try.f4 rfl rfl rfl rfl rfl rfl rfl ⟨rfl, rfl, rfl, rfl, rfl⟩ rfl rfl rfl rfl rfl (by kernel_rfl) Try.func4 (by kernel_rfl)
    (of_decide_eq_true (by kernel_rfl)) (by unfold Func.isWrapper; first | (rw [if_pos (by decide +kernel)]; kernel_rfl) | (rw [if_neg (by decide +kernel)]; exact ⟨rfl, rfl⟩))
    (fun os started H enc _ => words_lifted os started H enc)
#print axioms words_holds
end Go.Proofs.Ytjklnlocmmnclaa
