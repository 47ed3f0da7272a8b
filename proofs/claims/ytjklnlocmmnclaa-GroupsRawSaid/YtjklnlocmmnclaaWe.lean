/- Walks: characters as a text; bytes as characters. -/
import Derived.Test.YtjklnlocmmnclaaMa9
import Derived.Laws.IdiomStrings
import Derived.Test.YtjklnlocmmnclaaWc
namespace Go.Proofs.Ytjklnlocmmnclaa
open Go.RowKit

def byteV (c : UInt8) : Value := .int .u8 (c.toNat : Int)
theorem run_string_nil (w : World) : (convert 132 9 (.slice none 0 0)).run Try.prog w = .ok (.string ⟨[].toArray⟩) w := by
  rw [run_convert_bytes_string w 132 9 5 none 0 0 Try.underlying132 Try.underlying5 Try.underlying9]
  rfl
theorem own_string {w : World} {base n : Nat} {v : Value} {l : List UInt8} (h : w.ownsRow base 5 1 v n (l.map byteV)) : (convert 132 9 v).run Try.prog w = .ok (.string ⟨l.toArray⟩) w := by
  have hl : l.length = n := by have := h.1; simpa using this
  rcases h.2 with ⟨rfl, rfl⟩ | ⟨g, cap, cur, rfl, hb, hg, hn, hm, _⟩
  · have : l = [] := List.eq_nil_of_length_eq_zero hl
    subst this
    exact run_string_nil w
  · subst hl
    refine run_convert_bytes_back w 132 9 5 ⟨g, 0, none⟩ cap l Try.underlying132 Try.underlying5 Try.underlying9 fun j hj => ?_
    exact h.cells (g := g) rfl j _ (by rw [List.getElem?_map, List.getElem?_eq_getElem hj]; rfl)
theorem ret_str {a b : List UInt8} (h : a = b) : Ending.returned (.string ⟨a.toArray⟩) = .returned (.string ⟨b.toArray⟩) := by rw [h]
theorem take_snoc {α : Type} {l : List α} {k : Nat} {r : α} (h : l[k]? = some r) : l.take (k + 1) = l.take k ++ [r] := by
  rw [List.take_succ_eq_append_getElem (List.getElem?_eq_some_iff.1 h).1, (List.getElem?_eq_some_iff.1 h).2]

set_option maxHeartbeats 400000 in
set_option maxRecDepth 1000000 in
theorem text_any {U : Nat → Prop} (A : Option Addr) (n c : Nat) (l : List Rn) (w : World) (h : Runes w U A n l) (hn : n ≤ 1000000) :
    Calls Try.prog 46 #[.slice A n c] w fun e w' => e = .returned (.string ⟨(textP l).toArray⟩) ∧ Below w.heap.size w w' := by
  have HL := Lib.hid h.len
  go_enter Try.func46, Try.ntmps46
  go_wp2
  go_loopw [3, 4] (fun bv iv wr => ∃ k : Nat, k ≤ n ∧ iv = .int .i64 k ∧ wr.ownsRow w.heap.size 5 1 bv k ((textP (l.take k)).map byteV) ∧ Below w.heap.size w wr) (fun _ iv _ => n - (intOf iv).toNat)
  case atStart => exact ⟨0, by omega, rfl, by simpa [textP] using World.ownsRow_nil w _ 5 1, Below.refl _ _⟩
  case round =>
    obtain ⟨k, hk, rfl, hown, hb⟩ := hrel
    by_cases hlt : k < n
    · obtain ⟨b, off, r, rfl, _, _, hr, hc, _, _⟩ := Runes.at_ (h.below hb) hlt
      have HR := Lib.hid hr
      clear hr
      go_wp2_with (at_builtin; refine app_one el132 _ rfl _ _ rfl w.heap.size _ _ _ rfl hown rfl rfl (by simp [Value.oneCell']) (by omega) (by omega) hb.size ?_; intro g cap w1 hown1 hgrow hat hlt1)
      go_roundw
      case rel =>
        refine ⟨k + 1, by omega, by go_num, ?_, below_app hb hown hgrow hb.size⟩
        rw [take_snoc HR.out]
        simpa [textP, byteV] using hown1
      case measure => simp [intOf]; omega
    · obtain rfl : k = n := by omega
      have kc := own_string hown
      go_wp2
      go_ret
      exact ⟨ret_str (by rw [List.take_of_length_le (by rw [HL.out]; omega)]), hb⟩
end Go.Proofs.Ytjklnlocmmnclaa
