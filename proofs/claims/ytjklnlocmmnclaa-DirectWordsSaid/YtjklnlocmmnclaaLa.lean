/- Walks: DirectWords. -/
import Derived.Test.YtjklnlocmmnclaaWt
import Derived.Test.YtjklnlocmmnclaaPf9
namespace Go.Proofs.Ytjklnlocmmnclaa
open Go.RowKit

theorem round_any (a : Int) (w : World) : Calls Try.prog 19 #[.int .i64 a, .int .i64 12] w fun e w' => ∃ m : Nat, m < 12 ∧ e = .returned (.int .i64 (m : Int)) ∧ w' = w := by
  have h1 : -12 < a.tmod 12 ∧ a.tmod 12 < 12 := ⟨by have := Int.lt_tmod_of_pos a (b := 12) (by decide); omega, Int.tmod_lt_of_pos a (by decide)⟩
  obtain ⟨m, hm⟩ : ∃ m : Nat, (a.tmod 12 + 12) % 12 = (m : Int) := ⟨((a.tmod 12 + 12) % 12).toNat, by omega⟩
  have hm12 : m < 12 := by omega
  have hw1 : IntKind.i64.wrap (a.tmod 12) = a.tmod 12 := IntWalk.i64_in _ (by omega)
  have hw2 : IntKind.i64.wrap (a.tmod 12 + 12) = a.tmod 12 + 12 := IntWalk.i64_in _ (by omega)
  go_enter Try.func19, Try.ntmps19
  go_wp2
  rw [hm]
  go_ret
  exact ⟨m, hm12, rfl, rfl⟩
end Go.Proofs.Ytjklnlocmmnclaa
