import Derived.Test.YtleoedjjepkhgaaDoer
/- place: one of eight. -/
namespace Go.Proofs.Ytleoedjjepkhgaa
open Go.RowKit

theorem place_any (c : Int) (w : World) :
    Calls Try.prog 31 #[.int .i64 c] w fun e w' => e = .returned (.int .i64 (placeOf c : Nat)) ∧ w' = w := by
  have h0 : (0 : Int) ≤ w64 c := by unfold w64; omega
  have h1 : w64 c < 18446744073709551616 := by unfold w64; omega
  go_enter Try.func31, Try.ntmps31
  go_wp2
  go_ret
  refine ⟨ret_i ?_, rfl⟩
  have h2 : IntKind.u64.wrap c = w64 c := by unfold w64; simp only [IntKind.wrap]; rfl
  rw [h2, Int.tmod_eq_emod_of_nonneg h0]
  have h3 : wrap64 (w64 c % 8) = w64 c % 8 := by unfold wrap64; omega
  rw [h3]
  unfold placeOf
  omega

end Go.Proofs.Ytleoedjjepkhgaa
