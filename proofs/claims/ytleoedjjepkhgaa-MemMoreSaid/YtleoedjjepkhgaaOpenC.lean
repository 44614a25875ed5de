import Derived.Test.YtleoedjjepkhgaaOpenM
import Derived.Test.YtleoedjjepkhgaaOwn
/- What more is known of the steps that come in. -/
namespace Go.Proofs.Ytleoedjjepkhgaa
open Go.ChangeShapes Go.WideShapes Go.RowKit Go.Deep

theorem open_cap {H : Type} {enc : TypeId × Value → H} {w : World} {base : Nat} {spare : Nat → Bool} {held : Bool} {fuel : Nat} {cs : List Value} {x : DataW H × List MemPlace} (h : DataW.trod enc Try.prog w base spare held fuel 22 cs = some x) :
    ∃ A n cap, cs = [.slice A n cap] ∧ GivenC A cap n := by
  rcases open_slice Try.underlying22 h with ⟨hcs, _⟩ | ⟨a, len, cap, m, n, D, Pl, hcs, hb, hl, hm, hmm, hx, hV⟩
  · exact ⟨none, 0, 0, hcs, ⟨Nat.le_refl _, by omega, fun _ => ⟨rfl, rfl⟩⟩⟩
  · exact ⟨some a, len, cap, hcs, ⟨hl, by unfold maxLen at hm; omega, fun h => by cases h⟩⟩

end Go.Proofs.Ytleoedjjepkhgaa
