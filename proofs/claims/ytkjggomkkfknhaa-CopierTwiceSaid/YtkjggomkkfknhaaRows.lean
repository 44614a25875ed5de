/-
  No cell of these rows narrows 'for every input' (looked for: loops, veiled, ifaces, maps, wideKeys, modest, calm, conditions, laid).
  DERIVED. THE GIVEN ROWS OF THIS SEAT. 6 by the template 'for every input the law returns true; each argument reads behind the call as it read before'; 0 by the template 'total and deterministic' (their statements: YtkjggomkkfknhaaTotals.lean).
  GIVEN WITH THE SEED: the statements are not yours to turn. If you find one false, say at which input.
  Laid BY PROGRAM, IN A SANDBOX (cutbox-rows.mjs): the forced cells as the released guide's own fill.sh prints them over the translation 78fb5a21c5037c98… (all of the seat's roots in one cut). By AI agents, Wed Nov 11 2026. No macro, syntax, notation, axiom, sorry.
-/
import Derived.Test.YtkjggomkkfknhaaChecked
import GoSem.Claim
import GoSem.ClaimJoined
import GoSem.ClaimMapViews
import Derived.JoinedTies
import Derived.KernelRfl
namespace Go.Proofs.Ytkjggomkkfknhaa
/- THE CELL 'sum', in the pinned program and in every row, IS THE sha256 OF THE DUMP (.gsa) THAT YtkjggomkkfknhaaProg.lean LOADS. Nothing in Lean hashes anything: it is a label: what it is worth is what the hold of that sum in a sandbox is worth. -/
noncomputable def Try.pinned : Pinned := { name := "ytkjggomkkfknhaa", sum := "78fb5a21c5037c982bdeb6e83e3cccf85ab3a8b3962ffbae754a8b78652c5d04", checked := Try.checked }
namespace Rows
def none {H : Type} : Left H := { results := [], args := [] }

/-- 'grapnellaw03.CopierDoes': WHATEVER THE INPUT: true; the input reads as it did. -/
def copierDoesSpec : ChangeSpec := { name := "copierDoes", fn := fun _ => fun
  | [d1, d2, d3, d4] => { results := [.lit (.bool true)], args := [d1, d2, d3, d4] }
  | _ => none }
def copierDoesRow : OpenClaim := { program := "ytkjggomkkfknhaa", sum := "78fb5a21c5037c982bdeb6e83e3cccf85ab3a8b3962ffbae754a8b78652c5d04", func := "grapnel/grapnellaw03.CopierDoes", spec := "copierDoes", unfollowed := true, recurses := true, apart := false }
def CopierDoesSaid : Prop := copierDoesRow.holds Try.pinned (OpenSpec.ofChange copierDoesSpec)

/-- ITS FALSE NEIGHBOUR: 'it returns false'. Refute it at one input. -/
def copierDoesWrong : ChangeSpec := { name := "copierDoes", fn := fun _ => fun
  | [d1, d2, d3, d4] => { results := [.lit (.bool false)], args := [d1, d2, d3, d4] }
  | _ => none }
def CopierDoesWrongFalsely : Prop := copierDoesRow.holds Try.pinned (OpenSpec.ofChange copierDoesWrong)

/-- 'grapnellaw03.CopierReach': WHATEVER THE INPUT: true; the input reads as it did. -/
def copierReachSpec : ChangeSpec := { name := "copierReach", fn := fun _ => fun
  | [d1, d2, d3] => { results := [.lit (.bool true)], args := [d1, d2, d3] }
  | _ => none }
def copierReachRow : OpenClaim := { program := "ytkjggomkkfknhaa", sum := "78fb5a21c5037c982bdeb6e83e3cccf85ab3a8b3962ffbae754a8b78652c5d04", func := "grapnel/grapnellaw03.CopierReach", spec := "copierReach", unfollowed := true, recurses := true, apart := false }
def CopierReachSaid : Prop := copierReachRow.holds Try.pinned (OpenSpec.ofChange copierReachSpec)

/-- ITS FALSE NEIGHBOUR: 'it returns false'. Refute it at one input. -/
def copierReachWrong : ChangeSpec := { name := "copierReach", fn := fun _ => fun
  | [d1, d2, d3] => { results := [.lit (.bool false)], args := [d1, d2, d3] }
  | _ => none }
def CopierReachWrongFalsely : Prop := copierReachRow.holds Try.pinned (OpenSpec.ofChange copierReachWrong)

/-- 'grapnellaw03.CopierSame': WHATEVER THE INPUT: true; the input reads as it did. -/
def copierSameSpec : ChangeSpec := { name := "copierSame", fn := fun _ => fun
  | [d1, d2, d3] => { results := [.lit (.bool true)], args := [d1, d2, d3] }
  | _ => none }
def copierSameRow : OpenClaim := { program := "ytkjggomkkfknhaa", sum := "78fb5a21c5037c982bdeb6e83e3cccf85ab3a8b3962ffbae754a8b78652c5d04", func := "grapnel/grapnellaw03.CopierSame", spec := "copierSame", unfollowed := true, recurses := true, apart := false }
def CopierSameSaid : Prop := copierSameRow.holds Try.pinned (OpenSpec.ofChange copierSameSpec)

/-- ITS FALSE NEIGHBOUR: 'it returns false'. Refute it at one input. -/
def copierSameWrong : ChangeSpec := { name := "copierSame", fn := fun _ => fun
  | [d1, d2, d3] => { results := [.lit (.bool false)], args := [d1, d2, d3] }
  | _ => none }
def CopierSameWrongFalsely : Prop := copierSameRow.holds Try.pinned (OpenSpec.ofChange copierSameWrong)

/-- 'grapnellaw03.CopierFrees': WHATEVER THE INPUT: true; the input reads as it did. -/
def copierFreesSpec : ChangeSpec := { name := "copierFrees", fn := fun _ => fun
  | [d1, d2, d3] => { results := [.lit (.bool true)], args := [d1, d2, d3] }
  | _ => none }
def copierFreesRow : OpenClaim := { program := "ytkjggomkkfknhaa", sum := "78fb5a21c5037c982bdeb6e83e3cccf85ab3a8b3962ffbae754a8b78652c5d04", func := "grapnel/grapnellaw03.CopierFrees", spec := "copierFrees", unfollowed := true, recurses := true, apart := false }
def CopierFreesSaid : Prop := copierFreesRow.holds Try.pinned (OpenSpec.ofChange copierFreesSpec)

/-- ITS FALSE NEIGHBOUR: 'it returns false'. Refute it at one input. -/
def copierFreesWrong : ChangeSpec := { name := "copierFrees", fn := fun _ => fun
  | [d1, d2, d3] => { results := [.lit (.bool false)], args := [d1, d2, d3] }
  | _ => none }
def CopierFreesWrongFalsely : Prop := copierFreesRow.holds Try.pinned (OpenSpec.ofChange copierFreesWrong)

/-- 'grapnellaw03.CopierTwice': WHATEVER THE INPUT: true; the input reads as it did. -/
def copierTwiceSpec : ChangeSpec := { name := "copierTwice", fn := fun _ => fun
  | [d1, d2, d3] => { results := [.lit (.bool true)], args := [d1, d2, d3] }
  | _ => none }
def copierTwiceRow : OpenClaim := { program := "ytkjggomkkfknhaa", sum := "78fb5a21c5037c982bdeb6e83e3cccf85ab3a8b3962ffbae754a8b78652c5d04", func := "grapnel/grapnellaw03.CopierTwice", spec := "copierTwice", unfollowed := true, recurses := true, apart := false }
def CopierTwiceSaid : Prop := copierTwiceRow.holds Try.pinned (OpenSpec.ofChange copierTwiceSpec)

/-- ITS FALSE NEIGHBOUR: 'it returns false'. Refute it at one input. -/
def copierTwiceWrong : ChangeSpec := { name := "copierTwice", fn := fun _ => fun
  | [d1, d2, d3] => { results := [.lit (.bool false)], args := [d1, d2, d3] }
  | _ => none }
def CopierTwiceWrongFalsely : Prop := copierTwiceRow.holds Try.pinned (OpenSpec.ofChange copierTwiceWrong)

/-- 'grapnellaw03.CopierOrder': WHATEVER THE INPUT: true; the input reads as it did. -/
def copierOrderSpec : ChangeSpec := { name := "copierOrder", fn := fun _ => fun
  | [d1, d2, d3] => { results := [.lit (.bool true)], args := [d1, d2, d3] }
  | _ => none }
def copierOrderRow : OpenClaim := { program := "ytkjggomkkfknhaa", sum := "78fb5a21c5037c982bdeb6e83e3cccf85ab3a8b3962ffbae754a8b78652c5d04", func := "grapnel/grapnellaw03.CopierOrder", spec := "copierOrder", unfollowed := true, recurses := true, apart := false }
def CopierOrderSaid : Prop := copierOrderRow.holds Try.pinned (OpenSpec.ofChange copierOrderSpec)

/-- ITS FALSE NEIGHBOUR: 'it returns false'. Refute it at one input. -/
def copierOrderWrong : ChangeSpec := { name := "copierOrder", fn := fun _ => fun
  | [d1, d2, d3] => { results := [.lit (.bool false)], args := [d1, d2, d3] }
  | _ => none }
def CopierOrderWrongFalsely : Prop := copierOrderRow.holds Try.pinned (OpenSpec.ofChange copierOrderWrong)

/- THE SECOND FORM. 'bulk': how many values and letters a reading holds, each counted each time it is reached (what is shared counts as often as it is met; a slice's spare places count too). A statement '..UptoSaid' is the law's where the arguments, and the package variables that the reading takes, are together of bulk at most 1048576: NARROWER than '..Said'. Prove '..Said' where nothing that the law and all that it calls make is longer than what came in: it says more and counts as full. Else prove '..UptoSaid'. A law counts once. -/
mutual
def uptoBulk {H : Type} : DataW H → Nat
  | .lit (.string bytes) => bytes.length + 1
  | .lit _ => 1
  | .nil => 1
  | .ptr d => uptoBulk d + 1
  | .slice elems spare => uptoBulkAll elems + uptoBulkAll spare + 1
  | .agg parts => uptoBulkAll parts + 1
  | .iface _ d => uptoBulk d + 1
  | .map entries => uptoBulkEntries entries + 1
  | .held _ => 1
def uptoBulkAll {H : Type} : List (DataW H) → Nat
  | [] => 0
  | d :: r => uptoBulk d + uptoBulkAll r
def uptoBulkEntries {H : Type} : List (Lit × DataW H) → Nat
  | [] => 0
  | x :: r => uptoBulkEntry x + uptoBulkEntries r
def uptoBulkEntry {H : Type} : Lit × DataW H → Nat
  | (.string bytes, d) => bytes.length + uptoBulk d + 1
  | (_, d) => uptoBulk d + 1
 end
def uptoSmall : (H : Type) → List (DataW H) → Bool := fun _ ds => decide (uptoBulkAll ds ≤ 1048576)
def OpenSpec.upto (s : _root_.Go.ChangeSpec) : _root_.Go.OpenSpec := { _root_.Go.OpenSpec.ofChange s with cond := some uptoSmall }

/-- 'grapnellaw03.CopierDoes', WHERE WHAT IT READS IS OF BULK AT MOST 1048576: true; the input reads as it did. -/
def copierDoesUptoRow : OpenClaim := { program := "ytkjggomkkfknhaa", sum := "78fb5a21c5037c982bdeb6e83e3cccf85ab3a8b3962ffbae754a8b78652c5d04", func := "grapnel/grapnellaw03.CopierDoes", spec := "copierDoes", unfollowed := true, recurses := true, apart := false, narrowed := true }
def CopierDoesUptoSaid : Prop := copierDoesUptoRow.holds Try.pinned (OpenSpec.upto copierDoesSpec)

/-- 'grapnellaw03.CopierReach', WHERE WHAT IT READS IS OF BULK AT MOST 1048576: true; the input reads as it did. -/
def copierReachUptoRow : OpenClaim := { program := "ytkjggomkkfknhaa", sum := "78fb5a21c5037c982bdeb6e83e3cccf85ab3a8b3962ffbae754a8b78652c5d04", func := "grapnel/grapnellaw03.CopierReach", spec := "copierReach", unfollowed := true, recurses := true, apart := false, narrowed := true }
def CopierReachUptoSaid : Prop := copierReachUptoRow.holds Try.pinned (OpenSpec.upto copierReachSpec)

/-- 'grapnellaw03.CopierSame', WHERE WHAT IT READS IS OF BULK AT MOST 1048576: true; the input reads as it did. -/
def copierSameUptoRow : OpenClaim := { program := "ytkjggomkkfknhaa", sum := "78fb5a21c5037c982bdeb6e83e3cccf85ab3a8b3962ffbae754a8b78652c5d04", func := "grapnel/grapnellaw03.CopierSame", spec := "copierSame", unfollowed := true, recurses := true, apart := false, narrowed := true }
def CopierSameUptoSaid : Prop := copierSameUptoRow.holds Try.pinned (OpenSpec.upto copierSameSpec)

/-- 'grapnellaw03.CopierFrees', WHERE WHAT IT READS IS OF BULK AT MOST 1048576: true; the input reads as it did. -/
def copierFreesUptoRow : OpenClaim := { program := "ytkjggomkkfknhaa", sum := "78fb5a21c5037c982bdeb6e83e3cccf85ab3a8b3962ffbae754a8b78652c5d04", func := "grapnel/grapnellaw03.CopierFrees", spec := "copierFrees", unfollowed := true, recurses := true, apart := false, narrowed := true }
def CopierFreesUptoSaid : Prop := copierFreesUptoRow.holds Try.pinned (OpenSpec.upto copierFreesSpec)

/-- 'grapnellaw03.CopierTwice', WHERE WHAT IT READS IS OF BULK AT MOST 1048576: true; the input reads as it did. -/
def copierTwiceUptoRow : OpenClaim := { program := "ytkjggomkkfknhaa", sum := "78fb5a21c5037c982bdeb6e83e3cccf85ab3a8b3962ffbae754a8b78652c5d04", func := "grapnel/grapnellaw03.CopierTwice", spec := "copierTwice", unfollowed := true, recurses := true, apart := false, narrowed := true }
def CopierTwiceUptoSaid : Prop := copierTwiceUptoRow.holds Try.pinned (OpenSpec.upto copierTwiceSpec)

/-- 'grapnellaw03.CopierOrder', WHERE WHAT IT READS IS OF BULK AT MOST 1048576: true; the input reads as it did. -/
def copierOrderUptoRow : OpenClaim := { program := "ytkjggomkkfknhaa", sum := "78fb5a21c5037c982bdeb6e83e3cccf85ab3a8b3962ffbae754a8b78652c5d04", func := "grapnel/grapnellaw03.CopierOrder", spec := "copierOrder", unfollowed := true, recurses := true, apart := false, narrowed := true }
def CopierOrderUptoSaid : Prop := copierOrderUptoRow.holds Try.pinned (OpenSpec.upto copierOrderSpec)

end Rows
end Go.Proofs.Ytkjggomkkfknhaa
