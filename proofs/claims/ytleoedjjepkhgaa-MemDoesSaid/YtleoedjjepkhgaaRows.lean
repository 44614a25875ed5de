/-
  No cell of these rows narrows 'for every input' (looked for: loops, veiled, ifaces, maps, wideKeys, modest, calm, conditions, laid).
  DERIVED. THE GIVEN ROWS OF THIS SEAT. 4 by the template 'for every input the law returns true; each argument reads behind the call as it read before'; 0 by the template 'total and deterministic' (their statements: YtleoedjjepkhgaaTotals.lean).
  GIVEN WITH THE SEED: the statements are not yours to turn. If you find one false, say at which input.
  Laid BY PROGRAM, IN A SANDBOX (cutbox-rows.mjs): the forced cells as the released guide's own fill.sh prints them over the translation 2538426ece25ed55… (all of the seat's roots in one cut). By AI agents, Wed Nov 11 2026. No macro, syntax, notation, axiom, sorry.
-/
import Derived.Test.YtleoedjjepkhgaaChecked
import GoSem.Claim
import GoSem.ClaimJoined
import GoSem.ClaimMapViews
import Derived.JoinedTies
import Derived.KernelRfl
namespace Go.Proofs.Ytleoedjjepkhgaa
/- THE CELL 'sum', in the pinned program and in every row, IS THE sha256 OF THE DUMP (.gsa) THAT YtleoedjjepkhgaaProg.lean LOADS. Nothing in Lean hashes anything: it is a label: what it is worth is what the hold of that sum in a sandbox is worth. -/
noncomputable def Try.pinned : Pinned := { name := "ytleoedjjepkhgaa", sum := "2538426ece25ed553bcb009e50b290221aec4527bbf0592fb04beba77bf42723", checked := Try.checked }
namespace Rows
def none {H : Type} : Left H := { results := [], args := [] }

/-- 'grapnellaw04.MemSame': WHATEVER THE INPUT: true; the input reads as it did. -/
def memSameSpec : ChangeSpec := { name := "memSame", fn := fun _ => fun
  | [d1, d2] => { results := [.lit (.bool true)], args := [d1, d2] }
  | _ => none }
def memSameRow : OpenClaim := { program := "ytleoedjjepkhgaa", sum := "2538426ece25ed553bcb009e50b290221aec4527bbf0592fb04beba77bf42723", func := "grapnel/grapnellaw04.MemSame", spec := "memSame", unfollowed := true, recurses := true, apart := false }
def MemSameSaid : Prop := memSameRow.holds Try.pinned (OpenSpec.ofChange memSameSpec)

/-- ITS FALSE NEIGHBOUR: 'it returns false'. Refute it at one input. -/
def memSameWrong : ChangeSpec := { name := "memSame", fn := fun _ => fun
  | [d1, d2] => { results := [.lit (.bool false)], args := [d1, d2] }
  | _ => none }
def MemSameWrongFalsely : Prop := memSameRow.holds Try.pinned (OpenSpec.ofChange memSameWrong)

/-- 'grapnellaw04.MemFull': WHATEVER THE INPUT: true; the input reads as it did. -/
def memFullSpec : ChangeSpec := { name := "memFull", fn := fun _ => fun
  | [d1, d2] => { results := [.lit (.bool true)], args := [d1, d2] }
  | _ => none }
def memFullRow : OpenClaim := { program := "ytleoedjjepkhgaa", sum := "2538426ece25ed553bcb009e50b290221aec4527bbf0592fb04beba77bf42723", func := "grapnel/grapnellaw04.MemFull", spec := "memFull", unfollowed := true, recurses := true, apart := false }
def MemFullSaid : Prop := memFullRow.holds Try.pinned (OpenSpec.ofChange memFullSpec)

/-- ITS FALSE NEIGHBOUR: 'it returns false'. Refute it at one input. -/
def memFullWrong : ChangeSpec := { name := "memFull", fn := fun _ => fun
  | [d1, d2] => { results := [.lit (.bool false)], args := [d1, d2] }
  | _ => none }
def MemFullWrongFalsely : Prop := memFullRow.holds Try.pinned (OpenSpec.ofChange memFullWrong)

/-- 'grapnellaw04.MemMore': WHATEVER THE INPUT: true; the input reads as it did. -/
def memMoreSpec : ChangeSpec := { name := "memMore", fn := fun _ => fun
  | [d1, d2, d3] => { results := [.lit (.bool true)], args := [d1, d2, d3] }
  | _ => none }
def memMoreRow : OpenClaim := { program := "ytleoedjjepkhgaa", sum := "2538426ece25ed553bcb009e50b290221aec4527bbf0592fb04beba77bf42723", func := "grapnel/grapnellaw04.MemMore", spec := "memMore", unfollowed := true, recurses := true, apart := false }
def MemMoreSaid : Prop := memMoreRow.holds Try.pinned (OpenSpec.ofChange memMoreSpec)

/-- ITS FALSE NEIGHBOUR: 'it returns false'. Refute it at one input. -/
def memMoreWrong : ChangeSpec := { name := "memMore", fn := fun _ => fun
  | [d1, d2, d3] => { results := [.lit (.bool false)], args := [d1, d2, d3] }
  | _ => none }
def MemMoreWrongFalsely : Prop := memMoreRow.holds Try.pinned (OpenSpec.ofChange memMoreWrong)

/-- 'grapnellaw04.MemDoes': WHATEVER THE INPUT: true; the input reads as it did. -/
def memDoesSpec : ChangeSpec := { name := "memDoes", fn := fun _ => fun
  | [d1, d2] => { results := [.lit (.bool true)], args := [d1, d2] }
  | _ => none }
def memDoesRow : OpenClaim := { program := "ytleoedjjepkhgaa", sum := "2538426ece25ed553bcb009e50b290221aec4527bbf0592fb04beba77bf42723", func := "grapnel/grapnellaw04.MemDoes", spec := "memDoes", unfollowed := true, recurses := true, apart := false }
def MemDoesSaid : Prop := memDoesRow.holds Try.pinned (OpenSpec.ofChange memDoesSpec)

/-- ITS FALSE NEIGHBOUR: 'it returns false'. Refute it at one input. -/
def memDoesWrong : ChangeSpec := { name := "memDoes", fn := fun _ => fun
  | [d1, d2] => { results := [.lit (.bool false)], args := [d1, d2] }
  | _ => none }
def MemDoesWrongFalsely : Prop := memDoesRow.holds Try.pinned (OpenSpec.ofChange memDoesWrong)

/- THE SECOND FORM. 'bulk': how many values and letters a reading holds, each counted each time it is reached (what is shared counts as often as it is met; a slice's spare places count too). A statement '..UptoSaid' is the law's where the arguments, and the package variables that the reading takes, are together of bulk at most 1048576: NARROWER than '..Said'. Prove '..Said' where nothing that the law and all that it calls make is longer than what came in: it says more and counts as full. Else prove '..UptoSaid'. A law counts once. -/
mutual
def uptoBulk {H : Type} : DataW H → Nat
  | .lit (.string bytes) => bytes.length + 1
  | .lit _ => 1
  | .nil => 1
  | .ptr d => uptoBulk d + 1
  | .slice elems spare => uptoBulkAll elems + uptoBulkAll spare + 1
  | .agg parts => uptoBulkAll parts + 1
  | .iface _ d => uptoBulk d + 1
  | .map entries => uptoBulkEntries entries + 1
  | .held _ => 1
def uptoBulkAll {H : Type} : List (DataW H) → Nat
  | [] => 0
  | d :: r => uptoBulk d + uptoBulkAll r
def uptoBulkEntries {H : Type} : List (Lit × DataW H) → Nat
  | [] => 0
  | x :: r => uptoBulkEntry x + uptoBulkEntries r
def uptoBulkEntry {H : Type} : Lit × DataW H → Nat
  | (.string bytes, d) => bytes.length + uptoBulk d + 1
  | (_, d) => uptoBulk d + 1
 end
def uptoSmall : (H : Type) → List (DataW H) → Bool := fun _ ds => decide (uptoBulkAll ds ≤ 1048576)
def OpenSpec.upto (s : _root_.Go.ChangeSpec) : _root_.Go.OpenSpec := { _root_.Go.OpenSpec.ofChange s with cond := some uptoSmall }

/-- 'grapnellaw04.MemSame', WHERE WHAT IT READS IS OF BULK AT MOST 1048576: true; the input reads as it did. -/
def memSameUptoRow : OpenClaim := { program := "ytleoedjjepkhgaa", sum := "2538426ece25ed553bcb009e50b290221aec4527bbf0592fb04beba77bf42723", func := "grapnel/grapnellaw04.MemSame", spec := "memSame", unfollowed := true, recurses := true, apart := false, narrowed := true }
def MemSameUptoSaid : Prop := memSameUptoRow.holds Try.pinned (OpenSpec.upto memSameSpec)

/-- 'grapnellaw04.MemFull', WHERE WHAT IT READS IS OF BULK AT MOST 1048576: true; the input reads as it did. -/
def memFullUptoRow : OpenClaim := { program := "ytleoedjjepkhgaa", sum := "2538426ece25ed553bcb009e50b290221aec4527bbf0592fb04beba77bf42723", func := "grapnel/grapnellaw04.MemFull", spec := "memFull", unfollowed := true, recurses := true, apart := false, narrowed := true }
def MemFullUptoSaid : Prop := memFullUptoRow.holds Try.pinned (OpenSpec.upto memFullSpec)

/-- 'grapnellaw04.MemMore', WHERE WHAT IT READS IS OF BULK AT MOST 1048576: true; the input reads as it did. -/
def memMoreUptoRow : OpenClaim := { program := "ytleoedjjepkhgaa", sum := "2538426ece25ed553bcb009e50b290221aec4527bbf0592fb04beba77bf42723", func := "grapnel/grapnellaw04.MemMore", spec := "memMore", unfollowed := true, recurses := true, apart := false, narrowed := true }
def MemMoreUptoSaid : Prop := memMoreUptoRow.holds Try.pinned (OpenSpec.upto memMoreSpec)

/-- 'grapnellaw04.MemDoes', WHERE WHAT IT READS IS OF BULK AT MOST 1048576: true; the input reads as it did. -/
def memDoesUptoRow : OpenClaim := { program := "ytleoedjjepkhgaa", sum := "2538426ece25ed553bcb009e50b290221aec4527bbf0592fb04beba77bf42723", func := "grapnel/grapnellaw04.MemDoes", spec := "memDoes", unfollowed := true, recurses := true, apart := false, narrowed := true }
def MemDoesUptoSaid : Prop := memDoesUptoRow.holds Try.pinned (OpenSpec.upto memDoesSpec)

end Rows
end Go.Proofs.Ytleoedjjepkhgaa
