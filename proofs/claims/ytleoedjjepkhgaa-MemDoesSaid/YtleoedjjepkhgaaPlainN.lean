import Derived.Test.YtleoedjjepkhgaaReach
import Derived.Deep.LoopGhost
/- Plain facts on what is met, word by word. -/
namespace Go.Proofs.Ytleoedjjepkhgaa
open Go.RowKit

theorem info_int' : (Try.prog.info? 3).map (fun i => (i.zero, i.size, i.bytes)) = some (some (.int .i64 0), 1, 8) := by kernel_rfl

theorem meet_has {S : St} {l : List Nat} {x : Int} : ∀ i d, S.find x = some (i, d) → i ∈ meet S l x := fun _ _ h => mem_meet_self h

theorem take_foldl_pre (S : St) (l : List Int) (k : Nat) (a : List Nat) : (l.take k).foldl (meet S) a <+: l.foldl (meet S) a := by
  conv => rhs; rw [← List.take_append_drop k l, List.foldl_append]
  exact prefix_meets S _ _

theorem take_foldl_succ (S : St) (l : List Int) {k : Nat} (hk : k < l.length) (a : List Nat) : (l.take (k + 1)).foldl (meet S) a = meet S ((l.take k).foldl (meet S) a) (wat l k) := by
  rw [List.take_add_one, wat_get hk, List.foldl_append]; rfl

theorem take_map_succ {α : Type} (f : Int → α) (l : List Int) {k : Nat} (hk : k < l.length) : (l.take (k + 1)).map f = (l.take k).map f ++ [f (wat l k)] := by
  rw [List.take_add_one, wat_get hk, List.map_append]; rfl

end Go.Proofs.Ytleoedjjepkhgaa
