import Derived.Test.YtleoedjjepkhgaaRset
/- The blocks that an arena lies in. -/
namespace Go.Proofs.Ytleoedjjepkhgaa
open Go.RowKit

theorem AM.lts {w : World} {p h c : Nat} {sv : Value} {cs : List Int} {S : St} (H : AM w p h c sv cs S) : ∀ k ∈ foot p h c sv, k < w.heap.size := by
  intro k hk
  unfold foot at hk
  simp only [List.mem_cons] at hk
  rcases hk with rfl | rfl | rfl | hk
  · exact lt_of_heap H.a
  · exact lt_of_heap H.hv
  · exact lt_of_heap H.cc
  · rw [Option.mem_toList] at hk
    exact (H.starts.lt k hk).2

theorem RM.lts {w : World} {q : Nat} {lv : Value} {fv : Nat → Value} {S : St} (H : RM w q lv fv S) : ∀ k ∈ rfoot q lv fv S.L.length, k < w.heap.size := by
  intro k hk
  unfold rfoot at hk
  simp only [List.mem_cons, List.mem_append, List.mem_flatMap, List.mem_range] at hk
  rcases hk with rfl | hk | ⟨j, hj, hk⟩
  · exact lt_of_heap H.a
  · rw [Option.mem_toList] at hk
    exact (H.row.lt k hk).2
  · rw [Option.mem_toList] at hk
    exact ((H.fvs j hj).lt k hk).2

theorem RM.chg {F : List Nat} {W w : World} {q : Nat} {lv : Value} {fv : Nat → Value} {S : St} (H : RM W q lv fv S) (hc : Chg F W w) (hF : ∀ k ∈ rfoot q lv fv S.L.length, k ∉ F) : RM w q lv fv S := by
  refine ⟨hc.get H.a (hF q (by simp [rfoot])), ownsRow_chg H.row hc (fun k hk => hF k (by simp [rfoot, hk])), fun k hk => ownsRow_chg (H.fvs k hk) hc (fun b hb => hF b ?_), H.dist, H.ok, H.blks⟩
  unfold rfoot
  simp only [List.mem_cons, List.mem_append, List.mem_flatMap, List.mem_range]
  exact .inr (.inr ⟨k, hk, by rw [hb]; simp⟩)

end Go.Proofs.Ytleoedjjepkhgaa
