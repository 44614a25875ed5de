import Derived.Test.YtleoedjjepkhgaaPlayV
/- What a law of steps is given; a cell of a row. -/
namespace Go.Proofs.Ytleoedjjepkhgaa
open Go.RowKit

theorem row_get {w : World} {base : Nat} {e : TypeId} {a : Option Addr} {n cap : Nat} {xs : List Value} (hr : w.ownsRow base e 1 (.slice a n cap) n xs) {k : Nat} {u : Value} (hk : xs[k]? = some u) : ∃ g, a = some ⟨g, 0, none⟩ ∧ w.cell? ⟨g, k, none⟩ = some u := by
  have hkl := (List.getElem?_eq_some_iff.1 hk).1
  rcases hr.2 with ⟨h1, h2⟩ | ⟨g, cap, cur, h1, _, h3, _, _, h4, h5⟩
  · have := hr.1
    simp only [Value.slice.injEq] at h1
    omega
  · simp only [Value.slice.injEq] at h1
    refine ⟨g, h1.1, cell_at h3 ?_⟩
    rw [← h5, List.getElem?_take] at hk
    split at hk
    · simpa using hk
    · cases hk

/-- what a law of steps is given -/
structure GivenS (W : World) (n : Int) (A : Option Addr) (l : List Stp) : Prop where
  lo : -9223372036854775808 ≤ n
  hi : n ≤ 9223372036854775807
  rd : RdS W A l
  ok : ∀ k, k < l.length → (stpAt l k).ok
  len : l.length ≤ 9223372036854775807

theorem add_block (a : Addr) (k : Nat) : (a.add k).block = a.block := by unfold Addr.add; split <;> rfl

theorem Chg.cellOut {W w : World} {F : List Nat} (h : Chg F W w) {a : Addr} (ha : a.block < W.heap.size) (hF : a.block ∉ F) : w.cell? a = W.cell? a := World.cell?_of_block (h.block _ ha hF)

theorem RdS.keep {W w w' : World} {F : List Nat} {A : Option Addr} {l : List Stp} (H : RdS W A l) (hc : Chg [] W w) (hF : ∀ b ∈ F, W.heap.size ≤ b) (hc' : Chg F w w') : RdS w' A l := by
  have hcc := hc.over hc' hF
  intro k hk
  obtain ⟨a, ha, hb, c0, c1, c2, c3⟩ := H k hk
  have e : ∀ x : Addr, x.block = a.block → w'.cell? x = W.cell? x := fun x hx => hcc.cellOut (by rw [hx]; exact hb) (by simp)
  refine ⟨a, ha, Nat.lt_of_lt_of_le hb hcc.size, ?_, ?_, ?_, ?_⟩
  · rw [e _ (add_block a (k * 4))]; exact c0
  · rw [e ⟨(a.add (k * 4)).block, (a.add (k * 4)).off + 1, none⟩ (add_block a (k * 4))]; exact c1
  · rw [e ⟨(a.add (k * 4)).block, (a.add (k * 4)).off + 2, none⟩ (add_block a (k * 4))]; exact c2
  · rw [e ⟨(a.add (k * 4)).block, (a.add (k * 4)).off + 3, none⟩ (add_block a (k * 4))]; exact c3

end Go.Proofs.Ytleoedjjepkhgaa
