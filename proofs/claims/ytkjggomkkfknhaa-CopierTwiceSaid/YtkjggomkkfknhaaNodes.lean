import Derived.Test.YtkjggomkkfknhaaSee
import Derived.Test.YtkjggomkkfknhaaEnv
/- Nodes: plain facts, and how rows of them lie in memory. -/
namespace Go.Proofs.Ytkjggomkkfknhaa
open Go.RowKit

theorem info_node : (Try.prog.info? 88).map (fun i => (i.zero, i.size, i.bytes)) = some (some (.agg #[.int .i64 0, .int .i64 0, .int .u64 0]), 3, 24) := by kernel_rfl
theorem info_nodes : (Try.prog.info? 39).map (fun i => (i.zero, i.size, i.bytes)) = some (some (.slice none 0 0), 1, 24) := by kernel_rfl
theorem info_int' : (Try.prog.info? 3).map (fun i => (i.zero, i.size, i.bytes)) = some (some (.int .i64 0), 1, 8) := by kernel_rfl

def ndC (n : Nd) : List Value := [.int .i64 n.place, .int .i64 (n.dist : Int), .int .u64 n.w]
def ndCs (l : List Nd) : List Value := l.flatMap ndC

theorem ndCs_length (l : List Nd) : (ndCs l).length = l.length * 3 := by
  unfold ndCs
  induction l with
  | nil => rfl
  | cons a l ih => simp only [List.flatMap_cons, List.length_append, ih, ndC, List.length_cons, List.length_nil]; omega

theorem ndCs_push (l : List Nd) (n : Nd) : ndCs (l ++ [n]) = ndCs l ++ [.int .i64 n.place, .int .i64 (n.dist : Int), .int .u64 n.w] := by
  unfold ndCs; rw [List.flatMap_append]; simp [ndC]

theorem ndCs_get (l : List Nd) : ∀ {k j : Nat} {n : Nd}, l[k]? = some n → j < 3 → (ndCs l)[k * 3 + j]? = (ndC n)[j]? := by
  induction l with
  | nil => intro k j n h; simp at h
  | cons a l ih =>
    intro k j n h hj
    have e : ndCs (a :: l) = ndC a ++ ndCs l := rfl
    have hl : (ndC a).length = 3 := rfl
    rw [e]
    cases k with
    | zero =>
      simp only [List.getElem?_cons_zero, Option.some.injEq] at h
      subst h
      rw [List.getElem?_append_left (by omega)]
      congr 1; omega
    | succ k =>
      simp only [List.getElem?_cons_succ] at h
      rw [List.getElem?_append_right (by omega), ← ih h hj]
      congr 1
      omega

theorem row_node {w : World} {base : Nat} {a : Option Addr} {n cap : Nat} {l : List Nd} (hr : w.ownsRow base 88 3 (.slice a n cap) n (ndCs l)) {k : Nat} {nd : Nd} (hk : l[k]? = some nd) :
    ∃ g, a = some ⟨g, 0, none⟩ ∧ g < w.heap.size ∧ w.cell? ⟨g, k * 3, none⟩ = some (.int .i64 nd.place) ∧ w.cell? ⟨g, k * 3 + 1, none⟩ = some (.int .i64 (nd.dist : Int)) ∧ w.cell? ⟨g, k * 3 + 2, none⟩ = some (.int .u64 nd.w) := by
  have hkl := (List.getElem?_eq_some_iff.1 hk).1
  have hlen := hr.1
  rw [ndCs_length] at hlen
  rcases hr.2 with ⟨h1, h2⟩ | ⟨g, cap, cur, h1, _, h3, _, _, h4, h5⟩
  · simp only [Value.slice.injEq] at h1
    omega
  · simp only [Value.slice.injEq] at h1
    have hat : ∀ j, j < 3 → cur[k * 3 + j]? = (ndC nd)[j]? := by
      intro j hj
      have h6 := ndCs_get l hk hj
      rw [← h5, List.getElem?_take, if_pos (by omega)] at h6
      simpa using h6
    exact ⟨g, h1.1, lt_of_heap h3, cell_at h3 (hat 0 (by omega)), cell_at h3 (hat 1 (by omega)), cell_at h3 (hat 2 (by omega))⟩

/-! ### plain -/

theorem node_pre {S : St} {l G : List Nat} (hp : l <+: G) {x : Int} (hm : ∀ i d, S.find x = some (i, d) → i ∈ l) : node S l x = node S G x := by
  unfold node
  cases hx : S.find x with
  | none => rfl
  | some q =>
    obtain ⟨t, rfl⟩ := hp
    dsimp only
    rw [List.idxOf_append, if_pos (hm q.1 q.2 hx)]

theorem meet_has {S : St} {l : List Nat} {x : Int} : ∀ i d, S.find x = some (i, d) → i ∈ meet S l x := fun _ _ h => mem_meet_self h

theorem take_foldl_pre (S : St) (l : List Int) (k : Nat) (a : List Nat) : (l.take k).foldl (meet S) a <+: l.foldl (meet S) a := by
  conv => rhs; rw [← List.take_append_drop k l, List.foldl_append]
  exact prefix_meets S _ _

theorem take_foldl_succ (S : St) (l : List Int) {k : Nat} (hk : k < l.length) (a : List Nat) : (l.take (k + 1)).foldl (meet S) a = meet S ((l.take k).foldl (meet S) a) (wat l k) := by
  rw [List.take_add_one, wat_get hk, List.foldl_append]; rfl

theorem take_map_succ {α : Type} (f : Int → α) (l : List Int) {k : Nat} (hk : k < l.length) : (l.take (k + 1)).map f = (l.take k).map f ++ [f (wat l k)] := by
  rw [List.take_add_one, wat_get hk, List.map_append]; rfl

/-- rows of rows of nodes -/
structure FR (w : World) (B T : Nat) (v : Value) (rows : List (List Nd × Value)) : Prop where
  row : w.ownsRow B 39 1 v rows.length (rows.map (·.2))
  each : ∀ q ∈ rows, w.ownsRow B 88 3 q.2 q.1.length (ndCs q.1) ∧ ∀ b, q.2.ownBlock = some b → b < T

theorem FR.more {w : World} {B T T' : Nat} {v : Value} {rows : List (List Nd × Value)} (H : FR w B T v rows) (h : T ≤ T') : FR w B T' v rows :=
  ⟨H.row, fun q hq => ⟨(H.each q hq).1, fun b hb => Nat.lt_of_lt_of_le ((H.each q hq).2 b hb) h⟩⟩

theorem FR.top {w : World} {B T : Nat} {v : Value} {rows : List (List Nd × Value)} (H : FR w B T v rows) : FR w B w.heap.size v rows :=
  ⟨H.row, fun q hq => ⟨(H.each q hq).1, fun b hb => ((H.each q hq).1.lt b hb).2⟩⟩

theorem FR.keep {F : List Nat} {W w w' : World} {T : Nat} {v : Value} {rows : List (List Nd × Value)} (H : FR w W.heap.size T v rows) (hc : Chg F w w') (hF : ∀ k ∈ F, Apart W w [39, 88] k) : FR w' W.heap.size T v rows :=
  ⟨row_keep H.row (Nat.le_refl _) hc (fun k hk => (hF k hk).mono (by simp)), fun q hq => ⟨row_keep (H.each q hq).1 (Nat.le_refl _) hc (fun k hk => (hF k hk).mono (by simp)), (H.each q hq).2⟩⟩

/-- an append onto a row of nodes that is young -/
theorem FR.young {w w1 w' : World} {B T : Nat} {v lv : Value} {rows : List (List Nd × Value)} (H : FR w B T v rows) (hc : Chg [] w w1) (hg : w1.grownBy w' lv.ownBlock) {n : Nat} {xs : List Value} (hl : w.ownsRow T 88 3 lv n xs) : FR w' B T v rows := by
  have hch : Chg lv.ownBlock.toList w w' := (hc.mono (by simp)).grown hg (fun k hk => .inl (by rw [hk]; simp))
  refine ⟨ownsRow_chg H.row hch fun k hk hm => ?_, fun q hq => ⟨ownsRow_chg (H.each q hq).1 hch fun k hk hm => ?_, (H.each q hq).2⟩⟩
  · rw [Option.mem_toList] at hm
    rcases hl.2 with ⟨rfl, _⟩ | ⟨g, cap, cur, rfl, h1, h2, _⟩
    · simp [Value.ownBlock] at hm
    · have e1 : g = k := by simpa [Value.ownBlock] using hm
      subst e1
      exact own_ne' H.row h2 (by decide) hk
  · rw [Option.mem_toList] at hm
    have h1 := (H.each q hq).2 k hk
    have h2 := (hl.lt k hm).1
    omega

theorem FR.push {w w1 w' : World} {B T : Nat} {v v' lv : Value} {rows : List (List Nd × Value)} {l : List Nd} (H : FR w B T v rows) (hc : Chg [] w w1) (hl : w.ownsRow B 88 3 lv l.length (ndCs l))
    (hg : w1.grownBy w' v.ownBlock) (hown : w'.ownsRow B 39 1 v' (rows.length + 1) (rows.map (·.2) ++ [lv])) : FR w' B w'.heap.size v' (rows ++ [(l, lv)]) := by
  have hch : Chg v.ownBlock.toList w w' := (hc.mono (by simp)).grown hg (fun k hk => .inl (by rw [hk]; simp))
  have far : ∀ {x : Value} {n : Nat} {xs : List Value}, w.ownsRow B 88 3 x n xs → w'.ownsRow B 88 3 x n xs := by
    intro x n xs hx
    refine ownsRow_chg hx hch fun k hk hm => ?_
    rw [Option.mem_toList] at hm
    rcases H.row.2 with ⟨rfl, _⟩ | ⟨g, cap, cur, rfl, h1, h2, _⟩
    · simp [Value.ownBlock] at hm
    · have e1 : g = k := by simpa [Value.ownBlock] using hm
      subst e1
      exact own_ne' hx h2 (by decide) hk
  have he : ∀ q ∈ rows ++ [(l, lv)], w'.ownsRow B 88 3 q.2 q.1.length (ndCs q.1) := by
    intro q hq
    rw [List.mem_append, List.mem_singleton] at hq
    rcases hq with hq | rfl
    · exact far (H.each q hq).1
    · exact far hl
  refine ⟨by rw [List.length_append, List.map_append]; exact hown, fun q hq => ⟨he q hq, fun b hb => ((he q hq).lt b hb).2⟩⟩

theorem gs_apart {W w : World} {p : Nat} {S : St} {bA bM : Nat} {mv : Value} {out : List Nat} (H : GS W w p S bA bM mv out) {ts : List TypeId} (h1 : 52 ∉ ts) (h2 : 23 ∉ ts) : ∀ k ∈ bM :: mv.ownBlock.toList, Apart W w ts k := by
  intro k hk
  rw [List.mem_cons] at hk
  rcases hk with rfl | hk
  · exact .inr (.inr ⟨_, _, _, H.kM, h2⟩)
  · exact own_apart H.row h1 k hk

theorem GS.keep {F : List Nat} {W w w' : World} {p : Nat} {S : St} {bA bM : Nat} {mv : Value} {out : List Nat} (H : GS W w p S bA bM mv out) (hA : W.heap.size ≤ bA) (hc : Chg F w w') (hW : Chg [] W w') (hF : ∀ k ∈ F, Apart W w [25, 23, 52] k) : GS W w' p S bA bM mv out :=
  ⟨hW, cells_keep H.kA hA hc (fun k hk => (hF k hk).mono (by simp)), cells_keep H.kM H.fM hc (fun k hk => (hF k hk).mono (by simp)), row_keep H.row (Nat.le_refl _) hc (fun k hk => (hF k hk).mono (by simp)), H.good, H.fM⟩

end Go.Proofs.Ytkjggomkkfknhaa
