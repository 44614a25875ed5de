import Derived.Test.YtkjggomkkfknhaaLawA
/- An arena of the program's and one of the reference's, side by side. -/
namespace Go.Proofs.Ytkjggomkkfknhaa
open Go.RowKit

theorem AM.lts {w : World} {p h c : Nat} {sv : Value} {cs : List Int} {S : St} (H : AM w p h c sv cs S) : ∀ k ∈ foot p h c sv, k < w.heap.size := by
  intro k hk
  unfold foot at hk
  simp only [List.mem_cons] at hk
  rcases hk with rfl | rfl | rfl | hk
  · exact lt_of_heap H.a
  · exact lt_of_heap H.hv
  · exact lt_of_heap H.cc
  · rw [Option.mem_toList] at hk
    exact (H.starts.lt k hk).2

theorem RM.lts {w : World} {q : Nat} {lv : Value} {fv : Nat → Value} {S : St} (H : RM w q lv fv S) : ∀ k ∈ rfoot q lv fv S.L.length, k < w.heap.size := by
  intro k hk
  unfold rfoot at hk
  simp only [List.mem_cons, List.mem_append, List.mem_flatMap, List.mem_range] at hk
  rcases hk with rfl | hk | ⟨j, hj, hk⟩
  · exact lt_of_heap H.a
  · rw [Option.mem_toList] at hk
    exact (H.row.lt k hk).2
  · rw [Option.mem_toList] at hk
    exact ((H.fvs j hj).lt k hk).2

theorem RM.chg {F : List Nat} {W w : World} {q : Nat} {lv : Value} {fv : Nat → Value} {S : St} (H : RM W q lv fv S) (hc : Chg F W w) (hF : ∀ k ∈ rfoot q lv fv S.L.length, k ∉ F) : RM w q lv fv S := by
  refine ⟨hc.get H.a (hF q (by simp [rfoot])), ownsRow_chg H.row hc (fun k hk => hF k (by simp [rfoot, hk])), fun k hk => ownsRow_chg (H.fvs k hk) hc (fun b hb => hF b ?_), H.dist, H.ok, H.blks⟩
  unfold rfoot
  simp only [List.mem_cons, List.mem_append, List.mem_flatMap, List.mem_range]
  exact .inr (.inr ⟨k, hk, by rw [hb]; simp⟩)

/-- both arenas, in states A and B; all of theirs made since W; the blocks of G are none of theirs -/
structure TW (W w : World) (p q : Nat) (A B : St) (G : List Nat) : Prop where
  chg : Chg [] W w
  ex : ∃ h c sv cs lv fv, AM w p h c sv cs A ∧ RM w q lv fv B ∧ (∀ k ∈ foot p h c sv, k ∉ rfoot q lv fv B.L.length) ∧ (∀ k ∈ foot p h c sv, W.heap.size ≤ k) ∧ (∀ k ∈ rfoot q lv fv B.L.length, W.heap.size ≤ k) ∧
    ∀ k ∈ G, W.heap.size ≤ k ∧ k < w.heap.size ∧ k ∉ foot p h c sv ∧ k ∉ rfoot q lv fv B.L.length

/-- the blocks of G are as they were -/
def Same (G : List Nat) (w w' : World) : Prop := w.heap.size ≤ w'.heap.size ∧ ∀ k ∈ G, w'.heap[k]? = w.heap[k]?

theorem Same.row {G : List Nat} {w w' : World} (h : Same G w w') {base : Nat} {e : TypeId} {size : Nat} {v : Value} {n : Nat} {xs : List Value} (H : w.ownsRow base e size v n xs) (hG : ∀ k, v.ownBlock = some k → k ∈ G) : w'.ownsRow base e size v n xs := by
  rcases H.2 with h1 | ⟨g, cap, cur, rfl, h2, h3, h4⟩
  · exact ⟨H.1, .inl h1⟩
  · exact ⟨H.1, .inr ⟨g, cap, cur, rfl, h2, (h.2 g (hG g rfl)).trans h3, h4⟩⟩

section
variable {W w w' : World} {p q : Nat} {A B : St} {G G' F : List Nat}

theorem TW.grow (H : TW W w p q A B G) (hc : Chg F w w') (hF : ∀ k ∈ F, k ∈ G) (hG : ∀ k ∈ G', k < w'.heap.size ∧ (k ∈ G ∨ w.heap.size ≤ k)) : TW W w' p q A B G' := by
  obtain ⟨h, c, sv, cs, lv, fv, h1, h2, h3, h4, h5, h6⟩ := H.ex
  refine ⟨H.chg.over hc (fun k hk => (h6 k (hF k hk)).1), h, c, sv, cs, lv, fv, h1.chg hc (fun k hk hm => (h6 k (hF k hm)).2.2.1 hk), h2.chg hc (fun k hk hm => (h6 k (hF k hm)).2.2.2 hk), h3, h4, h5, ?_⟩
  intro k hk
  obtain ⟨g1, g2⟩ := hG k hk
  rcases g2 with g2 | g2
  · exact ⟨(h6 k g2).1, g1, (h6 k g2).2.2⟩
  · refine ⟨Nat.le_trans H.chg.size g2, g1, fun hm => ?_, fun hm => ?_⟩
    · have := h1.lts k hm; omega
    · have := h2.lts k hm; omega

theorem TW.keep (H : TW W w p q A B G) (hc : Chg [] w w') : TW W w' p q A B G := by
  obtain ⟨h, c, sv, cs, lv, fv, h1, h2, h3, h4, h5, h6⟩ := H.ex
  exact H.grow hc (by simp) (fun k hk => ⟨Nat.lt_of_lt_of_le (h6 k hk).2.1 hc.size, .inl hk⟩)

theorem tw_alloc (H : TW W w p q A B G) (t m : Int) (ht : -9223372036854775808 ≤ t ∧ t ≤ 9223372036854775807) :
    Calls Try.prog 31 #[.pointer (some ⟨p, 0, none⟩), .int .i64 t, .int .i64 m] w fun e w' => e = .returned (.tuple #[.int .u64 (layWord A t m), .int .i64 (allocErr A t m)]) ∧ TW W w' p q (A.lay t m) B G ∧ Same G w w' := by
  obtain ⟨h, c, sv, cs, lv, fv, h1, h2, h3, h4, h5, h6⟩ := H.ex
  refine (alloc_am h1 t m ht).mono ?_
  rintro e w' ⟨rfl, hc, sv', ds, hm, hs⟩
  have hf : ∀ k ∈ foot p h c sv', k ∈ foot p h c sv ∨ w.heap.size ≤ k := by
    intro k hk
    unfold foot at hk ⊢
    simp only [List.mem_cons, Option.mem_toList] at hk ⊢
    rcases hk with rfl | rfl | rfl | hk
    · exact .inl (.inl rfl)
    · exact .inl (.inr (.inl rfl))
    · exact .inl (.inr (.inr (.inl rfl)))
    · rcases hs with e | ⟨b, e, hb⟩
      · exact .inl (.inr (.inr (.inr (e ▸ hk))))
      · rw [e] at hk; cases hk; exact .inr hb
  refine ⟨rfl, ⟨H.chg.over hc h4, h, c, sv', ds, lv, fv, hm, h2.chg hc (fun k hk hm => h3 k hm hk), ?_, ?_, h5, ?_⟩, hc.size, fun k hk => hc.block k (h6 k hk).2.1 (h6 k hk).2.2.1⟩
  · intro k hk hr
    rcases hf k hk with h6 | h6
    · exact h3 k h6 hr
    · have := h2.lts k hr; omega
  · intro k hk
    rcases hf k hk with h6 | h6
    · exact h4 k h6
    · have := H.chg.size; omega
  · intro k hk
    obtain ⟨g1, g2, g3, g4⟩ := h6 k hk
    refine ⟨g1, Nat.lt_of_lt_of_le g2 hc.size, fun hm => ?_, g4⟩
    rcases hf k hm with h7 | h7
    · exact g3 h7
    · omega

theorem tw_ralloc (H : TW W w p q A B G) (t m : Int) :
    Calls Try.prog 32 #[.pointer (some ⟨q, 0, none⟩), .int .i64 t, .int .i64 m] w fun e w' => e = .returned (.tuple #[.int .u64 (layWord B t m), .int .i64 (allocErr B t m)]) ∧ TW W w' p q A (B.lay t m) G ∧ Same G w w' := by
  obtain ⟨h, c, sv, cs, lv, fv, h1, h2, h3, h4, h5, h6⟩ := H.ex
  refine (ralloc_am h2 t m).mono ?_
  rintro e w' ⟨rfl, hc, lv', fv', hm, hf⟩
  refine ⟨rfl, ⟨H.chg.over hc h5, h, c, sv, cs, lv', fv', h1.chg hc h3, hm, ?_, h4, ?_, ?_⟩, hc.size, fun k hk => hc.block k (h6 k hk).2.1 (h6 k hk).2.2.2⟩
  · intro k hk hr
    rcases hf k hr with h6 | h6
    · exact h3 k hk h6
    · have := h1.lts k hk; omega
  · intro k hk
    rcases hf k hk with h6 | h6
    · exact h5 k h6
    · have := H.chg.size; omega
  · intro k hk
    obtain ⟨g1, g2, g3, g4⟩ := h6 k hk
    refine ⟨g1, Nat.lt_of_lt_of_le g2 hc.size, g3, fun hm => ?_⟩
    rcases hf k hm with h7 | h7
    · exact g4 h7
    · omega

theorem tw_set (H : TW W w p q A B G) (x i v : Int) (h0 : 0 ≤ x) (h1 : x < 18446744073709551616) (hv : Wd v) :
    Calls Try.prog 34 #[.pointer (some ⟨p, 0, none⟩), .int .u64 x, .int .i64 i, .int .u64 v] w fun e w' => e = .returned (.int .i64 (A.set x i v).2) ∧ TW W w' p q (A.set x i v).1 B G ∧ Same G w w' := by
  obtain ⟨h, c, sv, cs, lv, fv, k1, k2, k3, k4, k5, k6⟩ := H.ex
  refine (set_am k1 x i v h0 h1 hv).mono ?_
  rintro e w' ⟨rfl, hc, ds, hm⟩
  have hcf : c ∈ foot p h c sv := by simp [foot]
  have hcn : ∀ k, k ∈ [c] → k = c := fun k hk => by simpa using hk
  refine ⟨rfl, ⟨H.chg.over hc (by intro b hb; exact k4 b (hcn b hb ▸ hcf)), h, c, sv, ds, lv, fv, hm, k2.chg hc ?_, k3, k4, k5, ?_⟩, hc.size, fun k hk => hc.block k (k6 k hk).2.1 (fun hm => (k6 k hk).2.2.1 (hcn k hm ▸ hcf))⟩
  · intro k hk hm
    exact k3 k (hcn k hm ▸ hcf) hk
  · intro k hk
    obtain ⟨g1, g2, g3⟩ := k6 k hk
    exact ⟨g1, Nat.lt_of_lt_of_le g2 hc.size, g3⟩

theorem tw_rset (H : TW W w p q A B G) (x i v : Int) (h0 : 0 ≤ x) (h1 : x < 18446744073709551616) (hv : Wd v) :
    Calls Try.prog 35 #[.pointer (some ⟨q, 0, none⟩), .int .u64 x, .int .i64 i, .int .u64 v] w fun e w' => e = .returned (.int .i64 (B.set x i v).2) ∧ TW W w' p q A (B.set x i v).1 G ∧ Same G w w' := by
  obtain ⟨h, c, sv, cs, lv, fv, k1, k2, k3, k4, k5, k6⟩ := H.ex
  refine (rset_am k2 x i v h0 h1 hv).mono ?_
  rintro e w' ⟨rfl, hc, lv', fv', hm, hf⟩
  refine ⟨rfl, ⟨H.chg.over hc k5, h, c, sv, cs, lv', fv', k1.chg hc k3, hm, ?_, k4, ?_, ?_⟩, hc.size, fun k hk => hc.block k (k6 k hk).2.1 (k6 k hk).2.2.2⟩
  · intro k hk hr
    rcases hf k hr with h6 | h6
    · exact k3 k hk h6
    · have := k1.lts k hk; omega
  · intro k hk
    rcases hf k hk with h6 | h6
    · exact k5 k h6
    · have := H.chg.size; omega
  · intro k hk
    obtain ⟨g1, g2, g3, g4⟩ := k6 k hk
    refine ⟨g1, Nat.lt_of_lt_of_le g2 hc.size, g3, fun hm => ?_⟩
    rcases hf k hm with h7 | h7
    · exact g4 h7
    · omega
end

end Go.Proofs.Ytkjggomkkfknhaa
