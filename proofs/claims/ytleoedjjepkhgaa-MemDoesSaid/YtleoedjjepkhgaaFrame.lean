import Derived.Test.YtleoedjjepkhgaaDoReal
/- Several Mems and rows side by side: the frame. -/
namespace Go.Proofs.Ytleoedjjepkhgaa
open Go.RowKit

/-- what lies in its own blocks alone -/
structure Fr (I : MemI) : Prop where
  keep : ∀ {F G : List Nat} {w w' : World} {S : St} {k : Nat}, I w F S k → Chg G w w' → (∀ b ∈ F, b ∉ G) → I w' F S k
  lts : ∀ {F : List Nat} {w : World} {S : St} {k : Nat}, I w F S k → ∀ b ∈ F, b < w.heap.size

theorem fr_real (M p : Nat) : Fr (IR M p) := ⟨fun H hc hG => H.keep hc hG, fun H => H.lts⟩

structure MB where
  I : MemI
  F : List Nat
  S : St
  k : Nat

structure Row where
  v : Value
  e : TypeId
  size : Nat
  n : Nat
  xs : List Value

structure Many (W w : World) (ms : List MB) (rs : List Row) : Prop where
  chg : Chg [] W w
  mems : ∀ m ∈ ms, m.I w m.F m.S m.k ∧ (∀ b ∈ m.F, W.heap.size ≤ b) ∧ Fr m.I
  dis : ms.Pairwise fun x y => ∀ b ∈ x.F, b ∉ y.F
  rows : ∀ r ∈ rs, w.ownsRow W.heap.size r.e r.size r.v r.n r.xs ∧ ∀ m ∈ ms, ∀ b, r.v.ownBlock = some b → b ∉ m.F

section
variable {W w w' : World} {ms : List MB} {rs : List Row}

theorem Many.keep (H : Many W w ms rs) (hc : Chg [] w w') : Many W w' ms rs :=
  ⟨H.chg.trans hc, fun m hm => ⟨(H.mems m hm).2.2.keep (H.mems m hm).1 hc (by simp), (H.mems m hm).2⟩, H.dis, fun r hr => ⟨ownsRow_chg (H.rows r hr).1 hc (by simp), (H.rows r hr).2⟩⟩

/-- a Mem more -/
theorem Many.new (H : Many W w ms rs) (hc : Chg [] w w') {I : MemI} {F : List Nat} {S : St} {k : Nat} (hi : I w' F S k) (hF : ∀ b ∈ F, w.heap.size ≤ b) (hI : Fr I) : Many W w' (⟨I, F, S, k⟩ :: ms) rs := by
  have H' := H.keep hc
  have hlt : ∀ m ∈ ms, ∀ b ∈ m.F, b < w.heap.size := fun m hm => (H.mems m hm).2.2.lts (H.mems m hm).1
  refine ⟨H'.chg, ?_, ?_, ?_⟩
  · intro m hm
    rw [List.mem_cons] at hm
    rcases hm with rfl | hm
    · exact ⟨hi, fun b hb => Nat.le_trans H.chg.size (hF b hb), hI⟩
    · exact H'.mems m hm
  · rw [List.pairwise_cons]
    refine ⟨fun m hm b hb hb2 => ?_, H.dis⟩
    have := hF b hb
    have := hlt m hm b hb2
    omega
  · intro r hr
    refine ⟨(H'.rows r hr).1, fun m hm b hb hb2 => ?_⟩
    rw [List.mem_cons] at hm
    rcases hm with rfl | hm
    · have := hF b hb2
      have := ((H.rows r hr).1.lt b hb).2
      omega
    · exact (H'.rows r hr).2 m hm b hb hb2

/-- the first Mem has turned -/
theorem Many.turn {m : MB} (H : Many W w (m :: ms) rs) (hc : Chg m.F w w') {F' : List Nat} {S' : St} {k' : Nat} (hi : m.I w' F' S' k') (hF : ∀ b ∈ F', b ∈ m.F ∨ w.heap.size ≤ b) : Many W w' (⟨m.I, F', S', k'⟩ :: ms) rs := by
  obtain ⟨h1, h2, h3⟩ := H.mems m (by simp)
  have hd := (List.pairwise_cons.1 H.dis)
  have hlt : ∀ m ∈ ms, ∀ b ∈ m.F, b < w.heap.size := fun m hm => (H.mems m (by simp [hm])).2.2.lts (H.mems m (by simp [hm])).1
  refine ⟨H.chg.over hc h2, ?_, ?_, ?_⟩
  · intro x hx
    rw [List.mem_cons] at hx
    rcases hx with rfl | hx
    · refine ⟨hi, fun b hb => ?_, h3⟩
      rcases hF b hb with h | h
      · exact h2 b h
      · exact Nat.le_trans H.chg.size h
    · obtain ⟨g1, g2, g3⟩ := H.mems x (by simp [hx])
      exact ⟨g3.keep g1 hc (fun b hb hb2 => hd.1 x hx b hb2 hb), g2, g3⟩
  · rw [List.pairwise_cons]
    refine ⟨fun x hx b hb hb2 => ?_, hd.2⟩
    rcases hF b hb with h | h
    · exact hd.1 x hx b h hb2
    · have := hlt x hx b hb2; omega
  · intro r hr
    obtain ⟨g1, g2⟩ := H.rows r hr
    refine ⟨ownsRow_chg g1 hc (fun b hb => g2 m (by simp) b hb), fun x hx b hb hb2 => ?_⟩
    rw [List.mem_cons] at hx
    rcases hx with rfl | hx
    · rcases hF b hb2 with h | h
      · exact g2 m (by simp) b hb h
      · have := (g1.lt b hb).2; omega
    · exact g2 x (by simp [hx]) b hb hb2

/-- a row more -/
theorem Many.row (H : Many W w ms rs) (r : Row) (hr : w.ownsRow W.heap.size r.e r.size r.v r.n r.xs) (hs : ∀ m ∈ ms, ∀ b, r.v.ownBlock = some b → b ∉ m.F) : Many W w ms (r :: rs) :=
  ⟨H.chg, H.mems, H.dis, fun x hx => by
    rw [List.mem_cons] at hx
    rcases hx with rfl | hx
    · exact ⟨hr, hs⟩
    · exact H.rows x hx⟩

theorem Many.swap {x y : MB} (H : Many W w (x :: y :: ms) rs) : Many W w (y :: x :: ms) rs := by
  obtain ⟨h1, h2⟩ := List.pairwise_cons.1 H.dis
  obtain ⟨h3, h4⟩ := List.pairwise_cons.1 h2
  have hmem : ∀ m, m ∈ y :: x :: ms → m ∈ x :: y :: ms := by
    intro m hm
    simp only [List.mem_cons] at hm ⊢
    rcases hm with h | h | h
    · exact .inr (.inl h)
    · exact .inl h
    · exact .inr (.inr h)
  refine ⟨H.chg, fun m hm => H.mems m (hmem m hm), ?_, fun r hr => ⟨(H.rows r hr).1, fun m hm => (H.rows r hr).2 m (hmem m hm)⟩⟩
  rw [List.pairwise_cons, List.pairwise_cons]
  refine ⟨fun m hm b hb hb2 => ?_, fun m hm => h1 m (List.mem_cons_of_mem _ hm), h4⟩
  rw [List.mem_cons] at hm
  rcases hm with rfl | hm
  · exact h1 y (by simp) b hb2 hb
  · exact h3 m hm b hb hb2

theorem Many.swap2 {x y z : MB} (H : Many W w (x :: y :: z :: ms) rs) : Many W w (x :: z :: y :: ms) rs := by
  obtain ⟨h1, h2⟩ := List.pairwise_cons.1 H.dis
  obtain ⟨h3, h4⟩ := List.pairwise_cons.1 h2
  obtain ⟨h5, h6⟩ := List.pairwise_cons.1 h4
  have hmem : ∀ m, m ∈ x :: z :: y :: ms → m ∈ x :: y :: z :: ms := by
    intro m hm
    simp only [List.mem_cons] at hm ⊢
    rcases hm with h | h | h | h
    · exact .inl h
    · exact .inr (.inr (.inl h))
    · exact .inr (.inl h)
    · exact .inr (.inr (.inr h))
  refine ⟨H.chg, fun m hm => H.mems m (hmem m hm), ?_, fun r hr => ⟨(H.rows r hr).1, fun m hm => (H.rows r hr).2 m (hmem m hm)⟩⟩
  rw [List.pairwise_cons, List.pairwise_cons, List.pairwise_cons]
  refine ⟨fun m hm => ?_, fun m hm b hb hb2 => ?_, fun m hm => h3 m (List.mem_cons_of_mem _ hm), h6⟩
  · simp only [List.mem_cons] at hm
    rcases hm with rfl | rfl | hm
    · exact h1 _ (by simp)
    · exact h1 _ (by simp)
    · exact h1 m (by simp [hm])
  · rw [List.mem_cons] at hm
    rcases hm with rfl | hm
    · exact h3 z (by simp) b hb2 hb
    · exact h5 m hm b hb hb2

theorem many_rev3 {x y z : MB} (H : Many W w [x, y, z] rs) : Many W w [z, y, x] rs := H.swap2.swap.swap2

theorem Many.drop {x : MB} (H : Many W w (x :: ms) rs) : Many W w ms rs :=
  ⟨H.chg, fun m hm => H.mems m (by simp [hm]), (List.pairwise_cons.1 H.dis).2, fun r hr => ⟨(H.rows r hr).1, fun m hm => (H.rows r hr).2 m (by simp [hm])⟩⟩

theorem row_max {base : Nat} {e : TypeId} {size : Nat} {v : Value} {n : Nat} {xs : List Value} (H : w.ownsRow base e size v n xs) : n ≤ 9223372036854775807 := by
  rcases H.2 with ⟨_, h⟩ | ⟨b, cap, cur, _, _, _, hnc, hm, _⟩
  · omega
  · unfold maxLen at hm; omega

/-- a Mem of the program's, made -/
theorem mnew_ir (n : Nat) (h1 : 2 ≤ n) (h2 : n ≤ 32768) (H : Many W w ms rs) :
    Calls Try.prog 8 #[.int .i64 n] w fun e w' => ∃ M p F, e = .returned (.pointer (some ⟨M, 0, none⟩)) ∧ Many W w' (⟨IR M p, F, St.fresh n, 0⟩ :: ms) rs := by
  refine (mnew_in n h1 h2 w).mono ?_
  rintro e w' ⟨M, p, h, c, cs, rfl, hc, hm, ha, g1, g2, g3, g4⟩
  refine ⟨M, p, M :: foot p h c (.slice none 0 0), rfl, H.new hc ⟨h, c, _, cs, ha, hm, rfl⟩ (fun b hb => ?_) (fr_real M p)⟩
  simp [foot, Value.ownBlock] at hb
  rcases hb with rfl | rfl | rfl | rfl <;> assumption

def heldRow (ha : Option Addr) (hc : Nat) (T : Pl) : Row := ⟨.slice ha 8 hc, 49, 1, 8, words T.held⟩
def errsRow (ea : Option Addr) (ec : Nat) (es : List Int) (n : Nat) : Row := ⟨.slice ea n ec, 46, 1, n, ints es⟩

end

end Go.Proofs.Ytleoedjjepkhgaa
