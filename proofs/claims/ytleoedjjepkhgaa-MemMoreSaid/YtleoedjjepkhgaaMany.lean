import Derived.Test.YtleoedjjepkhgaaOwn
/- Several Mems and rows side by side. -/
namespace Go.Proofs.Ytleoedjjepkhgaa
open Go.RowKit

/-- what lies in its own blocks alone -/
structure Fr (I : MemI) : Prop where
  keep : ∀ {F G : List Nat} {w w' : World} {S : St} {k : Nat}, I w F S k → Chg G w w' → (∀ b ∈ F, b ∉ G) → I w' F S k
  lts : ∀ {F : List Nat} {w : World} {S : St} {k : Nat}, I w F S k → ∀ b ∈ F, b < w.heap.size

theorem fr_real (M p : Nat) : Fr (IR M p) := ⟨fun H hc hG => H.keep hc hG, fun H => H.lts⟩

structure MB where
  I : MemI
  F : List Nat
  S : St
  k : Nat

structure Row where
  v : Value
  e : TypeId
  size : Nat
  n : Nat
  xs : List Value

structure Many (W w : World) (ms : List MB) (rs : List Row) : Prop where
  chg : Chg [] W w
  mems : ∀ m ∈ ms, m.I w m.F m.S m.k ∧ (∀ b ∈ m.F, W.heap.size ≤ b) ∧ Fr m.I
  dis : ms.Pairwise fun x y => ∀ b ∈ x.F, b ∉ y.F
  rows : ∀ r ∈ rs, w.ownsRow W.heap.size r.e r.size r.v r.n r.xs ∧ ∀ m ∈ ms, ∀ b, r.v.ownBlock = some b → b ∉ m.F

section
variable {W w w' : World} {ms : List MB} {rs : List Row}

theorem Many.keep (H : Many W w ms rs) (hc : Chg [] w w') : Many W w' ms rs :=
  ⟨H.chg.trans hc, fun m hm => ⟨(H.mems m hm).2.2.keep (H.mems m hm).1 hc (by simp), (H.mems m hm).2⟩, H.dis, fun r hr => ⟨ownsRow_chg (H.rows r hr).1 hc (by simp), (H.rows r hr).2⟩⟩

/-- a Mem more -/
theorem Many.new (H : Many W w ms rs) (hc : Chg [] w w') {I : MemI} {F : List Nat} {S : St} {k : Nat} (hi : I w' F S k) (hF : ∀ b ∈ F, w.heap.size ≤ b) (hI : Fr I) : Many W w' (⟨I, F, S, k⟩ :: ms) rs := by
  have H' := H.keep hc
  have hlt : ∀ m ∈ ms, ∀ b ∈ m.F, b < w.heap.size := fun m hm => (H.mems m hm).2.2.lts (H.mems m hm).1
  refine ⟨H'.chg, ?_, ?_, ?_⟩
  · intro m hm
    rw [List.mem_cons] at hm
    rcases hm with rfl | hm
    · exact ⟨hi, fun b hb => Nat.le_trans H.chg.size (hF b hb), hI⟩
    · exact H'.mems m hm
  · rw [List.pairwise_cons]
    refine ⟨fun m hm b hb hb2 => ?_, H.dis⟩
    have := hF b hb
    have := hlt m hm b hb2
    omega
  · intro r hr
    refine ⟨(H'.rows r hr).1, fun m hm b hb hb2 => ?_⟩
    rw [List.mem_cons] at hm
    rcases hm with rfl | hm
    · have := hF b hb2
      have := ((H.rows r hr).1.lt b hb).2
      omega
    · exact (H'.rows r hr).2 m hm b hb hb2

/-- the first Mem has turned -/
theorem Many.turn {m : MB} (H : Many W w (m :: ms) rs) (hc : Chg m.F w w') {F' : List Nat} {S' : St} {k' : Nat} (hi : m.I w' F' S' k') (hF : ∀ b ∈ F', b ∈ m.F ∨ w.heap.size ≤ b) : Many W w' (⟨m.I, F', S', k'⟩ :: ms) rs := by
  obtain ⟨h1, h2, h3⟩ := H.mems m (by simp)
  have hd := (List.pairwise_cons.1 H.dis)
  have hlt : ∀ m ∈ ms, ∀ b ∈ m.F, b < w.heap.size := fun m hm => (H.mems m (by simp [hm])).2.2.lts (H.mems m (by simp [hm])).1
  refine ⟨H.chg.over hc h2, ?_, ?_, ?_⟩
  · intro x hx
    rw [List.mem_cons] at hx
    rcases hx with rfl | hx
    · refine ⟨hi, fun b hb => ?_, h3⟩
      rcases hF b hb with h | h
      · exact h2 b h
      · exact Nat.le_trans H.chg.size h
    · obtain ⟨g1, g2, g3⟩ := H.mems x (by simp [hx])
      exact ⟨g3.keep g1 hc (fun b hb hb2 => hd.1 x hx b hb2 hb), g2, g3⟩
  · rw [List.pairwise_cons]
    refine ⟨fun x hx b hb hb2 => ?_, hd.2⟩
    rcases hF b hb with h | h
    · exact hd.1 x hx b h hb2
    · have := hlt x hx b hb2; omega
  · intro r hr
    obtain ⟨g1, g2⟩ := H.rows r hr
    refine ⟨ownsRow_chg g1 hc (fun b hb => g2 m (by simp) b hb), fun x hx b hb hb2 => ?_⟩
    rw [List.mem_cons] at hx
    rcases hx with rfl | hx
    · rcases hF b hb2 with h | h
      · exact g2 m (by simp) b hb h
      · have := (g1.lt b hb).2; omega
    · exact g2 x (by simp [hx]) b hb hb2

/-- a row more -/
theorem Many.row (H : Many W w ms rs) (r : Row) (hr : w.ownsRow W.heap.size r.e r.size r.v r.n r.xs) (hs : ∀ m ∈ ms, ∀ b, r.v.ownBlock = some b → b ∉ m.F) : Many W w ms (r :: rs) :=
  ⟨H.chg, H.mems, H.dis, fun x hx => by
    rw [List.mem_cons] at hx
    rcases hx with rfl | hx
    · exact ⟨hr, hs⟩
    · exact H.rows x hx⟩

theorem Many.swap {x y : MB} (H : Many W w (x :: y :: ms) rs) : Many W w (y :: x :: ms) rs := by
  obtain ⟨h1, h2⟩ := List.pairwise_cons.1 H.dis
  obtain ⟨h3, h4⟩ := List.pairwise_cons.1 h2
  have hmem : ∀ m, m ∈ y :: x :: ms → m ∈ x :: y :: ms := by
    intro m hm
    simp only [List.mem_cons] at hm ⊢
    rcases hm with h | h | h
    · exact .inr (.inl h)
    · exact .inl h
    · exact .inr (.inr h)
  refine ⟨H.chg, fun m hm => H.mems m (hmem m hm), ?_, fun r hr => ⟨(H.rows r hr).1, fun m hm => (H.rows r hr).2 m (hmem m hm)⟩⟩
  rw [List.pairwise_cons, List.pairwise_cons]
  refine ⟨fun m hm b hb hb2 => ?_, fun m hm => h1 m (List.mem_cons_of_mem _ hm), h4⟩
  rw [List.mem_cons] at hm
  rcases hm with rfl | hm
  · exact h1 y (by simp) b hb2 hb
  · exact h3 m hm b hb hb2

theorem Many.swap2 {x y z : MB} (H : Many W w (x :: y :: z :: ms) rs) : Many W w (x :: z :: y :: ms) rs := by
  obtain ⟨h1, h2⟩ := List.pairwise_cons.1 H.dis
  obtain ⟨h3, h4⟩ := List.pairwise_cons.1 h2
  obtain ⟨h5, h6⟩ := List.pairwise_cons.1 h4
  have hmem : ∀ m, m ∈ x :: z :: y :: ms → m ∈ x :: y :: z :: ms := by
    intro m hm
    simp only [List.mem_cons] at hm ⊢
    rcases hm with h | h | h | h
    · exact .inl h
    · exact .inr (.inr (.inl h))
    · exact .inr (.inl h)
    · exact .inr (.inr (.inr h))
  refine ⟨H.chg, fun m hm => H.mems m (hmem m hm), ?_, fun r hr => ⟨(H.rows r hr).1, fun m hm => (H.rows r hr).2 m (hmem m hm)⟩⟩
  rw [List.pairwise_cons, List.pairwise_cons, List.pairwise_cons]
  refine ⟨fun m hm => ?_, fun m hm b hb hb2 => ?_, fun m hm => h3 m (List.mem_cons_of_mem _ hm), h6⟩
  · simp only [List.mem_cons] at hm
    rcases hm with rfl | rfl | hm
    · exact h1 _ (by simp)
    · exact h1 _ (by simp)
    · exact h1 m (by simp [hm])
  · rw [List.mem_cons] at hm
    rcases hm with rfl | hm
    · exact h3 z (by simp) b hb2 hb
    · exact h5 m hm b hb hb2

theorem many_rev3 {x y z : MB} (H : Many W w [x, y, z] rs) : Many W w [z, y, x] rs := H.swap2.swap.swap2

theorem Many.drop {x : MB} (H : Many W w (x :: ms) rs) : Many W w ms rs :=
  ⟨H.chg, fun m hm => H.mems m (by simp [hm]), (List.pairwise_cons.1 H.dis).2, fun r hr => ⟨(H.rows r hr).1, fun m hm => (H.rows r hr).2 m (by simp [hm])⟩⟩

theorem row_max {base : Nat} {e : TypeId} {size : Nat} {v : Value} {n : Nat} {xs : List Value} (H : w.ownsRow base e size v n xs) : n ≤ 9223372036854775807 := by
  rcases H.2 with ⟨_, h⟩ | ⟨b, cap, cur, _, _, _, hnc, hm, _⟩
  · omega
  · unfold maxLen at hm; omega

/-- a Mem of the program's, made -/
theorem mnew_ir (n : Nat) (h1 : 2 ≤ n) (h2 : n ≤ 32768) (H : Many W w ms rs) :
    Calls Try.prog 8 #[.int .i64 n] w fun e w' => ∃ M p F, e = .returned (.pointer (some ⟨M, 0, none⟩)) ∧ Many W w' (⟨IR M p, F, St.fresh n, 0⟩ :: ms) rs := by
  refine (mnew_in n h1 h2 w).mono ?_
  rintro e w' ⟨M, p, h, c, cs, rfl, hc, hm, ha, g1, g2, g3, g4⟩
  refine ⟨M, p, M :: foot p h c (.slice none 0 0), rfl, H.new hc ⟨h, c, _, cs, ha, hm, rfl⟩ (fun b hb => ?_) (fr_real M p)⟩
  simp [foot, Value.ownBlock] at hb
  rcases hb with rfl | rfl | rfl | rfl <;> assumption

def heldRow (ha : Option Addr) (hc : Nat) (T : Pl) : Row := ⟨.slice ha 8 hc, 49, 1, 8, words T.held⟩
def errsRow (ea : Option Addr) (ec : Nat) (es : List Int) (n : Nat) : Row := ⟨.slice ea n ec, 46, 1, n, ints es⟩
def ownRow (a : Option Addr) (c : Nat) (L : List Stp) : Row := ⟨.slice a L.length c, 25, 4, L.length, stpCs L⟩

/-- the first Mem is played -/
theorem play_many {M p : Nat} {F : List Nat} {n : Nat} (a : Option Addr) (c : Nat) (L : List Stp) (H : Many W w (⟨IR M p, F, St.fresh n, 0⟩ :: ms) rs) (hown : ownRow a c L ∈ rs) (hok : ∀ s ∈ L, s.ok) (hl : L.length ≤ 80) (forced : Bool) :
    Calls Try.prog 9 #[.agg #[.func (.func 28) #[.pointer (some ⟨M, 0, none⟩)] #[], .func (.func 33) #[.pointer (some ⟨M, 0, none⟩)] #[], .func (.func 27) #[.pointer (some ⟨p, 0, none⟩)] #[],
        .func (.func 34) #[.pointer (some ⟨p, 0, none⟩)] #[], .func (.func 26) #[.pointer (some ⟨p, 0, none⟩)] #[]], .slice a L.length c, .bool forced] w fun e w' =>
      ∃ ha hc ea ec F', e = .returned (.tuple #[.slice ha 8 hc, .slice ea L.length ec]) ∧
        Many W w' (⟨IR M p, F', (playP forced (startP n) L).1.st, (playP forced (startP n) L).1.count⟩ :: ms) (heldRow ha hc (playP forced (startP n) L).1 :: errsRow ea ec (errsP forced n L) L.length :: rs) ∧ Hld (playP forced (startP n) L).1 := by
  obtain ⟨h1, h2, h3⟩ := H.mems _ (List.mem_cons_self)
  obtain ⟨r1, r2⟩ := H.rows _ hown
  have hR : ∀ w', Chg F w w' → RdS w' a L := by
    intro w' hc
    have hrow := ownsRow_chg r1 hc (fun b hb => r2 _ List.mem_cons_self b hb)
    have hcc := H.chg.over hc h2
    exact OwnR.reads (W := W) ⟨hcc, hrow⟩ rfl
  refine (play_own h1 a c L hR hok hl forced).mono ?_
  rintro e w' ⟨ha, hc', ea, ec, F', rfl, hc, hi, hF, hh, hs, he, hld⟩
  have hlt : ∀ m ∈ ms, ∀ b ∈ m.F, b < w.heap.size := fun m hm => (H.mems m (by simp [hm])).2.2.lts (H.mems m (by simp [hm])).1
  have hT := H.turn hc hi hF
  have hew : ∀ b, (Value.slice ea L.length ec).ownBlock = some b → b ∉ F' := by
    intro b hb hm
    obtain ⟨h0, c0, sv, cs, ha0, hm0, rfl⟩ := hi
    have hge := (he.lt b hb).1
    have hFl := h3.lts h1
    rcases hF b hm with h | h
    · have := hFl b h; omega
    · rw [List.mem_cons] at hm
      rcases hm with rfl | hm
      · exact own_ne' he hm0 (by decide) hb
      · unfold foot at hm
        simp only [List.mem_cons, Option.mem_toList] at hm
        rcases hm with rfl | rfl | rfl | hm
        · exact own_ne' he ha0.a (by decide) hb
        · exact own_ne' he ha0.hv (by decide) hb
        · exact own_ne' he ha0.cc (by decide) hb
        · exact own_two ha0.starts he (by decide) hm hb
  refine ⟨ha, hc', ea, ec, F', rfl, Many.row (Many.row hT _ (own_low he H.chg.size) ?_) _ (own_low hh H.chg.size) ?_, hld⟩
  · intro m hm b hb
    rw [List.mem_cons] at hm
    rcases hm with rfl | hm
    · exact hew b hb
    · intro hb2
      have := (he.lt b hb).1
      have := hlt m hm b hb2
      omega
  · intro m hm b hb
    rw [List.mem_cons] at hm
    rcases hm with rfl | hm
    · exact hs b hb
    · intro hb2
      have := (hh.lt b hb).1
      have := hlt m hm b hb2
      omega

/-- what is seen of what the first Mem holds -/
theorem seen_many {M p : Nat} {F : List Nat} {T : Pl} {k : Nat} (ha : Option Addr) (hc : Nat) (H : Many W w (⟨IR M p, F, T.st, k⟩ :: ms) rs) (hrow : heldRow ha hc T ∈ rs) (hld : Hld T) :
    Calls Try.prog 13 #[.pointer (some ⟨p, 0, none⟩), .slice ha 8 hc] w fun e w' => ∃ va vc, e = .returned (.slice va (T.st.seen T.held).length vc) ∧ Chg [] w w' ∧ w'.ownsRow w.heap.size 2 1 (.slice va (T.st.seen T.held).length vc) (T.st.seen T.held).length (ints (T.st.seen T.held)) := by
  obtain ⟨⟨h, c, sv, cs, hA, hM, _⟩, h2, h3⟩ := H.mems _ (List.mem_cons_self)
  obtain ⟨r1, r2⟩ := H.rows _ hrow
  have r1' : w.ownsRow W.heap.size 49 1 (.slice ha 8 hc) 8 (words T.held) := r1
  refine (seen_am hA (.slice ha 8 hc) T.held (by rw [hld.len]; exact own_low r1' (Nat.zero_le _)) hld.wd (by rw [hld.len]; omega)).mono ?_
  rintro e w' ⟨v, rfl, hcc, ho⟩
  obtain ⟨va, vc, rfl⟩ := ownsRow_slice ho
  exact ⟨va, vc, rfl, hcc, ho⟩

theorem real_many {M p : Nat} {F : List Nat} {S : St} {k : Nat} (H : Many W w (⟨IR M p, F, S, k⟩ :: ms) rs) :
    Calls Try.prog 10 #[.pointer (some ⟨M, 0, none⟩)] w fun e w' =>
      e = .returned (.agg #[.func (.func 28) #[.pointer (some ⟨M, 0, none⟩)] #[], .func (.func 33) #[.pointer (some ⟨M, 0, none⟩)] #[], .func (.func 27) #[.pointer (some ⟨p, 0, none⟩)] #[],
        .func (.func 34) #[.pointer (some ⟨p, 0, none⟩)] #[], .func (.func 26) #[.pointer (some ⟨p, 0, none⟩)] #[]]) ∧ Many W w' (⟨IR M p, F, S, k⟩ :: ms) rs := by
  obtain ⟨⟨h, c, sv, cs, hA, hM, _⟩, h2, h3⟩ := H.mems _ (List.mem_cons_self)
  refine (real_am hM).mono ?_
  rintro e w' ⟨rfl, hc⟩
  exact ⟨rfl, H.keep hc⟩

theorem arena_many {M p : Nat} {F : List Nat} {S : St} {k : Nat} (H : Many W w (⟨IR M p, F, S, k⟩ :: ms) rs) :
    Calls Try.prog 14 #[.pointer (some ⟨M, 0, none⟩)] w fun e w' => e = .returned (.pointer (some ⟨p, 0, none⟩)) ∧ w' = w := by
  obtain ⟨⟨h, c, sv, cs, hA, hM, _⟩, h2, h3⟩ := H.mems _ (List.mem_cons_self)
  exact marena_am hM
end

end Go.Proofs.Ytleoedjjepkhgaa
