import Derived.Test.YtleoedjjepkhgaaPlace
/- What play holds, and what each thing it does leaves of it. -/
namespace Go.Proofs.Ytleoedjjepkhgaa
open Go.RowKit

def ints (l : List Int) : List Value := l.map (Value.int .i64)

/-- the play ahead of a step -/
def frc (forced : Bool) (T : Pl) : Pl := if forced then T.force else T

theorem frc_no (T : Pl) : frc false T = T := rfl
theorem frc_yes (T : Pl) : frc true T = T.force := rfl
theorem stepF_frc (forced : Bool) (T : Pl) (s : Stp) : stepF forced T s = stepP (frc forced T) s := rfl

/-- the blocks of G are as they were -/
def Kept (G : List Nat) (w w' : World) : Prop := w.heap.size ≤ w'.heap.size ∧ ∀ k ∈ G, w'.heap[k]? = w.heap[k]?

theorem Kept.row {G : List Nat} {w w' : World} (h : Kept G w w') {base : Nat} {e : TypeId} {size : Nat} {v : Value} {n : Nat} {xs : List Value} (H : w.ownsRow base e size v n xs) (hG : ∀ k, v.ownBlock = some k → k ∈ G) : w'.ownsRow base e size v n xs := by
  rcases H.2 with h1 | ⟨g, cap, cur, rfl, h2, h3, h4⟩
  · exact ⟨H.1, .inl h1⟩
  · exact ⟨H.1, .inr ⟨g, cap, cur, rfl, h2, (h.2 g (hG g rfl)).trans h3, h4⟩⟩

/-- a Mem in state S; the blocks of G are none of its own -/
structure PM (I : MemI) (W w : World) (F : List Nat) (S : St) (k : Nat) (G : List Nat) : Prop where
  chg : Chg F W w
  ex : ∃ F', I w F' S k ∧ (∀ b ∈ F', b ∈ F ∨ W.heap.size ≤ b) ∧ ∀ b ∈ G, b ∉ F' ∧ b < w.heap.size ∧ W.heap.size ≤ b

section
variable {I : MemI} {FA FF FG FS FZ : Nat} {pre post rF rG : Array Value} {W w w' : World} {F G G' : List Nat} {S : St} {k : Nat}

theorem PM.less (H : PM I W w F S k G) (h : ∀ b ∈ G', b ∈ G) : PM I W w F S k G' := by
  obtain ⟨F', h1, h2, h3⟩ := H.ex
  exact ⟨H.chg, F', h1, h2, fun b hb => h3 b (h b hb)⟩

/-- what is no block of the Mem's turns, or is made -/
theorem PM.grow (D : Doer I FA FF FG FS FZ pre post rF rG) (H : PM I W w F S k G) {E : List Nat} (hc : Chg E w w') (hE : ∀ b ∈ E, b ∈ G) (hG : ∀ b ∈ G', b < w'.heap.size ∧ (b ∈ G ∨ w.heap.size ≤ b)) : PM I W w' F S k G' := by
  obtain ⟨F', h1, h2, h3⟩ := H.ex
  refine ⟨Chg.over2 H.chg hc (fun b hb => .inr (h3 b (hE b hb)).2.2), F', D.keep h1 hc (fun b hb hm => (h3 b (hE b hm)).1 hb), h2, ?_⟩
  intro b hb
  obtain ⟨g1, g2⟩ := hG b hb
  rcases g2 with g2 | g2
  · exact ⟨(h3 b g2).1, g1, (h3 b g2).2.2⟩
  · refine ⟨fun hm => ?_, g1, Nat.le_trans H.chg.size g2⟩
    have := D.lts h1 b hm
    omega

theorem PM.keep (D : Doer I FA FF FG FS FZ pre post rF rG) (H : PM I W w F S k G) (hc : Chg [] w w') : PM I W w' F S k G := by
  obtain ⟨F', h1, h2, h3⟩ := H.ex
  exact H.grow D hc (by simp) (fun b hb => ⟨Nat.lt_of_lt_of_le (h3 b hb).2.1 hc.size, .inl hb⟩)

theorem PM.after {E F' : List Nat} (H : Chg F W w) (hE : ∀ b ∈ E, b ∈ F ∨ W.heap.size ≤ b) (h3 : ∀ b ∈ G, b ∉ E ∧ b < w.heap.size ∧ W.heap.size ≤ b) (hc : Chg E w w') {S' : St} {k' : Nat} (hi : I w' F' S' k') (hF : ∀ b ∈ F', b ∈ E ∨ w.heap.size ≤ b) :
    PM I W w' F S' k' G ∧ Kept G w w' := by
  refine ⟨⟨Chg.over2 H hc hE, F', hi, ?_, ?_⟩, hc.size, fun b hb => hc.block b (h3 b hb).2.1 (h3 b hb).1⟩
  · intro b hb
    rcases hF b hb with h | h
    · exact hE b h
    · exact .inr (Nat.le_trans H.size h)
  · intro b hb
    obtain ⟨g1, g2, g3⟩ := h3 b hb
    refine ⟨fun hm => ?_, Nat.lt_of_lt_of_le g2 hc.size, g3⟩
    rcases hF b hm with h | h
    · exact g1 h
    · omega
end

/-- what play holds: the Mem, what is held, what went wrong; boxes d and those of Z -/
structure PV (I : MemI) (W w : World) (F : List Nat) (T : Pl) (m : Nat) (es : List Int) (N d : Nat) (fv : Array Value) (hv ev : Value) (Z : List (Nat × Array Value)) : Prop where
  pm : PM I W w F T.st T.count (d :: (hv.ownBlock.toList ++ (ev.ownBlock.toList ++ Z.map (·.1))))
  dq : w.heap[d]? = some (.cells fv 38 (0, 0))
  zs : ∀ q ∈ Z, w.heap[q.1]? = some (.cells q.2 25 (0, 0))
  held : w.ownsRow W.heap.size 49 1 hv 8 (words T.held)
  errs : w.ownsRow W.heap.size 46 1 ev m (ints es)
  hld : Hld T
  cnt : T.count ≤ N

theorem info_errno : (Try.prog.info? 46).map (fun i => (i.zero, i.size, i.bytes)) = some (some (.int .i64 0), 1, 8) := by kernel_rfl

section
variable {I : MemI} {FA FF FG FS FZ : Nat} {pre post rF rG : Array Value} {W w w' : World} {F : List Nat} {T : Pl} {m N d : Nat} {es : List Int} {fv : Array Value} {hv ev : Value} {Z : List (Nat × Array Value)}

theorem PV.ok (D : Doer I FA FF FG FS FZ pre post rF rG) (H : PV I W w F T m es N d fv hv ev Z) : T.st.ok ∧ ∀ b ∈ T.st.L, b.ok := by
  obtain ⟨F', h1, _⟩ := H.pm.ex
  exact D.ok h1

theorem PV.keep (D : Doer I FA FF FG FS FZ pre post rF rG) (H : PV I W w F T m es N d fv hv ev Z) (hc : Chg [] w w') : PV I W w' F T m es N d fv hv ev Z :=
  ⟨H.pm.keep D hc, hc.get H.dq (by simp), fun q hq => hc.get (H.zs q hq) (by simp), ownsRow_chg H.held hc (by simp), ownsRow_chg H.errs hc (by simp), H.hld, H.cnt⟩

theorem PV.more {N' : Nat} (H : PV I W w F T m es N d fv hv ev Z) (h : N ≤ N') : PV I W w F T m es N' d fv hv ev Z :=
  ⟨H.pm, H.dq, H.zs, H.held, H.errs, H.hld, Nat.le_trans H.cnt h⟩

theorem PV.drop (H : PV I W w F T m es N d fv hv ev Z) : PV I W w F T m es N d fv hv ev [] :=
  ⟨H.pm.less (by intro b hb; simp at hb ⊢; rcases hb with h | h | h <;> simp [h]), H.dq, fun q hq => absurd hq (by simp), H.held, H.errs, H.hld, H.cnt⟩

theorem PV.box (D : Doer I FA FF FG FS FZ pre post rF rG) (H : PV I W w F T m es N d fv hv ev []) (a : Array Value) : PV I W (w.alloc (.cells a 25)) F T m es N d fv hv ev [(w.heap.size, a)] := by
  have hc : Chg [] w (w.alloc (.cells a 25)) := (Chg.refl [] w).alloc _
  have H' := H.keep D hc
  refine ⟨?_, H'.dq, fun q hq => ?_, H'.held, H'.errs, H'.hld, H'.cnt⟩
  · obtain ⟨F', h1, h2, h3⟩ := H.pm.ex
    refine H.pm.grow D hc (by simp) ?_
    intro b hb
    simp only [List.map_cons, List.map_nil, List.mem_cons, List.mem_append, List.not_mem_nil, or_false] at hb
    rw [size_alloc]
    by_cases e : b = w.heap.size
    · subst e; exact ⟨by omega, .inr (Nat.le_refl _)⟩
    · have hin : b ∈ d :: (hv.ownBlock.toList ++ (ev.ownBlock.toList ++ ([] : List (Nat × Array Value)).map (·.1))) := by
        simp only [List.map_nil, List.append_nil, List.mem_cons, List.mem_append]
        rcases hb with h | h | h | h
        · exact .inl h
        · exact .inr (.inl h)
        · exact .inr (.inr h)
        · exact absurd h e
      exact ⟨by have := (h3 b hin).2.1; omega, .inl hin⟩
  · simp only [List.mem_cons, List.not_mem_nil, or_false] at hq
    subst hq
    exact heap_alloc_new w _

/-- a place turns -/
theorem PV.hold (D : Doer I FA FF FG FS FZ pre post rF rG) {g hc : Nat} (H : PV I W w F T m es N d fv (.slice (some ⟨g, 0, none⟩) 8 hc) ev Z) {c : Nat} (hc8 : c < 8) {x : Int} (hx : Wd x) :
    PV I W (w.setCell ⟨g, c, none⟩ (.int .u64 x)) F ⟨T.st, T.held.set c x, T.count⟩ m es N d fv (.slice (some ⟨g, 0, none⟩) 8 hc) ev Z := by
  have hcg : Chg [g] w (w.setCell ⟨g, c, none⟩ (.int .u64 x)) := (Chg.refl [g] w).set _ (.inl (by simp))
  obtain ⟨cs, fz, hgq⟩ : ∃ cs fz, w.heap[g]? = some (.cells cs 49 fz) := by
    rcases H.held.2 with ⟨h, _⟩ | ⟨b, c, cur, h, hb, hh, _⟩
    · cases h
    · simp only [Value.slice.injEq, Option.some.injEq, Addr.mk.injEq, true_and, and_true] at h
      obtain ⟨rfl, _⟩ := h
      exact ⟨_, _, hh⟩
  have hne : ∀ {b : Nat} {o : Array Value} {t : TypeId} {fz' : Nat × Nat}, w.heap[b]? = some (.cells o t fz') → t ≠ 49 → b ≠ g := by
    intro b o t fz' hb ht e
    subst e
    rw [hgq] at hb
    simp only [Option.some.injEq, Obj.cells.injEq] at hb
    exact ht hb.2.1.symm
  refine ⟨?_, ?_, ?_, ?_, ?_, ⟨by simp [H.hld.len], set_wd H.hld.wd hx c⟩, H.cnt⟩
  · obtain ⟨F', h1, h2, h3⟩ := H.pm.ex
    refine H.pm.grow D hcg ?_ (fun b hb => ⟨by rw [size_set]; exact (h3 b hb).2.1, .inl hb⟩)
    intro b hb
    simp only [List.mem_cons, List.not_mem_nil, or_false] at hb
    subst hb
    simp [Value.ownBlock]
  · rw [heap_set_ne _ (hne H.dq (by decide))]; exact H.dq
  · intro q hq
    rw [heap_set_ne _ (hne (H.zs q hq) (by decide))]; exact H.zs q hq
  · have h1 := ownsRow_store H.held rfl (j := c) (by simp [words, H.hld.len, hc8]) (.int .u64 x)
    rw [words_set'] at h1
    exact h1
  · exact ownsRow_set H.errs (own_ne' H.errs hgq (by decide)) _

/-- what went wrong is noted -/
theorem PV.push (D : Doer I FA FF FG FS FZ pre post rF rG) {o : Obj} {ev' : Value} {e : Int} (H : PV I W w F T m es N d fv hv ev Z) (hg : (w.alloc o).grownBy w' ev.ownBlock)
    (hown : w'.ownsRow W.heap.size 46 1 ev' (m + 1) (ints es ++ [.int .i64 e])) (hloc : ev'.ownBlock = ev.ownBlock ∨ ev'.ownBlock = some (w.heap.size + 1)) : PV I W w' F T (m + 1) (es ++ [e]) N d fv hv ev' [] := by
  have hcg : Chg ev.ownBlock.toList w w' := ((Chg.refl ev.ownBlock.toList w).alloc o).grown hg (fun b hb => .inl (by rw [hb]; simp))
  have hne : ∀ {b : Nat} {o : Array Value} {t : TypeId} {fz' : Nat × Nat}, w.heap[b]? = some (.cells o t fz') → t ≠ 46 → b ∉ ev.ownBlock.toList := by
    intro b o t fz' hb ht hm
    rw [Option.mem_toList] at hm
    exact own_ne' H.errs hb (fun e => ht e.symm) hm
  refine ⟨?_, hcg.get H.dq (hne H.dq (by decide)), fun q hq => absurd hq (by simp), ?_, ?_, H.hld, H.cnt⟩
  · obtain ⟨F', h1, h2, h3⟩ := H.pm.ex
    refine H.pm.grow D hcg ?_ ?_
    · intro b hb
      simp only [List.mem_cons, List.mem_append]
      exact .inr (.inr (.inl hb))
    · intro b hb
      simp only [List.map_nil, List.append_nil, List.mem_cons, List.mem_append] at hb
      have hold : ∀ {b}, b ∈ d :: (hv.ownBlock.toList ++ (ev.ownBlock.toList ++ Z.map (·.1))) → b < w'.heap.size ∧ (b ∈ d :: (hv.ownBlock.toList ++ (ev.ownBlock.toList ++ Z.map (·.1))) ∨ w.heap.size ≤ b) :=
        fun {b} hb => ⟨Nat.lt_of_lt_of_le (h3 b hb).2.1 hcg.size, .inl hb⟩
      rcases hb with h | h | h
      · exact hold (by simp [h])
      · exact hold (by simp only [List.mem_cons, List.mem_append]; exact .inr (.inl h))
      · rw [Option.mem_toList] at h
        refine ⟨(hown.lt b h).2, ?_⟩
        rcases hloc with e | e
        · rw [e] at h
          exact .inl (by simp only [List.mem_cons, List.mem_append, Option.mem_toList]; exact .inr (.inr (.inl h)))
        · rw [e] at h; cases h; exact .inr (by omega)
  · refine ownsRow_chg H.held hcg ?_
    intro b hb hm
    rw [Option.mem_toList] at hm
    exact own_two H.held H.errs (by decide) hb hm
  · have h1 : ints (es ++ [e]) = ints es ++ [.int .i64 e] := by simp [ints]
    rw [h1]
    exact hown

/-! ### what the Mem does -/

/-- the Mem and what is held have turned; all else is as it was -/
theorem PV.turn {S' : St} {k' N' : Nat} {held' : List Int} {a : Option Addr} {c : Nat} {E F' : List Nat} (H : PV I W w F T m es N d fv hv ev Z)
    (hE : ∀ b ∈ E, b ∈ F ∨ W.heap.size ≤ b) (h3 : ∀ b ∈ d :: (hv.ownBlock.toList ++ (ev.ownBlock.toList ++ Z.map (·.1))), b ∉ E ∧ b < w.heap.size ∧ W.heap.size ≤ b) (hc : Chg E w w') (hi : I w' F' S' k') (hF : ∀ b ∈ F', b ∈ E ∨ w.heap.size ≤ b)
    (hn : k' ≤ N') (hrow : w'.ownsRow w.heap.size 49 1 (.slice a 8 c) 8 (words held')) (hsep : ∀ b, (Value.slice a 8 c).ownBlock = some b → b ∉ F') (hh : Hld ⟨S', held', k'⟩) :
    PV I W w' F ⟨S', held', k'⟩ m es N' d fv (.slice a 8 c) ev Z := by
  obtain ⟨hp, hk⟩ := PM.after H.pm.chg hE h3 hc hi hF
  refine ⟨?_, (hk.2 d (by simp)).trans H.dq, fun q hq => (hk.2 q.1 ?_).trans (H.zs q hq), own_low hrow H.pm.chg.size, hk.row H.errs ?_, hh, hn⟩
  · refine ⟨hp.chg, F', hi, ?_, ?_⟩
    · intro b hb
      rcases hF b hb with h | h
      · exact hE b h
      · exact .inr (Nat.le_trans H.pm.chg.size h)
    · intro b hb
      have hold : ∀ {b}, b ∈ d :: (hv.ownBlock.toList ++ (ev.ownBlock.toList ++ Z.map (·.1))) → b ∉ F' ∧ b < w'.heap.size ∧ W.heap.size ≤ b := by
        intro b hb
        obtain ⟨g1, g2, g3⟩ := h3 b hb
        refine ⟨fun hm => ?_, Nat.lt_of_lt_of_le g2 hc.size, g3⟩
        rcases hF b hm with h | h
        · exact g1 h
        · omega
      simp only [List.mem_cons, List.mem_append] at hb
      rcases hb with h | h | h | h
      · exact hold (by simp [h])
      · rw [Option.mem_toList] at h
        exact ⟨hsep b h, (hrow.lt b h).2, Nat.le_trans H.pm.chg.size (hrow.lt b h).1⟩
      · exact hold (by simp only [List.mem_cons, List.mem_append]; exact .inr (.inr (.inl h)))
      · exact hold (by simp only [List.mem_cons, List.mem_append]; exact .inr (.inr (.inr h)))
  · simp only [List.mem_cons, List.mem_append, List.mem_map]
    exact .inr (.inr (.inr ⟨q, hq, rfl⟩))
  · intro b hb
    simp only [List.mem_cons, List.mem_append, Option.mem_toList]
    exact .inr (.inr (.inl hb))

/-- the Mem alone has turned -/
theorem PV.stay (_D : Doer I FA FF FG FS FZ pre post rF rG) {S' : St} {k' N' : Nat} {E F' : List Nat} (H : PV I W w F T m es N d fv hv ev Z)
    (hE : ∀ b ∈ E, b ∈ F ∨ W.heap.size ≤ b) (h3 : ∀ b ∈ d :: (hv.ownBlock.toList ++ (ev.ownBlock.toList ++ Z.map (·.1))), b ∉ E ∧ b < w.heap.size ∧ W.heap.size ≤ b) (hc : Chg E w w') (hi : I w' F' S' k') (hF : ∀ b ∈ F', b ∈ E ∨ w.heap.size ≤ b)
    (hn : k' ≤ N') : PV I W w' F ⟨S', T.held, k'⟩ m es N' d fv hv ev Z := by
  obtain ⟨hp, hk⟩ := PM.after H.pm.chg hE h3 hc hi hF
  refine ⟨hp, (hk.2 d (by simp)).trans H.dq, fun q hq => (hk.2 q.1 ?_).trans (H.zs q hq), hk.row H.held ?_, hk.row H.errs ?_, ⟨H.hld.len, H.hld.wd⟩, hn⟩
  · simp only [List.mem_cons, List.mem_append, List.mem_map]
    exact .inr (.inr (.inr ⟨q, hq, rfl⟩))
  · intro b hb
    simp only [List.mem_cons, List.mem_append, Option.mem_toList]
    exact .inr (.inl hb)
  · intro b hb
    simp only [List.mem_cons, List.mem_append, Option.mem_toList]
    exact .inr (.inr (.inl hb))

theorem PV.slot {a : Option Addr} {c : Nat} (H : PV I W w F T m es N d fv (.slice a 8 c) ev Z) : ∃ g, a = some ⟨g, 0, none⟩ ∧ (∀ j, j < 8 → w.cell? ⟨g, j, none⟩ = some (.int .u64 (wat T.held j))) ∧ ∀ j, w.frozen? ⟨g, j, none⟩ = false := by
  obtain ⟨g, cap, h1, _, _, _, h2, h3⟩ := ownsRow_shape H.held (by omega)
  simp only [Value.slice.injEq] at h1
  exact ⟨g, h1.1, fun j hj => h2 j _ (words_get (by rw [H.hld.len]; exact hj)), h3⟩

/-- a collection -/
theorem pv_force (D : Doer I FA FF FG FS FZ pre post rF rG) {a : Option Addr} {c : Nat} (H : PV I W w F T m es N d fv (.slice a 8 c) ev Z) (hN : N < 1000) :
    Calls Try.prog FF (rF.push (.slice a 8 c)) w fun e w' => ∃ a' c', e = .returned (.slice a' 8 c') ∧ PV I W w' F T.force m es (N + 1) d fv (.slice a' 8 c') ev Z := by
  obtain ⟨F', h1, h2, h3⟩ := H.pm.ex
  have hl := H.hld.len
  have hfr := D.force a c T.held h1 (Nat.lt_of_le_of_lt H.cnt hN) (by rw [hl]; exact own_low H.held (Nat.zero_le _)) (by rw [hl]; omega) H.hld.wd (by
    rw [hl]
    intro b hb
    exact (h3 b (by simp only [List.mem_cons, List.mem_append, Option.mem_toList]; exact .inr (.inl hb))).1)
  rw [hl] at hfr
  refine hfr.mono ?_
  rintro e w' ⟨a', c', F'', rfl, hc, hi, hF, hrow, hsep⟩
  rw [hl] at hrow hsep
  refine ⟨a', c', by rw [hl], ?_⟩
  exact H.turn h2 h3 hc hi hF (by have := H.cnt; omega) hrow hsep (force_hld (D.ok h1).1 H.hld)

/-- a block is laid; what is held turns if it could be -/
theorem pv_alloc (D : Doer I FA FF FG FS FZ pre post rF rG) {a : Option Addr} {c : Nat} (H : PV I W w F T m es N d fv (.slice a 8 c) ev Z) (hN : N < 1000) (t s : Int) (ht : -9223372036854775808 ≤ t ∧ t ≤ 9223372036854775807) (hs : -9223372036854775808 ≤ s ∧ s ≤ 9223372036854775807) :
    Calls Try.prog FA (pre ++ (#[.int .i64 t, .int .i64 s, .slice a 8 c] ++ post)) w fun e w' => ∃ a' n' c', e = .returned (.tuple #[.int .u64 (memAlloc T.st t s T.held).word, .slice a' n' c', .int .i64 (memAlloc T.st t s T.held).err]) ∧
      ((memAlloc T.st t s T.held).err ≠ 0 → PV I W w' F T m es (N + 1) d fv (.slice a 8 c) ev Z) ∧
      (∀ l, (memAlloc T.st t s T.held).roots = some l → n' = 8 ∧ PV I W w' F ⟨(memAlloc T.st t s T.held).st, l, T.count + (memAlloc T.st t s T.held).more⟩ m es (N + 1) d fv (.slice a' 8 c') ev Z ∧ Wd (memAlloc T.st t s T.held).word) := by
  obtain ⟨F', h1, h2, h3⟩ := H.pm.ex
  have hl := H.hld.len
  have hmore : (memAlloc T.st t s T.held).more ≤ 1 := by
    unfold memAlloc
    split
    · exact Nat.zero_le _
    · split
      · exact Nat.zero_le _
      · split
        · exact Nat.zero_le _
        · exact Nat.le_refl _
  have hcnt := H.cnt
  have hfr := D.alloc t s a c T.held h1 (Nat.lt_of_le_of_lt H.cnt hN) ht hs (by rw [hl]; exact own_low H.held (Nat.zero_le _)) (by rw [hl]; omega) H.hld.wd (by
    rw [hl]
    intro b hb
    exact (h3 b (by simp only [List.mem_cons, List.mem_append, Option.mem_toList]; exact .inr (.inl hb))).1) (by obtain ⟨g, hg, _⟩ := H.slot; exact ⟨g, hg⟩)
  rw [hl] at hfr
  refine hfr.mono ?_
  rintro e w' ⟨a', n', c', F'', rfl, hc, hi, hF, hrow, hsep⟩
  refine ⟨a', n', c', rfl, ?_, ?_⟩
  · intro he
    have hr := (memAlloc_roots T.st t s T.held).2 he
    have hst : (memAlloc T.st t s T.held).st = T.st ∧ (memAlloc T.st t s T.held).more = 0 := by
      unfold memAlloc at hr ⊢
      by_cases h0 : allocErr T.st t s = 0
      · rw [if_pos h0] at hr; cases hr
      · rw [if_neg h0] at hr ⊢
        by_cases h1 : allocErr T.st t s ≠ 10
        · rw [if_pos h1]; exact ⟨rfl, rfl⟩
        · rw [if_neg h1] at hr ⊢
          by_cases h2 : (T.st.n : Int) < (T.st.cells T.held : Int) + s + 1
          · rw [if_pos h2]; exact ⟨rfl, rfl⟩
          · rw [if_neg h2] at hr; cases hr
    rw [hst.1, hst.2] at hi
    exact H.stay D h2 h3 hc hi hF (by omega)
  · intro l hlr
    obtain ⟨q1, q2, q3⟩ := alloc_hld (D.ok h1).1 H.hld t s hlr
    have hr := hrow l hlr
    have hn : n' = 8 := by
      obtain ⟨_, _, e⟩ := ownsRow_slice hr
      simp only [Value.slice.injEq] at e
      omega
    subst hn
    rw [q1] at hr
    exact ⟨rfl, H.turn h2 h3 hc hi hF (by omega) hr (fun b hb => (hsep b hb).1) ⟨q1, q2⟩, q3⟩

theorem pv_alloc_ok (D : Doer I FA FF FG FS FZ pre post rF rG) {a : Option Addr} {c : Nat} (H : PV I W w F T m es N d fv (.slice a 8 c) ev Z) (hN : N < 1000) (t s : Int) (ht : -9223372036854775808 ≤ t ∧ t ≤ 9223372036854775807) (hs : -9223372036854775808 ≤ s ∧ s ≤ 9223372036854775807)
    {l : List Int} (hl : (memAlloc T.st t s T.held).roots = some l) :
    Calls Try.prog FA (pre ++ (#[.int .i64 t, .int .i64 s, .slice a 8 c] ++ post)) w fun e w' => ∃ a' c', e = .returned (.tuple #[.int .u64 (memAlloc T.st t s T.held).word, .slice a' 8 c', .int .i64 0]) ∧
      PV I W w' F ⟨(memAlloc T.st t s T.held).st, l, T.count + (memAlloc T.st t s T.held).more⟩ m es (N + 1) d fv (.slice a' 8 c') ev Z ∧ Wd (memAlloc T.st t s T.held).word := by
  have he : (memAlloc T.st t s T.held).err = 0 := Decidable.byContradiction fun h => by have := (memAlloc_roots T.st t s T.held).2 h; rw [hl] at this; cases this
  refine (pv_alloc D H hN t s ht hs).mono ?_
  rintro e w' ⟨a', n', c', rfl, _, h2⟩
  obtain ⟨rfl, h3, h4⟩ := h2 l hl
  exact ⟨a', c', by rw [he], h3, h4⟩

theorem pv_alloc_no (D : Doer I FA FF FG FS FZ pre post rF rG) {a : Option Addr} {c : Nat} (H : PV I W w F T m es N d fv (.slice a 8 c) ev Z) (hN : N < 1000) (t s : Int) (ht : -9223372036854775808 ≤ t ∧ t ≤ 9223372036854775807) (hs : -9223372036854775808 ≤ s ∧ s ≤ 9223372036854775807)
    (he : (memAlloc T.st t s T.held).err ≠ 0) :
    Calls Try.prog FA (pre ++ (#[.int .i64 t, .int .i64 s, .slice a 8 c] ++ post)) w fun e w' => ∃ x a' n' c', e = .returned (.tuple #[.int .u64 x, .slice a' n' c', .int .i64 (memAlloc T.st t s T.held).err]) ∧
      PV I W w' F T m es (N + 1) d fv (.slice a 8 c) ev Z := by
  refine (pv_alloc D H hN t s ht hs).mono ?_
  rintro e w' ⟨a', n', c', rfl, h1, _⟩
  exact ⟨_, a', n', c', rfl, h1 he⟩

/-- a field turns -/
theorem pv_set (D : Doer I FA FF FG FS FZ pre post rF rG) (H : PV I W w F T m es N d fv hv ev Z) (x i v : Int) (hx : Wd x) (hv' : Wd v) :
    Calls Try.prog FS (rG ++ #[.int .u64 x, .int .i64 i, .int .u64 v]) w fun e w' => e = .returned (.int .i64 (T.st.set x i v).2) ∧ PV I W w' F ⟨(T.st.set x i v).1, T.held, T.count⟩ m es N d fv hv ev Z := by
  obtain ⟨F', h1, h2, h3⟩ := H.pm.ex
  refine (D.set x i v h1 hx hv').mono ?_
  rintro e w' ⟨F'', rfl, hc, hi, hF⟩
  exact ⟨rfl, H.stay D h2 h3 hc hi hF H.cnt⟩

theorem PV.wdAt (H : PV I W w F T m es N d fv hv ev Z) {j : Nat} (hj : j < 8) : Wd (wat T.held j) := H.hld.wd _ (wat_mem (by rw [H.hld.len]; exact hj))

theorem pv_get (D : Doer I FA FF FG FS FZ pre post rF rG) (H : PV I W w F T m es N d fv hv ev Z) (x i : Int) (hx : Wd x) :
    Calls Try.prog FG (rG ++ #[.int .u64 x, .int .i64 i]) w fun e w' => e = .returned (.tuple #[.int .u64 (T.st.get x i).1, .int .i64 (T.st.get x i).2]) ∧ ∃ n, w' = w.drewN n := by
  obtain ⟨F', h1, h2, h3⟩ := H.pm.ex
  exact D.get x i h1 hx

theorem pv_size (D : Doer I FA FF FG FS FZ pre post rF rG) (H : PV I W w F T m es N d fv hv ev Z) (x : Int) (hx : Wd x) :
    Calls Try.prog FZ (rG.push (.int .u64 x)) w fun e w' => e = .returned (.int .i64 (T.st.sizeOf x)) ∧ ∃ n, w' = w.drewN n := by
  obtain ⟨F', h1, h2, h3⟩ := H.pm.ex
  exact D.size x h1 hx
end

/-! ### what a step is, way by way -/

section
variable {T : Pl} {s : Stp}

theorem stepP_laid (k : s.kind = 0) {l : List Int} (hl : (memAlloc T.st s.a s.b T.held).roots = some l) :
    stepP T s = (⟨(memAlloc T.st s.a s.b T.held).st, l.set (placeOf s.c) (memAlloc T.st s.a s.b T.held).word, T.count + (memAlloc T.st s.a s.b T.held).more⟩, 0) := by
  have he : (memAlloc T.st s.a s.b T.held).err = 0 := Decidable.byContradiction fun h => by have := (memAlloc_roots T.st s.a s.b T.held).2 h; rw [hl] at this; cases this
  unfold stepP
  rw [if_pos k, hl]
  dsimp only
  rw [he]

theorem stepP_bad (k : s.kind = 0) (he : (memAlloc T.st s.a s.b T.held).err ≠ 0) : stepP T s = (T, (memAlloc T.st s.a s.b T.held).err) := by
  unfold stepP
  rw [if_pos k, (memAlloc_roots T.st s.a s.b T.held).2 he]

theorem stepP_void (k : s.kind = 1 ∨ s.kind = 2 ∨ s.kind = 5) (h : T.st.sizeOf (wat T.held (placeOf s.b)) ≤ 0) : stepP T s = (T, 0) := by
  unfold stepP
  rw [if_neg (by omega), if_pos k, if_pos h]

theorem stepP_got (k : s.kind = 5) (h : ¬ T.st.sizeOf (wat T.held (placeOf s.b)) ≤ 0) {j : Int} (hj : j = pickOf s.a (T.st.sizeOf (wat T.held (placeOf s.b)))) :
    stepP T s = (⟨T.st, T.held.set (placeOf s.c) (T.st.get (wat T.held (placeOf s.b)) j).1, T.count⟩, (T.st.get (wat T.held (placeOf s.b)) j).2) := by
  subst hj
  unfold stepP
  rw [if_neg (by omega), if_pos (by omega), if_neg h, if_pos k]

theorem stepP_put (k : s.kind = 1) (h : ¬ T.st.sizeOf (wat T.held (placeOf s.b)) ≤ 0) {j : Int} (hj : j = pickOf s.a (T.st.sizeOf (wat T.held (placeOf s.b)))) :
    stepP T s = (⟨(T.st.set (wat T.held (placeOf s.b)) j (wat T.held (placeOf s.c))).1, T.held, T.count⟩, (T.st.set (wat T.held (placeOf s.b)) j (wat T.held (placeOf s.c))).2) := by
  subst hj
  unfold stepP
  rw [if_neg (by omega), if_pos (by omega), if_neg h, if_neg (by omega), if_pos k]

theorem stepP_num (k : s.kind = 2) (h : ¬ T.st.sizeOf (wat T.held (placeOf s.b)) ≤ 0) {j : Int} (hj : j = pickOf s.a (T.st.sizeOf (wat T.held (placeOf s.b)))) :
    stepP T s = (⟨(T.st.set (wat T.held (placeOf s.b)) j (numWord s.a)).1, T.held, T.count⟩, (T.st.set (wat T.held (placeOf s.b)) j (numWord s.a)).2) := by
  subst hj
  unfold stepP
  rw [if_neg (by omega), if_pos (by omega), if_neg h, if_neg (by omega), if_neg (by omega)]

theorem stepP_force (k : s.kind = 3) : stepP T s = (T.force, 0) := by
  unfold stepP
  rw [if_neg (by omega), if_neg (by omega), if_pos k]

theorem stepP_free (k : s.kind = 4) : stepP T s = (⟨T.st, T.held.set (placeOf s.c) 1, T.count⟩, 0) := by
  unfold stepP
  rw [if_neg (by omega), if_neg (by omega), if_neg (by omega), if_pos k]

theorem stepP_none (k : s.kind ≠ 0 ∧ s.kind ≠ 1 ∧ s.kind ≠ 2 ∧ s.kind ≠ 3 ∧ s.kind ≠ 4 ∧ s.kind ≠ 5) : stepP T s = (T, 0) := by
  unfold stepP
  rw [if_neg (by omega), if_neg (by omega), if_neg (by omega), if_neg (by omega)]

theorem sizeOf_le {S : St} (hb : ∀ b ∈ S.L, b.ok) (x : Int) : S.sizeOf x ≤ 4096 ∧ -1 ≤ S.sizeOf x := by
  unfold St.sizeOf
  cases hf : S.find x with
  | none => dsimp only; omega
  | some p =>
    have hlt := find_lt hf
    have := (hb _ (List.mem_of_getElem? (blk_get hlt))).size
    dsimp only
    omega
end

end Go.Proofs.Ytleoedjjepkhgaa
